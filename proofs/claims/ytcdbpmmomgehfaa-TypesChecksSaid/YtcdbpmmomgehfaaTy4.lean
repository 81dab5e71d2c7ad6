/- The law's own makers: those, kind. Conditions: none. -/
import Derived.Test.YtcdbpmmomgehfaaTy2
import Derived.Test.YtcdbpmmomgehfaaVaM
set_option maxRecDepth 100000
set_option maxHeartbeats 4000000
set_option linter.all false
namespace Go.Proofs.Ytcdbpmmomgehfaa.Va
open Go.Proofs
def thoseS (ks : List Kd) (l : List Str) : List Str := l.filter (hasS ks)
theorem thoseS_take {ks : List Kd} {l : List Str} {i : Nat} (h : i < l.length) : thoseS ks (l.take (i + 1)) = thoseS ks (l.take i) ++ (if hasS ks l[i] = true then [l[i]] else []) := by
  simp only [thoseS]
  rw [List.take_add_one, List.filter_append, List.getElem?_eq_getElem h]
  simp only [Option.toList_some, List.filter_cons, List.filter_nil]
theorem thoseS_len (ks : List Kd) (l : List Str) : (thoseS ks l).length ≤ l.length := List.length_filter_le _ _
theorem those_own {s : Sc} {l : List Str} {σ : AState} (hs : s.ok) (hl : l.length ≤ 1000) : AC Try.prog 31 [.agg s.c, strs l] σ fun v s' => Keeps σ.n σ s' ∧ RowP (fun b => σ.n ≤ b) s' v ((thoseS s.kinds l).map .str) (thoseS s.kinds l).length 1 := by
  refine ac_wp fn31 cf31 cl31 rfl ?_
  simp only [ac31]
  unfold ab31
  have sg := scSeg s
  simp only [WU, seval, strs_eq, Sc.c_eq]
  generalize hm : σ.n = m at *
  refine w_for (fun i ρ s' => ρ.rd 6 = .int .i64 i ∧ ρ.rd 1 = strs l ∧ ρ.rd 2 = .ptr m 0 ∧ s'.cells m = some [slc Kd.c s.kinds, slc Ac.c s.acts] ∧ m < s'.n ∧ Keeps m σ s' ∧ RowP (fun b => m < b) s' (ρ.rd 5) ((thoseS s.kinds (l.take i)).map .str) (thoseS s.kinds (l.take i)).length 1) l.length ?_ ?_
  · simp only [WU, seval, strs_eq, List.take_zero]
    first | done | exact ⟨rfl, if_pos hm.symm, by omega, ((Keeps.refl' (Nat.le_of_eq hm.symm)).push _), RowP.nil _ _ _⟩ | exact ⟨if_pos hm.symm, by omega, ((Keeps.refl' (Nat.le_of_eq hm.symm)).push _), RowP.nil _ _ _⟩
  · rintro i ρ s' hi ⟨h6, h1, h2, c0, hn, hk, hrow⟩
    simp only [WU, seval, strs_eq, h6, h1]
    refine Br_dec (fun hlt' => ?_) (fun hge => ?_)
    rotate_left
    · have : i = l.length := by omega
      subst this
      rw [List.take_length] at hrow
      simp only [WU, seval, strs_eq, h6, h1]
      exact ⟨hk, hrow.mono fun b hb _ => by omega⟩
    have hlt : i < l.length := by omega
    have hr := lt_idx hlt
    have hg := strs_get hlt
    have hw : IntKind.i64.wrap ((i : Int) + 1) = ((i + 1 : Nat) : Int) := wrap_succ (by omega)
    rw [wpC_skip, wpCK_normal, wpC_seq, wpC_block, wpC_seq]
    refine w_mid (fun ρ s' => ρ.rd 6 = .int .i64 i ∧ ρ.rd 1 = strs l ∧ ρ.rd 2 = .ptr m 0 ∧ s'.cells m = some [slc Kd.c s.kinds, slc Ac.c s.acts] ∧ m < s'.n ∧ Keeps m σ s' ∧ RowP (fun b => m < b) s' (ρ.rd 5) ((thoseS s.kinds (l.take i)).map .str) (thoseS s.kinds (l.take i)).length 1 ∧ ρ.rd 8 = .bool (hasS s.kinds l[i])) ?_ ?_
    · generalize hx5 : ρ.rd 5 = x at *
      simp only [WU, seval, strs_eq, h6, h1]
      refine w_dreg follow [(9, [.str [], .nils, .nils])] rfl ?_
      have hnm : ¬ m = s'.n + 9 := by omega
      have cA : (addSlots s'.n 12 s' [(9, [.str [], .nils, .nils])]).cells m = some [slc Kd.c s.kinds, slc Ac.c s.acts] := by
        simp only [AState.cells, addSlots, List.foldr, Tr.get_set, hnm, if_false]
        exact c0
      have cB : (addSlots s'.n 12 s' [(9, [.str [], .nils, .nils])]).cells (s'.n + 9) = some [.str [], .nils, .nils] := by
        simp only [AState.cells, addSlots, List.foldr, Tr.get_set, if_true]
      have hcell : ∀ b, b < s'.n → (addSlots s'.n 12 s' [(9, [AV.str [], .nils, .nils])]).cells b = s'.cells b := fun b hb => (slots_keep (k := 12) (sl := [(9, [.str [], .nils, .nils])]) (Keeps.refl s')).cells hb
      have hkA := slots_keep (k := 12) (sl := [(9, [.str [], .nils, .nils])]) hk
      have hnA : s'.n + 9 < (addSlots s'.n 12 s' [(9, [AV.str [], .nils, .nils])]).n := by simp only [addSlots]; omega
      have hH := kindR_ac (s := s) (n := l[i]) (σ := addSlots s'.n 12 s' [(9, [.str [], .nils, .nils])]) hs
      obtain ⟨cs, hkv, a, b, c, rfl, ha, hb, hc⟩ := kindV_bool s.kinds l[i]
      rw [hkv, Sc.c_eq, slc_eq, slc_eq] at hH
      simp only [WU, seval, strs_eq, DU, h6, h1, h2, cA, sg, hr, hg]
      refine hH.useD ?_
      simp only [WU, seval, strs_eq, DU, cB, storeA, sets, setx, TS, ha, hb, hc]
      refine ⟨⟨?_, ?_⟩, ?_⟩
      · intro l hl c hc hf
        simp only [List.mem_cons, List.mem_nil_iff, List.not_mem_nil, or_false] at hl hc
        rcases hl with rfl | rfl <;> rcases hc with rfl | rfl | rfl <;> dsimp only at hf ⊢ <;> first
          | (exact absurd hf (by decide +kernel))
          | (simp only [WU, seval, strs_eq, h2, cA, sg, hg]; done)
      · intro sl hsl c hc hf
        simp only [List.mem_cons, List.mem_nil_iff, List.not_mem_nil, or_false] at hsl hc
        subst hsl
        rcases hc with rfl | rfl | rfl <;> dsimp only at hf <;> first
          | (exact absurd hf (by decide +kernel))
          | (refine ⟨?_, ?_⟩ <;> simp [addSlots])
      · generalize addSlots s'.n 12 s' [(9, [AV.str [], .nils, .nils])] = s1 at *
        simp only [WU, seval, strs_eq, h6, h1, h2, cA, hnm, hx5]
        exact ⟨by omega, hkA.put (by have := hk.1; omega) _, hrow.keep (by rw [put_n]; omega) fun b hb _ => by rw [put_get, if_neg (by omega)]; exact hcell b hb⟩
    clear h6 h1 h2 c0 hn hk hrow
    rintro ρ s' ⟨h6, h1, h2, c0, hn, hk, hrow, h8⟩
    have htk := thoseS_take (ks := s.kinds) hlt
    cases hh : hasS s.kinds l[i] with
    | false =>
      simp only [WU, seval, strs_eq, h8, hh, h6, h1, h2, c0, hw]
      rw [htk, hh]
      exact ⟨hlt, hn, hk, by simpa using hrow⟩
    | true =>
      generalize hx5 : ρ.rd 5 = x at *
      have hlen := thoseS_len s.kinds (l.take i)
      rw [List.length_take] at hlen
      obtain ⟨b9, cap9, s9, happ, hrow9, hn9, hk9⟩ := app_lit (bytes := 16) hrow (fun b hb => by omega) (new := [.str l[i]]) (k := 1) rfl rfl (by omega) (by omega)
      have hk9' : Keeps m σ s9 := ⟨by omega, fun b hb => (hk9 b (by omega) (by omega)).trans (hk.2 b hb)⟩
      have c9 := (get_cells (hk9 m (by omega) (by omega))).trans c0
      simp only [WU, seval, strs_eq, h8, hh, h6, h1, h2, c0, hx5, hr, hg, fillA, happ, hw, c9]
      rw [htk, hh]
      exact ⟨hlt, by omega, hk9', by simpa using hrow9⟩
theorem those_st0 {s : Sc} {l : List Str} (hs : s.ok) (hl : l.length ≤ 1000) : AC Try.prog 31 [.agg s.c, strs l] st0 fun v s' => ∃ a, Pur s' false v a ∧ a = strs (thoseS s.kinds l) :=
  (those_own hs hl).mono fun v s' h => ⟨_, h.2.pur false (by simp) (c' := (thoseS s.kinds l).map .str) fun i hi hi' => .flat _ (by rw [List.getElem_map]; rfl), rfl⟩
theorem those_ac {s : Sc} {l : List Str} {σ : AState} {x y : AV} (hs : s.ok) (hl : l.length ≤ 1000) (hx : Pur σ true x (.agg s.c)) (hy : Pur σ true y (strs l)) : AC Try.prog 31 [x, y] σ fun v s' => s' = σ ∧ v = strs (thoseS s.kinds l) :=
  AC.pure (.cons hx (.cons hy .nil)) (those_st0 hs hl)
theorem flat_row {α : Type} {f : α → List AV} {s : AState} {al : Bool} (hf : ∀ x, ∀ a ∈ f x, a.flat = true) {l : List α} (i : Nat) (hi hi' : i < (rowc f l).length) : Pur s al (rowc f l)[i] (rowc f l)[i] := by
  have hm := List.getElem_mem hi
  simp only [rowc, List.mem_flatten, List.mem_map] at hm
  obtain ⟨_, ⟨x, _, rfl⟩, h⟩ := hm
  exact .flat _ (hf x _ h)
theorem Fl.flat (f : Fl) : ∀ a ∈ f.c, a.flat = true := by
  intro a ha
  simp only [Fl.c_eq, List.mem_cons, List.not_mem_nil, or_false] at ha
  rcases ha with rfl | rfl | rfl | rfl <;> rfl
/- ------------------------------------------------ kind -/
def fixT (ks : List Kd) (n : Str) (t : Ty) : Ty := if t.name ≠ [] ∧ hasS ks t.name = false then { t with name := n } else t
def lastO (l : List Fl) : Option Str := l.getLast?.map Fl.name
def okLast (l : List Fl) (n : Str) : Bool := match l.getLast? with | none => true | some f => Op.bytesLess f.name n
def fldGo (ks : List Kd) (n : Str) : List Fl → List Fl → List Fl
  | out, [] => out
  | out, f :: r => if okLast out f.name = true then fldGo ks n (out ++ [⟨f.name, fixT ks n f.ty⟩]) r else fldGo ks n out r
def kindG (ks : List Kd) (k : Kd) : Kd := ⟨k.name, thoseS ks k.parents, fldGo ks k.name [] k.fields⟩
theorem kindG_st0 {s : Sc} {k : Kd} (hs : s.ok) (hk' : KdG k) : AC Try.prog 30 [.agg s.c, .agg k.c] st0 fun v s' => ∃ a, Pur s' false v a ∧ a = .agg (kindG s.kinds k).c := by
  refine ac_wp fn30 cf30 cl30 rfl ?_
  simp only [ac30]
  unfold ab30
  have sg := scSeg s
  simp only [wpC_seq, wpC_skip, wpCK_normal]
  refine w_mid (fun ρ s' => ρ.rd 2 = .ptr 0 0 ∧ ρ.rd 3 = .ptr 1 0 ∧ ρ.rd 4 = .ptr 2 0 ∧ s'.cells 0 = some [slc Kd.c s.kinds, slc Ac.c s.acts] ∧ s'.cells 1 = some [.str k.name, strs k.parents, slc Fl.c k.fields] ∧ s'.cells 2 = some [.str [], .nils, .nils] ∧ s'.n = 3) ?_ ?_
  · simp only [WU, seval, strs_eq, Sc.c_eq, Kd.c_eq]
  rintro ρ s' ⟨h2, h3, h4, c0, c1, c2, hn⟩
  simp only [wpC_seq, wpC_skip, wpCK_normal]
  refine w_mid (fun ρ s' => ρ.rd 2 = .ptr 0 0 ∧ ρ.rd 3 = .ptr 1 0 ∧ ρ.rd 4 = .ptr 2 0 ∧ s'.cells 0 = some [slc Kd.c s.kinds, slc Ac.c s.acts] ∧ s'.cells 2 = some [.str [], .nils, .nils] ∧ ∃ m x, 3 ≤ m ∧ m ≤ s'.n ∧ s'.cells 1 = some [.str k.name, x, slc Fl.c k.fields] ∧ RowP (fun b => 3 ≤ b ∧ b < m) s' x ((thoseS s.kinds k.parents).map .str) (thoseS s.kinds k.parents).length 1) ?_ ?_
  · simp only [WU, seval, strs_eq, h2, h3, h4, c0, c1, c2, sg]
    have hH := those_own (s := s) (l := k.parents) (σ := s') hs (by have := hk'.pl; omega)
    rw [Sc.c_eq, slc_eq, slc_eq, strs_eq] at hH
    refine hH.mono ?_
    rintro v s1 ⟨hk1, hrow⟩
    have d0 := (hk1.cells (b := 0) (by omega)).trans c0
    have d1 := (hk1.cells (b := 1) (by omega)).trans c1
    have d2 := (hk1.cells (b := 2) (by omega)).trans c2
    have hkn := hk1.1
    rcases hrow.form with rfl | ⟨b, cap, rfl⟩
    all_goals
      simp only [WU, seval, strs_eq, h2, h3, h4, d0, d1, d2, storeA, sets, setx, TS]
      exact ⟨s1.n, _, by omega, Nat.le_refl _, rfl, (hrow.mono fun b hb hb' => by omega).put (by omega) _⟩
  clear h2 h3 h4 c0 c1 c2 hn
  rintro ρ s' ⟨h2, h3, h4, c0, c2, m, x, hm3, hm, c1, hrow⟩
  simp only [wpC_seq, wpC_skip, wpCK_normal]
  refine w_mid (fun ρ s1 => s1 = s' ∧ ρ.rd 2 = .ptr 0 0 ∧ ρ.rd 3 = .ptr 1 0 ∧ ρ.rd 4 = .ptr 2 0 ∧ ρ.rd 5 = .nils) ?_ ?_
  · simp only [WU, seval, strs_eq, h2, h3, h4]
  clear h2 h3 h4
  rintro ρ s1 ⟨rfl, h2, h3, h4, h5⟩
  rw [wpC_seq]
  refine w_mid (fun ρ s' => ρ.rd 2 = .ptr 0 0 ∧ ρ.rd 3 = .ptr 1 0 ∧ ρ.rd 4 = .ptr 2 0 ∧ Keeps m s1 s' ∧ RowP (fun b => m ≤ b) s' (ρ.rd 5) (rowc Fl.c (fldGo s.kinds k.name [] k.fields)) (fldGo s.kinds k.name [] k.fields).length 4) ?_ ?_
  · simp only [WU, seval, strs_eq, h2, h3, h4, h5]
    refine w_for (fun i ρ s' => ρ.rd 6 = .int .i64 i ∧ ρ.rd 2 = .ptr 0 0 ∧ ρ.rd 3 = .ptr 1 0 ∧ ρ.rd 4 = .ptr 2 0 ∧ Keeps m s1 s' ∧ ∃ fs : List Fl, RowP (fun b => m ≤ b) s' (ρ.rd 5) (rowc Fl.c fs) fs.length 4 ∧ fs.length ≤ i ∧ fldGo s.kinds k.name [] k.fields = fldGo s.kinds k.name fs (k.fields.drop i)) k.fields.length ?_ ?_
    · simp only [WU, seval, strs_eq, h2, h3, h4, h5]
      first | done | exact ⟨rfl, Keeps.refl' hm, [], RowP.nil _ _ _, Nat.le_refl _, rfl⟩ | exact ⟨Keeps.refl' hm, [], RowP.nil _ _ _, Nat.le_refl _, rfl⟩
    clear h2 h3 h4 h5
    rintro i ρ s' hi ⟨h6, h2, h3, h4, hk, fs, hrow5, hfl, hspec⟩
    have d0 := (hk.cells (b := 0) (by omega)).trans c0
    have d1 := (hk.cells (b := 1) (by omega)).trans c1
    have hmn := hk.1
    simp only [WU, seval, strs_eq, h6, h3, d1]
    refine Br_dec (fun hlt' => ?_) (fun hge => ?_)
    rotate_left
    · have : i = k.fields.length := by omega
      subst this
      rw [List.drop_length] at hspec
      simp only [WU, seval, strs_eq, h2, h3, h4]
      rw [hspec]
      exact ⟨hk, hrow5⟩
    have hlt : i < k.fields.length := by omega
    have hr := lt_idx hlt
    have A := flAt hlt
    have h4l := hk'.fl
    have hw : IntKind.i64.wrap ((i : Int) + 1) = ((i + 1 : Nat) : Int) := wrap_succ (by omega)
    generalize hq : s'.n = q at *
    generalize hy : ρ.rd 5 = y at *
    rw [wpC_skip, wpCK_normal, wpC_seq, wpC_block, wpC_seq]
    refine w_mid (fun ρ s2 => ρ.rd 6 = .int .i64 i ∧ ρ.rd 2 = .ptr 0 0 ∧ ρ.rd 3 = .ptr 1 0 ∧ ρ.rd 4 = .ptr 2 0 ∧ ρ.rd 7 = .ptr q 0 ∧ ρ.rd 5 = y ∧ q < s2.n ∧ Keeps q s' s2 ∧ s2.cells q = some k.fields[i].c) ?_ ?_
    · simp only [WU, seval, strs_eq, h6, h2, h3, h4, hy, d1, hr, A.fit, A.all, hq, storeA, sets, setx, TS]
      exact ⟨by omega, ((Keeps.refl' (Nat.le_of_eq hq.symm)).push _).put (Nat.le_refl _) _, rfl⟩
    have d0' : ∀ s2, Keeps q s' s2 → s2.cells 0 = _ := fun s2 h => (h.cells (b := 0) (by omega)).trans d0
    have d1' : ∀ s2, Keeps q s' s2 → s2.cells 1 = _ := fun s2 h => (h.cells (b := 1) (by omega)).trans d1
    clear h6 h2 h3 h4
    rintro ρ s2 ⟨h6, h2, h3, h4, h7, h5, hn2, hk2, cq⟩
    simp only [Fl.c_eq] at cq
    rw [wpC_seq]
    refine w_mid (fun ρ s2 => ρ.rd 6 = .int .i64 i ∧ ρ.rd 2 = .ptr 0 0 ∧ ρ.rd 3 = .ptr 1 0 ∧ ρ.rd 4 = .ptr 2 0 ∧ ρ.rd 7 = .ptr q 0 ∧ ρ.rd 5 = y ∧ q < s2.n ∧ Keeps q s' s2 ∧ s2.cells q = some (Fl.c ⟨k.fields[i].name, fixT s.kinds k.name k.fields[i].ty⟩)) ?_ ?_
    · by_cases hnm : k.fields[i].ty.name = []
      · simp only [WU, seval, strs_eq, h6, h2, h3, h4, h7, h5, cq, hnm]
        refine ⟨hn2, hk2, ?_⟩
        simp [fixT, hnm, Fl.c_eq]
      · have e0 := d0' s2 hk2
        have hH := kindR_ac (s := s) (n := k.fields[i].ty.name) (σ := s2) hs
        obtain ⟨cs, hkv, a, b, c, rfl, ha, hb, hc⟩ := kindV_bool s.kinds k.fields[i].ty.name
        rw [hkv, Sc.c_eq, slc_eq, slc_eq] at hH
        simp only [WU, seval, strs_eq, h6, h2, h3, h4, h7, h5, cq, hnm, e0, sg]
        refine hH.use ?_
        have e1 := d1' s2 hk2
        have nq : ¬ q = s2.n := by omega
        have n1 : ¬ 1 = s2.n := by omega
        cases hh : hasS s.kinds k.fields[i].ty.name with
        | true =>
          simp only [WU, seval, strs_eq, h6, h2, h3, h4, h7, h5, cq, storeA, sets, setx, TS, ha, hb, hc, hh]
          refine ⟨by omega, (hk2.push _).put (by omega) _, ?_⟩
          rw [if_neg nq, if_neg nq]
          simp [fixT, hh, Fl.c_eq]
        | false =>
          simp only [WU, seval, strs_eq, h6, h2, h3, h4, h7, h5, cq, storeA, sets, setx, TS, ha, hb, hc, hh, e1, nq, n1]
          refine ⟨by omega, ((hk2.push _).put (by omega) _).put (Nat.le_refl _) _, ?_⟩
          simp [fixT, hnm, hh, Fl.c_eq]
    clear h6 h2 h3 h4 h7 h5 hn2 hk2 cq
    rintro ρ s2 ⟨h6, h2, h3, h4, h7, h5, hn2, hk2, cq⟩
    have hrow2 : RowP (fun b => m ≤ b ∧ b < q) s2 y (rowc Fl.c fs) fs.length 4 := (hrow5.mono fun b hb hb' => ⟨hb, by omega⟩).keep (by omega) fun b hb hb' => hk2.cells (by omega)
    have hkm : Keeps m s1 s2 := ⟨by omega, fun b hb => (hk2.2 b (by omega)).trans (hk.2 b hb)⟩
    have hfd : fldGo s.kinds k.name fs (k.fields.drop i) = if okLast fs k.fields[i].name = true then fldGo s.kinds k.name (fs ++ [⟨k.fields[i].name, fixT s.kinds k.name k.fields[i].ty⟩]) (k.fields.drop (i + 1)) else fldGo s.kinds k.name fs (k.fields.drop (i + 1)) := by
      rw [List.drop_eq_getElem_cons hlt, fldGo]
    generalize hff : (⟨k.fields[i].name, fixT s.kinds k.name k.fields[i].ty⟩ : Fl) = ff at *
    have hfn : ff.name = k.fields[i].name := by rw [← hff]
    rw [wpC_seq]
    refine w_mid (fun ρ s2 => ρ.rd 6 = .int .i64 i ∧ ρ.rd 2 = .ptr 0 0 ∧ ρ.rd 3 = .ptr 1 0 ∧ ρ.rd 4 = .ptr 2 0 ∧ ρ.rd 7 = .ptr q 0 ∧ ρ.rd 5 = y ∧ Keeps m s1 s2 ∧ q < s2.n ∧ s2.cells q = some ff.c ∧ RowP (fun b => m ≤ b ∧ b < q) s2 y (rowc Fl.c fs) fs.length 4 ∧ ρ.rd 59 = .bool (okLast fs k.fields[i].name)) ?_ ?_
    · simp only [WU, seval, strs_eq]
      refine w_dreg0 follow ?_ rfl
      have cA : (addSlots s2.n 15 s2 []).cells q = some ff.c := cq
      have hrowA := hrow2.slots 15
      have hnA : q < (addSlots s2.n 15 s2 []).n := by simp only [addSlots]; omega
      have hkA : Keeps m s1 (addSlots s2.n 15 s2 []) := slots_keep hkm
      generalize addSlots s2.n 15 s2 [] = s3 at *
      simp only [Fl.c_eq] at cA
      by_cases hf0 : fs.length = 0
      · have hfe : fs = [] := List.eq_nil_of_length_eq_zero hf0
        have hy0 : y = .nils ∨ ∃ b cap, y = .sl b 0 0 cap 4 := by
          rcases hrowA.form with h | ⟨b, cap, h⟩
          · exact .inl h
          · exact .inr ⟨b, cap, by rw [h, hf0]⟩
        have z0 : (0 : Int) = 0 := rfl
        rcases hy0 with rfl | ⟨b, cap, rfl⟩
        all_goals
          simp only [WU, seval, strs_eq, h6, h2, h3, h4, h7, h5, z0]
          refine ⟨hkA, hnA, by first | exact cA | rfl, hrowA, ?_⟩
          rw [hfe]; rfl
      · obtain ⟨j, hj⟩ : ∃ j, fs.length = j + 1 := ⟨fs.length - 1, by omega⟩
        have hjl : j < fs.length := by omega
        obtain ⟨b, cap, cs, hS⟩ := hrowA.some (by omega)
        have hyS := hS.eq
        have hcc := hS.cells
        have hf0' : ¬ (fs.length : Int) = 0 := by omega
        have hwj : IntKind.i64.wrap ((fs.length : Int) - 1) = (j : Nat) := by rw [wrap64 (by omega) (by omega)]; omega
        have hrj : (0 : Int) ≤ (j : Nat) ∧ ((j : Nat) : Int) < (fs.length : Nat) := by omega
        have hg : cs[j * 4]? = some (.str fs[j].name) := (hS.get (o := j * 4) (by omega)).trans (flAt hjl).g0
        have hok : okLast fs k.fields[i].name = Op.bytesLess fs[j].name ff.name := by
          have : fs.getLast? = some fs[j] := by rw [List.getLast?_eq_getElem?, hj]; simp [hjl]
          rw [okLast, this, hfn]
        subst hyS
        simp only [WU, seval, strs_eq, h6, h2, h3, h4, h7, h5, hf0', hwj, hrj, hcc, hg, cA]
        exact ⟨hkA, hnA, rfl, hrowA, by rw [hok]⟩
    clear h6 h2 h3 h4 h7 h5 hn2 hk2 cq hrow2 hkm
    rintro ρ s2 ⟨h6, h2, h3, h4, h7, h5, hkm, hn2, cq, hrow2, h59⟩
    cases hok : okLast fs k.fields[i].name with
    | false =>
      simp only [WU, seval, strs_eq, h6, h2, h3, h4, h7, h5, h59, hok, hw]
      refine ⟨hlt, hkm, fs, hrow2.mono fun b hb _ => hb.1, by omega, ?_⟩
      rw [hspec, hfd, hok]; rfl
    | true =>
      have sg4 : ∀ a b c d : AV, seg [a, b, c, d] 0 4 = [a, b, c, d] := fun _ _ _ _ => rfl
      obtain ⟨b9, cap9, s9, happ, hrow9, hn9, hk9⟩ := app_lit (bytes := 48) (hrow2.mono (q := fun b => m ≤ b) fun b hb _ => hb.1) (fun b hb => by omega) (new := ff.c) (k := 1) rfl rfl (by omega) (by omega)
      simp only [Fl.c_eq] at cq happ
      simp only [WU, seval, strs_eq, h6, h2, h3, h4, h7, h5, h59, hok, hw, cq, sg4, fillA, happ]
      refine ⟨hlt, ⟨by omega, fun b hb => (hk9 b (by omega) (by omega)).trans (hkm.2 b hb)⟩, fs ++ [ff], ?_, by simp; omega, ?_⟩
      · rw [rowc_append, rowc_one, List.length_append]
        exact hrow9
      · rw [hspec, hfd, hok]; rfl
  clear h2 h3 h4 h5
  generalize hfs : fldGo s.kinds k.name [] k.fields = fs at *
  rintro ρ s2 ⟨h2, h3, h4, hk, hrow5⟩
  generalize hy : ρ.rd 5 = y at *
  have d1 := (hk.cells (b := 1) (by omega)).trans c1
  have d2 := (hk.cells (b := 2) (by omega)).trans c2
  have sg3 : ∀ a b c : AV, seg [a, b, c] 0 3 = [a, b, c] := fun _ _ _ => rfl
  have hrow2 : RowP (fun b => 3 ≤ b ∧ b < m) s2 x ((thoseS s.kinds k.parents).map .str) (thoseS s.kinds k.parents).length 1 := hrow.keeps hk fun b hb => hb.2
  have hkc : (kindG s.kinds k).c = [.str k.name, strs (thoseS s.kinds k.parents), slc Fl.c fs] := by rw [← hfs]; rfl
  rw [hkc]
  rcases hrow5.form with rfl | ⟨b5, cap5, rfl⟩
  all_goals
    rcases hrow2.form with rfl | ⟨b2, cap2, rfl⟩
    all_goals
      simp only [WU, seval, strs_eq, h2, h3, h4, hy, d1, d2, sg3, storeA, sets, setx, TS]
      refine ⟨_, .agg _ [.str k.name, strs (thoseS s.kinds k.parents), slc Fl.c fs] rfl fun i hi hi' => ?_, rfl⟩
      match i, hi with
      | 0, _ => exact .flat _ rfl
      | 1, _ =>
        refine ((hrow2.put (b0 := 1) (by omega) _).put (b0 := 2) (by omega) _).pur false (c' := (thoseS s.kinds k.parents).map .str) rfl fun i hi hi' => ?_
        simp only [List.getElem_map]
        exact .flat _ rfl
      | 2, _ =>
        refine ((hrow5.put (b0 := 1) (by omega) _).put (b0 := 2) (by omega) _).pur false (by rfl) fun i hi hi' => ?_
        exact flat_row Fl.flat i hi hi'
theorem kindG_ac {s : Sc} {k : Kd} {σ : AState} {x y : AV} (hs : s.ok) (hk' : KdG k) (hx : Pur σ true x (.agg s.c)) (hy : Pur σ true y (.agg k.c)) : AC Try.prog 30 [x, y] σ fun v s' => s' = σ ∧ v = .agg (kindG s.kinds k).c :=
  AC.pure (.cons hx (.cons hy .nil)) (kindG_st0 hs hk')
end Go.Proofs.Ytcdbpmmomgehfaa.Va
set_option maxRecDepth 100000
set_option maxHeartbeats 4000000
set_option linter.all false
namespace Go.Proofs.Ytcdbpmmomgehfaa.Va
open Go.Proofs
theorem bl_asym : ∀ a b : Str, Op.bytesLess a b = true → (Op.bytesLess b a || b == a) = false := by
  intro a
  induction a with
  | nil =>
    intro b h
    cases b with
    | nil => simp [Op.bytesLess] at h
    | cons y b => simp [Op.bytesLess]
  | cons x a ih =>
    intro b h
    cases b with
    | nil => simp [Op.bytesLess] at h
    | cons y b =>
      simp only [Op.bytesLess, Bool.or_eq_true, decide_eq_true_eq, Bool.and_eq_true, beq_iff_eq] at h
      simp only [Op.bytesLess, Bool.or_eq_false_iff, decide_eq_false_iff_not, Bool.and_eq_false_iff, beq_eq_false_iff_ne, ne_eq, List.cons.injEq, not_and]
      rcases h with h | ⟨rfl, h⟩
      · have hxy : x.toNat < y.toNat := UInt8.lt_iff_toNat_lt.1 h
        refine ⟨⟨fun h' => ?_, .inl fun e => ?_⟩, fun e => ?_⟩
        · have := UInt8.lt_iff_toNat_lt.1 h'; omega
        · subst e; omega
        · subst e; omega
      · have h1 := ih b h
        simp only [Bool.or_eq_false_iff, beq_eq_false_iff_ne, ne_eq] at h1
        refine ⟨⟨fun h' => ?_, .inr h1.1⟩, fun _ => h1.2⟩
        have := UInt8.lt_iff_toNat_lt.1 h'; omega
theorem bl_nil (a : Str) (h : a ≠ []) : (Op.bytesLess a [] || a == []) = false := by
  cases a with
  | nil => exact absurd rfl h
  | cons x a => rfl
theorem ident_ne {n : Str} (h : identS n = true) : n ≠ [] := fun e => by subst e; exact absurd h (by decide)
/- fields -/
def lastF (last : Str) (out : List Fl) : Str := match out.getLast? with | none => last | some g => g.name
theorem fieldsS_snoc {ks : List Kd} {f : Fl} : ∀ (out : List Fl) (last : Str), fieldsS ks last out = 0 → fieldsS ks last (out ++ [f]) = fieldsS ks (lastF last out) [f] := by
  intro out
  induction out with
  | nil => intro last _; rfl
  | cons g out ih =>
    intro last h
    simp only [fieldsS, List.cons_append] at h ⊢
    split
    · rename_i h1; rw [if_pos h1] at h; omega
    · rename_i h1
      rw [if_neg h1] at h
      split
      · rename_i h2; rw [if_pos h2] at h; omega
      · rename_i h2
        rw [if_neg h2] at h
        split
        · rename_i h3; rw [if_pos h3] at h; exact absurd h h3
        · rename_i h3
          rw [if_neg h3] at h
          have e : lastF last (g :: out) = lastF g.name out := by
            simp only [lastF]
            cases out with
            | nil => rfl
            | cons a out => simp [List.getLast?_cons_cons]; cases h : (a :: out).getLast? <;> simp_all
          rw [e]
          exact ih g.name h
theorem fieldsS_one {ks : List Kd} {f : Fl} {last : Str} (h1 : identS f.name = true) (h2 : (Op.bytesLess f.name last || f.name == last) = false) (h3 : kindOfS ks f.ty = 0) : fieldsS ks last [f] = 0 := by
  simp [fieldsS, h1, h2, h3]
theorem okLast_cmp {out : List Fl} {n : Str} (h : okLast out n = true) (hn : n ≠ []) : (Op.bytesLess n (lastF [] out) || n == lastF [] out) = false := by
  unfold okLast at h
  unfold lastF
  cases e : out.getLast? with
  | none => exact bl_nil n hn
  | some g => rw [e] at h; exact bl_asym _ _ h
theorem fldGo_zero {ks : List Kd} {n : Str} : ∀ (r out : List Fl), fieldsS ks [] out = 0 → (∀ f ∈ r, identS f.name = true ∧ kindOfS ks (fixT ks n f.ty) = 0) → fieldsS ks [] (fldGo ks n out r) = 0 := by
  intro r
  induction r with
  | nil => intro out h _; exact h
  | cons f r ih =>
    intro out h hr
    obtain ⟨h1, h2⟩ := hr f (by simp)
    unfold fldGo
    split
    · rename_i hok
      refine ih _ ?_ fun g hg => hr g (by simp [hg])
      rw [fieldsS_snoc out [] h]
      exact fieldsS_one h1 (okLast_cmp hok (ident_ne h1)) h2
    · exact ih _ h fun g hg => hr g (by simp [hg])
theorem fldGo_all {ks : List Kd} {n : Str} {p : Fl → Prop} : ∀ (r out : List Fl), (∀ f ∈ out, p f) → (∀ f ∈ r, p ⟨f.name, fixT ks n f.ty⟩) → ∀ f ∈ fldGo ks n out r, p f := by
  intro r
  induction r with
  | nil => intro out h _; exact h
  | cons f r ih =>
    intro out h hr
    unfold fldGo
    split
    · refine ih _ (fun g hg => ?_) fun g hg => hr g (by simp [hg])
      rcases List.mem_append.1 hg with hg | hg
      · exact h g hg
      · rw [List.mem_singleton.1 hg]; exact hr f (by simp)
    · exact ih _ h fun g hg => hr g (by simp [hg])
theorem fldGo_len {ks : List Kd} {n : Str} : ∀ (r out : List Fl), (fldGo ks n out r).length ≤ out.length + r.length := by
  intro r
  induction r with
  | nil => intro out; simp [fldGo]
  | cons f r ih =>
    intro out
    unfold fldGo
    split
    · have := ih (out ++ [⟨f.name, fixT ks n f.ty⟩]); simp at this ⊢; omega
    · have := ih out; simp; omega
theorem fixT_good {ks : List Kd} {n : Str} {t : Ty} (ht : TyG t) (hn : hasS ks n = true) (hne : n ≠ []) : TyG (fixT ks n t) ∧ kindOfS ks (fixT ks n t) = 0 := by
  have key : ∀ u : Ty, TyG u → (u.name ≠ [] → hasS ks u.name = true) → kindOfS ks u = 0 := by
    intro u hu hh
    have h1 := hu.k
    unfold kindOfS
    rw [if_neg (by omega), if_neg (by have := hu.o; omega), if_neg (by have := hu.o0; omega)]
    by_cases hnm : u.kind = 4 ∨ u.of_ = 4
    · have hnm' : u.kind = 4 ∨ u.kind = 5 ∧ u.of_ = 4 := by have := hu.o0; omega
      have := hh (hu.n hnm)
      simp only [hnm', not_true, false_and, if_false, this, true_and, Bool.true_eq_false]
    · have hnm' : ¬ (u.kind = 4 ∨ u.kind = 5 ∧ u.of_ = 4) := by omega
      simp only [hnm', hu.n0 hnm, not_false_eq_true, true_and, ne_eq, not_true, if_false, false_and]
  unfold fixT
  split
  · rename_i h
    have hu : TyG { t with name := n } := ⟨ht.k, ht.o, ht.o0, fun _ => hne, fun h' => absurd (ht.n0 h') h.1⟩
    exact ⟨hu, key _ hu fun _ => hn⟩
  · rename_i h
    refine ⟨ht, key _ ht fun h' => ?_⟩
    cases e : hasS ks t.name with
    | true => rfl
    | false => exact absurd ⟨h', e⟩ h
theorem kindG_good {ks : List Kd} {k : Kd} (hk : KdG k) (hn : hasS ks k.name = true) (hne : k.name ≠ []) : KdG (kindG ks k) ∧ fieldsS ks [] (kindG ks k).fields = 0 ∧ (kindG ks k).parents.all (hasS ks) = true := by
  refine ⟨⟨hk.nl, Nat.le_trans (thoseS_len _ _) hk.pl, ?_, ?_⟩, ?_, ?_⟩
  · have := fldGo_len (ks := ks) (n := k.name) k.fields []
    simp only [List.length_nil, Nat.zero_add] at this
    exact Nat.le_trans this hk.fl
  · exact fldGo_all _ _ (fun f hf => (by cases hf)) fun f hf => ⟨(hk.f f hf).nm, (hk.f f hf).nl, (fixT_good (hk.f f hf).ty hn hne).1⟩
  · exact fldGo_zero _ _ rfl fun f hf => ⟨(hk.f f hf).nm, (fixT_good (hk.f f hf).ty hn hne).2⟩
  · simp [kindG, thoseS]
theorem kindG_congr {ks ks' : List Kd} {k : Kd} (h : hasS ks = hasS ks') : kindG ks k = kindG ks' k := by
  have h1 : ∀ n t, fixT ks n t = fixT ks' n t := fun n t => by unfold fixT; rw [h]
  have h2 : ∀ (r out : List Fl) n, fldGo ks n out r = fldGo ks' n out r := by
    intro r
    induction r with
    | nil => intro out n; rfl
    | cons f r ih => intro out n; unfold fldGo; rw [h1, ih, ih]
  unfold kindG thoseS
  rw [h, h2]
theorem hasS_names {ks ks' : List Kd} (h : ks.map Kd.name = ks'.map Kd.name) : hasS ks = hasS ks' := by
  funext n
  have : ∀ ks : List Kd, hasS ks n = (ks.map Kd.name).any fun x => decide (x = n) := fun ks => by unfold hasS; rw [List.any_map]; rfl
  rw [this, this, h]
/- kinds -/
def kN (n : Nat) : Str := if n = 0 then [68, 111, 99] else if n = 1 then [71, 114, 111, 117, 112] else if n = 2 then [84, 101, 97, 109] else [85, 115, 101, 114]
def aN (n : Nat) : Str := if n = 0 then [111, 119, 110] else if n = 1 then [114, 101, 97, 100] else [119, 114, 105, 116, 101]
theorem kN_lt {i j : Nat} (h : i < j) (hj : j < 4) : Op.bytesLess (kN i) (kN j) = true := by
  have : ∀ j, j < 4 → ∀ i, i < j → Op.bytesLess (kN i) (kN j) = true := by decide
  exact this j hj i h
theorem kN_ok (n : Nat) : identS (kN n) = true ∧ resS (kN n) = false ∧ kN n ≠ [] := by
  unfold kN; repeat' (first | decide | split)
theorem aN_ok (n : Nat) : identS (aN n) = true ∧ aN n ≠ [] := by
  unfold aN; repeat' (first | decide | split)
theorem aN_lt {i j : Nat} (h : i < j) (hj : j < 3) : Op.bytesLess (aN i) (aN j) = true := by
  have : ∀ j, j < 3 → ∀ i, i < j → Op.bytesLess (aN i) (aN j) = true := by decide
  exact this j hj i h
structure KsG (n : Nat) (K : List Kd) : Prop where
  nm : ∀ k ∈ K, ∃ j, j < n ∧ k.name = kN j
  asc : K.Pairwise fun a b => Op.bytesLess a.name b.name = true
  good : ∀ k ∈ K, KdG k
  len : K.length ≤ n
theorem KsG.nil (n : Nat) : KsG n [] := ⟨fun k h => (by cases h), .nil, fun k h => (by cases h), Nat.zero_le _⟩
theorem KsG.snoc {n : Nat} {K : List Kd} (h : KsG n K) (hn : n < 4) {k : Kd} (hk : k.name = kN n) (hg : KdG k) : KsG (n + 1) (K ++ [k]) := by
  refine ⟨fun a ha => ?_, List.pairwise_append.2 ⟨h.asc, by simp, fun a ha b hb => ?_⟩, fun a ha => ?_, by simp [h.len]⟩
  · rcases List.mem_append.1 ha with ha | ha
    · obtain ⟨j, hj, e⟩ := h.nm a ha; exact ⟨j, by omega, e⟩
    · rw [List.mem_singleton.1 ha]; exact ⟨n, by omega, hk⟩
  · rw [List.mem_singleton.1 hb]
    obtain ⟨j, hj, e⟩ := h.nm a ha
    rw [e, hk]; exact kN_lt hj hn
  · rcases List.mem_append.1 ha with ha | ha
    · exact h.good a ha
    · rw [List.mem_singleton.1 ha]; exact hg
theorem KsG.mono {n : Nat} {K : List Kd} (h : KsG n K) : KsG (n + 1) K :=
  ⟨fun a ha => by obtain ⟨j, hj, e⟩ := h.nm a ha; exact ⟨j, by omega, e⟩, h.asc, h.good, by have := h.len; omega⟩
theorem KsG.last {n : Nat} {K : List Kd} (h : KsG n K) (hn : n < 4) (hne : K.length ≠ 0) : (K[K.length - 1]'(by omega)).name ≠ kN n := by
  obtain ⟨j, hj, e⟩ := h.nm _ (List.getElem_mem (by omega : K.length - 1 < K.length))
  rw [e]
  intro e'
  have := bl_asym _ _ (kN_lt hj hn)
  rw [e'] at this
  simp at this
theorem kindsS_zero {ks : List Kd} : ∀ (l : List Kd) (last : Str), (∀ k ∈ l, ∀ last', (Op.bytesLess k.name last' || k.name == last') = false → kindS ks k last' = 0) → (∀ k ∈ l, (Op.bytesLess k.name last || k.name == last) = false) → l.Pairwise (fun a b => Op.bytesLess a.name b.name = true) → kindsS ks last l = 0 := by
  intro l
  induction l with
  | nil => intro last _ _ _; rfl
  | cons k l ih =>
    intro last h1 h2 h3
    have h4 := List.pairwise_cons.1 h3
    have h5 := h1 k (by simp) last (h2 k (by simp))
    simp only [kindsS, h5, ne_eq, not_true, if_false]
    exact ih k.name (fun a ha => h1 a (by simp [ha])) (fun a ha => bl_asym _ _ (h4.1 a ha)) h4.2
theorem KsG.zero {n : Nat} {K : List Kd} (h : KsG n K) (hn : n ≤ 4) : kindsS (K.map (kindG K)) [] (K.map (kindG K)) = 0 := by
  have hnames : (K.map (kindG K)).map Kd.name = K.map Kd.name := by rw [List.map_map]; rfl
  have hh := hasS_names hnames
  refine kindsS_zero _ _ (fun k hk last' hc => ?_) (fun k hk => ?_) ?_
  · obtain ⟨a, ha, rfl⟩ := List.mem_map.1 hk
    obtain ⟨j, hj, e⟩ := h.nm a ha
    have hok := kN_ok j
    have hself : hasS K a.name = true := by
      unfold hasS; rw [List.any_eq_true]; exact ⟨a, ha, by simp⟩
    obtain ⟨g1, g2, g3⟩ := kindG_good (h.good a ha) hself (by rw [e]; exact hok.2.2)
    have e1 : (kindG K a).name = kN j := e
    have hfs : fieldsS (K.map (kindG K)) [] (kindG K a).fields = 0 := by
      have : ∀ (l : List Fl) last, fieldsS (K.map (kindG K)) last l = fieldsS K last l := by
        intro l
        induction l with
        | nil => intro last; rfl
        | cons f l ih =>
          intro last
          have : kindOfS (K.map (kindG K)) f.ty = kindOfS K f.ty := by unfold kindOfS; rw [hh]
          simp only [fieldsS, this, ih]
      rw [this]; exact g2
    have hn1 := g1.pl
    have hn2 := g1.fl
    rw [kindS, if_neg (by rw [e1, hok.1, hok.2.1]; simp), if_neg (by rw [hc]; simp), if_neg (by omega), if_neg (by rw [hh, g3]; simp)]
    exact hfs
  · obtain ⟨a, ha, rfl⟩ := List.mem_map.1 hk
    obtain ⟨j, hj, e⟩ := h.nm a ha
    exact bl_nil _ (by show a.name ≠ []; rw [e]; exact (kN_ok j).2.2)
  · rw [List.pairwise_map]; exact h.asc
/- actions -/
structure AsG (ks : List Kd) (n : Nat) (A : List Ac) : Prop where
  nm : ∀ a ∈ A, ∃ j, j < n ∧ a.name = aN j
  asc : A.Pairwise fun a b => Op.bytesLess a.name b.name = true
  good : ∀ a ∈ A, AcG a ∧ (a.prins ++ a.ress).all (hasS ks) = true
  len : A.length ≤ n
theorem AsG.nil (ks : List Kd) (n : Nat) : AsG ks n [] := ⟨fun k h => (by cases h), .nil, fun k h => (by cases h), Nat.zero_le _⟩
theorem AsG.snoc {ks : List Kd} {n : Nat} {A : List Ac} (h : AsG ks n A) (hn : n < 3) {a : Ac} (ha : a.name = aN n) (hg : AcG a) (hl : (a.prins ++ a.ress).all (hasS ks) = true) : AsG ks (n + 1) (A ++ [a]) := by
  refine ⟨fun b hb => ?_, List.pairwise_append.2 ⟨h.asc, by simp, fun b hb c hc => ?_⟩, fun b hb => ?_, by simp [h.len]⟩
  · rcases List.mem_append.1 hb with hb | hb
    · obtain ⟨j, hj, e⟩ := h.nm b hb; exact ⟨j, by omega, e⟩
    · rw [List.mem_singleton.1 hb]; exact ⟨n, by omega, ha⟩
  · rw [List.mem_singleton.1 hc]
    obtain ⟨j, hj, e⟩ := h.nm b hb
    rw [e, ha]; exact aN_lt hj hn
  · rcases List.mem_append.1 hb with hb | hb
    · exact h.good b hb
    · rw [List.mem_singleton.1 hb]; exact ⟨hg, hl⟩
theorem AsG.mono {ks : List Kd} {n : Nat} {A : List Ac} (h : AsG ks n A) : AsG ks (n + 1) A :=
  ⟨fun a ha => by obtain ⟨j, hj, e⟩ := h.nm a ha; exact ⟨j, by omega, e⟩, h.asc, h.good, by have := h.len; omega⟩
theorem AsG.last {ks : List Kd} {n : Nat} {A : List Ac} (h : AsG ks n A) (hn : n < 3) (hne : A.length ≠ 0) : (A[A.length - 1]'(by omega)).name ≠ aN n := by
  obtain ⟨j, hj, e⟩ := h.nm _ (List.getElem_mem (by omega : A.length - 1 < A.length))
  rw [e]
  intro e'
  have := bl_asym _ _ (aN_lt hj hn)
  rw [e'] at this
  simp at this
theorem actsS_zero {ks : List Kd} : ∀ (l : List Ac) (last : Str), (∀ a ∈ l, ∀ last', (Op.bytesLess a.name last' || a.name == last') = false → actS ks a last' = 0) → (∀ a ∈ l, (Op.bytesLess a.name last || a.name == last) = false) → l.Pairwise (fun a b => Op.bytesLess a.name b.name = true) → actsS ks last l = 0 := by
  intro l
  induction l with
  | nil => intro last _ _ _; rfl
  | cons k l ih =>
    intro last h1 h2 h3
    have h4 := List.pairwise_cons.1 h3
    have h5 := h1 k (by simp) last (h2 k (by simp))
    simp only [actsS, h5, ne_eq, not_true, if_false]
    exact ih k.name (fun a ha => h1 a (by simp [ha])) (fun a ha => bl_asym _ _ (h4.1 a ha)) h4.2
theorem AsG.zero {ks : List Kd} {n : Nat} {A : List Ac} (h : AsG ks n A) : actsS ks [] A = 0 := by
  refine actsS_zero _ _ (fun a ha last' hc => ?_) (fun a ha => ?_) h.asc
  · obtain ⟨j, hj, e⟩ := h.nm a ha
    obtain ⟨hg, hl⟩ := h.good a ha
    have h1 := hg.pl
    have h2 := hg.rl
    rw [actS, if_neg (by rw [e, (aN_ok j).1]; simp), if_neg (by rw [hc]; simp), if_neg (by omega), if_neg (by omega), if_neg (by rw [hl]; simp)]
  · obtain ⟨j, hj, e⟩ := h.nm a ha
    exact bl_nil _ (by rw [e]; exact (aN_ok j).2)
/- A schema such as may be. -/
structure ScN (s : Sc) : Prop where
  chk : checkS s = 0
  kn : ∀ k ∈ s.kinds, ∃ j, j < 4 ∧ k.name = kN j
  an : ∀ a ∈ s.acts, ∃ j, j < 3 ∧ a.name = aN j
  kl : s.kinds.length ≤ 4
  al : s.acts.length ≤ 3
  k : ∀ k ∈ s.kinds, KdG k
  a : ∀ a ∈ s.acts, AcG a
theorem KdG.ok {k : Kd} (h : KdG k) : k.ok := ⟨by have := h.pl; have : Most = 9223372036854775807 := rfl; omega, by have := h.fl; have : Most = 9223372036854775807 := rfl; omega⟩
theorem KdG.tok {k : Kd} (h : KdG k) : k.tok := ⟨by have := h.nl; have : Most = 9223372036854775807 := rfl; omega, fun f hf => by have := (h.f f hf).nl; have : Most = 9223372036854775807 := rfl; show f.name.length ≤ Most; omega⟩
theorem AcG.ok {a : Ac} (h : AcG a) : a.ok := ⟨by have := h.pl; have : Most = 9223372036854775807 := rfl; omega, by have := h.rl; have : Most = 9223372036854775807 := rfl; omega⟩
theorem AcG.tok {a : Ac} (h : AcG a) : a.tok := by have := h.nl; have : Most = 9223372036854775807 := rfl; show a.name.length ≤ Most; omega
theorem ScG.ok {s : Sc} (h : ScG s) : s.ok := ⟨by have := h.kl; have : Most = 9223372036854775807 := rfl; omega, by have := h.al; have : Most = 9223372036854775807 := rfl; omega, fun k hk => (h.k k hk).ok, fun a ha => (h.a a ha).ok⟩
theorem ScG.tok {s : Sc} (h : ScG s) : s.tok := ⟨fun k hk => (h.k k hk).tok, fun a ha => (h.a a ha).tok⟩
theorem ScN.g {s : Sc} (h : ScN s) : ScG s := ⟨by have := h.kl; omega, by have := h.al; omega, h.k, h.a⟩
theorem scN_of {K : List Kd} {A : List Ac} (hK : KsG 4 K) (hA : AsG K 3 A) : ScN ⟨K.map (kindG K), A⟩ := by
  have hnames : (K.map (kindG K)).map Kd.name = K.map Kd.name := by rw [List.map_map]; rfl
  have hh := hasS_names hnames
  have hA' : AsG (K.map (kindG K)) 3 A := ⟨hA.nm, hA.asc, fun a ha => by rw [hh]; exact hA.good a ha, hA.len⟩
  refine ⟨?_, fun k hk => ?_, hA.nm, by simpa using hK.len, hA.len, fun k hk => ?_, fun a ha => (hA.good a ha).1⟩
  · have h1 := hK.len
    have h2 := hA.len
    rw [checkS, if_neg (by simp; omega), if_neg (by rw [hK.zero (Nat.le_refl _)]; simp)]
    exact hA'.zero
  · obtain ⟨a, ha, rfl⟩ := List.mem_map.1 hk
    exact hK.nm a ha
  · obtain ⟨a, ha, rfl⟩ := List.mem_map.1 hk
    obtain ⟨j, hj, e⟩ := hK.nm a ha
    exact (kindG_good (hK.good a ha) (by unfold hasS; rw [List.any_eq_true]; exact ⟨a, ha, by simp⟩) (by rw [e]; exact (kN_ok j).2.2)).1
end Go.Proofs.Ytcdbpmmomgehfaa.Va
