/- The law's own makers: those, kind. Conditions: none. -/
import Derived.Test.YtcdbpmmomgehfaaTy2
import Derived.Test.YtcdbpmmomgehfaaVaM
set_option maxRecDepth 100000
set_option maxHeartbeats 4000000
set_option linter.all false
namespace Go.Proofs.Ytcdbpmmomgehfaa.Va
open Go.Proofs
def thoseS (ks : List Kd) (l : List Str) : List Str := l.filter (hasS ks)
theorem thoseS_take {ks : List Kd} {l : List Str} {i : Nat} (h : i < l.length) : thoseS ks (l.take (i + 1)) = thoseS ks (l.take i) ++ (if hasS ks l[i] = true then [l[i]] else []) := by
  simp only [thoseS]
  rw [List.take_add_one, List.filter_append, List.getElem?_eq_getElem h]
  simp only [Option.toList_some, List.filter_cons, List.filter_nil]
theorem thoseS_len (ks : List Kd) (l : List Str) : (thoseS ks l).length ≤ l.length := List.length_filter_le _ _
theorem those_own {s : Sc} {l : List Str} {σ : AState} (hs : s.ok) (hl : l.length ≤ 1000) : AC Try.prog 31 [.agg s.c, strs l] σ fun v s' => Keeps σ.n σ s' ∧ RowP (fun b => σ.n ≤ b) s' v ((thoseS s.kinds l).map .str) (thoseS s.kinds l).length 1 := by
  refine ac_wp fn31 cf31 cl31 rfl ?_
  simp only [ac31]
  unfold ab31
  have sg := scSeg s
  simp only [WS, seval, stepW, evalA, evalBin, Option.getD, allocA, rowOf, fillA, partsV, setl, AV.len, evalUn, strs_eq, Sc.c_eq]
  generalize hm : σ.n = m at *
  refine w_for (fun i ρ s' => ρ.rd 6 = .int .i64 i ∧ ρ.rd 1 = strs l ∧ ρ.rd 2 = .ptr m 0 ∧ s'.cells m = some [slc Kd.c s.kinds, slc Ac.c s.acts] ∧ m < s'.n ∧ Keeps m σ s' ∧ RowP (fun b => m < b) s' (ρ.rd 5) ((thoseS s.kinds (l.take i)).map .str) (thoseS s.kinds (l.take i)).length 1) l.length ?_ ?_
  · simp only [WS, seval, stepW, evalA, evalBin, Option.getD, allocA, rowOf, fillA, partsV, setl, AV.len, evalUn, strs_eq, List.take_zero]
    first | done | exact ⟨rfl, if_pos hm.symm, by omega, ((Keeps.refl' (Nat.le_of_eq hm.symm)).push _), RowP.nil _ _ _⟩ | exact ⟨if_pos hm.symm, by omega, ((Keeps.refl' (Nat.le_of_eq hm.symm)).push _), RowP.nil _ _ _⟩
  · rintro i ρ s' hi ⟨h6, h1, h2, c0, hn, hk, hrow⟩
    simp only [WS, seval, stepW, evalA, evalBin, Option.getD, allocA, rowOf, fillA, partsV, setl, AV.len, evalUn, strs_eq, h6, h1]
    refine Br_dec (fun hlt' => ?_) (fun hge => ?_)
    rotate_left
    · have : i = l.length := by omega
      subst this
      rw [List.take_length] at hrow
      simp only [WS, seval, stepW, evalA, evalBin, Option.getD, allocA, rowOf, fillA, partsV, setl, AV.len, evalUn, strs_eq, h6, h1]
      exact ⟨hk, hrow.mono fun b hb _ => by omega⟩
    have hlt : i < l.length := by omega
    have hr := lt_idx hlt
    have hg := strs_get hlt
    have hw : IntKind.i64.wrap ((i : Int) + 1) = ((i + 1 : Nat) : Int) := wrap_succ (by omega)
    rw [wpC_skip, wpCK_normal, wpC_seq, wpC_block, wpC_seq]
    refine w_mid (fun ρ s' => ρ.rd 6 = .int .i64 i ∧ ρ.rd 1 = strs l ∧ ρ.rd 2 = .ptr m 0 ∧ s'.cells m = some [slc Kd.c s.kinds, slc Ac.c s.acts] ∧ m < s'.n ∧ Keeps m σ s' ∧ RowP (fun b => m < b) s' (ρ.rd 5) ((thoseS s.kinds (l.take i)).map .str) (thoseS s.kinds (l.take i)).length 1 ∧ ρ.rd 8 = .bool (hasS s.kinds l[i])) ?_ ?_
    · generalize hx5 : ρ.rd 5 = x at *
      simp only [WS, seval, stepW, evalA, evalBin, Option.getD, allocA, rowOf, fillA, partsV, setl, AV.len, evalUn, strs_eq, h6, h1]
      refine w_dreg follow [(9, [.str [], .nils, .nils])] rfl ?_
      have hnm : ¬ m = s'.n + 9 := by omega
      have cA : (addSlots s'.n 12 s' [(9, [.str [], .nils, .nils])]).cells m = some [slc Kd.c s.kinds, slc Ac.c s.acts] := by
        simp only [AState.cells, addSlots, List.foldr, Tr.get_set, hnm, if_false]
        exact c0
      have cB : (addSlots s'.n 12 s' [(9, [.str [], .nils, .nils])]).cells (s'.n + 9) = some [.str [], .nils, .nils] := by
        simp only [AState.cells, addSlots, List.foldr, Tr.get_set, if_true]
      have hcell : ∀ b, b < s'.n → (addSlots s'.n 12 s' [(9, [AV.str [], .nils, .nils])]).cells b = s'.cells b := fun b hb => (slots_keep (k := 12) (sl := [(9, [.str [], .nils, .nils])]) (Keeps.refl s')).cells hb
      have hkA := slots_keep (k := 12) (sl := [(9, [.str [], .nils, .nils])]) hk
      have hnA : s'.n + 9 < (addSlots s'.n 12 s' [(9, [AV.str [], .nils, .nils])]).n := by simp only [addSlots]; omega
      have hH := kindR_ac (s := s) (n := l[i]) (σ := addSlots s'.n 12 s' [(9, [.str [], .nils, .nils])]) hs
      obtain ⟨cs, hkv, a, b, c, rfl, ha, hb, hc⟩ := kindV_bool s.kinds l[i]
      rw [hkv, Sc.c_eq, slc_eq, slc_eq] at hH
      simp only [WS, seval, stepW, evalA, evalBin, Option.getD, allocA, rowOf, fillA, partsV, setl, AV.len, evalUn, strs_eq, DS, isSl, AOp.pure, AOp.reader, allocD, AOp.quiet, isSlot, Nat.reduceBEq, h6, h1, h2, cA, sg, hr, hg]
      refine hH.useD ?_
      simp only [WS, seval, stepW, evalA, evalBin, Option.getD, allocA, rowOf, fillA, partsV, setl, AV.len, evalUn, strs_eq, DS, isSl, AOp.pure, AOp.reader, allocD, AOp.quiet, isSlot, Nat.reduceBEq, cB, storeA, sets, setx, TS, ha, hb, hc]
      refine ⟨⟨?_, ?_⟩, ?_⟩
      · intro l hl c hc hf
        simp only [List.mem_cons, List.mem_nil_iff, List.not_mem_nil, or_false] at hl hc
        rcases hl with rfl | rfl <;> rcases hc with rfl | rfl | rfl <;> dsimp only at hf ⊢ <;> first
          | (exact absurd hf (by decide +kernel))
          | (simp only [WS, seval, stepW, evalA, evalBin, Option.getD, allocA, rowOf, fillA, partsV, setl, AV.len, evalUn, strs_eq, h2, cA, sg, hg]; done)
      · intro sl hsl c hc hf
        simp only [List.mem_cons, List.mem_nil_iff, List.not_mem_nil, or_false] at hsl hc
        subst hsl
        rcases hc with rfl | rfl | rfl <;> dsimp only at hf <;> first
          | (exact absurd hf (by decide +kernel))
          | (refine ⟨?_, ?_⟩ <;> simp [addSlots])
      · generalize addSlots s'.n 12 s' [(9, [AV.str [], .nils, .nils])] = s1 at *
        simp only [WS, seval, stepW, evalA, evalBin, Option.getD, allocA, rowOf, fillA, partsV, setl, AV.len, evalUn, strs_eq, h6, h1, h2, cA, hnm, hx5]
        exact ⟨by omega, hkA.put (by have := hk.1; omega) _, hrow.keep (by rw [put_n]; omega) fun b hb _ => by rw [put_get, if_neg (by omega)]; exact hcell b hb⟩
    clear h6 h1 h2 c0 hn hk hrow
    rintro ρ s' ⟨h6, h1, h2, c0, hn, hk, hrow, h8⟩
    have htk := thoseS_take (ks := s.kinds) hlt
    cases hh : hasS s.kinds l[i] with
    | false =>
      simp only [WS, seval, stepW, evalA, evalBin, Option.getD, allocA, rowOf, fillA, partsV, setl, AV.len, evalUn, strs_eq, h8, hh, h6, h1, h2, c0, hw]
      rw [htk, hh]
      exact ⟨hlt, hn, hk, by simpa using hrow⟩
    | true =>
      generalize hx5 : ρ.rd 5 = x at *
      have hlen := thoseS_len s.kinds (l.take i)
      rw [List.length_take] at hlen
      obtain ⟨b9, cap9, s9, happ, hrow9, hn9, hk9⟩ := app_lit (bytes := 16) hrow (fun b hb => by omega) (new := [.str l[i]]) (k := 1) rfl rfl (by omega) (by omega)
      have hk9' : Keeps m σ s9 := ⟨by omega, fun b hb => (hk9 b (by omega) (by omega)).trans (hk.2 b hb)⟩
      have c9 := (get_cells (hk9 m (by omega) (by omega))).trans c0
      simp only [WS, seval, stepW, evalA, evalBin, Option.getD, allocA, rowOf, fillA, partsV, setl, AV.len, evalUn, strs_eq, h8, hh, h6, h1, h2, c0, hx5, hr, hg, fillA, happ, hw, c9]
      rw [htk, hh]
      exact ⟨hlt, by omega, hk9', by simpa using hrow9⟩
theorem those_st0 {s : Sc} {l : List Str} (hs : s.ok) (hl : l.length ≤ 1000) : AC Try.prog 31 [.agg s.c, strs l] st0 fun v s' => ∃ a, Pur s' false v a ∧ a = strs (thoseS s.kinds l) :=
  (those_own hs hl).mono fun v s' h => ⟨_, h.2.pur false (by simp) (c' := (thoseS s.kinds l).map .str) fun i hi hi' => .flat _ (by rw [List.getElem_map]; rfl), rfl⟩
theorem those_ac {s : Sc} {l : List Str} {σ : AState} {x y : AV} (hs : s.ok) (hl : l.length ≤ 1000) (hx : Pur σ true x (.agg s.c)) (hy : Pur σ true y (strs l)) : AC Try.prog 31 [x, y] σ fun v s' => s' = σ ∧ v = strs (thoseS s.kinds l) :=
  AC.pure (.cons hx (.cons hy .nil)) (those_st0 hs hl)
theorem flat_row {α : Type} {f : α → List AV} {s : AState} {al : Bool} (hf : ∀ x, ∀ a ∈ f x, a.flat = true) {l : List α} (i : Nat) (hi hi' : i < (rowc f l).length) : Pur s al (rowc f l)[i] (rowc f l)[i] := by
  have hm := List.getElem_mem hi
  simp only [rowc, List.mem_flatten, List.mem_map] at hm
  obtain ⟨_, ⟨x, _, rfl⟩, h⟩ := hm
  exact .flat _ (hf x _ h)
theorem Fl.flat (f : Fl) : ∀ a ∈ f.c, a.flat = true := by
  intro a ha
  simp only [Fl.c_eq, List.mem_cons, List.not_mem_nil, or_false] at ha
  rcases ha with rfl | rfl | rfl | rfl <;> rfl
/- ------------------------------------------------ kind -/
def fixT (ks : List Kd) (n : Str) (t : Ty) : Ty := if t.name ≠ [] ∧ hasS ks t.name = false then { t with name := n } else t
def lastO (l : List Fl) : Option Str := l.getLast?.map Fl.name
def okLast (l : List Fl) (n : Str) : Bool := match l.getLast? with | none => true | some f => Op.bytesLess f.name n
def fldGo (ks : List Kd) (n : Str) : List Fl → List Fl → List Fl
  | out, [] => out
  | out, f :: r => if okLast out f.name = true then fldGo ks n (out ++ [⟨f.name, fixT ks n f.ty⟩]) r else fldGo ks n out r
def kindG (ks : List Kd) (k : Kd) : Kd := ⟨k.name, thoseS ks k.parents, fldGo ks k.name [] k.fields⟩
theorem kindG_st0 {s : Sc} {k : Kd} (hs : s.ok) (hk' : KdG k) : AC Try.prog 30 [.agg s.c, .agg k.c] st0 fun v s' => ∃ a, Pur s' false v a ∧ a = .agg (kindG s.kinds k).c := by
  refine ac_wp fn30 cf30 cl30 rfl ?_
  simp only [ac30]
  unfold ab30
  have sg := scSeg s
  simp only [wpC_seq, wpC_skip, wpCK_normal]
  refine w_mid (fun ρ s' => ρ.rd 2 = .ptr 0 0 ∧ ρ.rd 3 = .ptr 1 0 ∧ ρ.rd 4 = .ptr 2 0 ∧ s'.cells 0 = some [slc Kd.c s.kinds, slc Ac.c s.acts] ∧ s'.cells 1 = some [.str k.name, strs k.parents, slc Fl.c k.fields] ∧ s'.cells 2 = some [.str [], .nils, .nils] ∧ s'.n = 3) ?_ ?_
  · simp only [WS, seval, stepW, evalA, evalBin, Option.getD, allocA, rowOf, fillA, partsV, setl, AV.len, evalUn, strs_eq, Sc.c_eq, Kd.c_eq]
  rintro ρ s' ⟨h2, h3, h4, c0, c1, c2, hn⟩
  simp only [wpC_seq, wpC_skip, wpCK_normal]
  refine w_mid (fun ρ s' => ρ.rd 2 = .ptr 0 0 ∧ ρ.rd 3 = .ptr 1 0 ∧ ρ.rd 4 = .ptr 2 0 ∧ s'.cells 0 = some [slc Kd.c s.kinds, slc Ac.c s.acts] ∧ s'.cells 2 = some [.str [], .nils, .nils] ∧ ∃ m x, 3 ≤ m ∧ m ≤ s'.n ∧ s'.cells 1 = some [.str k.name, x, slc Fl.c k.fields] ∧ RowP (fun b => 3 ≤ b ∧ b < m) s' x ((thoseS s.kinds k.parents).map .str) (thoseS s.kinds k.parents).length 1) ?_ ?_
  · simp only [WS, seval, stepW, evalA, evalBin, Option.getD, allocA, rowOf, fillA, partsV, setl, AV.len, evalUn, strs_eq, h2, h3, h4, c0, c1, c2, sg]
    have hH := those_own (s := s) (l := k.parents) (σ := s') hs (by have := hk'.pl; omega)
    rw [Sc.c_eq, slc_eq, slc_eq, strs_eq] at hH
    refine hH.mono ?_
    rintro v s1 ⟨hk1, hrow⟩
    have d0 := (hk1.cells (b := 0) (by omega)).trans c0
    have d1 := (hk1.cells (b := 1) (by omega)).trans c1
    have d2 := (hk1.cells (b := 2) (by omega)).trans c2
    have hkn := hk1.1
    rcases hrow.form with rfl | ⟨b, cap, rfl⟩
    all_goals
      simp only [WS, seval, stepW, evalA, evalBin, Option.getD, allocA, rowOf, fillA, partsV, setl, AV.len, evalUn, strs_eq, h2, h3, h4, d0, d1, d2, storeA, sets, setx, TS]
      exact ⟨s1.n, _, by omega, Nat.le_refl _, rfl, (hrow.mono fun b hb hb' => by omega).put (by omega) _⟩
  clear h2 h3 h4 c0 c1 c2 hn
  rintro ρ s' ⟨h2, h3, h4, c0, c2, m, x, hm3, hm, c1, hrow⟩
  simp only [wpC_seq, wpC_skip, wpCK_normal]
  refine w_mid (fun ρ s1 => s1 = s' ∧ ρ.rd 2 = .ptr 0 0 ∧ ρ.rd 3 = .ptr 1 0 ∧ ρ.rd 4 = .ptr 2 0 ∧ ρ.rd 5 = .nils) ?_ ?_
  · simp only [WS, seval, stepW, evalA, evalBin, Option.getD, allocA, rowOf, fillA, partsV, setl, AV.len, evalUn, strs_eq, h2, h3, h4]
  clear h2 h3 h4
  rintro ρ s1 ⟨rfl, h2, h3, h4, h5⟩
  rw [wpC_seq]
  refine w_mid (fun ρ s' => ρ.rd 2 = .ptr 0 0 ∧ ρ.rd 3 = .ptr 1 0 ∧ ρ.rd 4 = .ptr 2 0 ∧ Keeps m s1 s' ∧ RowP (fun b => m ≤ b) s' (ρ.rd 5) (rowc Fl.c (fldGo s.kinds k.name [] k.fields)) (fldGo s.kinds k.name [] k.fields).length 4) ?_ ?_
  · simp only [WS, seval, stepW, evalA, evalBin, Option.getD, allocA, rowOf, fillA, partsV, setl, AV.len, evalUn, strs_eq, h2, h3, h4, h5]
    refine w_for (fun i ρ s' => ρ.rd 6 = .int .i64 i ∧ ρ.rd 2 = .ptr 0 0 ∧ ρ.rd 3 = .ptr 1 0 ∧ ρ.rd 4 = .ptr 2 0 ∧ Keeps m s1 s' ∧ ∃ fs : List Fl, RowP (fun b => m ≤ b) s' (ρ.rd 5) (rowc Fl.c fs) fs.length 4 ∧ fs.length ≤ i ∧ fldGo s.kinds k.name [] k.fields = fldGo s.kinds k.name fs (k.fields.drop i)) k.fields.length ?_ ?_
    · simp only [WS, seval, stepW, evalA, evalBin, Option.getD, allocA, rowOf, fillA, partsV, setl, AV.len, evalUn, strs_eq, h2, h3, h4, h5]
      first | done | exact ⟨rfl, Keeps.refl' hm, [], RowP.nil _ _ _, Nat.le_refl _, rfl⟩ | exact ⟨Keeps.refl' hm, [], RowP.nil _ _ _, Nat.le_refl _, rfl⟩
    clear h2 h3 h4 h5
    rintro i ρ s' hi ⟨h6, h2, h3, h4, hk, fs, hrow5, hfl, hspec⟩
    have d0 := (hk.cells (b := 0) (by omega)).trans c0
    have d1 := (hk.cells (b := 1) (by omega)).trans c1
    have hmn := hk.1
    simp only [WS, seval, stepW, evalA, evalBin, Option.getD, allocA, rowOf, fillA, partsV, setl, AV.len, evalUn, strs_eq, h6, h3, d1]
    refine Br_dec (fun hlt' => ?_) (fun hge => ?_)
    rotate_left
    · have : i = k.fields.length := by omega
      subst this
      rw [List.drop_length] at hspec
      simp only [WS, seval, stepW, evalA, evalBin, Option.getD, allocA, rowOf, fillA, partsV, setl, AV.len, evalUn, strs_eq, h2, h3, h4]
      rw [hspec]
      exact ⟨hk, hrow5⟩
    have hlt : i < k.fields.length := by omega
    have hr := lt_idx hlt
    have A := flAt hlt
    have h4l := hk'.fl
    have hw : IntKind.i64.wrap ((i : Int) + 1) = ((i + 1 : Nat) : Int) := wrap_succ (by omega)
    generalize hq : s'.n = q at *
    generalize hy : ρ.rd 5 = y at *
    rw [wpC_skip, wpCK_normal, wpC_seq, wpC_block, wpC_seq]
    refine w_mid (fun ρ s2 => ρ.rd 6 = .int .i64 i ∧ ρ.rd 2 = .ptr 0 0 ∧ ρ.rd 3 = .ptr 1 0 ∧ ρ.rd 4 = .ptr 2 0 ∧ ρ.rd 7 = .ptr q 0 ∧ ρ.rd 5 = y ∧ q < s2.n ∧ Keeps q s' s2 ∧ s2.cells q = some k.fields[i].c) ?_ ?_
    · simp only [WS, seval, stepW, evalA, evalBin, Option.getD, allocA, rowOf, fillA, partsV, setl, AV.len, evalUn, strs_eq, h6, h2, h3, h4, hy, d1, hr, A.fit, A.all, hq, storeA, sets, setx, TS]
      exact ⟨by omega, ((Keeps.refl' (Nat.le_of_eq hq.symm)).push _).put (Nat.le_refl _) _, rfl⟩
    have d0' : ∀ s2, Keeps q s' s2 → s2.cells 0 = _ := fun s2 h => (h.cells (b := 0) (by omega)).trans d0
    have d1' : ∀ s2, Keeps q s' s2 → s2.cells 1 = _ := fun s2 h => (h.cells (b := 1) (by omega)).trans d1
    clear h6 h2 h3 h4
    rintro ρ s2 ⟨h6, h2, h3, h4, h7, h5, hn2, hk2, cq⟩
    simp only [Fl.c_eq] at cq
    rw [wpC_seq]
    refine w_mid (fun ρ s2 => ρ.rd 6 = .int .i64 i ∧ ρ.rd 2 = .ptr 0 0 ∧ ρ.rd 3 = .ptr 1 0 ∧ ρ.rd 4 = .ptr 2 0 ∧ ρ.rd 7 = .ptr q 0 ∧ ρ.rd 5 = y ∧ q < s2.n ∧ Keeps q s' s2 ∧ s2.cells q = some (Fl.c ⟨k.fields[i].name, fixT s.kinds k.name k.fields[i].ty⟩)) ?_ ?_
    · by_cases hnm : k.fields[i].ty.name = []
      · simp only [WS, seval, stepW, evalA, evalBin, Option.getD, allocA, rowOf, fillA, partsV, setl, AV.len, evalUn, strs_eq, h6, h2, h3, h4, h7, h5, cq, hnm]
        refine ⟨hn2, hk2, ?_⟩
        simp [fixT, hnm, Fl.c_eq]
      · have e0 := d0' s2 hk2
        have hH := kindR_ac (s := s) (n := k.fields[i].ty.name) (σ := s2) hs
        obtain ⟨cs, hkv, a, b, c, rfl, ha, hb, hc⟩ := kindV_bool s.kinds k.fields[i].ty.name
        rw [hkv, Sc.c_eq, slc_eq, slc_eq] at hH
        simp only [WS, seval, stepW, evalA, evalBin, Option.getD, allocA, rowOf, fillA, partsV, setl, AV.len, evalUn, strs_eq, h6, h2, h3, h4, h7, h5, cq, hnm, e0, sg]
        refine hH.use ?_
        have e1 := d1' s2 hk2
        have nq : ¬ q = s2.n := by omega
        have n1 : ¬ 1 = s2.n := by omega
        cases hh : hasS s.kinds k.fields[i].ty.name with
        | true =>
          simp only [WS, seval, stepW, evalA, evalBin, Option.getD, allocA, rowOf, fillA, partsV, setl, AV.len, evalUn, strs_eq, h6, h2, h3, h4, h7, h5, cq, storeA, sets, setx, TS, ha, hb, hc, hh]
          refine ⟨by omega, (hk2.push _).put (by omega) _, ?_⟩
          rw [if_neg nq, if_neg nq]
          simp [fixT, hh, Fl.c_eq]
        | false =>
          simp only [WS, seval, stepW, evalA, evalBin, Option.getD, allocA, rowOf, fillA, partsV, setl, AV.len, evalUn, strs_eq, h6, h2, h3, h4, h7, h5, cq, storeA, sets, setx, TS, ha, hb, hc, hh, e1, nq, n1]
          refine ⟨by omega, ((hk2.push _).put (by omega) _).put (Nat.le_refl _) _, ?_⟩
          simp [fixT, hnm, hh, Fl.c_eq]
    clear h6 h2 h3 h4 h7 h5 hn2 hk2 cq
    rintro ρ s2 ⟨h6, h2, h3, h4, h7, h5, hn2, hk2, cq⟩
    have hrow2 : RowP (fun b => m ≤ b ∧ b < q) s2 y (rowc Fl.c fs) fs.length 4 := (hrow5.mono fun b hb hb' => ⟨hb, by omega⟩).keep (by omega) fun b hb hb' => hk2.cells (by omega)
    have hkm : Keeps m s1 s2 := ⟨by omega, fun b hb => (hk2.2 b (by omega)).trans (hk.2 b hb)⟩
    have hfd : fldGo s.kinds k.name fs (k.fields.drop i) = if okLast fs k.fields[i].name = true then fldGo s.kinds k.name (fs ++ [⟨k.fields[i].name, fixT s.kinds k.name k.fields[i].ty⟩]) (k.fields.drop (i + 1)) else fldGo s.kinds k.name fs (k.fields.drop (i + 1)) := by
      rw [List.drop_eq_getElem_cons hlt, fldGo]
    generalize hff : (⟨k.fields[i].name, fixT s.kinds k.name k.fields[i].ty⟩ : Fl) = ff at *
    have hfn : ff.name = k.fields[i].name := by rw [← hff]
    rw [wpC_seq]
    refine w_mid (fun ρ s2 => ρ.rd 6 = .int .i64 i ∧ ρ.rd 2 = .ptr 0 0 ∧ ρ.rd 3 = .ptr 1 0 ∧ ρ.rd 4 = .ptr 2 0 ∧ ρ.rd 7 = .ptr q 0 ∧ ρ.rd 5 = y ∧ Keeps m s1 s2 ∧ q < s2.n ∧ s2.cells q = some ff.c ∧ RowP (fun b => m ≤ b ∧ b < q) s2 y (rowc Fl.c fs) fs.length 4 ∧ ρ.rd 59 = .bool (okLast fs k.fields[i].name)) ?_ ?_
    · simp only [WS, seval, stepW, evalA, evalBin, Option.getD, allocA, rowOf, fillA, partsV, setl, AV.len, evalUn, strs_eq]
      refine w_dreg0 follow ?_ rfl
      have cA : (addSlots s2.n 15 s2 []).cells q = some ff.c := cq
      have hrowA := hrow2.slots 15
      have hnA : q < (addSlots s2.n 15 s2 []).n := by simp only [addSlots]; omega
      have hkA : Keeps m s1 (addSlots s2.n 15 s2 []) := slots_keep hkm
      generalize addSlots s2.n 15 s2 [] = s3 at *
      simp only [Fl.c_eq] at cA
      by_cases hf0 : fs.length = 0
      · have hfe : fs = [] := List.eq_nil_of_length_eq_zero hf0
        have hy0 : y = .nils ∨ ∃ b cap, y = .sl b 0 0 cap 4 := by
          rcases hrowA.form with h | ⟨b, cap, h⟩
          · exact .inl h
          · exact .inr ⟨b, cap, by rw [h, hf0]⟩
        have z0 : ((0 : Nat) : Int) = 0 := rfl
        rcases hy0 with rfl | ⟨b, cap, rfl⟩
        all_goals
          simp only [WS, seval, stepW, evalA, evalBin, Option.getD, allocA, rowOf, fillA, partsV, setl, AV.len, evalUn, strs_eq, h6, h2, h3, h4, h7, h5, z0]
          refine ⟨hkA, hnA, by first | exact cA | rfl, hrowA, ?_⟩
          rw [hfe]; rfl
      · obtain ⟨j, hj⟩ : ∃ j, fs.length = j + 1 := ⟨fs.length - 1, by omega⟩
        have hjl : j < fs.length := by omega
        obtain ⟨b, cap, cs, hS⟩ := hrowA.some (by omega)
        have hyS := hS.eq
        have hcc := hS.cells
        have hf0' : ¬ (fs.length : Int) = 0 := by omega
        have hwj : IntKind.i64.wrap ((fs.length : Int) - 1) = (j : Nat) := by rw [wrap64 (by omega) (by omega)]; omega
        have hrj : (0 : Int) ≤ (j : Nat) ∧ ((j : Nat) : Int) < (fs.length : Nat) := by omega
        have hg : cs[j * 4]? = some (.str fs[j].name) := (hS.get (o := j * 4) (by omega)).trans (flAt hjl).g0
        have hok : okLast fs k.fields[i].name = Op.bytesLess fs[j].name ff.name := by
          have : fs.getLast? = some fs[j] := by rw [List.getLast?_eq_getElem?, hj]; simp [hjl]
          rw [okLast, this, hfn]
        subst hyS
        simp only [WS, seval, stepW, evalA, evalBin, Option.getD, allocA, rowOf, fillA, partsV, setl, AV.len, evalUn, strs_eq, h6, h2, h3, h4, h7, h5, hf0', hwj, hrj, hcc, hg, cA]
        exact ⟨hkA, hnA, rfl, hrowA, by rw [hok]⟩
    clear h6 h2 h3 h4 h7 h5 hn2 hk2 cq hrow2 hkm
    rintro ρ s2 ⟨h6, h2, h3, h4, h7, h5, hkm, hn2, cq, hrow2, h59⟩
    cases hok : okLast fs k.fields[i].name with
    | false =>
      simp only [WS, seval, stepW, evalA, evalBin, Option.getD, allocA, rowOf, fillA, partsV, setl, AV.len, evalUn, strs_eq, h6, h2, h3, h4, h7, h5, h59, hok, hw]
      refine ⟨hlt, hkm, fs, hrow2.mono fun b hb _ => hb.1, by omega, ?_⟩
      rw [hspec, hfd, hok]; rfl
    | true =>
      have sg4 : ∀ a b c d : AV, seg [a, b, c, d] 0 4 = [a, b, c, d] := fun _ _ _ _ => rfl
      obtain ⟨b9, cap9, s9, happ, hrow9, hn9, hk9⟩ := app_lit (bytes := 48) (hrow2.mono (q := fun b => m ≤ b) fun b hb _ => hb.1) (fun b hb => by omega) (new := ff.c) (k := 1) rfl rfl (by omega) (by omega)
      simp only [Fl.c_eq] at cq happ
      simp only [WS, seval, stepW, evalA, evalBin, Option.getD, allocA, rowOf, fillA, partsV, setl, AV.len, evalUn, strs_eq, h6, h2, h3, h4, h7, h5, h59, hok, hw, cq, sg4, fillA, happ]
      refine ⟨hlt, ⟨by omega, fun b hb => (hk9 b (by omega) (by omega)).trans (hkm.2 b hb)⟩, fs ++ [ff], ?_, by simp; omega, ?_⟩
      · rw [rowc_append, rowc_one, List.length_append]
        exact hrow9
      · rw [hspec, hfd, hok]; rfl
  clear h2 h3 h4 h5
  generalize hfs : fldGo s.kinds k.name [] k.fields = fs at *
  rintro ρ s2 ⟨h2, h3, h4, hk, hrow5⟩
  generalize hy : ρ.rd 5 = y at *
  have d1 := (hk.cells (b := 1) (by omega)).trans c1
  have d2 := (hk.cells (b := 2) (by omega)).trans c2
  have sg3 : ∀ a b c : AV, seg [a, b, c] 0 3 = [a, b, c] := fun _ _ _ => rfl
  have hrow2 : RowP (fun b => 3 ≤ b ∧ b < m) s2 x ((thoseS s.kinds k.parents).map .str) (thoseS s.kinds k.parents).length 1 := hrow.keeps hk fun b hb => hb.2
  have hkc : (kindG s.kinds k).c = [.str k.name, strs (thoseS s.kinds k.parents), slc Fl.c fs] := by rw [← hfs]; rfl
  rw [hkc]
  rcases hrow5.form with rfl | ⟨b5, cap5, rfl⟩
  all_goals
    rcases hrow2.form with rfl | ⟨b2, cap2, rfl⟩
    all_goals
      simp only [WS, seval, stepW, evalA, evalBin, Option.getD, allocA, rowOf, fillA, partsV, setl, AV.len, evalUn, strs_eq, h2, h3, h4, hy, d1, d2, sg3, storeA, sets, setx, TS]
      refine ⟨_, .agg _ [.str k.name, strs (thoseS s.kinds k.parents), slc Fl.c fs] rfl fun i hi hi' => ?_, rfl⟩
      match i, hi with
      | 0, _ => exact .flat _ rfl
      | 1, _ =>
        refine ((hrow2.put (b0 := 1) (by omega) _).put (b0 := 2) (by omega) _).pur false (c' := (thoseS s.kinds k.parents).map .str) rfl fun i hi hi' => ?_
        simp only [List.getElem_map]
        exact .flat _ rfl
      | 2, _ =>
        refine ((hrow5.put (b0 := 1) (by omega) _).put (b0 := 2) (by omega) _).pur false (by rfl) fun i hi hi' => ?_
        exact flat_row Fl.flat i hi hi'
theorem kindG_ac {s : Sc} {k : Kd} {σ : AState} {x y : AV} (hs : s.ok) (hk' : KdG k) (hx : Pur σ true x (.agg s.c)) (hy : Pur σ true y (.agg k.c)) : AC Try.prog 30 [x, y] σ fun v s' => s' = σ ∧ v = .agg (kindG s.kinds k).c :=
  AC.pure (.cons hx (.cons hy .nil)) (kindG_st0 hs hk')
end Go.Proofs.Ytcdbpmmomgehfaa.Va
