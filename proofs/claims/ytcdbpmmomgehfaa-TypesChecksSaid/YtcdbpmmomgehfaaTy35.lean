/- Trees that are made to be of a type: the walk. Conditions: none. -/
import Derived.Test.YtcdbpmmomgehfaaTM
import Derived.Test.YtcdbpmmomgehfaaTy34
set_option maxRecDepth 100000
set_option maxHeartbeats 4000000
set_option linter.all false
namespace Go.Proofs.Ytcdbpmmomgehfaa.Va
open Go.Proofs
def wayOf : Rw → Int
  | .mk w _ _ _ => w
def kd0 : Kd := ⟨[], [], []⟩
def fldM (t : Ty) (k : Kd) : Option Str := (k.fields.find? fun f => decide (f.ty = t)).map Fl.name
def kindM (S : Sc) (n : Int) (i : Nat) : Kd := S.kinds.getD (wi (IntKind.i64.wrap (n + (i : Int))) S.kinds.length).toNat kd0
def fieldM (S : Sc) (n : Int) (t : Ty) : Option (Str × Str) := (List.range S.kinds.length).findSome? fun i => (fldM t (kindM S n i)).map fun f => (f, (kindM S n i).name)
def noEx : Ex := .mk 0 false 0 [] [] [] []
def opM (i : Int) : Int := if i = 0 then 14 else if i = 1 then 15 else 13
def buildX (S : Sc) (p r : Str) (sub : Ty → Rw → Ex) (t : Ty) : Rw → Ex
  | .mk wo wn ws wk =>
  if wi wo 12 = 0 then .mk 25 false 0 [] [] [] [sub tB (kidM (.mk wo wn ws wk) 0), sub t (kidM (.mk wo wn ws wk) 1), sub t (kidM (.mk wo wn ws wk) 2)]
  else if wi wo 12 ≤ 3 then (match fieldM S wn t with | some x => .mk 7 false 0 x.1 [] [] [sub (tU x.2) (kidM (.mk wo wn ws wk) 0)] | none => noEx)
  else if t.kind = 2 ∧ wi wo 12 ≤ 8 then .mk (opM (wi wn 3)) false 0 [] [] [] [sub tL (kidM (.mk wo wn ws wk) 0), sub tL (kidM (.mk wo wn ws wk) 1)]
  else if t.kind = 2 ∧ wi wo 12 = 9 then .mk 12 false 0 [] [] [] [sub tL (kidM (.mk wo wn ws wk) 0)]
  else if t.kind = 1 then truthX p r sub (.mk wo wn ws wk) (wi wo 12)
  else if t.kind = 5 then .mk 6 false 0 [] [] [] ((List.range (1 + (wi wn 3).toNat)).map fun i => sub ⟨t.of_, 0, t.name⟩ (kidM (.mk wo wn ws wk) i))
  else noEx
theorem fs_none {α : Type} {f : Nat → Option α} {n : Nat} (h : ∀ i, i < n → f i = none) : (List.range n).findSome? f = none := by
  rw [List.findSome?_eq_none_iff]
  intro i hi
  exact h i (List.mem_range.1 hi)
theorem fs_hit {α : Type} {f : Nat → Option α} {n i : Nat} {v : α} (hi : i < n) (hno : ∀ j, j < i → f j = none) (hy : f i = some v) : (List.range n).findSome? f = some v := by
  obtain ⟨m, rfl⟩ : ∃ m, n = i + (m + 1) := ⟨n - i - 1, by omega⟩
  rw [List.range_add, List.findSome?_append, fs_none hno, List.range_succ_eq_map]
  simp [hy]
theorem findP_take {α : Type} {p : α → Bool} {l : List α} {i : Nat} (h : i < l.length) (hno : (l.take i).find? p = none) (hp : p l[i] = true) : l.find? p = some l[i] := by
  conv => lhs; rw [← List.take_append_drop i l]
  rw [List.find?_append, hno, Option.none_or, List.drop_eq_getElem_cons h, List.find?_cons, hp]
theorem findP_next {α : Type} {p : α → Bool} {l : List α} {i : Nat} (h : i < l.length) (hno : (l.take i).find? p = none) (hp : p l[i] = false) : (l.take (i + 1)).find? p = none := by
  rw [List.take_add_one, List.find?_append, hno, List.getElem?_eq_getElem h]
  simp [hp]
theorem kindM_mem {S : Sc} {n : Int} {i : Nat} (h : i < S.kinds.length) : kindM S n i ∈ S.kinds := by
  have hw := wi_range (IntKind.i64.wrap (n + (i : Int))) (n := S.kinds.length) (by omega)
  have hlt : (wi (IntKind.i64.wrap (n + (i : Int))) S.kinds.length).toNat < S.kinds.length := by omega
  unfold kindM
  rw [List.getD_eq_getElem?_getD, List.getElem?_eq_getElem hlt]
  exact List.getElem_mem hlt
theorem hasS_mem {S : Sc} {k : Kd} (h : k ∈ S.kinds) : hasS S.kinds k.name = true := by
  unfold hasS
  rw [List.any_eq_true]
  exact ⟨k, h, by simp⟩
theorem build_st0 {S : Sc} {p a r : Str} {d : Nat} {sub : Ty → Rw → Ex} {t : Ty} {w : Rw} (hd : d < 1000) (hS : ScM S) (hkl : S.kinds.length ≤ 1000) (ht : TyK S t) (hp : hasS S.kinds p = true) (hr : hasS S.kinds r = true) (hsub : SubAC S p a r d sub) (hw : w.ok) :
    AC Try.prog 50 [.agg S.c, .agg [.str p, .str a, .str r], .agg t.c, .agg w.c, .int .i64 ((d + 1 : Nat) : Int)] st0 fun v s => ∃ x, Pur s true v x ∧ x = .agg (buildX S p r sub t w).c := by
  have hkid : ∀ (i : Nat), i < 1000 → ∀ σ, AC Try.prog 68 [.agg w.c, .int .i64 i] σ fun v s => s = σ ∧ v = .agg (kidM w i).c := fun i hi σ => kid_ac hw hi
  have hk0 := hkid 0 (by decide)
  have hk1 := hkid 1 (by decide)
  have hk2 := hkid 2 (by decide)
  have hTr : ∀ k σ, AC Try.prog 69 [.agg (mkC S p a r d), .agg w.c, .int .i64 k] σ fun v s => s = σ ∧ v = .agg (truthX p r sub w k).c := fun k σ => truthM_ac hp hr hsub hw
  have oo := fun i => kidM_ok hw i
  have eB0 := fun σ => hsub tB (kidM w 0) σ (tyK_B S) (oo 0)
  have eL0 := fun σ => hsub tL (kidM w 0) σ (tyK_L S) (oo 0)
  have eL1 := fun σ => hsub tL (kidM w 1) σ (tyK_L S) (oo 1)
  have eT1 := fun σ => hsub t (kidM w 1) σ ht (oo 1)
  have eT2 := fun σ => hsub t (kidM w 2) σ ht (oo 2)
  have eF0 := fun (k : Kd) (hk : k ∈ S.kinds) σ => hsub (tU k.name) (kidM w 0) σ (tyK_U (hasS_mem hk)) (oo 0)
  have eE := fun (h5 : t.kind = 5) i σ => hsub ⟨t.of_, 0, t.name⟩ (kidM w i) σ (by
    rcases ht with h | ⟨_, h⟩
    · have := h.k; omega
    · exact .inl h) (oo i)
  clear hsub
  have hmost : Most = 9223372036854775807 := rfl
  obtain ⟨wo, wn, wsx, wk⟩ := w
  rw [buildX]
  generalize hkw : kidM (.mk wo wn wsx wk) = KW at *
  simp only [Rw.c_eq, mkC_eq, Ty.c_eq, ints_eq, slc_eq, tB_c, tL_c, tS_c, tU_c, Sc.c_eq] at hkid hk0 hk1 hk2 hTr eB0 eL0 eL1 eT1 eT2 eF0 eE ⊢
  have sg := scSeg S
  try simp only [slc_eq] at sg
  have hwd : IntKind.i64.wrap (((d + 1 : Nat) : Int) - 1) = ((d : Nat) : Int) := by rw [show (((d + 1 : Nat) : Int) - 1) = ((d : Nat) : Int) by omega]; exact wrap64 (by omega) (by omega)
  have hwr := wi_range wo (n := 12) (by decide)
  refine ac_wp fn50 cf50 cl50 rfl ?_
  simp only [ac50]
  unfold ab50
  simp only [wpC_seq, wpC_skip, wpCK_normal]
  refine w_mid (fun ρ s => ρ.rd 4 = .int .i64 ((d + 1 : Nat) : Int) ∧ ρ.rd 5 = .ptr 0 0 ∧ ρ.rd 6 = .ptr 1 0 ∧ ρ.rd 7 = .ptr 2 0 ∧ ρ.rd 8 = .ptr 3 0 ∧ ρ.rd 10 = .ptr 4 0 ∧ s.cells 0 = some [.psl (rowc Kd.c S.kinds) 0 S.kinds.length, .psl (rowc Ac.c S.acts) 0 S.acts.length] ∧ s.cells 1 = some [.str p, .str a, .str r] ∧ s.cells 2 = some [.int .i64 t.kind, .int .i64 t.of_, .str t.name] ∧ s.cells 3 = some [.int .i64 wo, .int .i64 wn, .psl (ofInts wsx) 0 wsx.length, .psl (rowc Rw.c wk) 0 wk.length] ∧ s.cells 4 = some [.int .i64 0, .bool false, .int .i64 0, .str [], .str [], .str [], .nils] ∧ s.n = 5) ?_ ?_
  · simp only [WU, seval, strs_eq]
  rintro ρ s ⟨h4, h5, h6, h7, h8, h10, c0, c1, c2, c3, c4, hn⟩
  rw [wpC_seq]
  refine w_mid (fun ρ s => ρ.rd 5 = .ptr 0 0 ∧ ρ.rd 7 = .ptr 2 0 ∧ ρ.rd 8 = .ptr 3 0 ∧ ρ.rd 10 = .ptr 4 0 ∧ ρ.rd 11 = .ptr 5 0 ∧ s.cells 0 = some [.psl (rowc Kd.c S.kinds) 0 S.kinds.length, .psl (rowc Ac.c S.acts) 0 S.acts.length] ∧ s.cells 2 = some [.int .i64 t.kind, .int .i64 t.of_, .str t.name] ∧ s.cells 3 = some [.int .i64 wo, .int .i64 wn, .psl (ofInts wsx) 0 wsx.length, .psl (rowc Rw.c wk) 0 wk.length] ∧ s.cells 4 = some [.int .i64 0, .bool false, .int .i64 0, .str [], .str [], .str [], .nils] ∧ s.cells 5 = some [.psl (rowc Kd.c S.kinds) 0 S.kinds.length, .psl (rowc Ac.c S.acts) 0 S.acts.length, .str p, .str a, .str r, .int .i64 d] ∧ s.n = 6) ?_ ?_
  · simp only [WU, seval, strs_eq, h4, h5, h6, h7, h8, h10, c0, c1, c2, c3, c4, hn, hwd, sg, sg03, storeA, sets, setx, TS]
  clear h4 h5 h6 h7 h8 h10 c0 c1 c2 c3 c4 hn
  rintro ρ s ⟨h5, h7, h8, h10, h11, c0, c2, c3, c4, c5, hn⟩
  rw [wpC_seq]
  refine w_mid (fun ρ s => ρ.rd 5 = .ptr 0 0 ∧ ρ.rd 7 = .ptr 2 0 ∧ ρ.rd 8 = .ptr 3 0 ∧ ρ.rd 10 = .ptr 4 0 ∧ ρ.rd 11 = .ptr 5 0 ∧ ρ.rd 12 = .ptr 6 0 ∧ ρ.rd 13 = .ptr 7 0 ∧ s.cells 0 = some [.psl (rowc Kd.c S.kinds) 0 S.kinds.length, .psl (rowc Ac.c S.acts) 0 S.acts.length] ∧ s.cells 2 = some [.int .i64 t.kind, .int .i64 t.of_, .str t.name] ∧ s.cells 3 = some [.int .i64 wo, .int .i64 wn, .psl (ofInts wsx) 0 wsx.length, .psl (rowc Rw.c wk) 0 wk.length] ∧ s.cells 4 = some [.int .i64 0, .bool false, .int .i64 0, .str [], .str [], .str [], .nils] ∧ s.cells 5 = some [.psl (rowc Kd.c S.kinds) 0 S.kinds.length, .psl (rowc Ac.c S.acts) 0 S.acts.length, .str p, .str a, .str r, .int .i64 d] ∧ s.cells 6 = some [.int .i64 2, .int .i64 0, .str []] ∧ s.cells 7 = some [.int .i64 1, .int .i64 0, .str []] ∧ s.n = 8) ?_ ?_
  · simp only [WU, seval, strs_eq, h5, h7, h8, h10, h11, c0, c2, c3, c4, c5, hn, storeA, sets, setx, TS]
  clear h5 h7 h8 h10 h11 c0 c2 c3 c4 c5 hn
  rintro ρ s ⟨h5, h7, h8, h10, h11, h12, h13, c0, c2, c3, c4, c5, c6, c7, hn⟩
  rw [wpC_seq]
  rw [wpC_seq]
  refine w_mid (fun ρ s => ρ.rd 5 = .ptr 0 0 ∧ ρ.rd 7 = .ptr 2 0 ∧ ρ.rd 8 = .ptr 3 0 ∧ ρ.rd 10 = .ptr 4 0 ∧ ρ.rd 11 = .ptr 5 0 ∧ ρ.rd 12 = .ptr 6 0 ∧ ρ.rd 13 = .ptr 7 0 ∧ s.cells 0 = some [.psl (rowc Kd.c S.kinds) 0 S.kinds.length, .psl (rowc Ac.c S.acts) 0 S.acts.length] ∧ s.cells 2 = some [.int .i64 t.kind, .int .i64 t.of_, .str t.name] ∧ s.cells 3 = some [.int .i64 wo, .int .i64 wn, .psl (ofInts wsx) 0 wsx.length, .psl (rowc Rw.c wk) 0 wk.length] ∧ s.cells 4 = some [.int .i64 0, .bool false, .int .i64 0, .str [], .str [], .str [], .nils] ∧ s.cells 5 = some [.psl (rowc Kd.c S.kinds) 0 S.kinds.length, .psl (rowc Ac.c S.acts) 0 S.acts.length, .str p, .str a, .str r, .int .i64 d] ∧ s.cells 6 = some [.int .i64 2, .int .i64 0, .str []] ∧ s.cells 7 = some [.int .i64 1, .int .i64 0, .str []] ∧ s.n = 8 ∧ ρ.rd 14 = .int .i64 (wi wo 12)) ?_ ?_
  · simp only [WU, seval, strs_eq, h5, h7, h8, h10, h11, h12, h13, c0, c2, c3, c4, c5, c6, c7]
    refine (within11_ac (by decide) (by decide)).use ?_
    simp only [WU, seval, strs_eq, h5, h7, h8, h10, h11, h12, h13, c0, c2, c3, c4, c5, c6, c7, hn]
  clear h5 h7 h8 h10 h11 h12 h13 c0 c2 c3 c4 c5 c6 c7 hn
  rintro ρ s ⟨h5, h7, h8, h10, h11, h12, h13, c0, c2, c3, c4, c5, c6, c7, hn, h14⟩

  by_cases y0 : (wi wo 12) = 0
  · rw [if_pos y0]
    generalize sub tB (KW 0) = E0 at *
    generalize sub t (KW 1) = E1 at *
    generalize sub t (KW 2) = E2 at *
    have r0 := Ex.c_len E0
    have r1 := Ex.c_len E1
    have r2 := Ex.c_len E2
    have hpl := fun (σ : AState) (q : Nat) (h : σ.cells q = some (rowc Ex.c [E0, E1, E2])) => pur_lits (op := 25) (b := false) (n := 0) (s := []) (u := []) (v := []) (cap := some 3) (m := 3) (l := [E0, E1, E2]) rfl h
    obtain ⟨op0, b0, n0, s0, u0, v0, kk0⟩ := E0
    obtain ⟨op1, b1, n1, s1, u1, v1, kk1⟩ := E1
    obtain ⟨op2, b2, n2, s2, u2, v2, kk2⟩ := E2
    simp only [row1, row2, row3, Ex.c_eq, slc_eq, List.cons_append, List.nil_append] at eB0 eT1 eT2 hpl ⊢
    simp only [WU, seval, strs_eq, h5, h7, h8, h10, h11, h12, h13, c0, c2, c3, c4, c5, c6, c7, h14, y0]
    refine w_dreg follow [] rfl ?_
    have k0 : (addSlots s.n 18 s []).cells 0 = _ := c0
    have k2 : (addSlots s.n 18 s []).cells 2 = _ := c2
    have k3 : (addSlots s.n 18 s []).cells 3 = _ := c3
    have k4 : (addSlots s.n 18 s []).cells 4 = _ := c4
    have k5 : (addSlots s.n 18 s []).cells 5 = _ := c5
    have k6 : (addSlots s.n 18 s []).cells 6 = _ := c6
    have k7 : (addSlots s.n 18 s []).cells 7 = _ := c7
    have kn : (addSlots s.n 18 s []).n = 26 := by show s.n + 18 = _; omega
    generalize addSlots s.n 18 s [] = s1 at *
    simp only [WU, seval, strs_eq, DU, h5, h7, h8, h10, h11, h12, h13, k0, k2, k3, k4, k5, k6, k7, kn, sg06, sg04, sg03]
    refine (hk0 _).useD ?_
    simp only [WU, seval, strs_eq, DU, h5, h7, h8, h10, h11, h12, h13, k0, k2, k3, k4, k5, k6, k7, kn, sg06, sg04, sg03, fillA, put_n, storeA, sets, setx, TS]
    refine (eB0 _).useD ?_
    simp only [WU, seval, strs_eq, DU, h5, h7, h8, h10, h11, h12, h13, k0, k2, k3, k4, k5, k6, k7, kn, sg06, sg04, sg03, fillA, put_n, storeA, sets, setx, TS]
    refine (hk1 _).useD ?_
    simp only [WU, seval, strs_eq, DU, h5, h7, h8, h10, h11, h12, h13, k0, k2, k3, k4, k5, k6, k7, kn, sg06, sg04, sg03, fillA, put_n, storeA, sets, setx, TS]
    refine (eT1 _).useD ?_
    simp only [WU, seval, strs_eq, DU, h5, h7, h8, h10, h11, h12, h13, k0, k2, k3, k4, k5, k6, k7, kn, sg06, sg04, sg03, fillA, put_n, storeA, sets, setx, TS]
    refine (hk2 _).useD ?_
    simp only [WU, seval, strs_eq, DU, h5, h7, h8, h10, h11, h12, h13, k0, k2, k3, k4, k5, k6, k7, kn, sg06, sg04, sg03, fillA, put_n, storeA, sets, setx, TS]
    refine (eT2 _).useD ?_
    simp only [WU, seval, strs_eq, DU, h5, h7, h8, h10, h11, h12, h13, k0, k2, k3, k4, k5, k6, k7, kn, sg06, sg04, sg03, fillA, put_n, storeA, sets, setx, TS]
    refine ⟨⟨?_, ?_⟩, ?_⟩
    · intro l hl c hc hf
      simp only [List.mem_cons, List.mem_nil_iff, List.not_mem_nil, or_false] at hl hc
      rcases hl with rfl | rfl | rfl | rfl | rfl | rfl | rfl | rfl | rfl <;> rcases hc with rfl | rfl | rfl | rfl | rfl | rfl | rfl | rfl | rfl <;> dsimp only at hf ⊢ <;> first
        | (exact absurd hf (by decide +kernel))
        | (simp only [WU, seval, strs_eq, h5, h7, h8, h10, h11, h12, h13, k0, k2, k3, k4, k5, k6, k7, kn, sg06, sg04, sg03, put_n]; done)
    · intro sl hsl; simp at hsl
    · simp only [WU, seval, strs_eq, h10, k4, kn, sg07, fillA, storeA, sets, setx, TS]
      exact ⟨_, hpl _ _ (by first | (simp [put_get, push_get, kn]; done) | (simp [put_get, push_get, kn, cb]; done)), rfl⟩
  rw [if_neg y0]
  by_cases y3 : (wi wo 12) ≤ 3
  · rw [if_pos y3]
    simp only [WU, seval, strs_eq, h5, h7, h8, h10, h11, h12, h13, c0, c2, c3, c4, c5, c6, c7, h14, y0, y3]
    refine w_for (fun i ρ s => ρ.rd 15 = .int .i64 i ∧ ρ.rd 5 = .ptr 0 0 ∧ ρ.rd 7 = .ptr 2 0 ∧ ρ.rd 8 = .ptr 3 0 ∧ ρ.rd 10 = .ptr 4 0 ∧ ρ.rd 11 = .ptr 5 0 ∧ ρ.rd 12 = .ptr 6 0 ∧ ρ.rd 13 = .ptr 7 0 ∧ s.cells 0 = some [.psl (rowc Kd.c S.kinds) 0 S.kinds.length, .psl (rowc Ac.c S.acts) 0 S.acts.length] ∧ s.cells 2 = some [.int .i64 t.kind, .int .i64 t.of_, .str t.name] ∧ s.cells 3 = some [.int .i64 wo, .int .i64 wn, .psl (ofInts wsx) 0 wsx.length, .psl (rowc Rw.c wk) 0 wk.length] ∧ s.cells 4 = some [.int .i64 0, .bool false, .int .i64 0, .str [], .str [], .str [], .nils] ∧ s.cells 5 = some [.psl (rowc Kd.c S.kinds) 0 S.kinds.length, .psl (rowc Ac.c S.acts) 0 S.acts.length, .str p, .str a, .str r, .int .i64 d] ∧ s.cells 6 = some [.int .i64 2, .int .i64 0, .str []] ∧ s.cells 7 = some [.int .i64 1, .int .i64 0, .str []] ∧ 8 ≤ s.n ∧ ∀ i', i' < i → fldM t (kindM S wn i') = none) S.kinds.length ?_ ?_
    · simp only [WU, seval, strs_eq, h5, h7, h8, h10, h11, h12, h13, c0, c2, c3, c4, c5, c6, c7, hn, h14]
      first | done | exact ⟨rfl, fun i' h => absurd h (by omega)⟩ | exact fun i' h => absurd h (by omega)
    clear h5 h7 h8 h10 h11 h12 h13 c0 c2 c3 c4 c5 c6 c7 hn h14
    rintro i ρ s hi ⟨h15, h5, h7, h8, h10, h11, h12, h13, c0, c2, c3, c4, c5, c6, c7, hn8, hno⟩
    by_cases hlt : i < S.kinds.length
    rotate_left
    · have : i = S.kinds.length := by omega
      subst this
      have hge : ¬ ((S.kinds.length : Nat) : Int) < ((S.kinds.length : Nat) : Int) := by omega
      have hfm : fieldM S wn t = none := fs_none fun i hi => by rw [hno i hi]; rfl
      rw [hfm]
      simp only [WU, seval, strs_eq, h15, h5, h7, h8, h10, h11, h12, h13, c0, c2, c3, c4, c5, c6, c7, hn8, hge, sg07, storeA, sets, setx, TS]
      exact ⟨_, pur_leafX, rfl⟩
    have hlt' : ((i : Nat) : Int) < ((S.kinds.length : Nat) : Int) := by omega
    have hwi : IntKind.i64.wrap ((i : Int) + 1) = ((i + 1 : Nat) : Int) := wrap_succ (by omega)
    have hwk := wi_range (IntKind.i64.wrap (wn + (i : Int))) (n := S.kinds.length) (by omega)
    obtain ⟨kk, hkk⟩ : ∃ kk : Nat, wi (IntKind.i64.wrap (wn + (i : Int))) S.kinds.length = kk := ⟨(wi (IntKind.i64.wrap (wn + (i : Int))) S.kinds.length).toNat, by omega⟩
    have hW : ∀ σ, AC Try.prog 21 [.int .i64 (IntKind.i64.wrap (wn + (i : Int))), .int .i64 S.kinds.length] σ fun v s' => s' = σ ∧ v = .int .i64 kk := fun σ => by
      have := within11_ac (n := IntKind.i64.wrap (wn + (i : Int))) (k := S.kinds.length) (σ := σ) (by omega) (by omega)
      rw [hkk] at this; exact this
    have hkl : kk < S.kinds.length := by omega
    have hKM : kindM S wn i = S.kinds[kk] := by
      unfold kindM
      rw [hkk, Int.toNat_natCast, List.getD_eq_getElem?_getD, List.getElem?_eq_getElem hkl]; rfl
    have hrk := lt_idx hkl
    have A := kdAt hkl
    have hfit := A.fit
    have hall := A.all
    have hmem := List.getElem_mem hkl
    have hKG := hS.k _ hmem
    generalize S.kinds[kk] = K at *
    clear A
    simp only [strs_eq, slc_eq] at hall
    simp only [WU, seval, strs_eq, h15, h5, h7, h8, h10, h11, h12, h13, c0, c2, c3, c4, c5, c6, c7, hn8, hlt']
    refine w_dreg follow [(12, [.str [], .nils, .nils])] rfl ?_
    have g12 := slots_get (s := s) (m := 14) [(12, [.str [], .nils, .nils])] 12 _ rfl
    have k0 := (slots_old (m := 14) [(12, [.str [], .nils, .nils])] (b := 0) (by omega)).trans c0
    have k2 := (slots_old (m := 14) [(12, [.str [], .nils, .nils])] (b := 2) (by omega)).trans c2
    have k3 := (slots_old (m := 14) [(12, [.str [], .nils, .nils])] (b := 3) (by omega)).trans c3
    have k4 := (slots_old (m := 14) [(12, [.str [], .nils, .nils])] (b := 4) (by omega)).trans c4
    have k5 := (slots_old (m := 14) [(12, [.str [], .nils, .nils])] (b := 5) (by omega)).trans c5
    have k6 := (slots_old (m := 14) [(12, [.str [], .nils, .nils])] (b := 6) (by omega)).trans c6
    have k7 := (slots_old (m := 14) [(12, [.str [], .nils, .nils])] (b := 7) (by omega)).trans c7
    have hnA : (addSlots s.n 14 s [(12, [.str [], .nils, .nils])]).n = s.n + 14 := rfl
    generalize addSlots s.n 14 s [(12, [.str [], .nils, .nils])] = s1 at *
    have k12 := cells_of g12
    have q0 : ¬ 0 = s.n + 12 := by omega
    have q2 : ¬ 2 = s.n + 12 := by omega
    have q3 : ¬ 3 = s.n + 12 := by omega
    have q4 : ¬ 4 = s.n + 12 := by omega
    have q5 : ¬ 5 = s.n + 12 := by omega
    have q6 : ¬ 6 = s.n + 12 := by omega
    have q7 : ¬ 7 = s.n + 12 := by omega
    simp only [WU, seval, strs_eq, DU, h15, h5, h7, h8, h10, h11, h12, h13, k0, k3]
    refine (hW _).useD ?_
    simp only [WU, seval, strs_eq, DU, h15, h5, h7, h8, h10, h11, h12, h13, k0, k3, k12, hrk, hfit, hall, storeA, sets, setx, TS]
    refine ⟨⟨?_, ?_⟩, ?_⟩
    · intro l hl c hc hf
      simp only [List.mem_cons, List.mem_nil_iff, List.not_mem_nil, or_false] at hl hc
      rcases hl with rfl | rfl | rfl | rfl <;> rcases hc with rfl | rfl | rfl <;> dsimp only at hf ⊢ <;> first
        | (exact absurd hf (by decide +kernel))
        | (simp only [WU, seval, strs_eq, h15, h5, h7, h8, h10, h11, h12, h13, k0, k3, q0, q3, hfit, hall]; done)
    · intro sl hsl c hc hf
      simp only [List.mem_cons, List.mem_nil_iff, List.not_mem_nil, or_false] at hsl hc
      subst hsl
      rcases hc with rfl | rfl | rfl <;> dsimp only at hf ⊢ <;> first
        | (exact absurd hf (by decide +kernel))
        | (exact ⟨by omega, g12⟩)
    have hn1 : 8 ≤ s1.n := by omega
    have hqn1 : s.n + 12 < s1.n := by omega
    have hfl := hKG.fl
    refine w_for (fun j ρ s' => ρ.rd 17 = .int .i64 j ∧ ρ.rd 15 = .int .i64 i ∧ ρ.rd 16 = .ptr (s.n + 12) 0 ∧ s'.cells (s.n + 12) = some [.str K.name, .psl (K.parents.map .str) 0 K.parents.length, .psl (rowc Fl.c K.fields) 0 K.fields.length] ∧ ρ.rd 5 = .ptr 0 0 ∧ ρ.rd 7 = .ptr 2 0 ∧ ρ.rd 8 = .ptr 3 0 ∧ ρ.rd 10 = .ptr 4 0 ∧ ρ.rd 11 = .ptr 5 0 ∧ ρ.rd 12 = .ptr 6 0 ∧ ρ.rd 13 = .ptr 7 0 ∧ s'.cells 0 = some [.psl (rowc Kd.c S.kinds) 0 S.kinds.length, .psl (rowc Ac.c S.acts) 0 S.acts.length] ∧ s'.cells 2 = some [.int .i64 t.kind, .int .i64 t.of_, .str t.name] ∧ s'.cells 3 = some [.int .i64 wo, .int .i64 wn, .psl (ofInts wsx) 0 wsx.length, .psl (rowc Rw.c wk) 0 wk.length] ∧ s'.cells 4 = some [.int .i64 0, .bool false, .int .i64 0, .str [], .str [], .str [], .nils] ∧ s'.cells 5 = some [.psl (rowc Kd.c S.kinds) 0 S.kinds.length, .psl (rowc Ac.c S.acts) 0 S.acts.length, .str p, .str a, .str r, .int .i64 d] ∧ s'.cells 6 = some [.int .i64 2, .int .i64 0, .str []] ∧ s'.cells 7 = some [.int .i64 1, .int .i64 0, .str []] ∧ 8 ≤ s'.n ∧ s.n + 12 < s'.n ∧ (K.fields.take j).find? (fun f => decide (f.ty = t)) = none) K.fields.length ?_ ?_
    · simp only [WU, seval, strs_eq, h15, h5, h7, h8, h10, h11, h12, h13, k0, k2, k3, k4, k5, k6, k7, q0, q2, q3, q4, q5, q6, q7, hn1, hqn1, List.take_zero, List.find?_nil]
      try first | done | rfl | exact ⟨rfl, rfl⟩ | exact ⟨rfl, rfl, rfl⟩ | simp
    clear h15 h5 h7 h8 h10 h11 h12 h13 c0 c2 c3 c4 c5 c6 c7 k0 k2 k3 k4 k5 k6 k7
    rintro j ρ s' hj ⟨h17, h15, h16, cq, h5, h7, h8, h10, h11, h12, h13, c0, c2, c3, c4, c5, c6, c7, hn8', hqn, hnf⟩
    by_cases hjl : j < K.fields.length
    rotate_left
    · have : j = K.fields.length := by omega
      subst this
      have hge : ¬ ((K.fields.length : Nat) : Int) < ((K.fields.length : Nat) : Int) := by omega
      rw [List.take_length] at hnf
      simp only [WU, seval, strs_eq, h17, h15, h16, cq, h5, h7, h8, h10, h11, h12, h13, c0, c2, c3, c4, c5, c6, c7, hge, hwi]
      refine ⟨hlt, hn8', fun i' h => ?_⟩
      by_cases hi' : i' < i
      · exact hno i' hi'
      · have : i' = i := by omega
        subst this
        rw [hKM]; unfold fldM; rw [hnf]; rfl
    have hrj := lt_idx hjl
    have hjl' := hrj.2
    have hwj : IntKind.i64.wrap ((j : Int) + 1) = ((j + 1 : Nat) : Int) := wrap_succ (by omega)
    have A := flAt hjl
    have hE := eqTys K.fields[j].ty t
    by_cases hty : K.fields[j].ty = t
    rotate_left
    · rw [decide_eq_false hty] at hE
      have hnx := findP_next (p := fun f : Fl => decide (f.ty = t)) hjl hnf (by simpa using hty)
      simp only [WU, seval, strs_eq, h17, h15, h16, cq, h5, h7, h8, h10, h11, h12, h13, c0, c2, c3, c4, c5, c6, c7, hjl']
      refine w_dreg0 follow ?_ rfl
      have hn9 : 8 ≤ (addSlots s'.n 8 s' []).n := by simp only [addSlots]; omega
      have hq9 : s.n + 12 < (addSlots s'.n 8 s' []).n := by simp only [addSlots]; omega
      simp only [WU, seval, strs_eq, h17, h15, h16, cq, h5, h7, h8, h10, h11, h12, h13, c0, c2, c3, c4, c5, c6, c7, sl_cells, hrj, A.fit1, A.ty, sg03, evalEq, hE, hwj]
      exact ⟨hjl, hn9, hq9, hnx⟩
    rw [decide_eq_true hty] at hE
    have hfm : fieldM S wn t = some (K.fields[j].name, K.name) := by
      refine fs_hit hlt (fun i' h => by rw [hno i' h]; rfl) ?_
      rw [hKM]
      unfold fldM
      rw [findP_take (p := fun f : Fl => decide (f.ty = t)) hjl hnf (by simpa using hty)]; rfl
    rw [hfm]
    dsimp only
    have eF := eF0 K hmem
    generalize sub (tU K.name) (KW 0) = E0 at *
    have r0 := Ex.c_len E0
    have hpl := fun (σ : AState) (q : Nat) (h : σ.cells q = some (rowc Ex.c [E0])) => pur_lits (op := 7) (b := false) (n := 0) (s := K.fields[j].name) (u := []) (v := []) (cap := some 1) (m := 1) (l := [E0]) rfl h
    obtain ⟨op0, b0, n0, s0, u0, v0, kk0⟩ := E0
    simp only [row1, Ex.c_eq, slc_eq] at eF hpl ⊢
    simp only [WU, seval, strs_eq, h17, h15, h16, cq, h5, h7, h8, h10, h11, h12, h13, c0, c2, c3, c4, c5, c6, c7, hjl']
    refine w_dreg0 follow ?_ rfl
    simp only [WU, seval, strs_eq, h17, h15, h16, cq, h5, h7, h8, h10, h11, h12, h13, c0, c2, c3, c4, c5, c6, c7, sl_cells, hrj, A.fit1, A.ty, sg03, evalEq, hE]
    refine w_dreg follow [] rfl ?_
    generalize hs2 : addSlots _ 16 _ [] = s2
    have e2 : s2.cells 2 = some [.int .i64 t.kind, .int .i64 t.of_, .str t.name] := by rw [← hs2, sl_cells, sl_cells]; exact c2
    have e3 : s2.cells 3 = some [.int .i64 wo, .int .i64 wn, .psl (ofInts wsx) 0 wsx.length, .psl (rowc Rw.c wk) 0 wk.length] := by rw [← hs2, sl_cells, sl_cells]; exact c3
    have e4 : s2.cells 4 = some [.int .i64 0, .bool false, .int .i64 0, .str [], .str [], .str [], .nils] := by rw [← hs2, sl_cells, sl_cells]; exact c4
    have e5 : s2.cells 5 = some [.psl (rowc Kd.c S.kinds) 0 S.kinds.length, .psl (rowc Ac.c S.acts) 0 S.acts.length, .str p, .str a, .str r, .int .i64 d] := by rw [← hs2, sl_cells, sl_cells]; exact c5
    have eq : s2.cells (s.n + 12) = some [.str K.name, .psl (K.parents.map .str) 0 K.parents.length, .psl (rowc Fl.c K.fields) 0 K.fields.length] := by rw [← hs2, sl_cells, sl_cells]; exact cq
    have en : s2.n = s'.n + 8 + 16 := by rw [← hs2]; rfl
    have en4 : ¬ 4 = s2.n := by omega
    have en3 : ¬ 3 = s2.n := by omega
    have en5 : ¬ 5 = s2.n := by omega
    have enq : ¬ s.n + 12 = s2.n := by omega
    clear hs2
    simp only [WU, seval, strs_eq, DU, h17, h16, h5, h7, h8, h10, h11, h12, h13, eq, hrj, A.g0, e3, e5, sg06, sg04, sg03]
    refine (hk0 _).useD ?_
    simp only [WU, seval, strs_eq, DU, h17, h16, h5, h7, h8, h10, h11, h12, h13, eq, hrj, A.g0, e3, e5, sg06, sg04, sg03]
    refine (eF _).useD ?_
    simp only [WU, seval, strs_eq, DU, h10, e4, en4, fillA, storeA, sets, setx, TS]
    refine ⟨⟨?_, ?_⟩, ?_⟩
    · intro l hl c hc hf
      simp only [List.mem_cons, List.mem_nil_iff, List.not_mem_nil, or_false] at hl hc
      rcases hl with rfl | rfl | rfl | rfl | rfl <;> rcases hc with rfl | rfl | rfl | rfl | rfl <;> dsimp only at hf ⊢ <;> first
        | (exact absurd hf (by decide +kernel))
        | (simp only [WU, seval, strs_eq, h17, h16, h5, h7, h8, h10, h11, h12, h13, eq, hrj, A.g0, e3, e5, en3, en5, enq, sg06, sg04, sg03]; done)
    · intro sl hsl; simp at hsl
    · simp only [WU, seval, strs_eq, h10, e4, en4, sg07, fillA, storeA, sets, setx, TS]
      exact ⟨_, hpl _ _ (by rw [put_get, if_neg (by omega), push_get, if_pos rfl]), rfl⟩
  rw [if_neg y3]
  by_cases z2 : t.kind = 2
  · by_cases y8 : (wi wo 12) ≤ 8
    · rw [if_pos ⟨z2, y8⟩]
      have hw3 := wi_range wn (n := 3) (by decide)
      obtain ⟨m, hm⟩ : ∃ m : Nat, wi wn 3 = m := ⟨(wi wn 3).toNat, by omega⟩
      have hW : ∀ σ, AC Try.prog 21 [.int .i64 wn, .int .i64 3] σ fun v s => s = σ ∧ v = .int .i64 m := fun σ => by
        have := within11_ac (n := wn) (k := 3) (σ := σ) (by decide) (by decide)
        rw [hm] at this; exact this
      rw [hm] at hw3 ⊢
      have hrm : (0 : Int) ≤ (m : Int) ∧ (m : Int) < 3 := by omega
      have hgm : [AV.int .i64 14, .int .i64 15, .int .i64 13][m]? = some (.int .i64 (opM m)) := by
        have : m = 0 ∨ m = 1 ∨ m = 2 := by omega
        rcases this with e | e | e <;> subst e <;> rfl
      generalize opM m = OP at *
      generalize sub tL (KW 0) = E0 at *
      generalize sub tL (KW 1) = E1 at *
      have r0 := Ex.c_len E0
      have r1 := Ex.c_len E1
      have hpl := fun (σ : AState) (q : Nat) (h : σ.cells q = some (rowc Ex.c [E0, E1])) => pur_lits (op := OP) (b := false) (n := 0) (s := []) (u := []) (v := []) (cap := some 2) (m := 2) (l := [E0, E1]) rfl h
      obtain ⟨op0, b0, n0, s0, u0, v0, kk0⟩ := E0
      obtain ⟨op1, b1, n1, s1, u1, v1, kk1⟩ := E1
      simp only [row1, row2, row3, Ex.c_eq, slc_eq, List.cons_append, List.nil_append] at eL0 eL1 hpl ⊢
      simp only [WU, seval, strs_eq, h5, h7, h8, h10, h11, h12, h13, c0, c2, c3, c4, c5, c6, c7, h14, y0, y3, z2, y8]
      refine w_dreg follow [(0, [.int .i64 14, .int .i64 15, .int .i64 13]), (16, [.int .i64 op0, .bool b0, .int .i64 n0, .str s0, .str u0, .str v0, .psl (rowc Ex.c kk0) 0 kk0.length, .int .i64 op1, .bool b1, .int .i64 n1, .str s1, .str u1, .str v1, .psl (rowc Ex.c kk1) 0 kk1.length])] rfl ?_
      have ga := slots_get (s := s) (m := 19) [(0, [.int .i64 14, .int .i64 15, .int .i64 13]), (16, [.int .i64 op0, .bool b0, .int .i64 n0, .str s0, .str u0, .str v0, .psl (rowc Ex.c kk0) 0 kk0.length, .int .i64 op1, .bool b1, .int .i64 n1, .str s1, .str u1, .str v1, .psl (rowc Ex.c kk1) 0 kk1.length])] 0 _ rfl
      have gb := slots_get (s := s) (m := 19) [(0, [.int .i64 14, .int .i64 15, .int .i64 13]), (16, [.int .i64 op0, .bool b0, .int .i64 n0, .str s0, .str u0, .str v0, .psl (rowc Ex.c kk0) 0 kk0.length, .int .i64 op1, .bool b1, .int .i64 n1, .str s1, .str u1, .str v1, .psl (rowc Ex.c kk1) 0 kk1.length])] 16 _ rfl
      have k0 := (slots_old (m := 19) [(0, [.int .i64 14, .int .i64 15, .int .i64 13]), (16, [.int .i64 op0, .bool b0, .int .i64 n0, .str s0, .str u0, .str v0, .psl (rowc Ex.c kk0) 0 kk0.length, .int .i64 op1, .bool b1, .int .i64 n1, .str s1, .str u1, .str v1, .psl (rowc Ex.c kk1) 0 kk1.length])] (b := 0) (by omega)).trans c0
      have k2 := (slots_old (m := 19) [(0, [.int .i64 14, .int .i64 15, .int .i64 13]), (16, [.int .i64 op0, .bool b0, .int .i64 n0, .str s0, .str u0, .str v0, .psl (rowc Ex.c kk0) 0 kk0.length, .int .i64 op1, .bool b1, .int .i64 n1, .str s1, .str u1, .str v1, .psl (rowc Ex.c kk1) 0 kk1.length])] (b := 2) (by omega)).trans c2
      have k3 := (slots_old (m := 19) [(0, [.int .i64 14, .int .i64 15, .int .i64 13]), (16, [.int .i64 op0, .bool b0, .int .i64 n0, .str s0, .str u0, .str v0, .psl (rowc Ex.c kk0) 0 kk0.length, .int .i64 op1, .bool b1, .int .i64 n1, .str s1, .str u1, .str v1, .psl (rowc Ex.c kk1) 0 kk1.length])] (b := 3) (by omega)).trans c3
      have k4 := (slots_old (m := 19) [(0, [.int .i64 14, .int .i64 15, .int .i64 13]), (16, [.int .i64 op0, .bool b0, .int .i64 n0, .str s0, .str u0, .str v0, .psl (rowc Ex.c kk0) 0 kk0.length, .int .i64 op1, .bool b1, .int .i64 n1, .str s1, .str u1, .str v1, .psl (rowc Ex.c kk1) 0 kk1.length])] (b := 4) (by omega)).trans c4
      have k5 := (slots_old (m := 19) [(0, [.int .i64 14, .int .i64 15, .int .i64 13]), (16, [.int .i64 op0, .bool b0, .int .i64 n0, .str s0, .str u0, .str v0, .psl (rowc Ex.c kk0) 0 kk0.length, .int .i64 op1, .bool b1, .int .i64 n1, .str s1, .str u1, .str v1, .psl (rowc Ex.c kk1) 0 kk1.length])] (b := 5) (by omega)).trans c5
      have k6 := (slots_old (m := 19) [(0, [.int .i64 14, .int .i64 15, .int .i64 13]), (16, [.int .i64 op0, .bool b0, .int .i64 n0, .str s0, .str u0, .str v0, .psl (rowc Ex.c kk0) 0 kk0.length, .int .i64 op1, .bool b1, .int .i64 n1, .str s1, .str u1, .str v1, .psl (rowc Ex.c kk1) 0 kk1.length])] (b := 6) (by omega)).trans c6
      have k7 := (slots_old (m := 19) [(0, [.int .i64 14, .int .i64 15, .int .i64 13]), (16, [.int .i64 op0, .bool b0, .int .i64 n0, .str s0, .str u0, .str v0, .psl (rowc Ex.c kk0) 0 kk0.length, .int .i64 op1, .bool b1, .int .i64 n1, .str s1, .str u1, .str v1, .psl (rowc Ex.c kk1) 0 kk1.length])] (b := 7) (by omega)).trans c7
      have kn : (addSlots s.n 19 s [(0, [.int .i64 14, .int .i64 15, .int .i64 13]), (16, [.int .i64 op0, .bool b0, .int .i64 n0, .str s0, .str u0, .str v0, .psl (rowc Ex.c kk0) 0 kk0.length, .int .i64 op1, .bool b1, .int .i64 n1, .str s1, .str u1, .str v1, .psl (rowc Ex.c kk1) 0 kk1.length])]).n = 27 := by show s.n + 19 = _; omega
      generalize addSlots s.n 19 s [(0, [.int .i64 14, .int .i64 15, .int .i64 13]), (16, [.int .i64 op0, .bool b0, .int .i64 n0, .str s0, .str u0, .str v0, .psl (rowc Ex.c kk0) 0 kk0.length, .int .i64 op1, .bool b1, .int .i64 n1, .str s1, .str u1, .str v1, .psl (rowc Ex.c kk1) 0 kk1.length])] = s1 at *
      rw [hn] at ga gb ⊢
      simp only [Nat.reduceAdd] at ga gb
      have ca := cells_of ga
      have cb := cells_of gb
      simp only [WU, seval, strs_eq, DU, h5, h7, h8, h10, h11, h12, h13, k0, k2, k3, k4, k5, k6, k7, kn, ca, cb, sg06, sg04, sg03, hrm, hgm]
      refine (hW _).useD ?_
      simp only [WU, seval, strs_eq, DU, h5, h7, h8, h10, h11, h12, h13, k0, k2, k3, k4, k5, k6, k7, kn, ca, cb, sg06, sg04, sg03, fillA, put_n, hrm, hgm, storeA, sets, setx, TS]
      refine (hk0 _).useD ?_
      simp only [WU, seval, strs_eq, DU, h5, h7, h8, h10, h11, h12, h13, k0, k2, k3, k4, k5, k6, k7, kn, ca, cb, sg06, sg04, sg03, fillA, put_n, hrm, hgm, storeA, sets, setx, TS]
      refine (eL0 _).useD ?_
      simp only [WU, seval, strs_eq, DU, h5, h7, h8, h10, h11, h12, h13, k0, k2, k3, k4, k5, k6, k7, kn, ca, cb, sg06, sg04, sg03, fillA, put_n, hrm, hgm, storeA, sets, setx, TS]
      refine (hk1 _).useD ?_
      simp only [WU, seval, strs_eq, DU, h5, h7, h8, h10, h11, h12, h13, k0, k2, k3, k4, k5, k6, k7, kn, ca, cb, sg06, sg04, sg03, fillA, put_n, hrm, hgm, storeA, sets, setx, TS]
      refine (eL1 _).useD ?_
      simp only [WU, seval, strs_eq, DU, h5, h7, h8, h10, h11, h12, h13, k0, k2, k3, k4, k5, k6, k7, kn, ca, cb, sg06, sg04, sg03, fillA, put_n, hrm, hgm, storeA, sets, setx, TS]
      refine ⟨⟨?_, ?_⟩, ?_⟩
      · intro l hl c hc hf
        simp only [List.mem_cons, List.mem_nil_iff, List.not_mem_nil, or_false] at hl hc
        rcases hl with rfl | rfl | rfl | rfl | rfl | rfl | rfl | rfl <;> rcases hc with rfl | rfl | rfl | rfl | rfl | rfl | rfl <;> dsimp only at hf ⊢ <;> first
          | (exact absurd hf (by decide +kernel))
          | (simp only [WU, seval, strs_eq, h5, h7, h8, h10, h11, h12, h13, k0, k2, k3, k4, k5, k6, k7, kn, ca, cb, sg06, sg04, sg03, put_n, hrm, hgm]; done)
      · intro sl hsl c hc hf
        simp only [List.mem_cons, List.mem_nil_iff, List.not_mem_nil, or_false] at hsl hc
        rcases hsl with rfl | rfl <;> rcases hc with rfl | rfl | rfl | rfl | rfl | rfl | rfl <;> dsimp only at hf ⊢ <;> first
          | exact ⟨by omega, ga⟩
          | exact ⟨by simp only [put_n]; omega, (put_h (by omega)).trans ga⟩
          | exact ⟨by omega, gb⟩
          | exact ⟨by simp only [put_n]; omega, (put_h (by omega)).trans gb⟩
          | (exact absurd hf (by decide +kernel))
      · simp only [WU, seval, strs_eq, h10, k4, kn, sg07, fillA, storeA, sets, setx, TS]
        exact ⟨_, hpl _ _ (by first | (simp [put_get, push_get, kn]; done) | (simp [put_get, push_get, kn, cb]; done)), rfl⟩
    rw [if_neg (fun h => y8 h.2)]
    by_cases y9 : (wi wo 12) = 9
    · rw [if_pos ⟨z2, y9⟩]
      generalize sub tL (KW 0) = E0 at *
      have r0 := Ex.c_len E0
      have hpl := fun (σ : AState) (q : Nat) (h : σ.cells q = some (rowc Ex.c [E0])) => pur_lits (op := 12) (b := false) (n := 0) (s := []) (u := []) (v := []) (cap := some 1) (m := 1) (l := [E0]) rfl h
      obtain ⟨op0, b0, n0, s0, u0, v0, kk0⟩ := E0
      simp only [row1, row2, row3, Ex.c_eq, slc_eq, List.cons_append, List.nil_append] at eL0 hpl ⊢
      simp only [WU, seval, strs_eq, h5, h7, h8, h10, h11, h12, h13, c0, c2, c3, c4, c5, c6, c7, h14, decide_eq_false y0, decide_eq_false y3, decide_eq_true z2, decide_eq_false y8, decide_eq_true y9]
      refine w_dreg follow [] rfl ?_
      have k0 : (addSlots s.n 8 s []).cells 0 = _ := c0
      have k2 : (addSlots s.n 8 s []).cells 2 = _ := c2
      have k3 : (addSlots s.n 8 s []).cells 3 = _ := c3
      have k4 : (addSlots s.n 8 s []).cells 4 = _ := c4
      have k5 : (addSlots s.n 8 s []).cells 5 = _ := c5
      have k6 : (addSlots s.n 8 s []).cells 6 = _ := c6
      have k7 : (addSlots s.n 8 s []).cells 7 = _ := c7
      have kn : (addSlots s.n 8 s []).n = 16 := by show s.n + 8 = _; omega
      generalize addSlots s.n 8 s [] = s1 at *
      simp only [WU, seval, strs_eq, DU, h5, h7, h8, h10, h11, h12, h13, k0, k2, k3, k4, k5, k6, k7, kn, sg06, sg04, sg03]
      refine (hk0 _).useD ?_
      simp only [WU, seval, strs_eq, DU, h5, h7, h8, h10, h11, h12, h13, k0, k2, k3, k4, k5, k6, k7, kn, sg06, sg04, sg03, fillA, put_n, storeA, sets, setx, TS]
      refine (eL0 _).useD ?_
      simp only [WU, seval, strs_eq, DU, h5, h7, h8, h10, h11, h12, h13, k0, k2, k3, k4, k5, k6, k7, kn, sg06, sg04, sg03, fillA, put_n, storeA, sets, setx, TS]
      refine ⟨⟨?_, ?_⟩, ?_⟩
      · intro l hl c hc hf
        simp only [List.mem_cons, List.mem_nil_iff, List.not_mem_nil, or_false] at hl hc
        rcases hl with rfl | rfl | rfl <;> rcases hc with rfl | rfl | rfl | rfl | rfl <;> dsimp only at hf ⊢ <;> first
          | (exact absurd hf (by decide +kernel))
          | (simp only [WU, seval, strs_eq, h5, h7, h8, h10, h11, h12, h13, k0, k2, k3, k4, k5, k6, k7, kn, sg06, sg04, sg03, put_n]; done)
      · intro sl hsl; simp at hsl
      · simp only [WU, seval, strs_eq, h10, k4, kn, sg07, fillA, storeA, sets, setx, TS]
        exact ⟨_, hpl _ _ (by first | (simp [put_get, push_get, kn]; done) | (simp [put_get, push_get, kn, cb]; done)), rfl⟩
    rw [if_neg (fun h => y9 h.2), if_neg (by omega), if_neg (by omega)]
    simp only [WU, seval, strs_eq, h5, h7, h8, h10, h11, h12, h13, c0, c2, c3, c4, c5, c6, c7, h14, decide_eq_false y0, decide_eq_false y3, decide_eq_true z2, decide_eq_false y8, decide_eq_false y9, z2, sg07, storeA, sets, setx, TS]
    exact ⟨_, pur_leafX, rfl⟩
  rw [if_neg (fun h => z2 h.1), if_neg (fun h => z2 h.1)]
  by_cases z1 : t.kind = 1
  · rw [if_pos z1]
    have hT := hTr (wi wo 12)
    have hpx := fun σ => pur_ex σ (truthX p r sub (.mk wo wn wsx wk) (wi wo 12))
    generalize truthX p r sub (.mk wo wn wsx wk) (wi wo 12) = E at *
    obtain ⟨op0, b0, n0, s0, u0, v0, kk0⟩ := E
    simp only [Ex.c_eq, slc_eq] at hT hpx ⊢
    simp only [WU, seval, strs_eq, h5, h7, h8, h10, h11, h12, h13, c0, c2, c3, c4, c5, c6, c7, h14, decide_eq_false y0, decide_eq_false y3, decide_eq_false z2, decide_eq_true z1, sg06, sg04]
    refine (hT _).use ?_
    simp only [WU, seval, strs_eq, h5, h7, h8, h10, h11, h12, h13, c0, c2, c3, c4, c5, c6, c7, sg07, storeA, sets, setx, TS]
    exact ⟨_, .agg _ _ rfl (fun j hj hj' => hpx _ _ (List.getElem_mem hj)), rfl⟩
  rw [if_neg z1]
  by_cases z5 : t.kind = 5
  rotate_left
  · rw [if_neg z5]
    simp only [WU, seval, strs_eq, h5, h7, h8, h10, h11, h12, h13, c0, c2, c3, c4, c5, c6, c7, h14, decide_eq_false y0, decide_eq_false y3, decide_eq_false z2, decide_eq_false z1, decide_eq_false z5, sg07, storeA, sets, setx, TS]
    exact ⟨_, pur_leafX, rfl⟩
  rw [if_pos z5]
  have hw3 := wi_range wn (n := 3) (by decide)
  obtain ⟨m, hm⟩ : ∃ m : Nat, wi wn 3 = m := ⟨(wi wn 3).toNat, by omega⟩
  have hW : ∀ σ, AC Try.prog 21 [.int .i64 wn, .int .i64 3] σ fun v s => s = σ ∧ v = .int .i64 m := fun σ => by
    have := within11_ac (n := wn) (k := 3) (σ := σ) (by decide) (by decide)
    rw [hm] at this; exact this
  rw [hm] at hw3 ⊢
  rw [Int.toNat_natCast]
  have hw1 : IntKind.i64.wrap (1 + (m : Int)) = ((1 + m : Nat) : Int) := by rw [wrap64 (by omega) (by omega)]; omega
  have eE := eE z5
  generalize hL : (List.range (1 + m)).map (fun i => sub ⟨t.of_, 0, t.name⟩ (KW i)) = L
  have hLl : L.length = 1 + m := by rw [← hL]; simp
  have hLi : ∀ i (h : i < L.length), L[i] = sub ⟨t.of_, 0, t.name⟩ (KW i) := by
    intro i h
    subst hL
    simp
  simp only [WU, seval, strs_eq, h5, h7, h8, h10, h11, h12, h13, c0, c2, c3, c4, c5, c6, c7, hn, h14, decide_eq_false y0, decide_eq_false y3, decide_eq_false z2, decide_eq_false z1, decide_eq_true z5, storeA, sets, setx, TS]
  refine w_for (fun i ρ s => ρ.rd 19 = .int .i64 i ∧ ρ.rd 18 = .ptr 8 0 ∧ ρ.rd 5 = .ptr 0 0 ∧ ρ.rd 7 = .ptr 2 0 ∧ ρ.rd 8 = .ptr 3 0 ∧ ρ.rd 10 = .ptr 4 0 ∧ ρ.rd 11 = .ptr 5 0 ∧ ρ.rd 12 = .ptr 6 0 ∧ ρ.rd 13 = .ptr 7 0 ∧ s.cells 0 = some [.psl (rowc Kd.c S.kinds) 0 S.kinds.length, .psl (rowc Ac.c S.acts) 0 S.acts.length] ∧ s.cells 2 = some [.int .i64 t.kind, .int .i64 t.of_, .str t.name] ∧ s.cells 3 = some [.int .i64 wo, .int .i64 wn, .psl (ofInts wsx) 0 wsx.length, .psl (rowc Rw.c wk) 0 wk.length] ∧ s.cells 4 = some [.int .i64 0, .bool false, .int .i64 0, .str [], .str [], .str [], .nils] ∧ s.cells 5 = some [.psl (rowc Kd.c S.kinds) 0 S.kinds.length, .psl (rowc Ac.c S.acts) 0 S.acts.length, .str p, .str a, .str r, .int .i64 d] ∧ s.cells 6 = some [.int .i64 2, .int .i64 0, .str []] ∧ s.cells 7 = some [.int .i64 1, .int .i64 0, .str []] ∧ 9 ≤ s.n ∧ ∃ x, s.cells 8 = some [.int .i64 6, .bool false, .int .i64 0, .str [], .str [], .str [], x] ∧ RowP (fun b => 9 ≤ b) s x (rowc Ex.c (L.take i)) i 7) (1 + m) ?_ ?_
  · simp only [WU, seval, strs_eq, h5, h7, h8, h10, h11, h12, h13, c0, c2, c3, c4, c5, c6, c7, hn]
    first | done | exact ⟨rfl, .nils, rfl, RowP.nil _ _ _⟩ | exact ⟨.nils, rfl, RowP.nil _ _ _⟩
  clear h5 h7 h8 h10 h11 h12 h13 c0 c2 c3 c4 c5 c6 c7 hn h14
  rintro i ρ s hi ⟨h19, h18, h5, h7, h8, h10, h11, h12, h13, c0, c2, c3, c4, c5, c6, c7, hn, x, c8, hrow⟩
  by_cases hlt : i < 1 + m
  rotate_left
  · have : i = 1 + m := by omega
    subst this
    have hge : ¬ (((1 + m : Nat) : Nat) : Int) < ((1 + m : Nat) : Int) := by omega
    rw [← hLl, List.take_length] at hrow
    have hxo : x.one = true := by rcases hrow.form with rfl | ⟨_, _, rfl⟩ <;> rfl
    simp only [WU, seval, strs_eq, h19, h18, h5, h7, h8, h10, h11, h12, h13, c0, c2, c3, c4, c5, c6, c7, c8]
    refine (hW _).use ?_
    simp only [WU, seval, strs_eq, h19, h18, h5, h7, h8, h10, h11, h12, h13, c0, c2, c3, c4, c5, c6, c7, c8, hw1, hge, sg07, hxo, storeA, sets, setx, TS]
    refine ⟨_, .agg _ (Ex.c (.mk 6 false 0 [] [] [] L)) (by rw [Ex.c_eq]; rfl) (fun i hi hi' => ?_), rfl⟩
    have hx : Pur (s.put 4 [.int .i64 6, .bool false, .int .i64 0, .str [], .str [], .str [], x]) true x (slc Ex.c L) := by
      refine (hrow.put (by omega) _).self fun a ha => ?_
      rw [← Ex.cs_eq] at ha
      exact pur_exs _ L a ha
    simp only [Ex.c_eq]
    match i, hi with
    | 0, _ => exact .flat _ rfl
    | 1, _ => exact .flat _ rfl
    | 2, _ => exact .flat _ rfl
    | 3, _ => exact .flat _ rfl
    | 4, _ => exact .flat _ rfl
    | 5, _ => exact .flat _ rfl
    | 6, _ => exact hx
  have hlt' : ((i : Nat) : Int) < ((1 + m : Nat) : Int) := by omega
  have hwi : IntKind.i64.wrap ((i : Int) + 1) = ((i + 1 : Nat) : Int) := wrap_succ (by omega)
  have hkI := hkid i (by omega)
  have eI := eE i
  have hLi' := hLi i (by omega)
  generalize sub ⟨t.of_, 0, t.name⟩ (KW i) = E at *
  obtain ⟨eop, eb, en, es, eut, eui, ek⟩ := E
  simp only [Ex.c_eq, slc_eq] at eI
  have hxo : x.one = true := by rcases hrow.form with rfl | ⟨_, _, rfl⟩ <;> rfl
  simp only [WU, seval, strs_eq, h19, h18, h5, h7, h8, h10, h11, h12, h13, c0, c2, c3, c4, c5, c6, c7]
  refine (hW _).use ?_
  simp only [WU, seval, strs_eq, h19, h18, h5, h7, h8, h10, h11, h12, h13, c0, c2, c3, c4, c5, c6, c7, hw1, hlt']
  refine w_dreg follow [] rfl ?_
  have k0 : (addSlots s.n 16 s []).cells 0 = _ := c0
  have k2 : (addSlots s.n 16 s []).cells 2 = _ := c2
  have k3 : (addSlots s.n 16 s []).cells 3 = _ := c3
  have k4 : (addSlots s.n 16 s []).cells 4 = _ := c4
  have k5 : (addSlots s.n 16 s []).cells 5 = _ := c5
  have k6 : (addSlots s.n 16 s []).cells 6 = _ := c6
  have k7 : (addSlots s.n 16 s []).cells 7 = _ := c7
  have k8 : (addSlots s.n 16 s []).cells 8 = _ := c8
  have hrowA := hrow.slots 16
  have hnA : (addSlots s.n 16 s []).n = s.n + 16 := rfl
  generalize addSlots s.n 16 s [] = s1 at *
  obtain ⟨b9, cap9, s9, happ, hrow9, hn9, hk9⟩ := app_lit (bytes := 96) hrowA (fun b hb => by omega) (new := (Ex.mk eop eb en es eut eui ek).c) (k := 1) (by rw [Ex.c_eq]; rfl) rfl (by omega) (by omega)
  simp only [Ex.c_eq, slc_eq] at happ
  have hp0 : ∀ k, k < 9 → (s1.push (.cells [.int .i64 eop, .bool eb, .int .i64 en, .str es, .str eut, .str eui, .psl (rowc Ex.c ek) 0 ek.length])).cells k = s1.cells k := fun k hk => by rw [push_get, if_neg (by omega)]
  have p2 := (hp0 2 (by omega)).trans k2
  have p3 := (hp0 3 (by omega)).trans k3
  have p5 := (hp0 5 (by omega)).trans k5
  have p8 := (hp0 8 (by omega)).trans k8
  have q0 := (get_cells (hk9 0 (by omega) (by omega))).trans k0
  have q2 := (get_cells (hk9 2 (by omega) (by omega))).trans k2
  have q3 := (get_cells (hk9 3 (by omega) (by omega))).trans k3
  have q4 := (get_cells (hk9 4 (by omega) (by omega))).trans k4
  have q5 := (get_cells (hk9 5 (by omega) (by omega))).trans k5
  have q6 := (get_cells (hk9 6 (by omega) (by omega))).trans k6
  have q7 := (get_cells (hk9 7 (by omega) (by omega))).trans k7
  have q8 := (get_cells (hk9 8 (by omega) (by omega))).trans k8
  simp only [WU, seval, strs_eq, DU, h19, h18, h5, h7, h8, h10, h11, h12, h13, k2, k3, k5, k8, sg06, sg04]
  refine (hkI _).useD ?_
  simp only [WU, seval, strs_eq, DU, h19, h18, h5, h7, h8, h10, h11, h12, h13, k2, k3, k5, k8, sg06, sg04]
  refine (eI _).useD ?_
  simp only [WU, seval, strs_eq, DU, h19, h18, h5, h7, h8, h10, h11, h12, h13, fillA, happ]
  simp only [WU, seval, strs_eq, DU, h18, q8, storeA, sets, setx, TS]
  refine ⟨⟨?_, ?_⟩, ?_⟩
  · intro l hl c hc hf
    simp only [List.mem_cons, List.mem_nil_iff, List.not_mem_nil, or_false] at hl hc
    rcases hl with rfl | rfl | rfl | rfl | rfl <;> rcases hc with rfl | rfl | rfl | rfl | rfl | rfl <;> dsimp only at hf ⊢ <;> first
      | (exact absurd hf (by decide +kernel))
      | (simp only [WU, seval, strs_eq, h18, h5, h7, h8, h10, h11, h12, h13, k2, k3, k5, k8, p2, p3, p5, p8, q2, q3, q5, q8, sg06, sg04]; done)
  · intro sl hsl; simp at hsl
  have hn9' : 9 ≤ s9.n := by omega
  simp only [WU, seval, strs_eq, h19, h18, h5, h7, h8, h10, h11, h12, h13, q0, q2, q3, q4, q5, q6, q7, q8, hwi]
  refine ⟨hlt, hn9', _, rfl, ?_⟩
  have htk : L.take (i + 1) = L.take i ++ [.mk eop eb en es eut eui ek] := by rw [List.take_add_one, List.getElem?_eq_getElem (by omega), hLi']; rfl
  rw [htk, rowc_append, rowc_one]
  exact RowP.put hrow9 (by omega) _
end Go.Proofs.Ytcdbpmmomgehfaa.Va
