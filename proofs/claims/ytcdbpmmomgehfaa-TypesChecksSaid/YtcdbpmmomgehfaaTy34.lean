/- Trees that are made to be truths: the walk. Conditions: none. -/
import Derived.Test.YtcdbpmmomgehfaaTM
import Derived.Test.YtcdbpmmomgehfaaTy33
set_option maxRecDepth 100000
set_option maxHeartbeats 4000000
set_option linter.all false
namespace Go.Proofs.Ytcdbpmmomgehfaa.Va
open Go.Proofs
def nOf : Rw → Int
  | .mk _ n _ _ => n
def tB : Ty := ⟨1, 0, []⟩
def tL : Ty := ⟨2, 0, []⟩
def tS : Ty := ⟨3, 0, []⟩
def tU (n : Str) : Ty := ⟨4, 0, n⟩
/- A truth: which way, by a number. -/
def truthX (p r : Str) (sub : Ty → Rw → Ex) (w : Rw) (k : Int) : Ex :=
  if k = 4 then .mk 11 false 0 [] [] [] [sub tB (kidM w 0)]
  else if k = 5 then .mk (if wi (nOf w) 2 = 0 then 23 else 24) false 0 [] [] [] [sub tB (kidM w 0), sub tB (kidM w 1)]
  else if k = 6 then .mk (16 + wi (nOf w) 4) false 0 [] [] [] [sub tL (kidM w 0), sub tL (kidM w 1)]
  else if k = 7 then .mk (20 + wi (nOf w) 2) false 0 [] [] [] [sub (someT p r (nOf w)) (kidM w 0), sub (someT p r (nOf w)) (kidM w 1)]
  else if k = 8 then .mk 22 false 0 [] [] [] [sub (tU p) (kidM w 0), sub (tU r) (kidM w 1)]
  else if k = 9 then .mk 22 false 0 [] [] [] [sub (tU p) (kidM w 0), sub ⟨5, 4, r⟩ (kidM w 1)]
  else if k = 10 then .mk 9 false 0 [] [] [] [sub ⟨5, (someT p r (nOf w)).kind, (someT p r (nOf w)).name⟩ (kidM w 0), sub (someT p r (nOf w)) (kidM w 1)]
  else if (nOf w).tmod 2 = 0 then .mk 10 false 0 [97, 42] [] [] [sub tS (kidM w 0)]
  else .mk 8 false 0 [97, 103, 101] [] [] [sub (tU p) (kidM w 0)]
theorem pur_lits {σ : AState} {op : Int} {b : Bool} {n : Int} {s u v : Str} {q : Nat} {cap : Option Nat} {m : Nat} {l : List Ex} (hm : m = l.length) (hq : σ.cells q = some (rowc Ex.c l)) : Pur σ true (.agg [.int .i64 op, .bool b, .int .i64 n, .str s, .str u, .str v, .sl q 0 m cap 7]) (.agg (Ex.mk op b n s u v l).c) := by
  subst hm
  have hs : Pur σ true (.sl q 0 l.length cap 7) (slc Ex.c l) := by
    rw [slc_eq]
    refine .lit hq (by rw [rowc_length Ex.c_len]) (PurL.self fun a ha => ?_)
    rw [← Ex.cs_eq] at ha
    exact pur_exs σ l a ha
  rw [Ex.c_eq]
  exact .agg _ _ rfl (PurL.cons (.flat _ rfl) (.cons (.flat _ rfl) (.cons (.flat _ rfl) (.cons (.flat _ rfl) (.cons (.flat _ rfl) (.cons (.flat _ rfl) (.cons hs .nil))))))).2
theorem row1 (e : Ex) : rowc Ex.c [e] = e.c := rowc_one e
theorem row2 (e f : Ex) : rowc Ex.c [e, f] = e.c ++ f.c := by rw [rowc_cons, rowc_one]
theorem row3 (e f g : Ex) : rowc Ex.c [e, f, g] = e.c ++ (f.c ++ g.c) := by rw [rowc_cons, rowc_cons, rowc_one]
/- What a maker's own 'of' gives, one less deep. -/
def SubAC (S : Sc) (p a r : Str) (d : Int) (sub : Ty → Rw → Ex) : Prop := ∀ (t : Ty) (w : Rw) (σ : AState), TyK S t → w.ok → AC Try.prog 19 [.agg (mkC S p a r d), .agg t.c, .agg w.c] σ fun v s => s = σ ∧ v = .agg (sub t w).c
theorem tyK_B (S : Sc) : TyK S tB := .inl ⟨rfl, .inl ⟨.inl rfl, rfl⟩⟩
theorem tyK_L (S : Sc) : TyK S tL := .inl ⟨rfl, .inl ⟨.inr (.inl rfl), rfl⟩⟩
theorem tyK_S (S : Sc) : TyK S tS := .inl ⟨rfl, .inl ⟨.inr (.inr rfl), rfl⟩⟩
theorem tyK_U {S : Sc} {n : Str} (h : hasS S.kinds n = true) : TyK S (tU n) := .inl ⟨rfl, .inr ⟨rfl, h⟩⟩
theorem tyK_set {S : Sc} {t : Ty} (h : TyB S t) : TyK S ⟨5, t.kind, t.name⟩ := .inr ⟨rfl, by
  refine ⟨rfl, ?_⟩
  rcases h.2 with ⟨h1, h2⟩ | ⟨h1, h2⟩
  · exact .inl ⟨h1, h2⟩
  · exact .inr ⟨h1, h2⟩⟩
theorem sg06 (a b c d e f : AV) : seg [a, b, c, d, e, f] 0 6 = [a, b, c, d, e, f] := Eq.trans rfl rfl
theorem tB_c : tB.c = [.int .i64 1, .int .i64 0, .str []] := rfl
theorem tL_c : tL.c = [.int .i64 2, .int .i64 0, .str []] := rfl
theorem tS_c : tS.c = [.int .i64 3, .int .i64 0, .str []] := rfl
theorem tU_c (n : Str) : (tU n).c = [.int .i64 4, .int .i64 0, .str n] := rfl
theorem truth_st0 {S : Sc} {p a r : Str} {d k : Int} {sub : Ty → Rw → Ex} {w : Rw} (hp : hasS S.kinds p = true) (hr : hasS S.kinds r = true) (hsub : SubAC S p a r d sub) (hw : w.ok) :
    AC Try.prog 69 [.agg (mkC S p a r d), .agg w.c, .int .i64 k] st0 fun v s => ∃ x, Pur s true v x ∧ x = .agg (truthX p r sub w k).c := by
  have hk0 : ∀ σ, AC Try.prog 68 [.agg w.c, .int .i64 0] σ fun v s => s = σ ∧ v = .agg (kidM w 0).c := fun σ => kid_ac (i := 0) hw (by decide)
  have hk1 : ∀ σ, AC Try.prog 68 [.agg w.c, .int .i64 1] σ fun v s => s = σ ∧ v = .agg (kidM w 1).c := fun σ => kid_ac (i := 1) hw (by decide)
  have hs1 : ∀ σ, AC Try.prog 18 [.agg (mkC S p a r d), .int .i64 (nOf w)] σ fun v s => s = σ ∧ v = .agg (someT p r (nOf w)).c := fun σ => some_ac
  have hT := someT_ok hp hr (nOf w)
  have hTK : TyK S (someT p r (nOf w)) := .inl hT
  have o0 := kidM_ok hw 0
  have o1 := kidM_ok hw 1
  generalize hT0 : someT p r (nOf w) = T at *
  have eB0 := fun σ => hsub tB (kidM w 0) σ (tyK_B S) o0
  have eB1 := fun σ => hsub tB (kidM w 1) σ (tyK_B S) o1
  have eL0 := fun σ => hsub tL (kidM w 0) σ (tyK_L S) o0
  have eL1 := fun σ => hsub tL (kidM w 1) σ (tyK_L S) o1
  have eS0 := fun σ => hsub tS (kidM w 0) σ (tyK_S S) o0
  have eP0 := fun σ => hsub (tU p) (kidM w 0) σ (tyK_U hp) o0
  have eR1 := fun σ => hsub (tU r) (kidM w 1) σ (tyK_U hr) o1
  have eQ1 := fun σ => hsub ⟨5, 4, r⟩ (kidM w 1) σ (tyK_set (t := tU r) ⟨rfl, .inr ⟨rfl, hr⟩⟩) o1
  have eT0 := fun σ => hsub T (kidM w 0) σ hTK o0
  have eT1 := fun σ => hsub T (kidM w 1) σ hTK o1
  have eV0 := fun σ => hsub ⟨5, T.kind, T.name⟩ (kidM w 0) σ (tyK_set hT) o0
  have hX : truthX p r sub w k = truthX p r sub w k := rfl
  conv at hX => rhs; unfold truthX
  rw [hT0] at hX
  rw [hX]
  clear hX hsub
  generalize kidM w 0 = K0 at *
  generalize kidM w 1 = K1 at *
  generalize hnw : nOf w = N at *
  obtain ⟨wo, wn, wsx, wk⟩ := w
  have hnw' : wn = N := hnw
  subst hnw'
  obtain ⟨kn0, ks0⟩ : True ∧ True := ⟨trivial, trivial⟩
  clear kn0 ks0 hnw
  simp only [Rw.c_eq, mkC_eq, Ty.c_eq, ints_eq, slc_eq, tB_c, tL_c, tS_c, tU_c] at hk0 hk1 hs1 eB0 eB1 eL0 eL1 eS0 eP0 eR1 eQ1 eT0 eT1 eV0 ⊢
  refine ac_wp fn69 cf69 cl69 rfl ?_
  simp only [ac69]
  unfold ab69
  simp only [wpC_seq, wpC_skip, wpCK_normal]
  refine w_mid (fun ρ s => ρ.rd 2 = .int .i64 k ∧ ρ.rd 3 = .ptr 0 0 ∧ ρ.rd 4 = .ptr 1 0 ∧ ρ.rd 6 = .ptr 2 0 ∧ s.cells 0 = some [.psl (rowc Kd.c S.kinds) 0 S.kinds.length, .psl (rowc Ac.c S.acts) 0 S.acts.length, .str p, .str a, .str r, .int .i64 d] ∧ s.cells 1 = some [.int .i64 wo, .int .i64 wn, .psl (ofInts wsx) 0 wsx.length, .psl (rowc Rw.c wk) 0 wk.length] ∧ s.cells 2 = some [.int .i64 0, .bool false, .int .i64 0, .str [], .str [], .str [], .nils] ∧ s.n = 3) ?_ ?_
  · simp only [WU, seval, strs_eq]
  rintro ρ s ⟨h2, h3, h4, h6, c0, c1, c2, hn⟩
  rw [wpC_seq]
  refine w_mid (fun ρ s => ρ.rd 2 = .int .i64 k ∧ ρ.rd 3 = .ptr 0 0 ∧ ρ.rd 4 = .ptr 1 0 ∧ ρ.rd 6 = .ptr 2 0 ∧ ρ.rd 7 = .ptr 3 0 ∧ s.cells 0 = some [.psl (rowc Kd.c S.kinds) 0 S.kinds.length, .psl (rowc Ac.c S.acts) 0 S.acts.length, .str p, .str a, .str r, .int .i64 d] ∧ s.cells 1 = some [.int .i64 wo, .int .i64 wn, .psl (ofInts wsx) 0 wsx.length, .psl (rowc Rw.c wk) 0 wk.length] ∧ s.cells 2 = some [.int .i64 0, .bool false, .int .i64 0, .str [], .str [], .str [], .nils] ∧ s.cells 3 = some [.int .i64 4, .int .i64 0, .str p] ∧ s.n = 4) ?_ ?_
  · simp only [WU, seval, strs_eq, h2, h3, h4, h6, c0, c1, c2, hn, storeA, sets, setx, TS]
  clear h2 h3 h4 h6 c0 c1 c2 hn
  rintro ρ s ⟨h2, h3, h4, h6, h7, c0, c1, c2, c3, hn⟩
  rw [wpC_seq]
  refine w_mid (fun ρ s => ρ.rd 2 = .int .i64 k ∧ ρ.rd 3 = .ptr 0 0 ∧ ρ.rd 4 = .ptr 1 0 ∧ ρ.rd 6 = .ptr 2 0 ∧ ρ.rd 7 = .ptr 3 0 ∧ ρ.rd 8 = .ptr 4 0 ∧ s.cells 0 = some [.psl (rowc Kd.c S.kinds) 0 S.kinds.length, .psl (rowc Ac.c S.acts) 0 S.acts.length, .str p, .str a, .str r, .int .i64 d] ∧ s.cells 1 = some [.int .i64 wo, .int .i64 wn, .psl (ofInts wsx) 0 wsx.length, .psl (rowc Rw.c wk) 0 wk.length] ∧ s.cells 2 = some [.int .i64 0, .bool false, .int .i64 0, .str [], .str [], .str [], .nils] ∧ s.cells 3 = some [.int .i64 4, .int .i64 0, .str p] ∧ s.cells 4 = some [.int .i64 T.kind, .int .i64 T.of_, .str T.name] ∧ s.n = 5) ?_ ?_
  · simp only [WU, seval, strs_eq, h2, h3, h4, h6, h7, c0, c1, c2, c3, hn, sg06, storeA, sets, setx, TS]
    refine (hs1 _).use ?_
    simp only [WU, seval, strs_eq, h2, h3, h4, h6, h7, c0, c1, c2, c3, hn, sg06, storeA, sets, setx, TS]
  clear h2 h3 h4 h6 h7 c0 c1 c2 c3 hn
  rintro ρ s ⟨h2, h3, h4, h6, h7, h8, c0, c1, c2, c3, c4, hn⟩
  by_cases e4 : k = 4
  · rw [if_pos e4]
    subst e4
    generalize sub tB K0 = E0 at *
    have r0 := Ex.c_len E0
    have hpl := fun (σ : AState) (q : Nat) (h : σ.cells q = some (rowc Ex.c [E0])) => pur_lits (op := 11) (b := false) (n := 0) (s := []) (u := []) (v := []) (cap := some 1) (m := 1) (l := [E0]) rfl h
    obtain ⟨op0, b0, n0, s0, u0, v0, kk0⟩ := E0
    simp only [row1, row2, row3, Ex.c_eq, slc_eq, List.cons_append, List.nil_append] at eB0 hpl ⊢
    simp only [WU, seval, strs_eq, h2, ]
    refine w_dreg follow [] rfl ?_
    have k0 : (addSlots s.n 8 s []).cells 0 = _ := c0
    have k1 : (addSlots s.n 8 s []).cells 1 = _ := c1
    have k2 : (addSlots s.n 8 s []).cells 2 = _ := c2
    have k3 : (addSlots s.n 8 s []).cells 3 = _ := c3
    have k4 : (addSlots s.n 8 s []).cells 4 = _ := c4
    have kn : (addSlots s.n 8 s []).n = 13 := by show s.n + 8 = _; omega
    generalize addSlots s.n 8 s [] = s1 at *
    simp only [WU, seval, strs_eq, DU, h3, h4, h6, h7, h8, k0, k1, k2, k3, k4, kn, sg06, sg04, sg03]
    refine (hk0 _).useD ?_
    simp only [WU, seval, strs_eq, DU, h3, h4, h6, h7, h8, k0, k1, k2, k3, k4, kn, sg06, sg04, sg03, fillA, put_n, storeA, sets, setx, TS]
    refine (eB0 _).useD ?_
    simp only [WU, seval, strs_eq, DU, h3, h4, h6, h7, h8, k0, k1, k2, k3, k4, kn, sg06, sg04, sg03, fillA, put_n, storeA, sets, setx, TS]
    refine ⟨⟨?_, ?_⟩, ?_⟩
    · intro l hl c hc hf
      simp only [List.mem_cons, List.mem_nil_iff, List.not_mem_nil, or_false] at hl hc
      rcases hl with rfl | rfl <;> rcases hc with rfl | rfl | rfl | rfl | rfl <;> dsimp only at hf ⊢ <;> first
        | (exact absurd hf (by decide +kernel))
        | (simp only [WU, seval, strs_eq, h3, h4, h6, h7, h8, k0, k1, k2, k3, k4, kn, sg06, sg04, sg03, put_n]; done)
    · intro sl hsl; simp at hsl
    · simp only [WU, seval, strs_eq, h6, k2, kn, sg07, fillA, storeA, sets, setx, TS]
      exact ⟨_, hpl _ _ (by first | (simp [put_get, push_get, kn]; done) | (simp [put_get, push_get, kn, cb]; done)), rfl⟩
  by_cases e5 : k = 5
  · rw [if_neg e4, if_pos e5]
    subst e5
    have hwr := wi_range wn (n := 2) (by decide)
    obtain ⟨m, hm⟩ : ∃ m : Nat, wi wn 2 = m := ⟨(wi wn 2).toNat, by omega⟩
    have hW : ∀ σ, AC Try.prog 21 [.int .i64 wn, .int .i64 2] σ fun v s => s = σ ∧ v = .int .i64 m := fun σ => by
      have := within11_ac (n := wn) (k := 2) (σ := σ) (by decide) (by decide)
      rw [hm] at this; exact this
    rw [hm] at hwr
    have hrm : (0 : Int) ≤ (m : Int) ∧ (m : Int) < 2 := by omega
    have hgm : [AV.int .i64 23, .int .i64 24][m]? = some (.int .i64 (if wi wn 2 = 0 then 23 else 24)) := by
      have : m = 0 ∨ m = 1 := by omega
      rcases this with e | e <;> subst e <;> rw [hm] <;> rfl
    generalize (if wi wn 2 = 0 then (23 : Int) else 24) = OP at *
    generalize sub tB K0 = E0 at *
    generalize sub tB K1 = E1 at *
    have r0 := Ex.c_len E0
    have r1 := Ex.c_len E1
    have hpl := fun (σ : AState) (q : Nat) (h : σ.cells q = some (rowc Ex.c [E0, E1])) => pur_lits (op := OP) (b := false) (n := 0) (s := []) (u := []) (v := []) (cap := some 2) (m := 2) (l := [E0, E1]) rfl h
    obtain ⟨op0, b0, n0, s0, u0, v0, kk0⟩ := E0
    obtain ⟨op1, b1, n1, s1, u1, v1, kk1⟩ := E1
    simp only [row1, row2, row3, Ex.c_eq, slc_eq, List.cons_append, List.nil_append] at eB0 eB1 hpl ⊢
    simp only [WU, seval, strs_eq, h2, ]
    refine w_dreg follow [(0, [.int .i64 23, .int .i64 24]), (16, [.int .i64 op0, .bool b0, .int .i64 n0, .str s0, .str u0, .str v0, .psl (rowc Ex.c kk0) 0 kk0.length, .int .i64 op1, .bool b1, .int .i64 n1, .str s1, .str u1, .str v1, .psl (rowc Ex.c kk1) 0 kk1.length])] rfl ?_
    have ga := slots_get (s := s) (m := 19) [(0, [.int .i64 23, .int .i64 24]), (16, [.int .i64 op0, .bool b0, .int .i64 n0, .str s0, .str u0, .str v0, .psl (rowc Ex.c kk0) 0 kk0.length, .int .i64 op1, .bool b1, .int .i64 n1, .str s1, .str u1, .str v1, .psl (rowc Ex.c kk1) 0 kk1.length])] 0 _ rfl
    have gb := slots_get (s := s) (m := 19) [(0, [.int .i64 23, .int .i64 24]), (16, [.int .i64 op0, .bool b0, .int .i64 n0, .str s0, .str u0, .str v0, .psl (rowc Ex.c kk0) 0 kk0.length, .int .i64 op1, .bool b1, .int .i64 n1, .str s1, .str u1, .str v1, .psl (rowc Ex.c kk1) 0 kk1.length])] 16 _ rfl
    have k0 := (slots_old (m := 19) [(0, [.int .i64 23, .int .i64 24]), (16, [.int .i64 op0, .bool b0, .int .i64 n0, .str s0, .str u0, .str v0, .psl (rowc Ex.c kk0) 0 kk0.length, .int .i64 op1, .bool b1, .int .i64 n1, .str s1, .str u1, .str v1, .psl (rowc Ex.c kk1) 0 kk1.length])] (b := 0) (by omega)).trans c0
    have k1 := (slots_old (m := 19) [(0, [.int .i64 23, .int .i64 24]), (16, [.int .i64 op0, .bool b0, .int .i64 n0, .str s0, .str u0, .str v0, .psl (rowc Ex.c kk0) 0 kk0.length, .int .i64 op1, .bool b1, .int .i64 n1, .str s1, .str u1, .str v1, .psl (rowc Ex.c kk1) 0 kk1.length])] (b := 1) (by omega)).trans c1
    have k2 := (slots_old (m := 19) [(0, [.int .i64 23, .int .i64 24]), (16, [.int .i64 op0, .bool b0, .int .i64 n0, .str s0, .str u0, .str v0, .psl (rowc Ex.c kk0) 0 kk0.length, .int .i64 op1, .bool b1, .int .i64 n1, .str s1, .str u1, .str v1, .psl (rowc Ex.c kk1) 0 kk1.length])] (b := 2) (by omega)).trans c2
    have k3 := (slots_old (m := 19) [(0, [.int .i64 23, .int .i64 24]), (16, [.int .i64 op0, .bool b0, .int .i64 n0, .str s0, .str u0, .str v0, .psl (rowc Ex.c kk0) 0 kk0.length, .int .i64 op1, .bool b1, .int .i64 n1, .str s1, .str u1, .str v1, .psl (rowc Ex.c kk1) 0 kk1.length])] (b := 3) (by omega)).trans c3
    have k4 := (slots_old (m := 19) [(0, [.int .i64 23, .int .i64 24]), (16, [.int .i64 op0, .bool b0, .int .i64 n0, .str s0, .str u0, .str v0, .psl (rowc Ex.c kk0) 0 kk0.length, .int .i64 op1, .bool b1, .int .i64 n1, .str s1, .str u1, .str v1, .psl (rowc Ex.c kk1) 0 kk1.length])] (b := 4) (by omega)).trans c4
    have kn : (addSlots s.n 19 s [(0, [.int .i64 23, .int .i64 24]), (16, [.int .i64 op0, .bool b0, .int .i64 n0, .str s0, .str u0, .str v0, .psl (rowc Ex.c kk0) 0 kk0.length, .int .i64 op1, .bool b1, .int .i64 n1, .str s1, .str u1, .str v1, .psl (rowc Ex.c kk1) 0 kk1.length])]).n = 24 := by show s.n + 19 = _; omega
    generalize addSlots s.n 19 s [(0, [.int .i64 23, .int .i64 24]), (16, [.int .i64 op0, .bool b0, .int .i64 n0, .str s0, .str u0, .str v0, .psl (rowc Ex.c kk0) 0 kk0.length, .int .i64 op1, .bool b1, .int .i64 n1, .str s1, .str u1, .str v1, .psl (rowc Ex.c kk1) 0 kk1.length])] = s1 at *
    rw [hn] at ga gb ⊢
    simp only [Nat.reduceAdd] at ga gb
    have ca := cells_of ga
    have cb := cells_of gb
    simp only [WU, seval, strs_eq, DU, h3, h4, h6, h7, h8, k0, k1, k2, k3, k4, kn, ca, cb, sg06, sg04, sg03]
    refine (hW _).useD ?_
    simp only [WU, seval, strs_eq, DU, h3, h4, h6, h7, h8, k0, k1, k2, k3, k4, kn, ca, cb, sg06, sg04, sg03, fillA, put_n, hrm, hgm, storeA, sets, setx, TS]
    refine (hk0 _).useD ?_
    simp only [WU, seval, strs_eq, DU, h3, h4, h6, h7, h8, k0, k1, k2, k3, k4, kn, ca, cb, sg06, sg04, sg03, fillA, put_n, hrm, hgm, storeA, sets, setx, TS]
    refine (eB0 _).useD ?_
    simp only [WU, seval, strs_eq, DU, h3, h4, h6, h7, h8, k0, k1, k2, k3, k4, kn, ca, cb, sg06, sg04, sg03, fillA, put_n, hrm, hgm, storeA, sets, setx, TS]
    refine (hk1 _).useD ?_
    simp only [WU, seval, strs_eq, DU, h3, h4, h6, h7, h8, k0, k1, k2, k3, k4, kn, ca, cb, sg06, sg04, sg03, fillA, put_n, hrm, hgm, storeA, sets, setx, TS]
    refine (eB1 _).useD ?_
    simp only [WU, seval, strs_eq, DU, h3, h4, h6, h7, h8, k0, k1, k2, k3, k4, kn, ca, cb, sg06, sg04, sg03, fillA, put_n, hrm, hgm, storeA, sets, setx, TS]
    refine ⟨⟨?_, ?_⟩, ?_⟩
    · intro l hl c hc hf
      simp only [List.mem_cons, List.mem_nil_iff, List.not_mem_nil, or_false] at hl hc
      rcases hl with rfl | rfl | rfl | rfl | rfl | rfl <;> rcases hc with rfl | rfl | rfl | rfl | rfl | rfl | rfl <;> dsimp only at hf ⊢ <;> first
        | (exact absurd hf (by decide +kernel))
        | (simp only [WU, seval, strs_eq, h3, h4, h6, h7, h8, k0, k1, k2, k3, k4, kn, ca, cb, sg06, sg04, sg03, put_n, hrm, hgm, hrm, hgm]; done)
    · intro sl hsl c hc hf
      simp only [List.mem_cons, List.mem_nil_iff, List.not_mem_nil, or_false] at hsl hc
      rcases hsl with rfl | rfl <;> rcases hc with rfl | rfl | rfl | rfl | rfl | rfl | rfl <;> dsimp only at hf ⊢ <;> first
        | exact ⟨by omega, ga⟩
        | exact ⟨by simp only [put_n, hrm, hgm]; omega, (put_h (by omega)).trans ga⟩
        | exact ⟨by omega, gb⟩
        | exact ⟨by simp only [put_n, hrm, hgm]; omega, (put_h (by omega)).trans gb⟩
        | (exact absurd hf (by decide +kernel))
    · simp only [WU, seval, strs_eq, h6, k2, kn, sg07, fillA, storeA, sets, setx, TS]
      exact ⟨_, hpl _ _ (by first | (simp [put_get, push_get, kn]; done) | (simp [put_get, push_get, kn, cb]; done)), rfl⟩
  by_cases e6 : k = 6
  · rw [if_neg e4, if_neg e5, if_pos e6]
    subst e6
    have hwr := wi_range wn (n := 4) (by decide)
    have hop : IntKind.i64.wrap (16 + wi wn 4) = 16 + wi wn 4 := wrap64 (by omega) (by omega)
    generalize sub tL K0 = E0 at *
    generalize sub tL K1 = E1 at *
    have r0 := Ex.c_len E0
    have r1 := Ex.c_len E1
    have hpl := fun (σ : AState) (q : Nat) (h : σ.cells q = some (rowc Ex.c [E0, E1])) => pur_lits (op := (16 + wi wn 4)) (b := false) (n := 0) (s := []) (u := []) (v := []) (cap := some 2) (m := 2) (l := [E0, E1]) rfl h
    obtain ⟨op0, b0, n0, s0, u0, v0, kk0⟩ := E0
    obtain ⟨op1, b1, n1, s1, u1, v1, kk1⟩ := E1
    simp only [row1, row2, row3, Ex.c_eq, slc_eq, List.cons_append, List.nil_append] at eL0 eL1 hpl ⊢
    simp only [WU, seval, strs_eq, h2, ]
    refine w_dreg follow [] rfl ?_
    have k0 : (addSlots s.n 17 s []).cells 0 = _ := c0
    have k1 : (addSlots s.n 17 s []).cells 1 = _ := c1
    have k2 : (addSlots s.n 17 s []).cells 2 = _ := c2
    have k3 : (addSlots s.n 17 s []).cells 3 = _ := c3
    have k4 : (addSlots s.n 17 s []).cells 4 = _ := c4
    have kn : (addSlots s.n 17 s []).n = 22 := by show s.n + 17 = _; omega
    generalize addSlots s.n 17 s [] = s1 at *
    simp only [WU, seval, strs_eq, DU, h3, h4, h6, h7, h8, k0, k1, k2, k3, k4, kn, sg06, sg04, sg03]
    refine (within11_ac (by decide) (by decide)).useD ?_
    simp only [WU, seval, strs_eq, DU, h3, h4, h6, h7, h8, k0, k1, k2, k3, k4, kn, sg06, sg04, sg03, fillA, put_n, hop, storeA, sets, setx, TS]
    refine (hk0 _).useD ?_
    simp only [WU, seval, strs_eq, DU, h3, h4, h6, h7, h8, k0, k1, k2, k3, k4, kn, sg06, sg04, sg03, fillA, put_n, hop, storeA, sets, setx, TS]
    refine (eL0 _).useD ?_
    simp only [WU, seval, strs_eq, DU, h3, h4, h6, h7, h8, k0, k1, k2, k3, k4, kn, sg06, sg04, sg03, fillA, put_n, hop, storeA, sets, setx, TS]
    refine (hk1 _).useD ?_
    simp only [WU, seval, strs_eq, DU, h3, h4, h6, h7, h8, k0, k1, k2, k3, k4, kn, sg06, sg04, sg03, fillA, put_n, hop, storeA, sets, setx, TS]
    refine (eL1 _).useD ?_
    simp only [WU, seval, strs_eq, DU, h3, h4, h6, h7, h8, k0, k1, k2, k3, k4, kn, sg06, sg04, sg03, fillA, put_n, hop, storeA, sets, setx, TS]
    refine ⟨⟨?_, ?_⟩, ?_⟩
    · intro l hl c hc hf
      simp only [List.mem_cons, List.mem_nil_iff, List.not_mem_nil, or_false] at hl hc
      rcases hl with rfl | rfl | rfl | rfl | rfl <;> rcases hc with rfl | rfl | rfl | rfl | rfl | rfl | rfl | rfl <;> dsimp only at hf ⊢ <;> first
        | (exact absurd hf (by decide +kernel))
        | (simp only [WU, seval, strs_eq, h3, h4, h6, h7, h8, k0, k1, k2, k3, k4, kn, sg06, sg04, sg03, put_n]; done)
    · intro sl hsl; simp at hsl
    · simp only [WU, seval, strs_eq, h6, k2, kn, sg07, fillA, storeA, sets, setx, TS]
      exact ⟨_, hpl _ _ (by first | (simp [put_get, push_get, kn]; done) | (simp [put_get, push_get, kn, cb]; done)), rfl⟩
  by_cases e7 : k = 7
  · rw [if_neg e4, if_neg e5, if_neg e6, if_pos e7]
    subst e7
    have hwr := wi_range wn (n := 2) (by decide)
    have hop : IntKind.i64.wrap (20 + wi wn 2) = 20 + wi wn 2 := wrap64 (by omega) (by omega)
    generalize sub T K0 = E0 at *
    generalize sub T K1 = E1 at *
    have r0 := Ex.c_len E0
    have r1 := Ex.c_len E1
    have hpl := fun (σ : AState) (q : Nat) (h : σ.cells q = some (rowc Ex.c [E0, E1])) => pur_lits (op := (20 + wi wn 2)) (b := false) (n := 0) (s := []) (u := []) (v := []) (cap := some 2) (m := 2) (l := [E0, E1]) rfl h
    obtain ⟨op0, b0, n0, s0, u0, v0, kk0⟩ := E0
    obtain ⟨op1, b1, n1, s1, u1, v1, kk1⟩ := E1
    simp only [row1, row2, row3, Ex.c_eq, slc_eq, List.cons_append, List.nil_append] at eT0 eT1 hpl ⊢
    simp only [WU, seval, strs_eq, h2, ]
    refine w_dreg follow [] rfl ?_
    have k0 : (addSlots s.n 17 s []).cells 0 = _ := c0
    have k1 : (addSlots s.n 17 s []).cells 1 = _ := c1
    have k2 : (addSlots s.n 17 s []).cells 2 = _ := c2
    have k3 : (addSlots s.n 17 s []).cells 3 = _ := c3
    have k4 : (addSlots s.n 17 s []).cells 4 = _ := c4
    have kn : (addSlots s.n 17 s []).n = 22 := by show s.n + 17 = _; omega
    generalize addSlots s.n 17 s [] = s1 at *
    simp only [WU, seval, strs_eq, DU, h3, h4, h6, h7, h8, k0, k1, k2, k3, k4, kn, sg06, sg04, sg03]
    refine (within11_ac (by decide) (by decide)).useD ?_
    simp only [WU, seval, strs_eq, DU, h3, h4, h6, h7, h8, k0, k1, k2, k3, k4, kn, sg06, sg04, sg03, fillA, put_n, hop, storeA, sets, setx, TS]
    refine (hk0 _).useD ?_
    simp only [WU, seval, strs_eq, DU, h3, h4, h6, h7, h8, k0, k1, k2, k3, k4, kn, sg06, sg04, sg03, fillA, put_n, hop, storeA, sets, setx, TS]
    refine (eT0 _).useD ?_
    simp only [WU, seval, strs_eq, DU, h3, h4, h6, h7, h8, k0, k1, k2, k3, k4, kn, sg06, sg04, sg03, fillA, put_n, hop, storeA, sets, setx, TS]
    refine (hk1 _).useD ?_
    simp only [WU, seval, strs_eq, DU, h3, h4, h6, h7, h8, k0, k1, k2, k3, k4, kn, sg06, sg04, sg03, fillA, put_n, hop, storeA, sets, setx, TS]
    refine (eT1 _).useD ?_
    simp only [WU, seval, strs_eq, DU, h3, h4, h6, h7, h8, k0, k1, k2, k3, k4, kn, sg06, sg04, sg03, fillA, put_n, hop, storeA, sets, setx, TS]
    refine ⟨⟨?_, ?_⟩, ?_⟩
    · intro l hl c hc hf
      simp only [List.mem_cons, List.mem_nil_iff, List.not_mem_nil, or_false] at hl hc
      rcases hl with rfl | rfl | rfl | rfl | rfl | rfl | rfl <;> rcases hc with rfl | rfl | rfl | rfl | rfl | rfl | rfl | rfl <;> dsimp only at hf ⊢ <;> first
        | (exact absurd hf (by decide +kernel))
        | (simp only [WU, seval, strs_eq, h3, h4, h6, h7, h8, k0, k1, k2, k3, k4, kn, sg06, sg04, sg03, put_n]; done)
    · intro sl hsl; simp at hsl
    · simp only [WU, seval, strs_eq, h6, k2, kn, sg07, fillA, storeA, sets, setx, TS]
      exact ⟨_, hpl _ _ (by first | (simp [put_get, push_get, kn]; done) | (simp [put_get, push_get, kn, cb]; done)), rfl⟩
  by_cases e8 : k = 8
  · rw [if_neg e4, if_neg e5, if_neg e6, if_neg e7, if_pos e8]
    subst e8
    generalize sub (tU p) K0 = E0 at *
    generalize sub (tU r) K1 = E1 at *
    have r0 := Ex.c_len E0
    have r1 := Ex.c_len E1
    have hpl := fun (σ : AState) (q : Nat) (h : σ.cells q = some (rowc Ex.c [E0, E1])) => pur_lits (op := 22) (b := false) (n := 0) (s := []) (u := []) (v := []) (cap := some 2) (m := 2) (l := [E0, E1]) rfl h
    obtain ⟨op0, b0, n0, s0, u0, v0, kk0⟩ := E0
    obtain ⟨op1, b1, n1, s1, u1, v1, kk1⟩ := E1
    simp only [row1, row2, row3, Ex.c_eq, slc_eq, List.cons_append, List.nil_append] at eP0 eR1 hpl ⊢
    simp only [WU, seval, strs_eq, h2, ]
    refine w_dreg follow [] rfl ?_
    have k0 : (addSlots s.n 16 s []).cells 0 = _ := c0
    have k1 : (addSlots s.n 16 s []).cells 1 = _ := c1
    have k2 : (addSlots s.n 16 s []).cells 2 = _ := c2
    have k3 : (addSlots s.n 16 s []).cells 3 = _ := c3
    have k4 : (addSlots s.n 16 s []).cells 4 = _ := c4
    have kn : (addSlots s.n 16 s []).n = 21 := by show s.n + 16 = _; omega
    generalize addSlots s.n 16 s [] = s1 at *
    simp only [WU, seval, strs_eq, DU, h3, h4, h6, h7, h8, k0, k1, k2, k3, k4, kn, sg06, sg04, sg03]
    refine (hk0 _).useD ?_
    simp only [WU, seval, strs_eq, DU, h3, h4, h6, h7, h8, k0, k1, k2, k3, k4, kn, sg06, sg04, sg03, fillA, put_n, storeA, sets, setx, TS]
    refine (eP0 _).useD ?_
    simp only [WU, seval, strs_eq, DU, h3, h4, h6, h7, h8, k0, k1, k2, k3, k4, kn, sg06, sg04, sg03, fillA, put_n, storeA, sets, setx, TS]
    refine (hk1 _).useD ?_
    simp only [WU, seval, strs_eq, DU, h3, h4, h6, h7, h8, k0, k1, k2, k3, k4, kn, sg06, sg04, sg03, fillA, put_n, storeA, sets, setx, TS]
    refine (eR1 _).useD ?_
    simp only [WU, seval, strs_eq, DU, h3, h4, h6, h7, h8, k0, k1, k2, k3, k4, kn, sg06, sg04, sg03, fillA, put_n, storeA, sets, setx, TS]
    refine ⟨⟨?_, ?_⟩, ?_⟩
    · intro l hl c hc hf
      simp only [List.mem_cons, List.mem_nil_iff, List.not_mem_nil, or_false] at hl hc
      rcases hl with rfl | rfl | rfl | rfl | rfl | rfl <;> rcases hc with rfl | rfl | rfl | rfl | rfl | rfl | rfl <;> dsimp only at hf ⊢ <;> first
        | (exact absurd hf (by decide +kernel))
        | (simp only [WU, seval, strs_eq, h3, h4, h6, h7, h8, k0, k1, k2, k3, k4, kn, sg06, sg04, sg03, put_n]; done)
    · intro sl hsl; simp at hsl
    · simp only [WU, seval, strs_eq, h6, k2, kn, sg07, fillA, storeA, sets, setx, TS]
      exact ⟨_, hpl _ _ (by first | (simp [put_get, push_get, kn]; done) | (simp [put_get, push_get, kn, cb]; done)), rfl⟩
  by_cases e9 : k = 9
  · rw [if_neg e4, if_neg e5, if_neg e6, if_neg e7, if_neg e8, if_pos e9]
    subst e9
    generalize sub (tU p) K0 = E0 at *
    generalize sub ⟨5, 4, r⟩ K1 = E1 at *
    have r0 := Ex.c_len E0
    have r1 := Ex.c_len E1
    have hpl := fun (σ : AState) (q : Nat) (h : σ.cells q = some (rowc Ex.c [E0, E1])) => pur_lits (op := 22) (b := false) (n := 0) (s := []) (u := []) (v := []) (cap := some 2) (m := 2) (l := [E0, E1]) rfl h
    obtain ⟨op0, b0, n0, s0, u0, v0, kk0⟩ := E0
    obtain ⟨op1, b1, n1, s1, u1, v1, kk1⟩ := E1
    simp only [row1, row2, row3, Ex.c_eq, slc_eq, List.cons_append, List.nil_append] at eP0 eQ1 hpl ⊢
    simp only [WU, seval, strs_eq, h2, ]
    refine w_dreg follow [] rfl ?_
    have k0 : (addSlots s.n 16 s []).cells 0 = _ := c0
    have k1 : (addSlots s.n 16 s []).cells 1 = _ := c1
    have k2 : (addSlots s.n 16 s []).cells 2 = _ := c2
    have k3 : (addSlots s.n 16 s []).cells 3 = _ := c3
    have k4 : (addSlots s.n 16 s []).cells 4 = _ := c4
    have kn : (addSlots s.n 16 s []).n = 21 := by show s.n + 16 = _; omega
    generalize addSlots s.n 16 s [] = s1 at *
    simp only [WU, seval, strs_eq, DU, h3, h4, h6, h7, h8, k0, k1, k2, k3, k4, kn, sg06, sg04, sg03]
    refine (hk0 _).useD ?_
    simp only [WU, seval, strs_eq, DU, h3, h4, h6, h7, h8, k0, k1, k2, k3, k4, kn, sg06, sg04, sg03, fillA, put_n, storeA, sets, setx, TS]
    refine (eP0 _).useD ?_
    simp only [WU, seval, strs_eq, DU, h3, h4, h6, h7, h8, k0, k1, k2, k3, k4, kn, sg06, sg04, sg03, fillA, put_n, storeA, sets, setx, TS]
    refine (hk1 _).useD ?_
    simp only [WU, seval, strs_eq, DU, h3, h4, h6, h7, h8, k0, k1, k2, k3, k4, kn, sg06, sg04, sg03, fillA, put_n, storeA, sets, setx, TS]
    refine (eQ1 _).useD ?_
    simp only [WU, seval, strs_eq, DU, h3, h4, h6, h7, h8, k0, k1, k2, k3, k4, kn, sg06, sg04, sg03, fillA, put_n, storeA, sets, setx, TS]
    refine ⟨⟨?_, ?_⟩, ?_⟩
    · intro l hl c hc hf
      simp only [List.mem_cons, List.mem_nil_iff, List.not_mem_nil, or_false] at hl hc
      rcases hl with rfl | rfl | rfl | rfl | rfl | rfl <;> rcases hc with rfl | rfl | rfl | rfl | rfl | rfl | rfl <;> dsimp only at hf ⊢ <;> first
        | (exact absurd hf (by decide +kernel))
        | (simp only [WU, seval, strs_eq, h3, h4, h6, h7, h8, k0, k1, k2, k3, k4, kn, sg06, sg04, sg03, put_n]; done)
    · intro sl hsl; simp at hsl
    · simp only [WU, seval, strs_eq, h6, k2, kn, sg07, fillA, storeA, sets, setx, TS]
      exact ⟨_, hpl _ _ (by first | (simp [put_get, push_get, kn]; done) | (simp [put_get, push_get, kn, cb]; done)), rfl⟩
  by_cases e10 : k = 10
  · rw [if_neg e4, if_neg e5, if_neg e6, if_neg e7, if_neg e8, if_neg e9, if_pos e10]
    subst e10
    generalize sub ⟨5, T.kind, T.name⟩ K0 = E0 at *
    generalize sub T K1 = E1 at *
    have r0 := Ex.c_len E0
    have r1 := Ex.c_len E1
    have hpl := fun (σ : AState) (q : Nat) (h : σ.cells q = some (rowc Ex.c [E0, E1])) => pur_lits (op := 9) (b := false) (n := 0) (s := []) (u := []) (v := []) (cap := some 2) (m := 2) (l := [E0, E1]) rfl h
    obtain ⟨op0, b0, n0, s0, u0, v0, kk0⟩ := E0
    obtain ⟨op1, b1, n1, s1, u1, v1, kk1⟩ := E1
    simp only [row1, row2, row3, Ex.c_eq, slc_eq, List.cons_append, List.nil_append] at eV0 eT1 hpl ⊢
    simp only [WU, seval, strs_eq, h2, ]
    refine w_dreg follow [] rfl ?_
    have k0 : (addSlots s.n 17 s []).cells 0 = _ := c0
    have k1 : (addSlots s.n 17 s []).cells 1 = _ := c1
    have k2 : (addSlots s.n 17 s []).cells 2 = _ := c2
    have k3 : (addSlots s.n 17 s []).cells 3 = _ := c3
    have k4 : (addSlots s.n 17 s []).cells 4 = _ := c4
    have kn : (addSlots s.n 17 s []).n = 22 := by show s.n + 17 = _; omega
    generalize addSlots s.n 17 s [] = s1 at *
    simp only [WU, seval, strs_eq, DU, h3, h4, h6, h7, h8, k0, k1, k2, k3, k4, kn, sg06, sg04, sg03]
    refine (hk0 _).useD ?_
    simp only [WU, seval, strs_eq, DU, h3, h4, h6, h7, h8, k0, k1, k2, k3, k4, kn, sg06, sg04, sg03, fillA, put_n, storeA, sets, setx, TS]
    refine (eV0 _).useD ?_
    simp only [WU, seval, strs_eq, DU, h3, h4, h6, h7, h8, k0, k1, k2, k3, k4, kn, sg06, sg04, sg03, fillA, put_n, storeA, sets, setx, TS]
    refine (hk1 _).useD ?_
    simp only [WU, seval, strs_eq, DU, h3, h4, h6, h7, h8, k0, k1, k2, k3, k4, kn, sg06, sg04, sg03, fillA, put_n, storeA, sets, setx, TS]
    refine (eT1 _).useD ?_
    simp only [WU, seval, strs_eq, DU, h3, h4, h6, h7, h8, k0, k1, k2, k3, k4, kn, sg06, sg04, sg03, fillA, put_n, storeA, sets, setx, TS]
    refine ⟨⟨?_, ?_⟩, ?_⟩
    · intro l hl c hc hf
      simp only [List.mem_cons, List.mem_nil_iff, List.not_mem_nil, or_false] at hl hc
      rcases hl with rfl | rfl | rfl | rfl | rfl | rfl | rfl <;> rcases hc with rfl | rfl | rfl | rfl | rfl | rfl | rfl <;> dsimp only at hf ⊢ <;> first
        | (exact absurd hf (by decide +kernel))
        | (simp only [WU, seval, strs_eq, h3, h4, h6, h7, h8, k0, k1, k2, k3, k4, kn, sg06, sg04, sg03, put_n]; done)
    · intro sl hsl; simp at hsl
    · simp only [WU, seval, strs_eq, h6, k2, kn, sg07, fillA, storeA, sets, setx, TS]
      exact ⟨_, hpl _ _ (by first | (simp [put_get, push_get, kn]; done) | (simp [put_get, push_get, kn, cb]; done)), rfl⟩
  rw [if_neg e4, if_neg e5, if_neg e6, if_neg e7, if_neg e8, if_neg e9, if_neg e10]
  have hem := ei_rem .i64 wn 2 (by decide)
  by_cases hev : wn.tmod 2 = 0
  · rw [if_pos hev]
    generalize sub tS K0 = E0 at *
    have r0 := Ex.c_len E0
    have hpl := fun (σ : AState) (q : Nat) (h : σ.cells q = some (rowc Ex.c [E0])) => pur_lits (op := 10) (b := false) (n := 0) (s := [97, 42]) (u := []) (v := []) (cap := some 1) (m := 1) (l := [E0]) rfl h
    obtain ⟨op0, b0, n0, s0, u0, v0, kk0⟩ := E0
    simp only [row1, row2, row3, Ex.c_eq, slc_eq, List.cons_append, List.nil_append] at eS0 hpl ⊢
    simp only [WU, seval, strs_eq, h2, e4, e5, e6, e7, e8, e9, e10, h4, c1, hem, hev]
    refine w_dreg follow [] rfl ?_
    have k0 : (addSlots s.n 8 s []).cells 0 = _ := c0
    have k1 : (addSlots s.n 8 s []).cells 1 = _ := c1
    have k2 : (addSlots s.n 8 s []).cells 2 = _ := c2
    have k3 : (addSlots s.n 8 s []).cells 3 = _ := c3
    have k4 : (addSlots s.n 8 s []).cells 4 = _ := c4
    have kn : (addSlots s.n 8 s []).n = 13 := by show s.n + 8 = _; omega
    generalize addSlots s.n 8 s [] = s1 at *
    simp only [WU, seval, strs_eq, DU, h3, h4, h6, h7, h8, k0, k1, k2, k3, k4, kn, sg06, sg04, sg03]
    refine (hk0 _).useD ?_
    simp only [WU, seval, strs_eq, DU, h3, h4, h6, h7, h8, k0, k1, k2, k3, k4, kn, sg06, sg04, sg03, fillA, put_n, storeA, sets, setx, TS]
    refine (eS0 _).useD ?_
    simp only [WU, seval, strs_eq, DU, h3, h4, h6, h7, h8, k0, k1, k2, k3, k4, kn, sg06, sg04, sg03, fillA, put_n, storeA, sets, setx, TS]
    refine ⟨⟨?_, ?_⟩, ?_⟩
    · intro l hl c hc hf
      simp only [List.mem_cons, List.mem_nil_iff, List.not_mem_nil, or_false] at hl hc
      rcases hl with rfl | rfl <;> rcases hc with rfl | rfl | rfl | rfl | rfl <;> dsimp only at hf ⊢ <;> first
        | (exact absurd hf (by decide +kernel))
        | (simp only [WU, seval, strs_eq, h3, h4, h6, h7, h8, k0, k1, k2, k3, k4, kn, sg06, sg04, sg03, put_n]; done)
    · intro sl hsl; simp at hsl
    · simp only [WU, seval, strs_eq, h6, k2, kn, sg07, fillA, storeA, sets, setx, TS]
      exact ⟨_, hpl _ _ (by first | (simp [put_get, push_get, kn]; done) | (simp [put_get, push_get, kn, cb]; done)), rfl⟩
  · rw [if_neg hev]
    generalize sub (tU p) K0 = E0 at *
    have r0 := Ex.c_len E0
    have hpl := fun (σ : AState) (q : Nat) (h : σ.cells q = some (rowc Ex.c [E0])) => pur_lits (op := 8) (b := false) (n := 0) (s := [97, 103, 101]) (u := []) (v := []) (cap := some 1) (m := 1) (l := [E0]) rfl h
    obtain ⟨op0, b0, n0, s0, u0, v0, kk0⟩ := E0
    simp only [row1, row2, row3, Ex.c_eq, slc_eq, List.cons_append, List.nil_append] at eP0 hpl ⊢
    simp only [WU, seval, strs_eq, h2, e4, e5, e6, e7, e8, e9, e10, h4, c1, hem, hev]
    refine w_dreg follow [] rfl ?_
    have k0 : (addSlots s.n 8 s []).cells 0 = _ := c0
    have k1 : (addSlots s.n 8 s []).cells 1 = _ := c1
    have k2 : (addSlots s.n 8 s []).cells 2 = _ := c2
    have k3 : (addSlots s.n 8 s []).cells 3 = _ := c3
    have k4 : (addSlots s.n 8 s []).cells 4 = _ := c4
    have kn : (addSlots s.n 8 s []).n = 13 := by show s.n + 8 = _; omega
    generalize addSlots s.n 8 s [] = s1 at *
    simp only [WU, seval, strs_eq, DU, h3, h4, h6, h7, h8, k0, k1, k2, k3, k4, kn, sg06, sg04, sg03]
    refine (hk0 _).useD ?_
    simp only [WU, seval, strs_eq, DU, h3, h4, h6, h7, h8, k0, k1, k2, k3, k4, kn, sg06, sg04, sg03, fillA, put_n, storeA, sets, setx, TS]
    refine (eP0 _).useD ?_
    simp only [WU, seval, strs_eq, DU, h3, h4, h6, h7, h8, k0, k1, k2, k3, k4, kn, sg06, sg04, sg03, fillA, put_n, storeA, sets, setx, TS]
    refine ⟨⟨?_, ?_⟩, ?_⟩
    · intro l hl c hc hf
      simp only [List.mem_cons, List.mem_nil_iff, List.not_mem_nil, or_false] at hl hc
      rcases hl with rfl | rfl | rfl <;> rcases hc with rfl | rfl | rfl | rfl | rfl <;> dsimp only at hf ⊢ <;> first
        | (exact absurd hf (by decide +kernel))
        | (simp only [WU, seval, strs_eq, h3, h4, h6, h7, h8, k0, k1, k2, k3, k4, kn, sg06, sg04, sg03, put_n]; done)
    · intro sl hsl; simp at hsl
    · simp only [WU, seval, strs_eq, h6, k2, kn, sg07, fillA, storeA, sets, setx, TS]
      exact ⟨_, hpl _ _ (by first | (simp [put_get, push_get, kn]; done) | (simp [put_get, push_get, kn, cb]; done)), rfl⟩
theorem truthM_ac {S : Sc} {p a r : Str} {d k : Int} {sub : Ty → Rw → Ex} {w : Rw} {σ : AState} (hp : hasS S.kinds p = true) (hr : hasS S.kinds r = true) (hsub : SubAC S p a r d sub) (hw : w.ok) :
    AC Try.prog 69 [.agg (mkC S p a r d), .agg w.c, .int .i64 k] σ fun v s => s = σ ∧ v = .agg (truthX p r sub w k).c :=
  AC.share (.cons (.agg (mkC_fxd S p a r d)) (.cons (.agg (Rw.fxd w)) (.cons (.flat rfl) .nil))) (truth_st0 hp hr hsub hw)
end Go.Proofs.Ytcdbpmmomgehfaa.Va
