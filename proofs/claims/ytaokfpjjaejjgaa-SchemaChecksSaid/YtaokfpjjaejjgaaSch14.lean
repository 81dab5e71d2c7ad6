/- The law SchemaChecks, up to what is turned. Conditions: none. -/
import Derived.Test.YtaokfpjjaejjgaaSch13
set_option maxRecDepth 100000
set_option maxHeartbeats 4000000
set_option linter.all false
namespace Go.Proofs.Ytaokfpjjaejjgaa.Va
open Go.Proofs
theorem slc_of {α : Type} {f : α → List AV} {l : List α} {n : Nat} {s : AState} {x : AV} (h : n = l.length) (hp : Pur s true x (.psl (rowc f l) 0 n)) : Pur s true x (slc f l) := by subst h; exact hp
theorem okOf {K : List Kd} {A : List Ac} (hK : K.length ≤ 10) (hA : A.length ≤ 10) (hk : ∀ k ∈ K, k.ok ∧ k.tok) (ha : ∀ a ∈ A, a.ok ∧ a.tok) : (Sc.mk K A).ok ∧ (Sc.mk K A).tok := by
  have hMost : Most = 9223372036854775807 := rfl
  exact ⟨⟨by show K.length ≤ Most; omega, by show A.length ≤ Most; omega, fun k h => (hk k h).1, fun a h => (ha a h).1⟩, ⟨fun k h => (hk k h).2, fun a h => (ha a h).2⟩⟩
theorem okSet {S : Sc} (hS : ScN S) {k : Nat} {y : Kd} (hy : y.ok ∧ y.tok) : (Sc.mk (S.kinds.set k y) S.acts).ok ∧ (Sc.mk (S.kinds.set k y) S.acts).tok := by
  refine okOf (by have := hS.kl; simp; omega) (by have := hS.al; omega) (fun z hz => ?_) fun a ha => ⟨(hS.a a ha).ok, (hS.a a ha).tok⟩
  rcases List.mem_or_eq_of_mem_set hz with h | h
  · exact ⟨(hS.k z h).ok, (hS.k z h).tok⟩
  · rw [h]; exact hy
theorem pur_turn {p : Nat → Prop} {s : AState} {K : List Kd} {n b k j : Nat} {cap : Option Nat} {cs : List AV} {v a : AV} {y : Kd} (h : RowS p s (.sl b 0 n cap 3) (rowc Kd.c K) n 3 b cap cs) (hn : n = K.length) (hk : k < K.length) (hj : j < 3)
    (hy : y.c = setx K[k].c j a) (hv : Pur (s.put b (setx cs (k * 3 + j) v)) true v a) : Pur (s.put b (setx cs (k * 3 + j) v)) true (.sl b 0 n cap 3) (slc Kd.c (K.set k y)) := by
  subst hn
  have hlt : k * 3 + j < K.length * 3 := by omega
  have h1 := h.setx hlt v
  have h2 := h1.pur true (c' := setx (rowc Kd.c K) (k * 3 + j) a) (by rw [setx_length (by rw [rowc_length Kd.c_len]; omega), setx_length (by rw [rowc_length Kd.c_len]; omega)]) (pur_setx (rowc_pur Kd.pur K) hv (by rw [rowc_length Kd.c_len]; omega))
  rw [rowc_setx Kd.c_len hk hj hy] at h2
  rw [slc_eq, List.length_set]
  exact h2
theorem schemaChecks_ac {raw : Sc} {ks : List RKd} {ac : List RAc} {at_ which : Int} {by_ : Fl} {name : Str} (hro : raw.ok) (hrt : raw.tok) (hbn : by_.name.length ≤ Most) (hnn : name.length ≤ Most) :
    AC Try.prog 3 [.agg raw.c, slc RKd.c ks, slc RAc.c ac, .int .i64 at_, .int .i64 which, .agg by_.c, .str name] st0 fun v _ => v = .bool true := by
  refine ac_wp fn3 cf3 cl3 rfl ?_
  simp only [ac3]
  unfold ab3
  simp only [wpC_seq, wpC_skip, wpCK_normal]
  refine w_mid (fun ρ s => ρ.rd 1 = slc RKd.c ks ∧ ρ.rd 2 = slc RAc.c ac ∧ ρ.rd 3 = .int .i64 at_ ∧ ρ.rd 4 = .int .i64 which ∧ ρ.rd 6 = .str name ∧ ρ.rd 7 = .ptr 0 0 ∧ ρ.rd 12 = .ptr 1 0 ∧ s.cells 0 = some [slc Kd.c raw.kinds, slc Ac.c raw.acts] ∧ s.cells 1 = some by_.c ∧ s.n = 2) ?_ ?_
  · simp only [WS, stepW, evalA, reduceIte, Nat.reduceEqDiff, reduceCtorEq, evalBin, Option.getD, Int.reduceToNat, Nat.reduceMul, Nat.reduceAdd, allocA, rowOf, fillA, partsV, setl, Nat.reduceLeDiff, AV.len, evalUn, Int.reduceLT, Int.reduceLE, Int.reduceEq, Int.reduceNe, strs_eq, Sc.c_eq, Fl.c_eq]
  rintro ρ s ⟨h1, h2, h3, h4, h6, h7, h12, c0, c1, hn⟩
  rw [wpC_seq]
  refine w_mid (fun ρ s => ρ.rd 1 = slc RKd.c ks ∧ ρ.rd 2 = slc RAc.c ac ∧ ρ.rd 3 = .int .i64 at_ ∧ ρ.rd 4 = .int .i64 which ∧ ρ.rd 6 = .str name ∧ ρ.rd 7 = .ptr 0 0 ∧ ρ.rd 12 = .ptr 1 0 ∧ s.cells 0 = some [slc Kd.c raw.kinds, slc Ac.c raw.acts] ∧ s.cells 1 = some by_.c ∧ s.n = 2) ?_ ?_
  · simp only [WS, stepW, evalA, reduceIte, Nat.reduceEqDiff, reduceCtorEq, evalBin, Option.getD, Int.reduceToNat, Nat.reduceMul, Nat.reduceAdd, allocA, rowOf, fillA, partsV, setl, Nat.reduceLeDiff, AV.len, evalUn, Int.reduceLT, Int.reduceLE, Int.reduceEq, Int.reduceNe, strs_eq, h1, h2, h3, h4, h6, h7, h12]
    refine known10_ac.use ?_
    simp only [WS, stepW, evalA, reduceIte, Nat.reduceEqDiff, reduceCtorEq, evalBin, Option.getD, Int.reduceToNat, Nat.reduceMul, Nat.reduceAdd, allocA, rowOf, fillA, partsV, setl, Nat.reduceLeDiff, AV.len, evalUn, Int.reduceLT, Int.reduceLE, Int.reduceEq, Int.reduceNe, strs_eq, h1, h2, h3, h4, h6, h7, h12, c0, c1, hn]
  clear h1 h2 h3 h4 h6 h7 h12 c0 c1 hn
  rintro ρ s ⟨h1, h2, h3, h4, h6, h7, h12, c0, c1, hn⟩
  simp only [Fl.c_eq] at c1
  have sgr := scSeg raw
  rw [wpC_seq]
  refine w_mid (fun ρ s => ρ.rd 1 = slc RKd.c ks ∧ ρ.rd 2 = slc RAc.c ac ∧ ρ.rd 3 = .int .i64 at_ ∧ ρ.rd 4 = .int .i64 which ∧ ρ.rd 6 = .str name ∧ ρ.rd 7 = .ptr 0 0 ∧ ρ.rd 12 = .ptr 1 0 ∧ s.cells 0 = some [slc Kd.c raw.kinds, slc Ac.c raw.acts] ∧ s.cells 1 = some by_.c ∧ s.n = 2) ?_ ?_
  · have hF := few_ac (s := raw) (σ := s) hro
    rw [Sc.c_eq, slc_eq, slc_eq] at hF
    simp only [WS, stepW, evalA, reduceIte, Nat.reduceEqDiff, reduceCtorEq, evalBin, Option.getD, Int.reduceToNat, Nat.reduceMul, Nat.reduceAdd, allocA, rowOf, fillA, partsV, setl, Nat.reduceLeDiff, AV.len, evalUn, Int.reduceLT, Int.reduceLE, Int.reduceEq, Int.reduceNe, strs_eq, h1, h2, h3, h4, h6, h7, h12, c0, sgr]
    refine hF.mono ?_
    rintro v s1 ⟨rfl, b, rfl⟩
    cases b with
    | false => simp only [WS, stepW, evalA, reduceIte, Nat.reduceEqDiff, reduceCtorEq, evalBin, Option.getD, Int.reduceToNat, Nat.reduceMul, Nat.reduceAdd, allocA, rowOf, fillA, partsV, setl, Nat.reduceLeDiff, AV.len, evalUn, Int.reduceLT, Int.reduceLE, Int.reduceEq, Int.reduceNe, strs_eq, h1, h2, h3, h4, h6, h7, h12, c0, c1, hn]
    | true =>
      by_cases q1 : (50 : Int) < name.length
      · simp only [WS, stepW, evalA, reduceIte, Nat.reduceEqDiff, reduceCtorEq, evalBin, Option.getD, Int.reduceToNat, Nat.reduceMul, Nat.reduceAdd, allocA, rowOf, fillA, partsV, setl, Nat.reduceLeDiff, AV.len, evalUn, Int.reduceLT, Int.reduceLE, Int.reduceEq, Int.reduceNe, strs_eq, h1, h2, h3, h4, h6, h7, h12, c0, c1, hn, q1]
      by_cases q2 : (50 : Int) < by_.name.length
      · simp only [WS, stepW, evalA, reduceIte, Nat.reduceEqDiff, reduceCtorEq, evalBin, Option.getD, Int.reduceToNat, Nat.reduceMul, Nat.reduceAdd, allocA, rowOf, fillA, partsV, setl, Nat.reduceLeDiff, AV.len, evalUn, Int.reduceLT, Int.reduceLE, Int.reduceEq, Int.reduceNe, strs_eq, h1, h2, h3, h4, h6, h7, h12, c0, c1, hn, q1, q2]
      by_cases q3 : (50 : Int) < by_.ty.name.length
      · simp only [WS, stepW, evalA, reduceIte, Nat.reduceEqDiff, reduceCtorEq, evalBin, Option.getD, Int.reduceToNat, Nat.reduceMul, Nat.reduceAdd, allocA, rowOf, fillA, partsV, setl, Nat.reduceLeDiff, AV.len, evalUn, Int.reduceLT, Int.reduceLE, Int.reduceEq, Int.reduceNe, strs_eq, h1, h2, h3, h4, h6, h7, h12, c0, c1, hn, q1, q2, q3]
      · simp only [WS, stepW, evalA, reduceIte, Nat.reduceEqDiff, reduceCtorEq, evalBin, Option.getD, Int.reduceToNat, Nat.reduceMul, Nat.reduceAdd, allocA, rowOf, fillA, partsV, setl, Nat.reduceLeDiff, AV.len, evalUn, Int.reduceLT, Int.reduceLE, Int.reduceEq, Int.reduceNe, strs_eq, h1, h2, h3, h4, h6, h7, h12, c0, c1, hn, q1, q2, q3, Fl.c_eq]
  clear h1 h2 h3 h4 h6 h7 h12 c0 c1 hn
  rintro ρ s ⟨h1, h2, h3, h4, h6, h7, h12, c0, c1, hn⟩
  simp only [Fl.c_eq] at c1
  simp only [wpC_seq, wpC_skip, wpCK_normal]
  refine w_mid (fun ρ s => ρ.rd 1 = slc RKd.c ks ∧ ρ.rd 2 = slc RAc.c ac ∧ ρ.rd 3 = .int .i64 at_ ∧ ρ.rd 4 = .int .i64 which ∧ ρ.rd 6 = .str name ∧ ρ.rd 7 = .ptr 0 0 ∧ ρ.rd 12 = .ptr 1 0 ∧ ρ.rd 15 = .ptr 2 0 ∧ s.cells 0 = some [slc Kd.c raw.kinds, slc Ac.c raw.acts] ∧ s.cells 1 = some by_.c ∧ s.n = 3 ∧ ∃ X : Sc, ScG X ∧ s.cells 2 = some [slc Kd.c X.kinds, slc Ac.c X.acts]) ?_ ?_
  · simp only [WS, stepW, evalA, reduceIte, Nat.reduceEqDiff, reduceCtorEq, evalBin, Option.getD, Int.reduceToNat, Nat.reduceMul, Nat.reduceAdd, allocA, rowOf, fillA, partsV, setl, Nat.reduceLeDiff, AV.len, evalUn, Int.reduceLT, Int.reduceLE, Int.reduceEq, Int.reduceNe, strs_eq, h1, h2, h3, h4, h6, h7, h12]
    refine schema5_ac.mono ?_
    rintro v s1 ⟨rfl, X, rfl, hX⟩
    simp only [WS, stepW, evalA, reduceIte, Nat.reduceEqDiff, reduceCtorEq, evalBin, Option.getD, Int.reduceToNat, Nat.reduceMul, Nat.reduceAdd, allocA, rowOf, fillA, partsV, setl, Nat.reduceLeDiff, AV.len, evalUn, Int.reduceLT, Int.reduceLE, Int.reduceEq, Int.reduceNe, strs_eq, h1, h2, h3, h4, h6, h7, h12, c0, c1, hn, Sc.c_eq, Fl.c_eq, storeA, sets, setx, List.take_zero, List.drop_succ_cons, List.drop_zero, List.take_succ_cons]
    exact ⟨X, hX, rfl⟩
  clear h1 h2 h3 h4 h6 h7 h12 c0 c1 hn
  rintro ρ s ⟨h1, h2, h3, h4, h6, h7, h12, h15, c0, c1, hn, X, hX, c2⟩
  simp only [Fl.c_eq] at c1
  simp only [wpC_seq, wpC_skip, wpCK_normal]
  refine w_mid (fun ρ s => ρ.rd 1 = slc RKd.c ks ∧ ρ.rd 2 = slc RAc.c ac ∧ ρ.rd 3 = .int .i64 at_ ∧ ρ.rd 4 = .int .i64 which ∧ ρ.rd 6 = .str name ∧ ρ.rd 7 = .ptr 0 0 ∧ ρ.rd 12 = .ptr 1 0 ∧ ρ.rd 15 = .ptr 2 0 ∧ s.cells 0 = some [slc Kd.c raw.kinds, slc Ac.c raw.acts] ∧ s.cells 1 = some by_.c ∧ s.cells 2 = some [slc Kd.c X.kinds, slc Ac.c X.acts] ∧ ∃ q m S x y, ρ.rd 16 = .ptr q 0 ∧ s.cells q = some [x, y] ∧ 3 ≤ m ∧ m ≤ q ∧ q < s.n ∧ RowP (fun b => 3 ≤ b ∧ b < m) s x (rowc Kd.c S.kinds) S.kinds.length 3 ∧ RowP (fun b => m ≤ b ∧ b < q) s y (rowc Ac.c S.acts) S.acts.length 3 ∧ ScN S) ?_ ?_
  · simp only [WS, stepW, evalA, reduceIte, Nat.reduceEqDiff, reduceCtorEq, evalBin, Option.getD, Int.reduceToNat, Nat.reduceMul, Nat.reduceAdd, allocA, rowOf, fillA, partsV, setl, Nat.reduceLeDiff, AV.len, evalUn, Int.reduceLT, Int.reduceLE, Int.reduceEq, Int.reduceNe, strs_eq, h1, h2, h3, h4, h6, h7, h12]
    refine good_ac.mono ?_
    rintro v s1 ⟨hk, m, S, x, y, rfl, hm3, hms, hrx, hry, hS⟩
    rw [hn] at hk hm3
    have d0 := (hk.cells (b := 0) (by omega)).trans c0
    have d1 := (hk.cells (b := 1) (by omega)).trans c1
    have d2 := (hk.cells (b := 2) (by omega)).trans c2
    have n0 : ¬ 0 = s1.n := by omega
    have n1 : ¬ 1 = s1.n := by omega
    have n2 : ¬ 2 = s1.n := by omega
    have hxy : x.one = true ∧ y.one = true := by
      constructor
      · rcases hrx.form with rfl | ⟨_, _, rfl⟩ <;> rfl
      · rcases hry.form with rfl | ⟨_, _, rfl⟩ <;> rfl
    simp only [WS, stepW, evalA, reduceIte, Nat.reduceEqDiff, reduceCtorEq, evalBin, Option.getD, Int.reduceToNat, Nat.reduceMul, Nat.reduceAdd, allocA, rowOf, fillA, partsV, setl, Nat.reduceLeDiff, AV.len, evalUn, Int.reduceLT, Int.reduceLE, Int.reduceEq, Int.reduceNe, strs_eq, h1, h2, h3, h4, h6, h7, h12, h15, d0, d1, d2, n0, n1, n2, hxy, Fl.c_eq, storeA, sets, setx, List.take_zero, List.drop_succ_cons, List.drop_zero, List.take_succ_cons]
    exact ⟨s1.n, m, S, x, y, rfl, if_pos rfl, hm3, hms, by omega, ((hrx.mono fun b hb _ => by omega).push _).put (by omega) _, (RowP.push (hry.mono fun b hb hb' => ⟨hb, hb'⟩) _).put (by omega) _, hS⟩
  clear h1 h2 h3 h4 h6 h7 h12 h15 c0 c1 hn c2
  rintro ρ s ⟨h1, h2, h3, h4, h6, h7, h12, h15, c0, c1, c2, q, m, S, x, y, h16, cq, hm3, hmq, hq, hrx, hry, hS⟩
  simp only [Fl.c_eq] at c1
  rw [wpC_seq]
  refine w_mid (fun ρ s => ρ.rd 1 = slc RKd.c ks ∧ ρ.rd 2 = slc RAc.c ac ∧ ρ.rd 3 = .int .i64 at_ ∧ ρ.rd 4 = .int .i64 which ∧ ρ.rd 6 = .str name ∧ ρ.rd 7 = .ptr 0 0 ∧ ρ.rd 12 = .ptr 1 0 ∧ ρ.rd 16 = .ptr q 0 ∧ s.cells 1 = some by_.c ∧ s.cells q = some [x, y] ∧ q < s.n ∧ RowP (fun b => 3 ≤ b ∧ b < m) s x (rowc Kd.c S.kinds) S.kinds.length 3 ∧ RowP (fun b => m ≤ b ∧ b < q) s y (rowc Ac.c S.acts) S.acts.length 3) ?_ ?_
  · simp only [WS, stepW, evalA, reduceIte, Nat.reduceEqDiff, reduceCtorEq, evalBin, Option.getD, Int.reduceToNat, Nat.reduceMul, Nat.reduceAdd, allocA, rowOf, fillA, partsV, setl, Nat.reduceLeDiff, AV.len, evalUn, Int.reduceLT, Int.reduceLE, Int.reduceEq, Int.reduceNe, strs_eq]
    refine w_dreg follow [] rfl ?_
    have d0 : (addSlots s.n 17 s []).cells 0 = some [slc Kd.c raw.kinds, slc Ac.c raw.acts] := c0
    have d1 : (addSlots s.n 17 s []).cells 1 = some [.str by_.name, .int .i64 by_.ty.kind, .int .i64 by_.ty.of_, .str by_.ty.name] := c1
    have d2 : (addSlots s.n 17 s []).cells 2 = some [slc Kd.c X.kinds, slc Ac.c X.acts] := c2
    have dq : (addSlots s.n 17 s []).cells q = some [x, y] := cq
    have hrxA := hrx.slots 17
    have hryA := hry.slots 17
    have hnA : q < (addSlots s.n 17 s []).n := by simp only [addSlots]; omega
    generalize addSlots s.n 17 s [] = s3 at *
    have hpx : Pur s3 true (.agg [x, y]) (.agg S.c) := .agg _ _ rfl fun j hj hj' => match j, hj with
      | 0, _ => hrxA.self (rowc_pur Kd.pur S.kinds)
      | 1, _ => hryA.self (rowc_pur Ac.pur S.acts)
    have sgX := scSeg X
    have sg2 : ∀ a b : AV, seg [a, b] 0 2 = [a, b] := fun _ _ => rfl
    have hC1 := check_ac (s := raw) (σ := s3) hro hrt
    have hC2 := checkR_ac (s := raw) (σ := s3) hro hrt
    have hC3 := check_ac (s := X) (σ := s3) hX.ok hX.tok
    have hC4 := checkR_ac (s := X) (σ := s3) hX.ok hX.tok
    have hC5 := check_own hS.g.ok hS.g.tok hpx
    rw [hS.chk] at hC5
    rw [Sc.c_eq, slc_eq, slc_eq] at hC1 hC2 hC3 hC4
    simp only [WS, stepW, evalA, reduceIte, Nat.reduceEqDiff, reduceCtorEq, evalBin, Option.getD, Int.reduceToNat, Nat.reduceMul, Nat.reduceAdd, allocA, rowOf, fillA, partsV, setl, Nat.reduceLeDiff, AV.len, evalUn, Int.reduceLT, Int.reduceLE, Int.reduceEq, Int.reduceNe, strs_eq, DS, isSl, AOp.pure, AOp.reader, allocD, AOp.quiet, isSlot, Nat.reduceBEq, h1, h2, h3, h4, h6, h7, h12, h15, h16, d0, d2, dq, sg2]
    refine hC1.useD ?_
    simp only [WS, stepW, evalA, reduceIte, Nat.reduceEqDiff, reduceCtorEq, evalBin, Option.getD, Int.reduceToNat, Nat.reduceMul, Nat.reduceAdd, allocA, rowOf, fillA, partsV, setl, Nat.reduceLeDiff, AV.len, evalUn, Int.reduceLT, Int.reduceLE, Int.reduceEq, Int.reduceNe, strs_eq, DS, isSl, AOp.pure, AOp.reader, allocD, AOp.quiet, isSlot, Nat.reduceBEq, h1, h2, h3, h4, h6, h7, h12, h15, h16, d0, d2, dq, sg2]
    refine hC2.useD ?_
    simp only [WS, stepW, evalA, reduceIte, Nat.reduceEqDiff, reduceCtorEq, evalBin, Option.getD, Int.reduceToNat, Nat.reduceMul, Nat.reduceAdd, allocA, rowOf, fillA, partsV, setl, Nat.reduceLeDiff, AV.len, evalUn, Int.reduceLT, Int.reduceLE, Int.reduceEq, Int.reduceNe, strs_eq, DS, isSl, AOp.pure, AOp.reader, allocD, AOp.quiet, isSlot, Nat.reduceBEq, h1, h2, h3, h4, h6, h7, h12, h15, h16, d0, d2, dq, sg2]
    refine hC3.useD ?_
    simp only [WS, stepW, evalA, reduceIte, Nat.reduceEqDiff, reduceCtorEq, evalBin, Option.getD, Int.reduceToNat, Nat.reduceMul, Nat.reduceAdd, allocA, rowOf, fillA, partsV, setl, Nat.reduceLeDiff, AV.len, evalUn, Int.reduceLT, Int.reduceLE, Int.reduceEq, Int.reduceNe, strs_eq, DS, isSl, AOp.pure, AOp.reader, allocD, AOp.quiet, isSlot, Nat.reduceBEq, h1, h2, h3, h4, h6, h7, h12, h15, h16, d0, d2, dq, sg2]
    refine hC4.useD ?_
    simp only [WS, stepW, evalA, reduceIte, Nat.reduceEqDiff, reduceCtorEq, evalBin, Option.getD, Int.reduceToNat, Nat.reduceMul, Nat.reduceAdd, allocA, rowOf, fillA, partsV, setl, Nat.reduceLeDiff, AV.len, evalUn, Int.reduceLT, Int.reduceLE, Int.reduceEq, Int.reduceNe, strs_eq, DS, isSl, AOp.pure, AOp.reader, allocD, AOp.quiet, isSlot, Nat.reduceBEq, h1, h2, h3, h4, h6, h7, h12, h15, h16, d0, d2, dq, sg2]
    refine hC5.useD ?_
    simp only [WS, stepW, evalA, reduceIte, Nat.reduceEqDiff, reduceCtorEq, evalBin, Option.getD, Int.reduceToNat, Nat.reduceMul, Nat.reduceAdd, allocA, rowOf, fillA, partsV, setl, Nat.reduceLeDiff, AV.len, evalUn, Int.reduceLT, Int.reduceLE, Int.reduceEq, Int.reduceNe, strs_eq, DS, isSl, AOp.pure, AOp.reader, allocD, AOp.quiet, isSlot, Nat.reduceBEq, h1, h2, h3, h4, h6, h7, h12, h15, h16, d0, d2, dq, sg2]
    refine ⟨⟨?_, ?_⟩, ?_⟩
    · intro l hl c hc hf
      simp only [List.mem_cons, List.mem_nil_iff, List.not_mem_nil, or_false] at hl hc
      rcases hl with rfl | rfl | rfl | rfl | rfl <;> rcases hc with rfl | rfl | rfl | rfl | rfl | rfl <;> dsimp only at hf ⊢ <;> first
        | (exact absurd hf (by decide +kernel))
        | (simp only [WS, stepW, evalA, reduceIte, Nat.reduceEqDiff, reduceCtorEq, evalBin, Option.getD, Int.reduceToNat, Nat.reduceMul, Nat.reduceAdd, allocA, rowOf, fillA, partsV, setl, Nat.reduceLeDiff, AV.len, evalUn, Int.reduceLT, Int.reduceLE, Int.reduceEq, Int.reduceNe, strs_eq, h1, h2, h3, h4, h6, h7, h12, h15, h16, d0, d2, dq, sg2]; done)
    · intro sl hsl; simp at hsl
    · simp only [WS, stepW, evalA, reduceIte, Nat.reduceEqDiff, reduceCtorEq, evalBin, Option.getD, Int.reduceToNat, Nat.reduceMul, Nat.reduceAdd, allocA, rowOf, fillA, partsV, setl, Nat.reduceLeDiff, AV.len, evalUn, Int.reduceLT, Int.reduceLE, Int.reduceEq, Int.reduceNe, strs_eq, h1, h2, h3, h4, h6, h7, h12, h16, d1, dq, Fl.c_eq]
      exact ⟨hnA, hrxA, hryA⟩
  clear h1 h2 h3 h4 h6 h7 h12 h15 h16 c0 c1 c2 cq hq hrx hry
  rintro ρ s ⟨h1, h2, h3, h4, h6, h7, h12, h16, c1, cq, hq, hrx, hry⟩
  simp only [Fl.c_eq] at c1
  have hkl := hS.kl
  have hMost : Most = 9223372036854775807 := rfl
  by_cases hS0 : S.kinds.length = 0
  · rw [hS0] at hrx
    have z0 : ((0 : Nat) : Int) = 0 := rfl
    rcases hrx.form with rfl | ⟨b, cap, rfl⟩
    all_goals simp only [WS, stepW, evalA, reduceIte, Nat.reduceEqDiff, reduceCtorEq, evalBin, Option.getD, Int.reduceToNat, Nat.reduceMul, Nat.reduceAdd, allocA, rowOf, fillA, partsV, setl, Nat.reduceLeDiff, AV.len, evalUn, Int.reduceLT, Int.reduceLE, Int.reduceEq, Int.reduceNe, strs_eq, h1, h2, h3, h4, h6, h7, h12, h16, cq, z0]
  obtain ⟨b, cap, cs, hSx⟩ := hrx.some (by omega)
  have hyS := hSx.eq
  subst hyS
  have hob := hSx.own
  have hcc := hSx.cells
  have hne : ¬ (S.kinds.length : Int) = 0 := by omega
  have hwr := wi_range at_ (n := (S.kinds.length : Nat)) (by omega)
  obtain ⟨k, hk⟩ : ∃ k : Nat, wi at_ (S.kinds.length : Nat) = k := ⟨(wi at_ (S.kinds.length : Nat)).toNat, by omega⟩
  rw [hk] at hwr
  have hkl' : k < S.kinds.length := by omega
  have hrk := lt_idx hkl'
  have A := kdAt hkl'
  rw [wpC_seq]
  refine w_mid (fun ρ s1 => s1 = s ∧ ρ.rd 1 = slc RKd.c ks ∧ ρ.rd 2 = slc RAc.c ac ∧ ρ.rd 3 = .int .i64 at_ ∧ ρ.rd 4 = .int .i64 which ∧ ρ.rd 6 = .str name ∧ ρ.rd 7 = .ptr 0 0 ∧ ρ.rd 12 = .ptr 1 0 ∧ ρ.rd 16 = .ptr q 0) ?_ ?_
  · simp only [WS, stepW, evalA, reduceIte, Nat.reduceEqDiff, reduceCtorEq, evalBin, Option.getD, Int.reduceToNat, Nat.reduceMul, Nat.reduceAdd, allocA, rowOf, fillA, partsV, setl, Nat.reduceLeDiff, AV.len, evalUn, Int.reduceLT, Int.reduceLE, Int.reduceEq, Int.reduceNe, strs_eq, h1, h2, h3, h4, h6, h7, h12, h16, cq, hne]
  clear h1 h2 h3 h4 h6 h7 h12 h16
  rintro ρ s1 ⟨rfl, h1, h2, h3, h4, h6, h7, h12, h16⟩
  rw [wpC_seq]
  refine w_mid (fun ρ s2 => s2 = s1 ∧ ρ.rd 1 = slc RKd.c ks ∧ ρ.rd 2 = slc RAc.c ac ∧ ρ.rd 3 = .int .i64 at_ ∧ ρ.rd 4 = .int .i64 which ∧ ρ.rd 6 = .str name ∧ ρ.rd 7 = .ptr 0 0 ∧ ρ.rd 12 = .ptr 1 0 ∧ ρ.rd 16 = .ptr q 0 ∧ ρ.rd 17 = .int .i64 k) ?_ ?_
  · simp only [WS, stepW, evalA, reduceIte, Nat.reduceEqDiff, reduceCtorEq, evalBin, Option.getD, Int.reduceToNat, Nat.reduceMul, Nat.reduceAdd, allocA, rowOf, fillA, partsV, setl, Nat.reduceLeDiff, AV.len, evalUn, Int.reduceLT, Int.reduceLE, Int.reduceEq, Int.reduceNe, strs_eq, h1, h2, h3, h4, h6, h7, h12, h16, cq]
    refine (within10_ac (by omega) (by omega)).use ?_
    rw [hk]
    simp only [WS, stepW, evalA, reduceIte, Nat.reduceEqDiff, reduceCtorEq, evalBin, Option.getD, Int.reduceToNat, Nat.reduceMul, Nat.reduceAdd, allocA, rowOf, fillA, partsV, setl, Nat.reduceLeDiff, AV.len, evalUn, Int.reduceLT, Int.reduceLE, Int.reduceEq, Int.reduceNe, strs_eq, h1, h2, h3, h4, h6, h7, h12, h16]
  clear h1 h2 h3 h4 h6 h7 h12 h16
  rintro ρ s2 ⟨rfl, h1, h2, h3, h4, h6, h7, h12, h16, h17⟩
  rw [wpC_seq]
  refine w_mid (fun ρ s => ρ.rd 16 = .ptr q 0 ∧ ∃ (T : Sc) (x' y' : AV), s.cells q = some [x', y'] ∧ Pur s true (.agg [x', y']) (.agg T.c) ∧ T.ok ∧ T.tok) ?_ ?_
  rotate_left
  · clear h1 h2 h3 h4 h6 h7 h12 h16 h17 c1 cq hq hrx hry hSx hcc
    rintro ρ s ⟨h16, T, x', y', cq, hp, hTo, hTt⟩
    simp only [WS, stepW, evalA, reduceIte, Nat.reduceEqDiff, reduceCtorEq, evalBin, Option.getD, Int.reduceToNat, Nat.reduceMul, Nat.reduceAdd, allocA, rowOf, fillA, partsV, setl, Nat.reduceLeDiff, AV.len, evalUn, Int.reduceLT, Int.reduceLE, Int.reduceEq, Int.reduceNe, strs_eq]
    refine w_dreg follow [] rfl ?_
    have dq : (addSlots s.n 6 s []).cells q = some [x', y'] := cq
    have hpA := pur_slots (m := 6) hp
    generalize addSlots s.n 6 s [] = s3 at *
    have sg2 : ∀ a b : AV, seg [a, b] 0 2 = [a, b] := fun _ _ => rfl
    simp only [WS, stepW, evalA, reduceIte, Nat.reduceEqDiff, reduceCtorEq, evalBin, Option.getD, Int.reduceToNat, Nat.reduceMul, Nat.reduceAdd, allocA, rowOf, fillA, partsV, setl, Nat.reduceLeDiff, AV.len, evalUn, Int.reduceLT, Int.reduceLE, Int.reduceEq, Int.reduceNe, strs_eq, DS, isSl, AOp.pure, AOp.reader, allocD, AOp.quiet, isSlot, Nat.reduceBEq, h16, dq, sg2]
    refine (check_own hTo hTt hpA).useD ?_
    simp only [WS, stepW, evalA, reduceIte, Nat.reduceEqDiff, reduceCtorEq, evalBin, Option.getD, Int.reduceToNat, Nat.reduceMul, Nat.reduceAdd, allocA, rowOf, fillA, partsV, setl, Nat.reduceLeDiff, AV.len, evalUn, Int.reduceLT, Int.reduceLE, Int.reduceEq, Int.reduceNe, strs_eq, DS, isSl, AOp.pure, AOp.reader, allocD, AOp.quiet, isSlot, Nat.reduceBEq, h16, dq, sg2]
    refine (checkR_own hTo hTt hpA).useD ?_
    simp only [WS, stepW, evalA, reduceIte, Nat.reduceEqDiff, reduceCtorEq, evalBin, Option.getD, Int.reduceToNat, Nat.reduceMul, Nat.reduceAdd, allocA, rowOf, fillA, partsV, setl, Nat.reduceLeDiff, AV.len, evalUn, Int.reduceLT, Int.reduceLE, Int.reduceEq, Int.reduceNe, strs_eq, DS, isSl, AOp.pure, AOp.reader, allocD, AOp.quiet, isSlot, Nat.reduceBEq, h16, dq, sg2]
    refine ⟨?_, ?_⟩
    · intro l hl c hc hf
      simp only [List.mem_cons, List.mem_nil_iff, List.not_mem_nil, or_false] at hl hc
      rcases hl with rfl | rfl <;> rcases hc with rfl | rfl | rfl <;> dsimp only at hf ⊢ <;> first
        | (exact absurd hf (by decide +kernel))
        | (simp only [WS, stepW, evalA, reduceIte, Nat.reduceEqDiff, reduceCtorEq, evalBin, Option.getD, Int.reduceToNat, Nat.reduceMul, Nat.reduceAdd, allocA, rowOf, fillA, partsV, setl, Nat.reduceLeDiff, AV.len, evalUn, Int.reduceLT, Int.reduceLE, Int.reduceEq, Int.reduceNe, strs_eq, h16, dq, sg2]; done)
    · intro sl hsl; simp at hsl
  have hyA := hry
  rw [wpC_seq]
  refine w_mid (fun ρ s2' => s2' = s2 ∧ ρ.rd 1 = slc RKd.c ks ∧ ρ.rd 2 = slc RAc.c ac ∧ ρ.rd 3 = .int .i64 at_ ∧ ρ.rd 4 = .int .i64 which ∧ ρ.rd 6 = .str name ∧ ρ.rd 7 = .ptr 0 0 ∧ ρ.rd 12 = .ptr 1 0 ∧ ρ.rd 16 = .ptr q 0 ∧ ρ.rd 17 = .int .i64 k ∧ ρ.rd 74 = .int .i64 (wi which 7)) ?_ ?_
  · simp only [WS, stepW, evalA, reduceIte, Nat.reduceEqDiff, reduceCtorEq, evalBin, Option.getD, Int.reduceToNat, Nat.reduceMul, Nat.reduceAdd, allocA, rowOf, fillA, partsV, setl, Nat.reduceLeDiff, AV.len, evalUn, Int.reduceLT, Int.reduceLE, Int.reduceEq, Int.reduceNe, strs_eq, h1, h2, h3, h4, h6, h7, h12]
    refine (within10_ac (by decide) (by decide)).use ?_
    simp only [WS, stepW, evalA, reduceIte, Nat.reduceEqDiff, reduceCtorEq, evalBin, Option.getD, Int.reduceToNat, Nat.reduceMul, Nat.reduceAdd, allocA, rowOf, fillA, partsV, setl, Nat.reduceLeDiff, AV.len, evalUn, Int.reduceLT, Int.reduceLE, Int.reduceEq, Int.reduceNe, strs_eq, h1, h2, h3, h4, h6, h7, h12, h16, h17]
  clear h1 h2 h3 h4 h6 h7 h12 h16 h17
  rintro ρ s3 ⟨rfl, h1, h2, h3, h4, h6, h7, h12, h16, h17, h74⟩
  have hKg := hS.k
  have hKk := hKg _ (List.getElem_mem hkl')
  have hpy : Pur s3 true y (slc Ac.c S.acts) := hry.self (rowc_pur Ac.pur S.acts)
  rcases wi_7 which with h | h | h | h | h | h | h
  all_goals rw [h] at h74
  · simp only [WS, stepW, evalA, reduceIte, Nat.reduceEqDiff, reduceCtorEq, evalBin, Option.getD, Int.reduceToNat, Nat.reduceMul, Nat.reduceAdd, allocA, rowOf, fillA, partsV, setl, Nat.reduceLeDiff, AV.len, evalUn, Int.reduceLT, Int.reduceLE, Int.reduceEq, Int.reduceNe, strs_eq, h1, h2, h3, h4, h6, h7, h12, h16, h17, h74, cq, hrk, hcc]
    have hfit : k * 3 < cs.length := by have := (hSx.row hkl').1; omega
    rw [store1 hcc hfit rfl]
    simp only [WS, stepW, evalA, reduceIte, Nat.reduceEqDiff, reduceCtorEq, evalBin, Option.getD, Int.reduceToNat, Nat.reduceMul, Nat.reduceAdd, allocA, rowOf, fillA, partsV, setl, Nat.reduceLeDiff, AV.len, evalUn, Int.reduceLT, Int.reduceLE, Int.reduceEq, Int.reduceNe, strs_eq, h16]
    have hy := okSet hS (k := k) (y := { S.kinds[k] with name := name }) ⟨hKk.ok, hnn, hKk.tok.2⟩
    have nqb : ¬ q = b := by omega
    rw [if_neg nqb]
    refine ⟨⟨S.kinds.set k { S.kinds[k] with name := name }, S.acts⟩, _, _, cq, .agg _ _ rfl fun j hj hj' => ?_, hy.1, hy.2⟩
    match j, hj with
    | 0, _ => exact pur_turn (j := 0) hSx rfl hkl' (by decide) rfl (.flat _ rfl)
    | 1, _ => exact (hry.put (by omega) _).self (rowc_pur Ac.pur S.acts)
  · simp only [WS, stepW, evalA, reduceIte, Nat.reduceEqDiff, reduceCtorEq, evalBin, Option.getD, Int.reduceToNat, Nat.reduceMul, Nat.reduceAdd, allocA, rowOf, fillA, partsV, setl, Nat.reduceLeDiff, AV.len, evalUn, Int.reduceLT, Int.reduceLE, Int.reduceEq, Int.reduceNe, strs_eq, h1, h2, h3, h4, h6, h7, h12, h16, h17, h74, cq, hrk, hcc]
    refine w_dreg follow [(3, []), (12, [.str name])] rfl ?_
    have dq : (addSlots s3.n 17 s3 [(3, []), (12, [.str name])]).cells q = some [.sl b 0 S.kinds.length cap 3, y] := (slots_old _ hq).trans cq
    have db : (addSlots s3.n 17 s3 [(3, []), (12, [.str name])]).cells b = some cs := (slots_old _ hSx.lt).trans hcc
    have d1 : (addSlots s3.n 17 s3 [(3, []), (12, [.str name])]).cells 1 = some [.str by_.name, .int .i64 by_.ty.kind, .int .i64 by_.ty.of_, .str by_.ty.name] := (slots_old _ (by omega)).trans c1
    have g3 := slots_get (s := s3) (m := 17) [(3, []), (12, [.str name])] 3 [] rfl
    have g12 := slots_get (s := s3) (m := 17) [(3, []), (12, [.str name])] 12 [.str name] rfl
    have hryA := hry.slotsL 17 [(3, []), (12, [.str name])]
    have hnA : (addSlots s3.n 17 s3 [(3, []), (12, [.str name])]).n = s3.n + 17 := rfl
    generalize addSlots s3.n 17 s3 [(3, []), (12, [.str name])] = s4 at *
    have hrow0 : RowP (fun b' => s3.n ≤ b' ∧ b' ≠ s3.n + 12) s4 (.sl (s3.n + 3) 0 0 (some 0) 1) [] 0 1 := .of (by omega) (by omega) (cells_of g3) rfl
    have hpl := hKk.pl
    have hfl := hKk.fl
    have hbl := hSx.lt
    obtain ⟨x5, s5, happ5, hrow5, hn5, hk5⟩ := app_rowP (bytes := 16) hrow0 (by omega) (y := .psl (S.kinds[k].parents.map .str) 0 S.kinds[k].parents.length) (k := S.kinds[k].parents.length) rfl (firstA_psl' (by simp)) (strs_all _) (by simp) (by omega)
    have hs12 : s5.h.get (s3.n + 12) = some (.cells [.str name]) := (hk5 _ (by omega) (by omega)).trans g12
    have hlit : RowP (fun b' => b' = s3.n + 12) s5 (.sl (s3.n + 12) 0 1 (some 1) 1) [.str name] 1 1 := .of rfl (by omega) (cells_of hs12) rfl
    obtain ⟨b6, cap6, s6, happ6, hrow6, hn6, hk6⟩ := app_rowS (bytes := 16) hrow5 (by omega) hlit.len.1 hlit.firstA rfl rfl (by omega) (by omega)
    rw [Nat.zero_add] at happ6 hrow6 hrow5
    rw [List.nil_append] at hrow5 hrow6
    have hk56 : ∀ b', b' < s3.n → s6.h.get b' = s4.h.get b' := fun b' hb' => (hk6 b' (by omega) (by omega)).trans (hk5 b' (by omega) (by omega))
    have e5 := (get_cells (hk5 b (by omega) (by omega))).trans db
    have e5q := (get_cells (hk5 q (by omega) (by omega))).trans dq
    have e51 := (get_cells (hk5 1 (by omega) (by omega))).trans d1
    have e6 := (get_cells (hk56 b (by omega))).trans db
    have e6q := (get_cells (hk56 q (by omega))).trans dq
    have hfit := (hSx.row hkl').1
    have hgj : cs[k * 3 + 1]? = some (.psl (S.kinds[k].parents.map .str) 0 S.kinds[k].parents.length) := (hSx.get (o := k * 3 + 1) (by omega)).trans A.g1
    have hst := store1 (v := .sl b6 0 (S.kinds[k].parents.length + 1) cap6 1) (off := k * 3 + 1) e6 (by omega) rfl
    have sg4 : ∀ a b c d : AV, seg [a, b, c, d] 0 4 = [a, b, c, d] := fun _ _ _ _ => rfl
    have sg0 : ∀ l : List AV, seg l 0 0 = [] := fun l => by simp [seg]
    simp only [WS, stepW, evalA, reduceIte, Nat.reduceEqDiff, reduceCtorEq, evalBin, Option.getD, Int.reduceToNat, Nat.reduceMul, Nat.reduceAdd, allocA, rowOf, fillA, partsV, setl, Nat.reduceLeDiff, AV.len, evalUn, Int.reduceLT, Int.reduceLE, Int.reduceEq, Int.reduceNe, strs_eq, DS, isSl, AOp.pure, AOp.reader, allocD, AOp.quiet, isSlot, Nat.reduceBEq, h1, h2, h3, h4, h6, h7, h12, h16, h17, dq, db, d1, hrk, hgj, fillA, e5, e5q, e51, e6, sg4, strs_eq]
    simp only [happ5]
    simp only [WS, stepW, evalA, reduceIte, Nat.reduceEqDiff, reduceCtorEq, evalBin, Option.getD, Int.reduceToNat, Nat.reduceMul, Nat.reduceAdd, allocA, rowOf, fillA, partsV, setl, Nat.reduceLeDiff, AV.len, evalUn, Int.reduceLT, Int.reduceLE, Int.reduceEq, Int.reduceNe, strs_eq, DS, isSl, AOp.pure, AOp.reader, allocD, AOp.quiet, isSlot, Nat.reduceBEq, h1, h2, h3, h4, h6, h7, h12, h16, h17, dq, db, d1, hrk, hgj, fillA, e5, e5q, e51, e6, sg4, strs_eq]
    simp only [happ6]
    simp only [WS, stepW, evalA, reduceIte, Nat.reduceEqDiff, reduceCtorEq, evalBin, Option.getD, Int.reduceToNat, Nat.reduceMul, Nat.reduceAdd, allocA, rowOf, fillA, partsV, setl, Nat.reduceLeDiff, AV.len, evalUn, Int.reduceLT, Int.reduceLE, Int.reduceEq, Int.reduceNe, strs_eq, DS, isSl, AOp.pure, AOp.reader, allocD, AOp.quiet, isSlot, Nat.reduceBEq, h1, h2, h3, h4, h6, h7, h12, h16, h17, hrk, e6]
    simp only [hst]
    simp only [WS, stepW, evalA, reduceIte, Nat.reduceEqDiff, reduceCtorEq, evalBin, Option.getD, Int.reduceToNat, Nat.reduceMul, Nat.reduceAdd, allocA, rowOf, fillA, partsV, setl, Nat.reduceLeDiff, AV.len, evalUn, Int.reduceLT, Int.reduceLE, Int.reduceEq, Int.reduceNe, strs_eq, DS, isSl, AOp.pure, AOp.reader, allocD, AOp.quiet, isSlot, Nat.reduceBEq]
    refine ⟨⟨?_, ?_⟩, ?_⟩
    · intro l hl c hc hf
      simp only [List.mem_cons, List.mem_nil_iff, List.not_mem_nil, or_false] at hl hc
      rcases hl with rfl | rfl | rfl <;> rcases hc with rfl | rfl | rfl | rfl <;> dsimp only at hf ⊢ <;> first
        | (exact absurd hf (by decide +kernel))
        | (simp only [WS, stepW, evalA, reduceIte, Nat.reduceEqDiff, reduceCtorEq, evalBin, Option.getD, Int.reduceToNat, Nat.reduceMul, Nat.reduceAdd, allocA, rowOf, fillA, partsV, setl, Nat.reduceLeDiff, AV.len, evalUn, Int.reduceLT, Int.reduceLE, Int.reduceEq, Int.reduceNe, strs_eq, h1, h2, h3, h4, h6, h7, h12, h16, h17, dq, db, d1, hrk, hgj, e5, e5q, e51, e6, e6q, sg4, strs_eq]; done)
    · intro sl hsl c hc hf
      simp only [List.mem_cons, List.mem_nil_iff, List.not_mem_nil, or_false] at hsl hc
      rcases hsl with rfl | rfl <;> rcases hc with rfl | rfl | rfl | rfl <;> dsimp only at hf ⊢ <;> first
        | (exact absurd hf (by decide +kernel))
        | exact ⟨by omega, g3⟩
        | exact ⟨by omega, g12⟩
        | exact ⟨by omega, hs12⟩
    · have nqb : ¬ q = b := by omega
      simp only [WS, stepW, evalA, reduceIte, Nat.reduceEqDiff, reduceCtorEq, evalBin, Option.getD, Int.reduceToNat, Nat.reduceMul, Nat.reduceAdd, allocA, rowOf, fillA, partsV, setl, Nat.reduceLeDiff, AV.len, evalUn, Int.reduceLT, Int.reduceLE, Int.reduceEq, Int.reduceNe, strs_eq, h16, nqb]
      have hy := okSet hS (k := k) (y := { S.kinds[k] with parents := S.kinds[k].parents ++ [name] }) (⟨⟨by show (S.kinds[k].parents ++ [name]).length ≤ Most; simp; omega, hKk.ok.2⟩, hKk.tok⟩)
      refine ⟨⟨S.kinds.set k { S.kinds[k] with parents := S.kinds[k].parents ++ [name] }, S.acts⟩, _, _, e6q, .agg _ _ rfl fun i hi hi' => ?_, hy.1, hy.2⟩
      match i, hi with
      | 0, _ =>
        have hS6 : RowS (fun b => 3 ≤ b ∧ b < m) s6 (.sl b 0 S.kinds.length cap 3) (rowc Kd.c S.kinds) S.kinds.length 3 b cap cs := ⟨rfl, hob, by omega, e6, hSx.seg, hSx.fit, hSx.capd⟩
        refine pur_turn (j := 1) hS6 rfl hkl' (by decide) (a := strs (S.kinds[k].parents ++ [name])) rfl ?_
        have hr6 := hrow6.put (b0 := b) (by omega) (setx cs (k * 3 + 1) (.sl b6 0 (S.kinds[k].parents.length + 1) cap6 1))
        exact by simpa [strs_eq] using hr6.self (fun a ha => by simp only [List.mem_append, List.mem_map, List.mem_singleton] at ha; rcases ha with ⟨_, _, rfl⟩ | rfl <;> exact .flat _ rfl)
      | 1, _ => exact ((hryA.keep (by omega) fun b' hb' hp' => get_cells (hk56 b' (by omega))).put (by omega) _).self (rowc_pur Ac.pur S.acts)
  · simp only [WS, stepW, evalA, reduceIte, Nat.reduceEqDiff, reduceCtorEq, evalBin, Option.getD, Int.reduceToNat, Nat.reduceMul, Nat.reduceAdd, allocA, rowOf, fillA, partsV, setl, Nat.reduceLeDiff, AV.len, evalUn, Int.reduceLT, Int.reduceLE, Int.reduceEq, Int.reduceNe, strs_eq, h1, h2, h3, h4, h6, h7, h12, h16, h17, h74, cq, hrk, hcc]
    refine w_dreg follow [(3, []), (12, [.str by_.name, .int .i64 by_.ty.kind, .int .i64 by_.ty.of_, .str by_.ty.name])] rfl ?_
    have dq : (addSlots s3.n 17 s3 [(3, []), (12, [.str by_.name, .int .i64 by_.ty.kind, .int .i64 by_.ty.of_, .str by_.ty.name])]).cells q = some [.sl b 0 S.kinds.length cap 3, y] := (slots_old _ hq).trans cq
    have db : (addSlots s3.n 17 s3 [(3, []), (12, [.str by_.name, .int .i64 by_.ty.kind, .int .i64 by_.ty.of_, .str by_.ty.name])]).cells b = some cs := (slots_old _ hSx.lt).trans hcc
    have d1 : (addSlots s3.n 17 s3 [(3, []), (12, [.str by_.name, .int .i64 by_.ty.kind, .int .i64 by_.ty.of_, .str by_.ty.name])]).cells 1 = some [.str by_.name, .int .i64 by_.ty.kind, .int .i64 by_.ty.of_, .str by_.ty.name] := (slots_old _ (by omega)).trans c1
    have g3 := slots_get (s := s3) (m := 17) [(3, []), (12, [.str by_.name, .int .i64 by_.ty.kind, .int .i64 by_.ty.of_, .str by_.ty.name])] 3 [] rfl
    have g12 := slots_get (s := s3) (m := 17) [(3, []), (12, [.str by_.name, .int .i64 by_.ty.kind, .int .i64 by_.ty.of_, .str by_.ty.name])] 12 [.str by_.name, .int .i64 by_.ty.kind, .int .i64 by_.ty.of_, .str by_.ty.name] rfl
    have hryA := hry.slotsL 17 [(3, []), (12, [.str by_.name, .int .i64 by_.ty.kind, .int .i64 by_.ty.of_, .str by_.ty.name])]
    have hnA : (addSlots s3.n 17 s3 [(3, []), (12, [.str by_.name, .int .i64 by_.ty.kind, .int .i64 by_.ty.of_, .str by_.ty.name])]).n = s3.n + 17 := rfl
    generalize addSlots s3.n 17 s3 [(3, []), (12, [.str by_.name, .int .i64 by_.ty.kind, .int .i64 by_.ty.of_, .str by_.ty.name])] = s4 at *
    have hrow0 : RowP (fun b' => s3.n ≤ b' ∧ b' ≠ s3.n + 12) s4 (.sl (s3.n + 3) 0 0 (some 0) 4) [] 0 4 := .of (by omega) (by omega) (cells_of g3) rfl
    have hpl := hKk.pl
    have hfl := hKk.fl
    have hbl := hSx.lt
    obtain ⟨x5, s5, happ5, hrow5, hn5, hk5⟩ := app_rowP (bytes := 48) hrow0 (by omega) (y := .psl (rowc Fl.c S.kinds[k].fields) 0 S.kinds[k].fields.length) (k := S.kinds[k].fields.length) rfl (firstA_psl' (rowc_length Fl.c_len _)) (rowc_one' (fun _ => rfl) _) (rowc_length Fl.c_len _) (by omega)
    have hs12 : s5.h.get (s3.n + 12) = some (.cells [.str by_.name, .int .i64 by_.ty.kind, .int .i64 by_.ty.of_, .str by_.ty.name]) := (hk5 _ (by omega) (by omega)).trans g12
    have hlit : RowP (fun b' => b' = s3.n + 12) s5 (.sl (s3.n + 12) 0 1 (some 1) 4) [.str by_.name, .int .i64 by_.ty.kind, .int .i64 by_.ty.of_, .str by_.ty.name] 1 4 := .of rfl (by omega) (cells_of hs12) rfl
    obtain ⟨b6, cap6, s6, happ6, hrow6, hn6, hk6⟩ := app_rowS (bytes := 48) hrow5 (by omega) hlit.len.1 hlit.firstA rfl rfl (by omega) (by omega)
    rw [Nat.zero_add] at happ6 hrow6 hrow5
    rw [List.nil_append] at hrow5 hrow6
    have hk56 : ∀ b', b' < s3.n → s6.h.get b' = s4.h.get b' := fun b' hb' => (hk6 b' (by omega) (by omega)).trans (hk5 b' (by omega) (by omega))
    have e5 := (get_cells (hk5 b (by omega) (by omega))).trans db
    have e5q := (get_cells (hk5 q (by omega) (by omega))).trans dq
    have e51 := (get_cells (hk5 1 (by omega) (by omega))).trans d1
    have e6 := (get_cells (hk56 b (by omega))).trans db
    have e6q := (get_cells (hk56 q (by omega))).trans dq
    have hfit := (hSx.row hkl').1
    have hgj : cs[k * 3 + 2]? = some (.psl (rowc Fl.c S.kinds[k].fields) 0 S.kinds[k].fields.length) := (hSx.get (o := k * 3 + 2) (by omega)).trans A.g2
    have hst := store1 (v := .sl b6 0 (S.kinds[k].fields.length + 1) cap6 4) (off := k * 3 + 2) e6 (by omega) rfl
    have sg4 : ∀ a b c d : AV, seg [a, b, c, d] 0 4 = [a, b, c, d] := fun _ _ _ _ => rfl
    have sg0 : ∀ l : List AV, seg l 0 0 = [] := fun l => by simp [seg]
    simp only [WS, stepW, evalA, reduceIte, Nat.reduceEqDiff, reduceCtorEq, evalBin, Option.getD, Int.reduceToNat, Nat.reduceMul, Nat.reduceAdd, allocA, rowOf, fillA, partsV, setl, Nat.reduceLeDiff, AV.len, evalUn, Int.reduceLT, Int.reduceLE, Int.reduceEq, Int.reduceNe, strs_eq, DS, isSl, AOp.pure, AOp.reader, allocD, AOp.quiet, isSlot, Nat.reduceBEq, h1, h2, h3, h4, h6, h7, h12, h16, h17, dq, db, d1, hrk, hgj, fillA, e5, e5q, e51, e6, sg4, strs_eq]
    simp only [happ5]
    simp only [WS, stepW, evalA, reduceIte, Nat.reduceEqDiff, reduceCtorEq, evalBin, Option.getD, Int.reduceToNat, Nat.reduceMul, Nat.reduceAdd, allocA, rowOf, fillA, partsV, setl, Nat.reduceLeDiff, AV.len, evalUn, Int.reduceLT, Int.reduceLE, Int.reduceEq, Int.reduceNe, strs_eq, DS, isSl, AOp.pure, AOp.reader, allocD, AOp.quiet, isSlot, Nat.reduceBEq, h1, h2, h3, h4, h6, h7, h12, h16, h17, dq, db, d1, hrk, hgj, fillA, e5, e5q, e51, e6, sg4, strs_eq]
    simp only [happ6]
    simp only [WS, stepW, evalA, reduceIte, Nat.reduceEqDiff, reduceCtorEq, evalBin, Option.getD, Int.reduceToNat, Nat.reduceMul, Nat.reduceAdd, allocA, rowOf, fillA, partsV, setl, Nat.reduceLeDiff, AV.len, evalUn, Int.reduceLT, Int.reduceLE, Int.reduceEq, Int.reduceNe, strs_eq, DS, isSl, AOp.pure, AOp.reader, allocD, AOp.quiet, isSlot, Nat.reduceBEq, h1, h2, h3, h4, h6, h7, h12, h16, h17, hrk, e6]
    simp only [hst]
    simp only [WS, stepW, evalA, reduceIte, Nat.reduceEqDiff, reduceCtorEq, evalBin, Option.getD, Int.reduceToNat, Nat.reduceMul, Nat.reduceAdd, allocA, rowOf, fillA, partsV, setl, Nat.reduceLeDiff, AV.len, evalUn, Int.reduceLT, Int.reduceLE, Int.reduceEq, Int.reduceNe, strs_eq, DS, isSl, AOp.pure, AOp.reader, allocD, AOp.quiet, isSlot, Nat.reduceBEq]
    refine ⟨⟨?_, ?_⟩, ?_⟩
    · intro l hl c hc hf
      simp only [List.mem_cons, List.mem_nil_iff, List.not_mem_nil, or_false] at hl hc
      rcases hl with rfl | rfl | rfl | rfl <;> rcases hc with rfl | rfl | rfl | rfl <;> dsimp only at hf ⊢ <;> first
        | (exact absurd hf (by decide +kernel))
        | (simp only [WS, stepW, evalA, reduceIte, Nat.reduceEqDiff, reduceCtorEq, evalBin, Option.getD, Int.reduceToNat, Nat.reduceMul, Nat.reduceAdd, allocA, rowOf, fillA, partsV, setl, Nat.reduceLeDiff, AV.len, evalUn, Int.reduceLT, Int.reduceLE, Int.reduceEq, Int.reduceNe, strs_eq, h1, h2, h3, h4, h6, h7, h12, h16, h17, dq, db, d1, hrk, hgj, e5, e5q, e51, e6, e6q, sg4, strs_eq]; done)
    · intro sl hsl c hc hf
      simp only [List.mem_cons, List.mem_nil_iff, List.not_mem_nil, or_false] at hsl hc
      rcases hsl with rfl | rfl <;> rcases hc with rfl | rfl | rfl | rfl <;> dsimp only at hf ⊢ <;> first
        | (exact absurd hf (by decide +kernel))
        | exact ⟨by omega, g3⟩
        | exact ⟨by omega, g12⟩
        | exact ⟨by omega, hs12⟩
    · have nqb : ¬ q = b := by omega
      simp only [WS, stepW, evalA, reduceIte, Nat.reduceEqDiff, reduceCtorEq, evalBin, Option.getD, Int.reduceToNat, Nat.reduceMul, Nat.reduceAdd, allocA, rowOf, fillA, partsV, setl, Nat.reduceLeDiff, AV.len, evalUn, Int.reduceLT, Int.reduceLE, Int.reduceEq, Int.reduceNe, strs_eq, h16, nqb]
      have hy := okSet hS (k := k) (y := { S.kinds[k] with fields := S.kinds[k].fields ++ [by_] }) (⟨⟨hKk.ok.1, by show (S.kinds[k].fields ++ [by_]).length ≤ Most; simp; omega⟩, hKk.tok.1, fun f hf => by rcases List.mem_append.1 hf with hf | hf; exact hKk.tok.2 f hf; rw [List.mem_singleton.1 hf]; exact hbn⟩)
      refine ⟨⟨S.kinds.set k { S.kinds[k] with fields := S.kinds[k].fields ++ [by_] }, S.acts⟩, _, _, e6q, .agg _ _ rfl fun i hi hi' => ?_, hy.1, hy.2⟩
      match i, hi with
      | 0, _ =>
        have hS6 : RowS (fun b => 3 ≤ b ∧ b < m) s6 (.sl b 0 S.kinds.length cap 3) (rowc Kd.c S.kinds) S.kinds.length 3 b cap cs := ⟨rfl, hob, by omega, e6, hSx.seg, hSx.fit, hSx.capd⟩
        refine pur_turn (j := 2) hS6 rfl hkl' (by decide) (a := slc Fl.c (S.kinds[k].fields ++ [by_])) rfl ?_
        have erow : rowc Fl.c S.kinds[k].fields ++ [.str by_.name, .int .i64 by_.ty.kind, .int .i64 by_.ty.of_, .str by_.ty.name] = rowc Fl.c (S.kinds[k].fields ++ [by_]) := by rw [rowc_append, rowc_one]; rfl
        rw [erow] at hrow6
        have hr6 := hrow6.put (b0 := b) (by omega) (setx cs (k * 3 + 2) (.sl b6 0 (S.kinds[k].fields.length + 1) cap6 4))
        have := hr6.self (rowc_pur Fl.pur _)
        simpa [slc_eq] using this
      | 1, _ => exact ((hryA.keep (by omega) fun b' hb' hp' => get_cells (hk56 b' (by omega))).put (by omega) _).self (rowc_pur Ac.pur S.acts)
  · simp only [WS, stepW, evalA, reduceIte, Nat.reduceEqDiff, reduceCtorEq, evalBin, Option.getD, Int.reduceToNat, Nat.reduceMul, Nat.reduceAdd, allocA, rowOf, fillA, partsV, setl, Nat.reduceLeDiff, AV.len, evalUn, Int.reduceLT, Int.reduceLE, Int.reduceEq, Int.reduceNe, strs_eq, h1, h2, h3, h4, h6, h7, h12, h16, h17, h74, cq, hrk, hcc]
    refine w_dreg follow [] rfl ?_
    have dq : (addSlots s3.n 11 s3 []).cells q = some [.sl b 0 S.kinds.length cap 3, y] := (slots_old _ hq).trans cq
    have db : (addSlots s3.n 11 s3 []).cells b = some cs := (slots_old _ hSx.lt).trans hcc
    have hrxA := hrx.slotsL 11 []
    have hryA := hry.slotsL 11 []
    have hnA : (addSlots s3.n 11 s3 []).n = s3.n + 11 := rfl
    generalize addSlots s3.n 11 s3 [] = s4 at *
    have hbl := hSx.lt
    have hfit := (hSx.row hkl').1
    have hsg := (hSx.row hkl').2.trans A.all
    have hg0 : cs[k * 3]? = some (.str S.kinds[k].name) := (hSx.get (o := k * 3) (by omega)).trans A.g0
    obtain ⟨b6, cap6, s6, happ6, hrow6, hn6, hk6⟩ := app_lit (bytes := 64) (hrxA.mono (q := fun b' => 3 ≤ b' ∧ b' < m ∨ q < b') fun b' hb' _ => .inl hb') (fun b' hb' => by omega) (new := Kd.c S.kinds[k]) (k := 1) rfl rfl (by omega) (by omega)
    have e6q := (get_cells (hk6 q (by omega) (by omega))).trans dq
    have neq : ¬ q = s4.n := by omega
    simp only [Kd.c_eq, strs_eq, slc_eq] at happ6
    simp only [WS, stepW, evalA, reduceIte, Nat.reduceEqDiff, reduceCtorEq, evalBin, Option.getD, Int.reduceToNat, Nat.reduceMul, Nat.reduceAdd, allocA, rowOf, fillA, partsV, setl, Nat.reduceLeDiff, AV.len, evalUn, Int.reduceLT, Int.reduceLE, Int.reduceEq, Int.reduceNe, strs_eq, DS, isSl, AOp.pure, AOp.reader, allocD, AOp.quiet, isSlot, Nat.reduceBEq, h1, h2, h3, h4, h6, h7, h12, h16, h17, dq, db, hrk, hfit, hsg, strs_eq, slc_eq, fillA]
    simp only [happ6]
    simp only [WS, stepW, evalA, reduceIte, Nat.reduceEqDiff, reduceCtorEq, evalBin, Option.getD, Int.reduceToNat, Nat.reduceMul, Nat.reduceAdd, allocA, rowOf, fillA, partsV, setl, Nat.reduceLeDiff, AV.len, evalUn, Int.reduceLT, Int.reduceLE, Int.reduceEq, Int.reduceNe, strs_eq, DS, isSl, AOp.pure, AOp.reader, allocD, AOp.quiet, isSlot, Nat.reduceBEq, h16, e6q, storeA, sets, setx, List.take_zero, List.drop_succ_cons, List.drop_zero, List.take_succ_cons]
    refine ⟨⟨?_, ?_⟩, ?_⟩
    · intro l hl c hc hf
      simp only [List.mem_cons, List.mem_nil_iff, List.not_mem_nil, or_false] at hl hc
      rcases hl with rfl | rfl | rfl <;> rcases hc with rfl | rfl | rfl | rfl <;> dsimp only at hf ⊢ <;> first
        | (exact absurd hf (by decide +kernel))
        | (simp only [WS, stepW, evalA, reduceIte, Nat.reduceEqDiff, reduceCtorEq, evalBin, Option.getD, Int.reduceToNat, Nat.reduceMul, Nat.reduceAdd, allocA, rowOf, fillA, partsV, setl, Nat.reduceLeDiff, AV.len, evalUn, Int.reduceLT, Int.reduceLE, Int.reduceEq, Int.reduceNe, strs_eq, h1, h2, h3, h4, h6, h7, h12, h16, h17, dq, db, hrk, hfit, hsg, strs_eq, slc_eq, e6q, neq]; done)
    · intro sl hsl; simp at hsl
    · try simp only [WS, stepW, evalA, reduceIte, Nat.reduceEqDiff, reduceCtorEq, evalBin, Option.getD, Int.reduceToNat, Nat.reduceMul, Nat.reduceAdd, allocA, rowOf, fillA, partsV, setl, Nat.reduceLeDiff, AV.len, evalUn, Int.reduceLT, Int.reduceLE, Int.reduceEq, Int.reduceNe, strs_eq, h16]
      have hT := okOf (K := S.kinds ++ [S.kinds[k]]) (A := S.acts) (by simp; omega) (by have := hS.al; omega) (fun z hz => by
        rcases List.mem_append.1 hz with hz | hz
        · exact ⟨(hS.k z hz).ok, (hS.k z hz).tok⟩
        · rw [List.mem_singleton.1 hz]; exact ⟨hKk.ok, hKk.tok⟩) fun a ha => ⟨(hS.a a ha).ok, (hS.a a ha).tok⟩
      refine ⟨⟨S.kinds ++ [S.kinds[k]], S.acts⟩, _, _, rfl, .agg _ _ rfl fun i hi hi' => ?_, hT.1, hT.2⟩
      match i, hi with
      | 0, _ =>
        have erow : rowc Kd.c S.kinds ++ Kd.c S.kinds[k] = rowc Kd.c (S.kinds ++ [S.kinds[k]]) := by rw [rowc_append, rowc_one]
        rw [erow] at hrow6
        have := (hrow6.put (b0 := q) (by omega) [.sl b6 0 (S.kinds.length + 1) cap6 3, y]).self (rowc_pur Kd.pur _)
        exact slc_of (by simp) this
      | 1, _ => exact ((hryA.keep (by omega) fun b' hb' hp' => get_cells (hk6 b' hb' (by omega))).put (by omega) _).self (rowc_pur Ac.pur S.acts)
  · simp only [WS, stepW, evalA, reduceIte, Nat.reduceEqDiff, reduceCtorEq, evalBin, Option.getD, Int.reduceToNat, Nat.reduceMul, Nat.reduceAdd, allocA, rowOf, fillA, partsV, setl, Nat.reduceLeDiff, AV.len, evalUn, Int.reduceLT, Int.reduceLE, Int.reduceEq, Int.reduceNe, strs_eq, h1, h2, h3, h4, h6, h7, h12, h16, h17, h74, cq, hrk, hcc]
    refine w_dreg follow [(9, [.str S.kinds[k].name]), (10, [.str [68, 111, 99]])] rfl ?_
    have dq : (addSlots s3.n 16 s3 [(9, [.str S.kinds[k].name]), (10, [.str [68, 111, 99]])]).cells q = some [.sl b 0 S.kinds.length cap 3, y] := (slots_old _ hq).trans cq
    have db : (addSlots s3.n 16 s3 [(9, [.str S.kinds[k].name]), (10, [.str [68, 111, 99]])]).cells b = some cs := (slots_old _ hSx.lt).trans hcc
    have hrxA := hrx.slotsL 16 [(9, [.str S.kinds[k].name]), (10, [.str [68, 111, 99]])]
    have hryA := hry.slotsL 16 [(9, [.str S.kinds[k].name]), (10, [.str [68, 111, 99]])]
    have hnA : (addSlots s3.n 16 s3 [(9, [.str S.kinds[k].name]), (10, [.str [68, 111, 99]])]).n = s3.n + 16 := rfl
    have g9 := slots_get (s := s3) (m := 16) [(9, [.str S.kinds[k].name]), (10, [.str [68, 111, 99]])] 9 _ rfl
    have g10 := slots_get (s := s3) (m := 16) [(9, [.str S.kinds[k].name]), (10, [.str [68, 111, 99]])] 10 _ rfl
    generalize addSlots s3.n 16 s3 [(9, [.str S.kinds[k].name]), (10, [.str [68, 111, 99]])] = s4 at *
    have hbl := hSx.lt
    have hfit := (hSx.row hkl').1
    have hsg := (hSx.row hkl').2.trans A.all
    have hg0 : cs[k * 3]? = some (.str S.kinds[k].name) := (hSx.get (o := k * 3) (by omega)).trans A.g0
    have hal := hS.al
    obtain ⟨b6, cap6, s6, happ6, hrow6, hn6, hk6⟩ := app_lit (bytes := 64) (hryA.mono (q := fun b' => m ≤ b' ∧ b' < q ∨ s3.n + 16 ≤ b') fun b' hb' _ => .inl hb') (fun b' hb' => by omega) (new := [.str name, .sl (s3.n + 9) 0 1 (some 1) 1, .sl (s3.n + 10) 0 1 (some 1) 1]) (k := 1) rfl rfl (by omega) (by omega)
    have e6q := (get_cells (hk6 q (by omega) (by omega))).trans dq
    have h9 := (hk6 (s3.n + 9) (by omega) (by omega)).trans g9
    have h10 := (hk6 (s3.n + 10) (by omega) (by omega)).trans g10
    have neq : ¬ q = s4.n := by omega
    have nbb : ¬ b = s4.n := by omega
    have g9' : (s4.push (.cells [.str name, .sl (s3.n + 9) 0 1 (some 1) 1, .sl (s3.n + 10) 0 1 (some 1) 1])).h.get (s3.n + 9) = some (.cells [.str S.kinds[k].name]) := (push_h (by omega)).trans g9
    have g10' : (s4.push (.cells [.str name, .sl (s3.n + 9) 0 1 (some 1) 1, .sl (s3.n + 10) 0 1 (some 1) 1])).h.get (s3.n + 10) = some (.cells [.str [68, 111, 99]]) := (push_h (by omega)).trans g10
    simp only [WS, stepW, evalA, reduceIte, Nat.reduceEqDiff, reduceCtorEq, evalBin, Option.getD, Int.reduceToNat, Nat.reduceMul, Nat.reduceAdd, allocA, rowOf, fillA, partsV, setl, Nat.reduceLeDiff, AV.len, evalUn, Int.reduceLT, Int.reduceLE, Int.reduceEq, Int.reduceNe, strs_eq, DS, isSl, AOp.pure, AOp.reader, allocD, AOp.quiet, isSlot, Nat.reduceBEq, h1, h2, h3, h4, h6, h7, h12, h16, h17, dq, db, hrk, hfit, hsg, hg0, strs_eq, slc_eq, fillA]
    simp only [happ6]
    simp only [WS, stepW, evalA, reduceIte, Nat.reduceEqDiff, reduceCtorEq, evalBin, Option.getD, Int.reduceToNat, Nat.reduceMul, Nat.reduceAdd, allocA, rowOf, fillA, partsV, setl, Nat.reduceLeDiff, AV.len, evalUn, Int.reduceLT, Int.reduceLE, Int.reduceEq, Int.reduceNe, strs_eq, DS, isSl, AOp.pure, AOp.reader, allocD, AOp.quiet, isSlot, Nat.reduceBEq, h16, e6q, storeA, sets, setx, List.take_zero, List.drop_succ_cons, List.drop_zero, List.take_succ_cons]
    refine ⟨⟨?_, ?_⟩, ?_⟩
    · intro l hl c hc hf
      simp only [List.mem_cons, List.mem_nil_iff, List.not_mem_nil, or_false] at hl hc
      rcases hl with rfl | rfl | rfl <;> rcases hc with rfl | rfl | rfl | rfl <;> dsimp only at hf ⊢ <;> first
        | (exact absurd hf (by decide +kernel))
        | (simp only [WS, stepW, evalA, reduceIte, Nat.reduceEqDiff, reduceCtorEq, evalBin, Option.getD, Int.reduceToNat, Nat.reduceMul, Nat.reduceAdd, allocA, rowOf, fillA, partsV, setl, Nat.reduceLeDiff, AV.len, evalUn, Int.reduceLT, Int.reduceLE, Int.reduceEq, Int.reduceNe, strs_eq, h1, h2, h3, h4, h6, h7, h12, h16, h17, dq, db, hrk, hfit, hsg, hg0, strs_eq, slc_eq, e6q, neq, nbb]; done)
    · intro sl hsl c hc hf
      simp only [List.mem_cons, List.mem_nil_iff, List.not_mem_nil, or_false] at hsl hc
      rcases hsl with rfl | rfl <;> rcases hc with rfl | rfl | rfl | rfl <;> dsimp only at hf ⊢ <;> first
        | (exact absurd hf (by decide +kernel))
        | exact ⟨by omega, g9⟩
        | exact ⟨by omega, g10⟩
        | exact ⟨by simp only [push_n]; omega, g9'⟩
        | exact ⟨by simp only [push_n]; omega, g10'⟩
        | exact ⟨by omega, h9⟩
        | exact ⟨by omega, h10⟩
        | exact ⟨by simp only [put_n]; omega, (put_h (by omega)).trans h9⟩
        | exact ⟨by simp only [put_n]; omega, (put_h (by omega)).trans h10⟩
    · try simp only [WS, stepW, evalA, reduceIte, Nat.reduceEqDiff, reduceCtorEq, evalBin, Option.getD, Int.reduceToNat, Nat.reduceMul, Nat.reduceAdd, allocA, rowOf, fillA, partsV, setl, Nat.reduceLeDiff, AV.len, evalUn, Int.reduceLT, Int.reduceLE, Int.reduceEq, Int.reduceNe, strs_eq, h16]
      generalize hna : (Ac.mk name [S.kinds[k].name] [[68, 111, 99]]) = na
      have hT := okOf (K := S.kinds) (A := S.acts ++ [na]) (by omega) (by simp; omega) (fun z hz => ⟨(hS.k z hz).ok, (hS.k z hz).tok⟩) (fun a ha => by
        rcases List.mem_append.1 ha with ha | ha
        · exact ⟨(hS.a a ha).ok, (hS.a a ha).tok⟩
        · rw [List.mem_singleton.1 ha, ← hna]; exact ⟨⟨by show 1 ≤ Most; omega, by show 1 ≤ Most; omega⟩, hnn⟩)
      refine ⟨⟨S.kinds, S.acts ++ [na]⟩, _, _, rfl, .agg _ _ rfl fun i hi hi' => ?_, hT.1, hT.2⟩
      match i, hi with
      | 0, _ => exact ((hrxA.keep (by omega) fun b' hb' hp' => get_cells (hk6 b' hb' (by omega))).put (by omega) _).self (rowc_pur Kd.pur S.kinds)
      | 1, _ =>
        have hput := hrow6.put (b0 := q) (by omega) [.sl b 0 S.kinds.length cap 3, .sl b6 0 (S.acts.length + 1) cap6 3]
        have hp3 : PurL (s6.put q [.sl b 0 S.kinds.length cap 3, .sl b6 0 (S.acts.length + 1) cap6 3]) true [.str name, .sl (s3.n + 9) 0 1 (some 1) 1, .sl (s3.n + 10) 0 1 (some 1) 1] na.c := by
          rw [← hna]
          exact .cons (.flat _ rfl) (.cons (.lit (by rw [put_get, if_neg (by omega)]; exact cells_of h9) rfl (.cons (.flat _ rfl) .nil)) (.cons (.lit (by rw [put_get, if_neg (by omega)]; exact cells_of h10) rfl (.cons (.flat _ rfl) .nil)) .nil))
        have := hput.purL ((PurL.self (rowc_pur Ac.pur S.acts)).append hp3)
        rw [show rowc Ac.c S.acts ++ na.c = rowc Ac.c (S.acts ++ [na]) by rw [rowc_append, rowc_one]] at this
        exact slc_of (by simp) this
  · simp only [WS, stepW, evalA, reduceIte, Nat.reduceEqDiff, reduceCtorEq, evalBin, Option.getD, Int.reduceToNat, Nat.reduceMul, Nat.reduceAdd, allocA, rowOf, fillA, partsV, setl, Nat.reduceLeDiff, AV.len, evalUn, Int.reduceLT, Int.reduceLE, Int.reduceEq, Int.reduceNe, strs_eq, h1, h2, h3, h4, h6, h7, h12, h16, h17, h74, cq, hrk, hcc]
    refine w_dreg follow [] rfl ?_
    have dq : (addSlots s3.n 14 s3 []).cells q = some [.sl b 0 S.kinds.length cap 3, y] := (slots_old _ hq).trans cq
    have db : (addSlots s3.n 14 s3 []).cells b = some cs := (slots_old _ hSx.lt).trans hcc
    have hrxA := hrx.slotsL 14 []
    have hryA := hry.slotsL 14 []
    have hnA : (addSlots s3.n 14 s3 []).n = s3.n + 14 := rfl
    generalize addSlots s3.n 14 s3 [] = s4 at *
    have hbl := hSx.lt
    have hfit := (hSx.row hkl').1
    have hsg := (hSx.row hkl').2.trans A.all
    have hg0 : cs[k * 3]? = some (.str S.kinds[k].name) := (hSx.get (o := k * 3) (by omega)).trans A.g0
    have hal := hS.al
    have hc0 : (s4.push (.cells [.str S.kinds[k].name])).cells s4.n = some [.str S.kinds[k].name] := push_cells _ _
    have hlit : RowP (fun b' => s4.n < b') ((s4.push (.cells [.str S.kinds[k].name])).push (.cells [.str [97, 97], .sl s4.n 0 1 (some 1) 1, .nils])) (.sl (s4.n + 1) 0 1 (some 1) 3) [.str [97, 97], .sl s4.n 0 1 (some 1) 1, .nils] 1 3 := .of (by omega) (by simp only [push_n]; omega) (by rw [push_get, if_pos (by simp only [push_n])]) rfl
    have hryB := (hryA.push [.str S.kinds[k].name]).push [.str [97, 97], .sl s4.n 0 1 (some 1) 1, .nils]
    obtain ⟨b6, cap6, s6, happ6, hrow6, hn6, hk6⟩ := app_rowS (bytes := 64) hlit (by simp only [push_n]; omega) hryB.len.1 hryB.firstA (rowc_one' (fun _ => rfl) _) hryB.len.2 (by omega) (by omega)
    simp only [push_n] at hn6 hk6
    have hk6' : ∀ b', b' < s4.n → s6.h.get b' = s4.h.get b' := fun b' hb' => by rw [hk6 b' (by omega) (by omega), push_h (by simp only [push_n]; omega), push_h hb']
    have e6q := (get_cells (hk6' q (by omega))).trans dq
    have e6n : s6.cells s4.n = some [.str S.kinds[k].name] := (get_cells (hk6 s4.n (by omega) (by omega))).trans (by rw [push_get, if_neg (by simp only [push_n]; omega)]; exact hc0)
    have neq : ¬ q = s4.n := by omega
    have neq1 : ¬ q = s4.n + 1 := by omega
    have nbb : ¬ b = s4.n := by omega
    have nbb1 : ¬ b = s4.n + 1 := by omega
    simp only [WS, stepW, evalA, reduceIte, Nat.reduceEqDiff, reduceCtorEq, evalBin, Option.getD, Int.reduceToNat, Nat.reduceMul, Nat.reduceAdd, allocA, rowOf, fillA, partsV, setl, Nat.reduceLeDiff, AV.len, evalUn, Int.reduceLT, Int.reduceLE, Int.reduceEq, Int.reduceNe, strs_eq, DS, isSl, AOp.pure, AOp.reader, allocD, AOp.quiet, isSlot, Nat.reduceBEq, h1, h2, h3, h4, h6, h7, h12, h16, h17, dq, db, hrk, hg0, neq, nbb, neq1, nbb1, fillA]
    simp only [happ6]
    simp only [WS, stepW, evalA, reduceIte, Nat.reduceEqDiff, reduceCtorEq, evalBin, Option.getD, Int.reduceToNat, Nat.reduceMul, Nat.reduceAdd, allocA, rowOf, fillA, partsV, setl, Nat.reduceLeDiff, AV.len, evalUn, Int.reduceLT, Int.reduceLE, Int.reduceEq, Int.reduceNe, strs_eq, DS, isSl, AOp.pure, AOp.reader, allocD, AOp.quiet, isSlot, Nat.reduceBEq, h16, e6q, storeA, sets, setx, List.take_zero, List.drop_succ_cons, List.drop_zero, List.take_succ_cons]
    refine ⟨⟨?_, ?_⟩, ?_⟩
    · intro l hl c hc hf
      simp only [List.mem_cons, List.mem_nil_iff, List.not_mem_nil, or_false] at hl hc
      rcases hl with rfl | rfl | rfl <;> rcases hc with rfl | rfl | rfl | rfl | rfl <;> dsimp only at hf ⊢ <;> first
        | (exact absurd hf (by decide +kernel))
        | (simp only [WS, stepW, evalA, reduceIte, Nat.reduceEqDiff, reduceCtorEq, evalBin, Option.getD, Int.reduceToNat, Nat.reduceMul, Nat.reduceAdd, allocA, rowOf, fillA, partsV, setl, Nat.reduceLeDiff, AV.len, evalUn, Int.reduceLT, Int.reduceLE, Int.reduceEq, Int.reduceNe, strs_eq, h1, h2, h3, h4, h6, h7, h12, h16, h17, dq, db, hrk, hg0, neq, nbb, neq1, nbb1, e6q]; done)
    · intro sl hsl; simp at hsl
    · try simp only [WS, stepW, evalA, reduceIte, Nat.reduceEqDiff, reduceCtorEq, evalBin, Option.getD, Int.reduceToNat, Nat.reduceMul, Nat.reduceAdd, allocA, rowOf, fillA, partsV, setl, Nat.reduceLeDiff, AV.len, evalUn, Int.reduceLT, Int.reduceLE, Int.reduceEq, Int.reduceNe, strs_eq, h16]
      generalize hna : (Ac.mk [97, 97] [S.kinds[k].name] []) = na
      have hT := okOf (K := S.kinds) (A := na :: S.acts) (by omega) (by simp; omega) (fun z hz => ⟨(hS.k z hz).ok, (hS.k z hz).tok⟩) (fun a ha => by
        rcases List.mem_cons.1 ha with ha | ha
        · rw [ha, ← hna]; exact ⟨⟨by show 1 ≤ Most; omega, by show 0 ≤ Most; omega⟩, by show 2 ≤ Most; omega⟩
        · exact ⟨(hS.a a ha).ok, (hS.a a ha).tok⟩)
      refine ⟨⟨S.kinds, na :: S.acts⟩, _, _, rfl, .agg _ _ rfl fun i hi hi' => ?_, hT.1, hT.2⟩
      match i, hi with
      | 0, _ => exact ((hrxA.keep (by omega) fun b' hb' hp' => get_cells (hk6' b' hb')).put (by omega) _).self (rowc_pur Kd.pur S.kinds)
      | 1, _ =>
        have hput := hrow6.put (b0 := q) (by omega) [.sl b 0 S.kinds.length cap 3, .sl b6 0 (1 + S.acts.length) cap6 3]
        have hp3 : PurL (s6.put q [.sl b 0 S.kinds.length cap 3, .sl b6 0 (1 + S.acts.length) cap6 3]) true [.str [97, 97], .sl s4.n 0 1 (some 1) 1, .nils] na.c := by
          rw [← hna]
          exact .cons (.flat _ rfl) (.cons (.lit (by rw [put_get, if_neg (by omega)]; exact e6n) rfl (.cons (.flat _ rfl) .nil)) (.cons (.nils _ _) .nil))
        have := hput.purL (hp3.append (PurL.self (rowc_pur Ac.pur S.acts)))
        rw [show na.c ++ rowc Ac.c S.acts = rowc Ac.c (na :: S.acts) by rw [rowc_cons]] at this
        exact slc_of (by simp; omega) this
  · simp only [WS, stepW, evalA, reduceIte, Nat.reduceEqDiff, reduceCtorEq, evalBin, Option.getD, Int.reduceToNat, Nat.reduceMul, Nat.reduceAdd, allocA, rowOf, fillA, partsV, setl, Nat.reduceLeDiff, AV.len, evalUn, Int.reduceLT, Int.reduceLE, Int.reduceEq, Int.reduceNe, strs_eq, h1, h2, h3, h4, h6, h7, h12, h16, h17, h74, cq, hrk, hcc]
    refine w_dreg follow [] rfl ?_
    have dq : (addSlots s3.n 14 s3 []).cells q = some [.sl b 0 S.kinds.length cap 3, y] := (slots_old _ hq).trans cq
    have db : (addSlots s3.n 14 s3 []).cells b = some cs := (slots_old _ hSx.lt).trans hcc
    have hrxA := hrx.slotsL 14 []
    have hryA := hry.slotsL 14 []
    have hnA : (addSlots s3.n 14 s3 []).n = s3.n + 14 := rfl
    generalize addSlots s3.n 14 s3 [] = s4 at *
    have hbl := hSx.lt
    have hfit := (hSx.row hkl').1
    have hsg := (hSx.row hkl').2.trans A.all
    have hg0 : cs[k * 3]? = some (.str S.kinds[k].name) := (hSx.get (o := k * 3) (by omega)).trans A.g0
    have hal := hS.al
    have neq : ¬ q = s4.n := by omega
    have nbb : ¬ b = s4.n := by omega
    obtain ⟨hp1l, hp1⟩ := hSx.part Kd.c_len rfl (i := 0) (m := k) (by omega)
    obtain ⟨hp2l, hp2⟩ := hSx.part Kd.c_len rfl (i := k + 1) (m := S.kinds.length - (k + 1)) (by omega)
    rw [Nat.zero_mul] at hp1l hp1
    have hwk : IntKind.i64.wrap ((k : Int) + 1) = ((k + 1 : Nat) : Int) := wrap_succ (by omega)
    have hcap : ∀ c, cap = some c → S.kinds.length ≤ c := hSx.capd
    have dbp : (s4.push (.cells [])).cells b = some cs := by rw [push_get, if_neg nbb]; exact db
    have dqp : (s4.push (.cells [])).cells q = some [.sl b 0 S.kinds.length cap 3, y] := by rw [push_get, if_neg neq]; exact dq
    have hrow0 : RowP (fun b' => s4.n ≤ b') (s4.push (.cells [])) (.sl s4.n 0 0 (some 0) 3) [] 0 3 := .of (Nat.le_refl _) (Nat.lt_succ_self _) (push_cells _ _) rfl
    have happ : ∀ capA capB, ∃ x5 s5 x6 s6, appendA (s4.push (.cells [])) 3 64 (.sl s4.n 0 0 (some 0) 3) (.sl b 0 k capA 3) = some (x5, s5) ∧ appendA s5 3 64 x5 (.sl b ((k + 1) * 3) (S.kinds.length - (k + 1)) capB 3) = some (x6, s6) ∧
        RowP (fun b' => s4.n ≤ b') s6 x6 (rowc Kd.c (S.kinds.take k ++ S.kinds.drop (k + 1))) (k + (S.kinds.length - (k + 1))) 3 ∧ s4.n ≤ s5.n ∧ s4.n ≤ s6.n ∧ (∀ b', b' < s4.n → s5.h.get b' = s4.h.get b') ∧ ∀ b', b' < s4.n → s6.h.get b' = s4.h.get b' := by
      intro capA capB
      obtain ⟨x5, s5, a1, a2, a3, a4⟩ := app_rowP (bytes := 64) hrow0 (Nat.le_succ _) (y := .sl b 0 k capA 3) (k := k) rfl (firstA_own dbp hp1l) (by rw [hp1]; exact rowc_one' (fun _ => rfl) _) (by rw [hp1, rowc_length Kd.c_len]; simp; omega) (by omega)
      simp only [push_n] at a3 a4
      have a5 : ∀ b', b' < s4.n → s5.h.get b' = s4.h.get b' := fun b' hb' => by rw [a4 b' (by omega) (by omega), push_h hb']
      have e5 : s5.cells b = some cs := (get_cells (a5 b (by omega))).trans db
      obtain ⟨x6, s6, b1, b2, b3, b4⟩ := app_rowP (bytes := 64) a2 (by omega) (y := .sl b ((k + 1) * 3) (S.kinds.length - (k + 1)) capB 3) (k := S.kinds.length - (k + 1)) rfl (firstA_own e5 hp2l) (by rw [hp2]; exact rowc_one' (fun _ => rfl) _) (by rw [hp2, rowc_length Kd.c_len]; simp) (by omega)
      refine ⟨x5, s5, x6, s6, a1, b1, ?_, by omega, by omega, a5, fun b' hb' => (b4 b' (by omega) (by omega)).trans (a5 b' hb')⟩
      rw [hp1, hp2, List.nil_append, Nat.zero_add, List.drop_zero] at b2
      rw [rowc_append]
      have ed : (S.kinds.drop (k + 1)).take (S.kinds.length - (k + 1)) = S.kinds.drop (k + 1) := List.take_of_length_le (by simp)
      rw [ed] at b2
      exact b2
    have i0 : (0 : Int) ≤ (k : Int) := hrk.1
    have i1 : (k : Int) ≤ ((S.kinds.length : Nat) : Int) := by omega
    have i2 : (0 : Int) ≤ ((k + 1 : Nat) : Int) := by omega
    have i3 : ((k + 1 : Nat) : Int) ≤ ((S.kinds.length : Nat) : Int) := by omega
    rcases cap with _ | c
    · have h0 := happ none none
      cases h0 with | intro x5 h0 =>
      cases h0 with | intro s5 h0 =>
      cases h0 with | intro x6 h0 =>
      cases h0 with | intro s6 h0 =>
      have a1 := h0.1
      have a2 := h0.2.1
      have hrow6 := h0.2.2.1
      have hn5 := h0.2.2.2.1
      have hn6 := h0.2.2.2.2.1
      have hk5 := h0.2.2.2.2.2.1
      have hk6 := h0.2.2.2.2.2.2
      clear h0 happ
      have e5q := (get_cells (hk5 q (by omega))).trans dq
      have e6q := (get_cells (hk6 q (by omega))).trans dq
      have i4 : True := trivial
      have i5 : True := trivial
      simp only [WS, stepW, evalA, reduceIte, Nat.reduceEqDiff, reduceCtorEq, evalBin, Option.getD, Int.reduceToNat, Nat.reduceMul, Nat.reduceAdd, allocA, rowOf, fillA, partsV, setl, Nat.reduceLeDiff, AV.len, evalUn, Int.reduceLT, Int.reduceLE, Int.reduceEq, Int.reduceNe, strs_eq, DS, isSl, AOp.pure, AOp.reader, allocD, AOp.quiet, isSlot, Nat.reduceBEq, h1, h2, h3, h4, h6, h7, h12, h16, h17, dq, db, hrk, neq, nbb, fillA, rowOf, Int.le_refl, i0, i1, i2, i3, i4, Nat.sub_zero]
      simp only [a1]
      simp only [WS, stepW, evalA, reduceIte, Nat.reduceEqDiff, reduceCtorEq, evalBin, Option.getD, Int.reduceToNat, Nat.reduceMul, Nat.reduceAdd, allocA, rowOf, fillA, partsV, setl, Nat.reduceLeDiff, AV.len, evalUn, Int.reduceLT, Int.reduceLE, Int.reduceEq, Int.reduceNe, strs_eq, DS, isSl, AOp.pure, AOp.reader, allocD, AOp.quiet, isSlot, Nat.reduceBEq, h1, h2, h3, h4, h6, h7, h12, h16, h17, e5q, hwk, Int.le_refl, i0, i1, i2, i3, i4, i5, Nat.sub_zero, Int.toNat_natCast]
      simp only [a2]
      have hT := okOf (K := S.kinds.take k ++ S.kinds.drop (k + 1)) (A := S.acts) (by simp; omega) (by omega) (fun z hz => by
        rcases List.mem_append.1 hz with hz | hz
        · have := List.mem_of_mem_take hz; exact ⟨(hS.k z this).ok, (hS.k z this).tok⟩
        · have := List.mem_of_mem_drop hz; exact ⟨(hS.k z this).ok, (hS.k z this).tok⟩) fun a ha => ⟨(hS.a a ha).ok, (hS.a a ha).tok⟩
      have fin : ∀ x6 : AV, RowP (fun b' => s4.n ≤ b') s6 x6 (rowc Kd.c (S.kinds.take k ++ S.kinds.drop (k + 1))) (k + (S.kinds.length - (k + 1))) 3 →
          ∃ (T : Sc) (x' y' : AV), some [x6, y] = some [x', y'] ∧ Pur (s6.put q [x6, y]) true (.agg [x', y']) (.agg T.c) ∧ T.ok ∧ T.tok := fun x6 hrow6 => by
        refine ⟨⟨S.kinds.take k ++ S.kinds.drop (k + 1), S.acts⟩, _, _, rfl, .agg _ _ rfl fun i hi hi' => ?_, hT.1, hT.2⟩
        match i, hi with
        | 0, _ => exact slc_of (by simp; omega) ((hrow6.put (b0 := q) (by omega) _).self (rowc_pur Kd.pur _))
        | 1, _ => exact ((hryA.keep (by omega) fun b' hb' hp' => get_cells (hk6 b' (by omega))).put (by omega) _).self (rowc_pur Ac.pur S.acts)
      have fin6 := fin x6 hrow6
      have hx6 : x6 = .nils ∨ ∃ b6 cap6 n6, x6 = .sl b6 0 n6 cap6 3 := by
        cases hrow6.form with
        | inl h => exact .inl h
        | inr h => exact .inr (by cases h with | intro b6 h => cases h with | intro cap6 h => exact ⟨b6, cap6, _, h⟩)
      clear hrow6 fin
      cases hx6 with
      | inl hx6 =>
        subst hx6
        simp only [WS, stepW, evalA, reduceIte, Nat.reduceEqDiff, reduceCtorEq, evalBin, Option.getD, Int.reduceToNat, Nat.reduceMul, Nat.reduceAdd, allocA, rowOf, fillA, partsV, setl, Nat.reduceLeDiff, AV.len, evalUn, Int.reduceLT, Int.reduceLE, Int.reduceEq, Int.reduceNe, strs_eq, DS, isSl, AOp.pure, AOp.reader, allocD, AOp.quiet, isSlot, Nat.reduceBEq, h16, e6q, storeA, sets, setx, List.take_zero, List.drop_succ_cons, List.drop_zero, List.take_succ_cons]
        refine ⟨⟨?_, ?_⟩, fin6⟩
        · intro l hl c hc hf
          simp only [List.mem_cons, List.mem_nil_iff, List.not_mem_nil, or_false] at hl hc
          rcases hl with rfl | rfl <;> rcases hc with rfl | rfl | rfl | rfl | rfl <;> dsimp only at hf ⊢ <;> first
            | (exact absurd hf (by decide +kernel))
            | (simp only [WS, stepW, evalA, reduceIte, Nat.reduceEqDiff, reduceCtorEq, evalBin, Option.getD, Int.reduceToNat, Nat.reduceMul, Nat.reduceAdd, allocA, rowOf, fillA, partsV, setl, Nat.reduceLeDiff, AV.len, evalUn, Int.reduceLT, Int.reduceLE, Int.reduceEq, Int.reduceNe, strs_eq, h1, h2, h3, h4, h6, h7, h12, h16, h17, dq, e5q, neq]; done)
        · intro sl hsl; simp at hsl
      | inr hx6 =>
        cases hx6 with | intro b6 hx6 =>
        cases hx6 with | intro cap6 hx6 =>
        cases hx6 with | intro n6 hx6 =>
        subst hx6
        simp only [WS, stepW, evalA, reduceIte, Nat.reduceEqDiff, reduceCtorEq, evalBin, Option.getD, Int.reduceToNat, Nat.reduceMul, Nat.reduceAdd, allocA, rowOf, fillA, partsV, setl, Nat.reduceLeDiff, AV.len, evalUn, Int.reduceLT, Int.reduceLE, Int.reduceEq, Int.reduceNe, strs_eq, DS, isSl, AOp.pure, AOp.reader, allocD, AOp.quiet, isSlot, Nat.reduceBEq, h16, e6q, storeA, sets, setx, List.take_zero, List.drop_succ_cons, List.drop_zero, List.take_succ_cons]
        refine ⟨⟨?_, ?_⟩, fin6⟩
        · intro l hl c hc hf
          simp only [List.mem_cons, List.mem_nil_iff, List.not_mem_nil, or_false] at hl hc
          rcases hl with rfl | rfl <;> rcases hc with rfl | rfl | rfl | rfl | rfl <;> dsimp only at hf ⊢ <;> first
            | (exact absurd hf (by decide +kernel))
            | (simp only [WS, stepW, evalA, reduceIte, Nat.reduceEqDiff, reduceCtorEq, evalBin, Option.getD, Int.reduceToNat, Nat.reduceMul, Nat.reduceAdd, allocA, rowOf, fillA, partsV, setl, Nat.reduceLeDiff, AV.len, evalUn, Int.reduceLT, Int.reduceLE, Int.reduceEq, Int.reduceNe, strs_eq, h1, h2, h3, h4, h6, h7, h12, h16, h17, dq, e5q, neq]; done)
        · intro sl hsl; simp at hsl
    · have h0 := happ (some c) (some (c - (k + 1)))
      cases h0 with | intro x5 h0 =>
      cases h0 with | intro s5 h0 =>
      cases h0 with | intro x6 h0 =>
      cases h0 with | intro s6 h0 =>
      have a1 := h0.1
      have a2 := h0.2.1
      have hrow6 := h0.2.2.1
      have hn5 := h0.2.2.2.1
      have hn6 := h0.2.2.2.2.1
      have hk5 := h0.2.2.2.2.2.1
      have hk6 := h0.2.2.2.2.2.2
      clear h0 happ
      have e5q := (get_cells (hk5 q (by omega))).trans dq
      have e6q := (get_cells (hk6 q (by omega))).trans dq
      have hc := hcap c rfl
      have i4 : (k : Int) ≤ ((c : Nat) : Int) := by omega
      have i5 : ((S.kinds.length : Nat) : Int) ≤ ((c : Nat) : Int) := by omega
      simp only [WS, stepW, evalA, reduceIte, Nat.reduceEqDiff, reduceCtorEq, evalBin, Option.getD, Int.reduceToNat, Nat.reduceMul, Nat.reduceAdd, allocA, rowOf, fillA, partsV, setl, Nat.reduceLeDiff, AV.len, evalUn, Int.reduceLT, Int.reduceLE, Int.reduceEq, Int.reduceNe, strs_eq, DS, isSl, AOp.pure, AOp.reader, allocD, AOp.quiet, isSlot, Nat.reduceBEq, h1, h2, h3, h4, h6, h7, h12, h16, h17, dq, db, hrk, neq, nbb, fillA, rowOf, Int.le_refl, i0, i1, i2, i3, i4, Nat.sub_zero]
      simp only [a1]
      simp only [WS, stepW, evalA, reduceIte, Nat.reduceEqDiff, reduceCtorEq, evalBin, Option.getD, Int.reduceToNat, Nat.reduceMul, Nat.reduceAdd, allocA, rowOf, fillA, partsV, setl, Nat.reduceLeDiff, AV.len, evalUn, Int.reduceLT, Int.reduceLE, Int.reduceEq, Int.reduceNe, strs_eq, DS, isSl, AOp.pure, AOp.reader, allocD, AOp.quiet, isSlot, Nat.reduceBEq, h1, h2, h3, h4, h6, h7, h12, h16, h17, e5q, hwk, Int.le_refl, i0, i1, i2, i3, i4, i5, Nat.sub_zero, Int.toNat_natCast]
      simp only [a2]
      have hT := okOf (K := S.kinds.take k ++ S.kinds.drop (k + 1)) (A := S.acts) (by simp; omega) (by omega) (fun z hz => by
        rcases List.mem_append.1 hz with hz | hz
        · have := List.mem_of_mem_take hz; exact ⟨(hS.k z this).ok, (hS.k z this).tok⟩
        · have := List.mem_of_mem_drop hz; exact ⟨(hS.k z this).ok, (hS.k z this).tok⟩) fun a ha => ⟨(hS.a a ha).ok, (hS.a a ha).tok⟩
      have fin : ∀ x6 : AV, RowP (fun b' => s4.n ≤ b') s6 x6 (rowc Kd.c (S.kinds.take k ++ S.kinds.drop (k + 1))) (k + (S.kinds.length - (k + 1))) 3 →
          ∃ (T : Sc) (x' y' : AV), some [x6, y] = some [x', y'] ∧ Pur (s6.put q [x6, y]) true (.agg [x', y']) (.agg T.c) ∧ T.ok ∧ T.tok := fun x6 hrow6 => by
        refine ⟨⟨S.kinds.take k ++ S.kinds.drop (k + 1), S.acts⟩, _, _, rfl, .agg _ _ rfl fun i hi hi' => ?_, hT.1, hT.2⟩
        match i, hi with
        | 0, _ => exact slc_of (by simp; omega) ((hrow6.put (b0 := q) (by omega) _).self (rowc_pur Kd.pur _))
        | 1, _ => exact ((hryA.keep (by omega) fun b' hb' hp' => get_cells (hk6 b' (by omega))).put (by omega) _).self (rowc_pur Ac.pur S.acts)
      have fin6 := fin x6 hrow6
      have hx6 : x6 = .nils ∨ ∃ b6 cap6 n6, x6 = .sl b6 0 n6 cap6 3 := by
        cases hrow6.form with
        | inl h => exact .inl h
        | inr h => exact .inr (by cases h with | intro b6 h => cases h with | intro cap6 h => exact ⟨b6, cap6, _, h⟩)
      clear hrow6 fin
      cases hx6 with
      | inl hx6 =>
        subst hx6
        simp only [WS, stepW, evalA, reduceIte, Nat.reduceEqDiff, reduceCtorEq, evalBin, Option.getD, Int.reduceToNat, Nat.reduceMul, Nat.reduceAdd, allocA, rowOf, fillA, partsV, setl, Nat.reduceLeDiff, AV.len, evalUn, Int.reduceLT, Int.reduceLE, Int.reduceEq, Int.reduceNe, strs_eq, DS, isSl, AOp.pure, AOp.reader, allocD, AOp.quiet, isSlot, Nat.reduceBEq, h16, e6q, storeA, sets, setx, List.take_zero, List.drop_succ_cons, List.drop_zero, List.take_succ_cons]
        refine ⟨⟨?_, ?_⟩, fin6⟩
        · intro l hl c hc hf
          simp only [List.mem_cons, List.mem_nil_iff, List.not_mem_nil, or_false] at hl hc
          rcases hl with rfl | rfl <;> rcases hc with rfl | rfl | rfl | rfl | rfl <;> dsimp only at hf ⊢ <;> first
            | (exact absurd hf (by decide +kernel))
            | (simp only [WS, stepW, evalA, reduceIte, Nat.reduceEqDiff, reduceCtorEq, evalBin, Option.getD, Int.reduceToNat, Nat.reduceMul, Nat.reduceAdd, allocA, rowOf, fillA, partsV, setl, Nat.reduceLeDiff, AV.len, evalUn, Int.reduceLT, Int.reduceLE, Int.reduceEq, Int.reduceNe, strs_eq, h1, h2, h3, h4, h6, h7, h12, h16, h17, dq, e5q, neq]; done)
        · intro sl hsl; simp at hsl
      | inr hx6 =>
        cases hx6 with | intro b6 hx6 =>
        cases hx6 with | intro cap6 hx6 =>
        cases hx6 with | intro n6 hx6 =>
        subst hx6
        simp only [WS, stepW, evalA, reduceIte, Nat.reduceEqDiff, reduceCtorEq, evalBin, Option.getD, Int.reduceToNat, Nat.reduceMul, Nat.reduceAdd, allocA, rowOf, fillA, partsV, setl, Nat.reduceLeDiff, AV.len, evalUn, Int.reduceLT, Int.reduceLE, Int.reduceEq, Int.reduceNe, strs_eq, DS, isSl, AOp.pure, AOp.reader, allocD, AOp.quiet, isSlot, Nat.reduceBEq, h16, e6q, storeA, sets, setx, List.take_zero, List.drop_succ_cons, List.drop_zero, List.take_succ_cons]
        refine ⟨⟨?_, ?_⟩, fin6⟩
        · intro l hl c hc hf
          simp only [List.mem_cons, List.mem_nil_iff, List.not_mem_nil, or_false] at hl hc
          rcases hl with rfl | rfl <;> rcases hc with rfl | rfl | rfl | rfl | rfl <;> dsimp only at hf ⊢ <;> first
            | (exact absurd hf (by decide +kernel))
            | (simp only [WS, stepW, evalA, reduceIte, Nat.reduceEqDiff, reduceCtorEq, evalBin, Option.getD, Int.reduceToNat, Nat.reduceMul, Nat.reduceAdd, allocA, rowOf, fillA, partsV, setl, Nat.reduceLeDiff, AV.len, evalUn, Int.reduceLT, Int.reduceLE, Int.reduceEq, Int.reduceNe, strs_eq, h1, h2, h3, h4, h6, h7, h12, h16, h17, dq, e5q, neq]; done)
        · intro sl hsl; simp at hsl
end Go.Proofs.Ytaokfpjjaejjgaa.Va
