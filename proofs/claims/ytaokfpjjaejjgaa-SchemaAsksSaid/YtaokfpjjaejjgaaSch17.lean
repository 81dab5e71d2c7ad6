/- The law SchemaFits. Conditions: none. -/
import Derived.Test.YtaokfpjjaejjgaaSch16
set_option maxRecDepth 100000
set_option maxHeartbeats 4000000
set_option linter.all false
namespace Go.Proofs.Ytaokfpjjaejjgaa.Va
open Go.Proofs
def aidN (i : Int) : Str := if i = 0 then [114, 101, 97, 100] else if i = 1 then [119, 114, 105, 116, 101] else if i = 2 then [111, 119, 110] else [120]
theorem aid_get {k : Nat} (h : k < 4) : [AV.str [114, 101, 97, 100], .str [119, 114, 105, 116, 101], .str [111, 119, 110], .str [120]][k]? = some (.str (aidN k)) := by
  match k, h with
  | 0, _ => rfl
  | 1, _ => rfl
  | 2, _ => rfl
  | 3, _ => rfl
/- Both rows of a schema of one's own become fixed data. -/
theorem Frz.sc {N : Nat} {Q : Env → AState → Prop} {ρ : Env} {σ : AState} {p p' : Nat → Prop} {x y : AV} {S : Sc} {q : Nat} (hq : σ.cells q = some [x, y]) (hx : RowP p σ x (rowc Kd.c S.kinds) S.kinds.length 3) (hy : RowP p' σ y (rowc Ac.c S.acts) S.acts.length 3)
    (hp : ¬ p q) (hp' : ¬ p' q) (hpp : ∀ b, p b → ¬ p' b) (h : ∀ s, s.n = σ.n → s.cells q = some [slc Kd.c S.kinds, slc Ac.c S.acts] → (∀ b, b ≠ q → ¬ p b → ¬ p' b → s.h.get b = σ.h.get b) → Q ρ s) : Frz N Q ρ σ := by
  refine Frz.trans (Frz.row hx hq hp (i := 0) rfl fun s h1 h2 h3 => ?_)
  have hne : ∀ b, p' b → b ≠ q := fun b hb e => hp' (e ▸ hb)
  have hnp : ∀ b, p' b → ¬ p b := fun b hb e => hpp b e hb
  refine Frz.row (hy.keep (Nat.le_of_eq h1.symm) fun b _ hb => get_cells (h3 b (hne b hb) (hnp b hb))) h2 hp' (i := 1) rfl fun s' g1 g2 g3 => ?_
  refine h s' (g1.trans h1) (by rw [g2]; rfl) fun b hb hb1 hb2 => (g3 b hb hb2).trans (h3 b hb hb1)
theorem schemaFits_ac {ks : List RKd} {ac : List RAc} {p a r : Int} {t : Bool} :
    AC Try.prog 6 [slc RKd.c ks, slc RAc.c ac, .int .i64 p, .int .i64 a, .int .i64 r, .bool t] st0 fun v _ => v = .bool true := by
  refine ac_wp fn6 cf6 cl6 rfl ?_
  simp only [ac6]
  unfold ab6
  simp only [wpC_seq, wpC_skip, wpCK_normal]
  refine w_mid (fun ρ s => ρ.rd 0 = slc RKd.c ks ∧ ρ.rd 1 = slc RAc.c ac ∧ ρ.rd 2 = .int .i64 p ∧ ρ.rd 3 = .int .i64 a ∧ ρ.rd 4 = .int .i64 r ∧ ρ.rd 5 = .bool t ∧ s = st0) ?_ ?_
  · simp only [WS, stepW, evalA, reduceIte, Nat.reduceEqDiff, reduceCtorEq, evalBin, Option.getD, Int.reduceToNat, Nat.reduceMul, Nat.reduceAdd, allocA, rowOf, fillA, partsV, setl, Nat.reduceLeDiff, AV.len, evalUn, Int.reduceLT, Int.reduceLE, Int.reduceEq, Int.reduceNe, strs_eq]
  rintro ρ s ⟨h0, h1, h2, h3, h4, h5, rfl⟩
  rw [wpC_seq]
  refine w_mid (fun ρ s => ρ.rd 0 = slc RKd.c ks ∧ ρ.rd 1 = slc RAc.c ac ∧ ρ.rd 2 = .int .i64 p ∧ ρ.rd 3 = .int .i64 a ∧ ρ.rd 4 = .int .i64 r ∧ ρ.rd 5 = .bool t ∧ s = st0) ?_ ?_
  · simp only [WS, stepW, evalA, reduceIte, Nat.reduceEqDiff, reduceCtorEq, evalBin, Option.getD, Int.reduceToNat, Nat.reduceMul, Nat.reduceAdd, allocA, rowOf, fillA, partsV, setl, Nat.reduceLeDiff, AV.len, evalUn, Int.reduceLT, Int.reduceLE, Int.reduceEq, Int.reduceNe, strs_eq]
    refine known10_ac.use ?_
    simp only [WS, stepW, evalA, reduceIte, Nat.reduceEqDiff, reduceCtorEq, evalBin, Option.getD, Int.reduceToNat, Nat.reduceMul, Nat.reduceAdd, allocA, rowOf, fillA, partsV, setl, Nat.reduceLeDiff, AV.len, evalUn, Int.reduceLT, Int.reduceLE, Int.reduceEq, Int.reduceNe, strs_eq, h0, h1, h2, h3, h4, h5]
  clear h0 h1 h2 h3 h4 h5
  rintro ρ s ⟨h0, h1, h2, h3, h4, h5, rfl⟩
  simp only [wpC_seq, wpC_skip, wpCK_normal]
  refine w_mid (fun ρ s => ρ.rd 2 = .int .i64 p ∧ ρ.rd 3 = .int .i64 a ∧ ρ.rd 4 = .int .i64 r ∧ ρ.rd 5 = .bool t ∧ ∃ q m S x y, ρ.rd 13 = .ptr q 0 ∧ s.cells q = some [x, y] ∧ m ≤ q ∧ q < s.n ∧ RowP (fun b => b < m) s x (rowc Kd.c S.kinds) S.kinds.length 3 ∧ RowP (fun b => m ≤ b ∧ b < q) s y (rowc Ac.c S.acts) S.acts.length 3 ∧ ScN S) ?_ ?_
  · simp only [WS, stepW, evalA, reduceIte, Nat.reduceEqDiff, reduceCtorEq, evalBin, Option.getD, Int.reduceToNat, Nat.reduceMul, Nat.reduceAdd, allocA, rowOf, fillA, partsV, setl, Nat.reduceLeDiff, AV.len, evalUn, Int.reduceLT, Int.reduceLE, Int.reduceEq, Int.reduceNe, strs_eq, h0, h1]
    refine good_ac.mono ?_
    rintro v s1 ⟨hk, m, S, x, y, rfl, hm3, hms, hrx, hry, hS⟩
    have hxy : x.one = true ∧ y.one = true := by
      constructor
      · rcases hrx.form with rfl | ⟨_, _, rfl⟩ <;> rfl
      · rcases hry.form with rfl | ⟨_, _, rfl⟩ <;> rfl
    simp only [WS, stepW, evalA, reduceIte, Nat.reduceEqDiff, reduceCtorEq, evalBin, Option.getD, Int.reduceToNat, Nat.reduceMul, Nat.reduceAdd, allocA, rowOf, fillA, partsV, setl, Nat.reduceLeDiff, AV.len, evalUn, Int.reduceLT, Int.reduceLE, Int.reduceEq, Int.reduceNe, strs_eq, h2, h3, h4, h5, hxy, storeA, sets, setx, List.take_zero, List.drop_succ_cons, List.drop_zero, List.take_succ_cons]
    exact ⟨s1.n, m, S, x, y, rfl, if_pos rfl, hms, by omega, RowP.put ((hrx.mono fun b hb _ => hb.2).push _) (by omega) _, RowP.put ((hry.mono fun b hb hb' => ⟨hb, hb'⟩).push _) (by omega) _, hS⟩
  clear h0 h1 h2 h3 h4 h5
  rintro ρ s ⟨h2, h3, h4, h5, q, m, S, x, y, h13, cq, hmq, hq, hrx, hry, hS⟩
  have hwp := wi_range a (n := 4) (by decide)
  obtain ⟨k, hk⟩ : ∃ k : Nat, wi a 4 = k := ⟨(wi a 4).toNat, by omega⟩
  rw [hk] at hwp
  have hrk : (0 : Int) ≤ (k : Int) ∧ (k : Int) < ((4 : Nat) : Int) := by omega
  have hg := aid_get (k := k) (by omega)
  rw [wpC_seq]
  generalize hQ : (Rq.mk (uidT (wi p 5)) [] actionS (aidN k) (uidT (wi r 5)) []) = Q0
  refine w_mid (fun ρ s => ρ.rd 5 = .bool t ∧ ∃ w, q < w ∧ w < s.n ∧ ρ.rd 13 = .ptr q 0 ∧ s.cells q = some [slc Kd.c S.kinds, slc Ac.c S.acts] ∧ ρ.rd 14 = .ptr w 0 ∧ s.cells w = some Q0.c) ?_ ?_
  · rw [← hQ]
    simp only [WS, stepW, evalA, reduceIte, Nat.reduceEqDiff, reduceCtorEq, evalBin, Option.getD, Int.reduceToNat, Nat.reduceMul, Nat.reduceAdd, allocA, rowOf, fillA, partsV, setl, Nat.reduceLeDiff, AV.len, evalUn, Int.reduceLT, Int.reduceLE, Int.reduceEq, Int.reduceNe, strs_eq]
    refine SimA.frz ?_
    refine w_dreg follow [(2, [.str [114, 101, 97, 100], .str [119, 114, 105, 116, 101], .str [111, 119, 110], .str [120]]), (11, [.str [], .str [], .str [], .str [], .str [], .str []])] rfl ?_
    have g2 := slots_get (s := s) (m := 13) [(2, [.str [114, 101, 97, 100], .str [119, 114, 105, 116, 101], .str [111, 119, 110], .str [120]]), (11, [.str [], .str [], .str [], .str [], .str [], .str []])] 2 _ rfl
    have g11 := slots_get (s := s) (m := 13) [(2, [.str [114, 101, 97, 100], .str [119, 114, 105, 116, 101], .str [111, 119, 110], .str [120]]), (11, [.str [], .str [], .str [], .str [], .str [], .str []])] 11 _ rfl
    have dq := (slots_old (m := 13) [(2, [.str [114, 101, 97, 100], .str [119, 114, 105, 116, 101], .str [111, 119, 110], .str [120]]), (11, [.str [], .str [], .str [], .str [], .str [], .str []])] hq).trans cq
    have hrxA := hrx.slotsL 13 [(2, [.str [114, 101, 97, 100], .str [119, 114, 105, 116, 101], .str [111, 119, 110], .str [120]]), (11, [.str [], .str [], .str [], .str [], .str [], .str []])]
    have hryA := hry.slotsL 13 [(2, [.str [114, 101, 97, 100], .str [119, 114, 105, 116, 101], .str [111, 119, 110], .str [120]]), (11, [.str [], .str [], .str [], .str [], .str [], .str []])]
    have hnA : (addSlots s.n 13 s [(2, [.str [114, 101, 97, 100], .str [119, 114, 105, 116, 101], .str [111, 119, 110], .str [120]]), (11, [.str [], .str [], .str [], .str [], .str [], .str []])]).n = s.n + 13 := rfl
    generalize addSlots s.n 13 s [(2, [.str [114, 101, 97, 100], .str [119, 114, 105, 116, 101], .str [111, 119, 110], .str [120]]), (11, [.str [], .str [], .str [], .str [], .str [], .str []])] = s1 at *
    have c2 := cells_of g2
    have c11 := cells_of g11
    simp only [WS, stepW, evalA, reduceIte, Nat.reduceEqDiff, reduceCtorEq, evalBin, Option.getD, Int.reduceToNat, Nat.reduceMul, Nat.reduceAdd, allocA, rowOf, fillA, partsV, setl, Nat.reduceLeDiff, AV.len, evalUn, Int.reduceLT, Int.reduceLE, Int.reduceEq, Int.reduceNe, strs_eq, DS, isSl, AOp.pure, AOp.reader, allocD, AOp.quiet, isSlot, Nat.reduceBEq, h2, h3, h4, h5, h13]
    refine uid_ac.useD ?_
    simp only [WS, stepW, evalA, reduceIte, Nat.reduceEqDiff, reduceCtorEq, evalBin, Option.getD, Int.reduceToNat, Nat.reduceMul, Nat.reduceAdd, allocA, rowOf, fillA, partsV, setl, Nat.reduceLeDiff, AV.len, evalUn, Int.reduceLT, Int.reduceLE, Int.reduceEq, Int.reduceNe, strs_eq, DS, isSl, AOp.pure, AOp.reader, allocD, AOp.quiet, isSlot, Nat.reduceBEq, h2, h3, h4, h5, h13, fillA, rowOf]
    refine (within10_ac (by decide) (by decide)).useD ?_
    rw [hk]
    simp only [WS, stepW, evalA, reduceIte, Nat.reduceEqDiff, reduceCtorEq, evalBin, Option.getD, Int.reduceToNat, Nat.reduceMul, Nat.reduceAdd, allocA, rowOf, fillA, partsV, setl, Nat.reduceLeDiff, AV.len, evalUn, Int.reduceLT, Int.reduceLE, Int.reduceEq, Int.reduceNe, strs_eq, DS, isSl, AOp.pure, AOp.reader, allocD, AOp.quiet, isSlot, Nat.reduceBEq, h2, h3, h4, h5, h13, fillA, hrk, c2, hg]
    refine uid_ac.useD ?_
    simp only [WS, stepW, evalA, reduceIte, Nat.reduceEqDiff, reduceCtorEq, evalBin, Option.getD, Int.reduceToNat, Nat.reduceMul, Nat.reduceAdd, allocA, rowOf, fillA, partsV, setl, Nat.reduceLeDiff, AV.len, evalUn, Int.reduceLT, Int.reduceLE, Int.reduceEq, Int.reduceNe, strs_eq, DS, isSl, AOp.pure, AOp.reader, allocD, AOp.quiet, isSlot, Nat.reduceBEq, h2, h3, h4, h5, h13, fillA, c11, storeA, sets, setx, List.take_zero, List.drop_succ_cons, List.drop_zero, List.take_succ_cons]
    have hput := put_get s1 (s.n + 11) q [.str (uidT (wi p 5)), .str [], .str [65, 99, 116, 105, 111, 110], .str (aidN k), .str (uidT (wi r 5)), .str []]
    rw [if_neg (by omega), dq] at hput
    refine ⟨⟨?_, ?_⟩, Frz.sc hput (hrxA.put (by omega) _) (hryA.put (by omega) _) (by omega) (by omega) (fun b hb hb' => by omega) fun s2 e1 e2 e3 => ?_⟩
    · intro l hl c hc hf
      simp only [List.mem_cons, List.mem_nil_iff, List.not_mem_nil, or_false] at hl hc
      rcases hl with rfl <;> rcases hc with rfl | rfl | rfl | rfl | rfl <;> dsimp only at hf ⊢ <;> first
        | (exact absurd hf (by decide +kernel))
        | (simp only [WS, stepW, evalA, reduceIte, Nat.reduceEqDiff, reduceCtorEq, evalBin, Option.getD, Int.reduceToNat, Nat.reduceMul, Nat.reduceAdd, allocA, rowOf, fillA, partsV, setl, Nat.reduceLeDiff, AV.len, evalUn, Int.reduceLT, Int.reduceLE, Int.reduceEq, Int.reduceNe, strs_eq, h13, c2, hg]; done)
    · intro sl hsl c hc hf
      simp only [List.mem_cons, List.mem_nil_iff, List.not_mem_nil, or_false] at hsl hc
      rcases hsl with rfl | rfl <;> rcases hc with rfl | rfl | rfl | rfl | rfl <;> dsimp only at hf ⊢ <;> first
        | (exact absurd hf (by decide +kernel))
        | exact ⟨by omega, g2⟩
        | exact ⟨by omega, g11⟩
        | exact ⟨by simp only [put_n]; omega, (put_h (by omega)).trans g2⟩
    · simp only [WS, stepW, evalA, reduceIte, Nat.reduceEqDiff, reduceCtorEq, evalBin, Option.getD, Int.reduceToNat, Nat.reduceMul, Nat.reduceAdd, allocA, rowOf, fillA, partsV, setl, Nat.reduceLeDiff, AV.len, evalUn, Int.reduceLT, Int.reduceLE, Int.reduceEq, Int.reduceNe, strs_eq, h5, h13]
      simp only [put_n] at e1
      refine ⟨s.n + 11, by omega, by omega, by simpa [slc_eq] using e2, rfl, ?_⟩
      have := get_cells (e3 (s.n + 11) (by omega) (by omega) (by omega))
      rw [put_get, if_pos rfl] at this
      exact this
  clear h2 h3 h4 h5 h13 cq hq hrx hry
  rintro ρ s ⟨h5, w, hqw, hws, h13, cq, h14, cw⟩
  rw [wpC_seq]
  generalize hQ' : (if t = true then { Q0 with at_ := [85, 115, 101, 114] } else Q0) = Q1
  refine w_mid (fun ρ s => ρ.rd 5 = .bool t ∧ q < w ∧ w < s.n ∧ ρ.rd 13 = .ptr q 0 ∧ s.cells q = some [slc Kd.c S.kinds, slc Ac.c S.acts] ∧ ρ.rd 14 = .ptr w 0 ∧ s.cells w = some Q1.c) ?_ ?_
  · simp only [Rq.c_eq] at cw
    have nqw : ¬ q = w := by omega
    rw [← hQ']
    cases t with
    | true => simp only [WS, stepW, evalA, reduceIte, Nat.reduceEqDiff, reduceCtorEq, evalBin, Option.getD, Int.reduceToNat, Nat.reduceMul, Nat.reduceAdd, allocA, rowOf, fillA, partsV, setl, Nat.reduceLeDiff, AV.len, evalUn, Int.reduceLT, Int.reduceLE, Int.reduceEq, Int.reduceNe, strs_eq, h5, h13, h14, cw, cq, nqw, Rq.c_eq, if_true, storeA, sets, setx, List.take_zero, List.drop_succ_cons, List.drop_zero, List.take_succ_cons]; first | exact ⟨hqw, hws, rfl⟩ | exact ⟨hws, rfl⟩ | exact ⟨hqw, hws⟩ | exact hws
    | false => simp only [WS, stepW, evalA, reduceIte, Nat.reduceEqDiff, reduceCtorEq, evalBin, Option.getD, Int.reduceToNat, Nat.reduceMul, Nat.reduceAdd, allocA, rowOf, fillA, partsV, setl, Nat.reduceLeDiff, AV.len, evalUn, Int.reduceLT, Int.reduceLE, Int.reduceEq, Int.reduceNe, strs_eq, h5, h13, h14, cw, cq, Rq.c_eq, Bool.false_eq_true, if_false]; first | exact ⟨hqw, hws, rfl⟩ | exact ⟨hws, rfl⟩ | exact ⟨hqw, hws⟩ | exact hws
  clear h5 h13 h14 cq cw hws
  rintro ρ s ⟨h5, _, hws, h13, cq, h14, cw⟩
  have hai : Q1.ai = Q0.ai ∧ Q1.pt = Q0.pt ∧ Q1.rt = Q0.rt := by rw [← hQ']; cases t <;> exact ⟨rfl, rfl, rfl⟩
  have hat : Q1.at_ = if t = true then [85, 115, 101, 114] else actionS := by rw [← hQ', ← hQ]; cases t <;> rfl
  have sgS := scSeg S
  have hA : ∀ σ, AC Try.prog 16 [.agg S.c, .str Q1.ai] σ fun v s' => s' = σ ∧ v = actV S.acts Q1.ai := fun σ => actR_ac hS.g.ok
  obtain ⟨X, is, hX, hXl, hXf⟩ : ∃ (X : Ac) (is : Bool), actV S.acts Q1.ai = .tup [.agg X.c, .bool is] ∧ (X.prins.length ≤ 4 ∧ X.ress.length ≤ 4) ∧
      fitsS S Q1 = if is = false then 15 else if Q1.at_ ≠ actionS then 15 else if inS X.prins Q1.pt = false ∨ inS X.ress Q1.rt = false then 16 else 0 := by
    unfold actV fitsS
    cases hf : S.acts.find? (fun k => decide (k.name = Q1.ai)) with
    | none => exact ⟨⟨[], [], []⟩, false, rfl, ⟨Nat.zero_le _, Nat.zero_le _⟩, rfl⟩
    | some a0 =>
      have h := hS.a a0 (List.mem_of_find?_eq_some hf)
      exact ⟨a0, true, rfl, ⟨h.pl.2, h.rl.2⟩, rfl⟩
  simp only [Sc.c_eq, slc_eq, hX, Ac.c_eq] at hA
  simp only [Rq.c_eq] at cw
  rw [wpC_seq]
  refine w_mid (fun ρ s => ρ.rd 5 = .bool t ∧ ρ.rd 13 = .ptr q 0 ∧ s.cells q = some [slc Kd.c S.kinds, slc Ac.c S.acts] ∧ ρ.rd 14 = .ptr w 0 ∧ s.cells w = some Q1.c ∧ ∃ z, ρ.rd 15 = .ptr z 0 ∧ s.cells z = some X.c ∧ ρ.rd 16 = .bool is) ?_ ?_
  · have n1 : ¬ q = s.n := by omega
    have n2 : ¬ w = s.n := by omega
    simp only [WS, stepW, evalA, reduceIte, Nat.reduceEqDiff, reduceCtorEq, evalBin, Option.getD, Int.reduceToNat, Nat.reduceMul, Nat.reduceAdd, allocA, rowOf, fillA, partsV, setl, Nat.reduceLeDiff, AV.len, evalUn, Int.reduceLT, Int.reduceLE, Int.reduceEq, Int.reduceNe, strs_eq, h5, h13, h14, cq, cw, sgS]
    refine (hA _).use ?_
    simp only [WS, stepW, evalA, reduceIte, Nat.reduceEqDiff, reduceCtorEq, evalBin, Option.getD, Int.reduceToNat, Nat.reduceMul, Nat.reduceAdd, allocA, rowOf, fillA, partsV, setl, Nat.reduceLeDiff, AV.len, evalUn, Int.reduceLT, Int.reduceLE, Int.reduceEq, Int.reduceNe, strs_eq, h5, h13, h14, cq, cw, n1, n2, Rq.c_eq, storeA, sets, setx, List.take_zero, List.drop_succ_cons, List.drop_zero, List.take_succ_cons]
    exact ⟨s.n, rfl, by simp [Ac.c_eq, strs_eq]⟩
  clear h5 h13 h14 cq cw
  rintro ρ s ⟨h5, h13, cq, h14, cw, z, h15, cz, h16⟩
  simp only [Rq.c_eq] at cw
  simp only [Ac.c_eq] at cz
  simp only [wpC_seq, wpC_skip, wpCK_normal]
  refine w_mid (fun ρ s => ρ.rd 5 = .bool t ∧ ρ.rd 13 = .ptr q 0 ∧ s.cells q = some [slc Kd.c S.kinds, slc Ac.c S.acts] ∧ ρ.rd 14 = .ptr w 0 ∧ s.cells w = some [.str Q1.pt, .str Q1.pi, .str Q1.at_, .str Q1.ai, .str Q1.rt, .str Q1.ri] ∧ ρ.rd 15 = .ptr z 0 ∧ s.cells z = some [.str X.name, strs X.prins, strs X.ress] ∧ ρ.rd 16 = .bool is ∧ ρ.rd 17 = .bool false ∧ ρ.rd 18 = .bool false) ?_ ?_
  · simp only [WS, stepW, evalA, reduceIte, Nat.reduceEqDiff, reduceCtorEq, evalBin, Option.getD, Int.reduceToNat, Nat.reduceMul, Nat.reduceAdd, allocA, rowOf, fillA, partsV, setl, Nat.reduceLeDiff, AV.len, evalUn, Int.reduceLT, Int.reduceLE, Int.reduceEq, Int.reduceNe, strs_eq, h5, h13, cq, h14, cw, h15, cz, h16]
  clear h5 h13 cq h14 cw h15 cz h16
  rintro ρ s ⟨h5, h13, cq, h14, cw, h15, cz, h16, h17, h18⟩
  rw [wpC_seq]
  refine w_mid (fun ρ s => ρ.rd 5 = .bool t ∧ ρ.rd 13 = .ptr q 0 ∧ s.cells q = some [slc Kd.c S.kinds, slc Ac.c S.acts] ∧ ρ.rd 14 = .ptr w 0 ∧ s.cells w = some [.str Q1.pt, .str Q1.pi, .str Q1.at_, .str Q1.ai, .str Q1.rt, .str Q1.ri] ∧ ρ.rd 15 = .ptr z 0 ∧ s.cells z = some [.str X.name, strs X.prins, strs X.ress] ∧ ρ.rd 16 = .bool is ∧ ρ.rd 17 = .bool (inS X.prins Q1.pt) ∧ ρ.rd 18 = .bool false) ?_ ?_
  · simp only [WS, stepW, evalA, reduceIte, Nat.reduceEqDiff, reduceCtorEq, evalBin, Option.getD, Int.reduceToNat, Nat.reduceMul, Nat.reduceAdd, allocA, rowOf, fillA, partsV, setl, Nat.reduceLeDiff, AV.len, evalUn, Int.reduceLT, Int.reduceLE, Int.reduceEq, Int.reduceNe, strs_eq, h5, h13, cq, h14, cw, h15, cz, h16, h17, h18]
    refine w_for (fun i ρ s => ρ.rd 19 = .int .i64 i ∧ ρ.rd 5 = .bool t ∧ ρ.rd 13 = .ptr q 0 ∧ s.cells q = some [slc Kd.c S.kinds, slc Ac.c S.acts] ∧ ρ.rd 14 = .ptr w 0 ∧ s.cells w = some [.str Q1.pt, .str Q1.pi, .str Q1.at_, .str Q1.ai, .str Q1.rt, .str Q1.ri] ∧ ρ.rd 15 = .ptr z 0 ∧ s.cells z = some [.str X.name, strs X.prins, strs X.ress] ∧ ρ.rd 16 = .bool is ∧ ρ.rd 17 = .bool (inS (X.prins.take i) Q1.pt) ∧ ρ.rd 18 = .bool false) X.prins.length ?_ ?_
    · simp only [WS, stepW, evalA, reduceIte, Nat.reduceEqDiff, reduceCtorEq, evalBin, Option.getD, Int.reduceToNat, Nat.reduceMul, Nat.reduceAdd, allocA, rowOf, fillA, partsV, setl, Nat.reduceLeDiff, AV.len, evalUn, Int.reduceLT, Int.reduceLE, Int.reduceEq, Int.reduceNe, strs_eq, h5, h13, cq, h14, cw, h15, cz, h16, h17, h18, List.take_zero]
      exact ⟨rfl, rfl⟩
    clear h5 h13 cq h14 cw h15 cz h16 h17 h18
    rintro i ρ s hi ⟨h19, h5, h13, cq, h14, cw, h15, cz, h16, h17, h18⟩
    simp only [WS, stepW, evalA, reduceIte, Nat.reduceEqDiff, reduceCtorEq, evalBin, Option.getD, Int.reduceToNat, Nat.reduceMul, Nat.reduceAdd, allocA, rowOf, fillA, partsV, setl, Nat.reduceLeDiff, AV.len, evalUn, Int.reduceLT, Int.reduceLE, Int.reduceEq, Int.reduceNe, strs_eq, h19, h5, h13, cq, h14, cw, h15, cz, h16]
    refine Br_dec (fun hlt' => ?_) (fun hge => ?_)
    rotate_left
    · have : i = X.prins.length := by omega
      subst this
      rw [List.take_length] at h17
      simp only [WS, stepW, evalA, reduceIte, Nat.reduceEqDiff, reduceCtorEq, evalBin, Option.getD, Int.reduceToNat, Nat.reduceMul, Nat.reduceAdd, allocA, rowOf, fillA, partsV, setl, Nat.reduceLeDiff, AV.len, evalUn, Int.reduceLT, Int.reduceLE, Int.reduceEq, Int.reduceNe, strs_eq, h5, h13, cq, h14, cw, h15, cz, h16, h17, h18]
    have hlt : i < X.prins.length := by omega
    have hr := lt_idx hlt
    have hg := strs_get hlt
    have hw : IntKind.i64.wrap ((i : Int) + 1) = ((i + 1 : Nat) : Int) := wrap_succ (by omega)
    simp only [WS, stepW, evalA, reduceIte, Nat.reduceEqDiff, reduceCtorEq, evalBin, Option.getD, Int.reduceToNat, Nat.reduceMul, Nat.reduceAdd, allocA, rowOf, fillA, partsV, setl, Nat.reduceLeDiff, AV.len, evalUn, Int.reduceLT, Int.reduceLE, Int.reduceEq, Int.reduceNe, strs_eq]
    refine w_dreg0 follow ?_ rfl
    have dq : (addSlots s.n 13 s []).cells q = _ := cq
    have dw : (addSlots s.n 13 s []).cells w = _ := cw
    have dz : (addSlots s.n 13 s []).cells z = _ := cz
    generalize addSlots s.n 13 s [] = s3 at *
    cases hb : inS (X.prins.take i) Q1.pt with
    | true =>
      have : inS (X.prins.take (i + 1)) Q1.pt = true := by rw [inS, List.take_add_one, List.any_append, show (X.prins.take i).any (fun x => decide (x = Q1.pt)) = true from hb]; rfl
      simp only [WS, stepW, evalA, reduceIte, Nat.reduceEqDiff, reduceCtorEq, evalBin, Option.getD, Int.reduceToNat, Nat.reduceMul, Nat.reduceAdd, allocA, rowOf, fillA, partsV, setl, Nat.reduceLeDiff, AV.len, evalUn, Int.reduceLT, Int.reduceLE, Int.reduceEq, Int.reduceNe, strs_eq, h19, h5, h13, h14, h15, h16, dq, dw, dz, h17, hb, h18, hw]
      exact ⟨hlt, by rw [this]⟩
    | false =>
      have := inS_step hlt hb
      simp only [WS, stepW, evalA, reduceIte, Nat.reduceEqDiff, reduceCtorEq, evalBin, Option.getD, Int.reduceToNat, Nat.reduceMul, Nat.reduceAdd, allocA, rowOf, fillA, partsV, setl, Nat.reduceLeDiff, AV.len, evalUn, Int.reduceLT, Int.reduceLE, Int.reduceEq, Int.reduceNe, strs_eq, h19, h5, h13, h14, h15, h16, dq, dw, dz, h17, hb, h18, hr, hg, hw]
      exact ⟨hlt, by rw [this]⟩
  clear h5 h13 cq h14 cw h15 cz h16 h17 h18
  rintro ρ s ⟨h5, h13, cq, h14, cw, h15, cz, h16, h17, h18⟩
  rw [wpC_seq]
  refine w_mid (fun ρ s => ρ.rd 5 = .bool t ∧ ρ.rd 13 = .ptr q 0 ∧ s.cells q = some [slc Kd.c S.kinds, slc Ac.c S.acts] ∧ ρ.rd 14 = .ptr w 0 ∧ s.cells w = some [.str Q1.pt, .str Q1.pi, .str Q1.at_, .str Q1.ai, .str Q1.rt, .str Q1.ri] ∧ ρ.rd 15 = .ptr z 0 ∧ s.cells z = some [.str X.name, strs X.prins, strs X.ress] ∧ ρ.rd 16 = .bool is ∧ ρ.rd 17 = .bool (inS X.prins Q1.pt) ∧ ρ.rd 18 = .bool (inS X.ress Q1.rt)) ?_ ?_
  · simp only [WS, stepW, evalA, reduceIte, Nat.reduceEqDiff, reduceCtorEq, evalBin, Option.getD, Int.reduceToNat, Nat.reduceMul, Nat.reduceAdd, allocA, rowOf, fillA, partsV, setl, Nat.reduceLeDiff, AV.len, evalUn, Int.reduceLT, Int.reduceLE, Int.reduceEq, Int.reduceNe, strs_eq, h5, h13, cq, h14, cw, h15, cz, h16, h17, h18]
    refine w_for (fun i ρ s => ρ.rd 20 = .int .i64 i ∧ ρ.rd 5 = .bool t ∧ ρ.rd 13 = .ptr q 0 ∧ s.cells q = some [slc Kd.c S.kinds, slc Ac.c S.acts] ∧ ρ.rd 14 = .ptr w 0 ∧ s.cells w = some [.str Q1.pt, .str Q1.pi, .str Q1.at_, .str Q1.ai, .str Q1.rt, .str Q1.ri] ∧ ρ.rd 15 = .ptr z 0 ∧ s.cells z = some [.str X.name, strs X.prins, strs X.ress] ∧ ρ.rd 16 = .bool is ∧ ρ.rd 17 = .bool (inS X.prins Q1.pt) ∧ ρ.rd 18 = .bool (inS (X.ress.take i) Q1.rt)) X.ress.length ?_ ?_
    · simp only [WS, stepW, evalA, reduceIte, Nat.reduceEqDiff, reduceCtorEq, evalBin, Option.getD, Int.reduceToNat, Nat.reduceMul, Nat.reduceAdd, allocA, rowOf, fillA, partsV, setl, Nat.reduceLeDiff, AV.len, evalUn, Int.reduceLT, Int.reduceLE, Int.reduceEq, Int.reduceNe, strs_eq, h5, h13, cq, h14, cw, h15, cz, h16, h17, h18, List.take_zero]
      exact ⟨rfl, rfl⟩
    clear h5 h13 cq h14 cw h15 cz h16 h17 h18
    rintro i ρ s hi ⟨h19, h5, h13, cq, h14, cw, h15, cz, h16, h17, h18⟩
    simp only [WS, stepW, evalA, reduceIte, Nat.reduceEqDiff, reduceCtorEq, evalBin, Option.getD, Int.reduceToNat, Nat.reduceMul, Nat.reduceAdd, allocA, rowOf, fillA, partsV, setl, Nat.reduceLeDiff, AV.len, evalUn, Int.reduceLT, Int.reduceLE, Int.reduceEq, Int.reduceNe, strs_eq, h19, h5, h13, cq, h14, cw, h15, cz, h16]
    refine Br_dec (fun hlt' => ?_) (fun hge => ?_)
    rotate_left
    · have : i = X.ress.length := by omega
      subst this
      rw [List.take_length] at h18
      simp only [WS, stepW, evalA, reduceIte, Nat.reduceEqDiff, reduceCtorEq, evalBin, Option.getD, Int.reduceToNat, Nat.reduceMul, Nat.reduceAdd, allocA, rowOf, fillA, partsV, setl, Nat.reduceLeDiff, AV.len, evalUn, Int.reduceLT, Int.reduceLE, Int.reduceEq, Int.reduceNe, strs_eq, h5, h13, cq, h14, cw, h15, cz, h16, h17, h18]
    have hlt : i < X.ress.length := by omega
    have hr := lt_idx hlt
    have hg := strs_get hlt
    have hw : IntKind.i64.wrap ((i : Int) + 1) = ((i + 1 : Nat) : Int) := wrap_succ (by omega)
    simp only [WS, stepW, evalA, reduceIte, Nat.reduceEqDiff, reduceCtorEq, evalBin, Option.getD, Int.reduceToNat, Nat.reduceMul, Nat.reduceAdd, allocA, rowOf, fillA, partsV, setl, Nat.reduceLeDiff, AV.len, evalUn, Int.reduceLT, Int.reduceLE, Int.reduceEq, Int.reduceNe, strs_eq]
    refine w_dreg0 follow ?_ rfl
    have dq : (addSlots s.n 13 s []).cells q = _ := cq
    have dw : (addSlots s.n 13 s []).cells w = _ := cw
    have dz : (addSlots s.n 13 s []).cells z = _ := cz
    generalize addSlots s.n 13 s [] = s3 at *
    cases hb : inS (X.ress.take i) Q1.rt with
    | true =>
      have : inS (X.ress.take (i + 1)) Q1.rt = true := by rw [inS, List.take_add_one, List.any_append, show (X.ress.take i).any (fun x => decide (x = Q1.rt)) = true from hb]; rfl
      simp only [WS, stepW, evalA, reduceIte, Nat.reduceEqDiff, reduceCtorEq, evalBin, Option.getD, Int.reduceToNat, Nat.reduceMul, Nat.reduceAdd, allocA, rowOf, fillA, partsV, setl, Nat.reduceLeDiff, AV.len, evalUn, Int.reduceLT, Int.reduceLE, Int.reduceEq, Int.reduceNe, strs_eq, h19, h5, h13, h14, h15, h16, dq, dw, dz, h17, hb, h18, hw]
      exact ⟨hlt, by rw [this]⟩
    | false =>
      have := inS_step hlt hb
      simp only [WS, stepW, evalA, reduceIte, Nat.reduceEqDiff, reduceCtorEq, evalBin, Option.getD, Int.reduceToNat, Nat.reduceMul, Nat.reduceAdd, allocA, rowOf, fillA, partsV, setl, Nat.reduceLeDiff, AV.len, evalUn, Int.reduceLT, Int.reduceLE, Int.reduceEq, Int.reduceNe, strs_eq, h19, h5, h13, h14, h15, h16, dq, dw, dz, h17, hb, h18, hr, hg, hw]
      exact ⟨hlt, by rw [this]⟩
  clear h5 h13 cq h14 cw h15 cz h16 h17 h18
  rintro ρ s ⟨h5, h13, cq, h14, cw, h15, cz, h16, h17, h18⟩
  have sg6 : ∀ a b c d e f : AV, seg [a, b, c, d, e, f] 0 6 = [a, b, c, d, e, f] := fun _ _ _ _ _ _ => rfl
  have hF : AC Try.prog 17 [.agg S.c, .agg Q1.c] s fun v s' => s' = s ∧ v = .int .i64 (fitsS S Q1) := fits_ac hS.g.ok hS.a
  rw [Sc.c_eq, Rq.c_eq, slc_eq, slc_eq, hXf, hat] at hF
  rw [hat] at cw
  have hne : ¬ ([85, 115, 101, 114] : Str) = actionS := by decide
  cases t with
  | true =>
    simp only [WS, stepW, evalA, reduceIte, Nat.reduceEqDiff, reduceCtorEq, evalBin, Option.getD, Int.reduceToNat, Nat.reduceMul, Nat.reduceAdd, allocA, rowOf, fillA, partsV, setl, Nat.reduceLeDiff, AV.len, evalUn, Int.reduceLT, Int.reduceLE, Int.reduceEq, Int.reduceNe, strs_eq, h5, h13, cq, h14, cw, h15, cz, h16, h17, h18, sgS, sg6, if_true]
    simp only [if_true] at hF
    refine AC.use hF ?_
    cases is <;> simp only [WS, stepW, evalA, reduceIte, Nat.reduceEqDiff, reduceCtorEq, evalBin, Option.getD, Int.reduceToNat, Nat.reduceMul, Nat.reduceAdd, allocA, rowOf, fillA, partsV, setl, Nat.reduceLeDiff, AV.len, evalUn, Int.reduceLT, Int.reduceLE, Int.reduceEq, Int.reduceNe, strs_eq, hne, Bool.true_eq_false, if_true, if_false]
  | false =>
    simp only [Bool.false_eq_true, if_false] at hF cw
    cases is with
    | false =>
      simp only [WS, stepW, evalA, reduceIte, Nat.reduceEqDiff, reduceCtorEq, evalBin, Option.getD, Int.reduceToNat, Nat.reduceMul, Nat.reduceAdd, allocA, rowOf, fillA, partsV, setl, Nat.reduceLeDiff, AV.len, evalUn, Int.reduceLT, Int.reduceLE, Int.reduceEq, Int.reduceNe, strs_eq, h5, h13, cq, h14, cw, h15, cz, h16, h17, h18, sgS, sg6]
      refine AC.use hF ?_
      simp only [WS, stepW, evalA, reduceIte, Nat.reduceEqDiff, reduceCtorEq, evalBin, Option.getD, Int.reduceToNat, Nat.reduceMul, Nat.reduceAdd, allocA, rowOf, fillA, partsV, setl, Nat.reduceLeDiff, AV.len, evalUn, Int.reduceLT, Int.reduceLE, Int.reduceEq, Int.reduceNe, strs_eq, if_true]
    | true =>
      cases hb : inS X.prins Q1.pt with
      | false =>
        simp only [WS, stepW, evalA, reduceIte, Nat.reduceEqDiff, reduceCtorEq, evalBin, Option.getD, Int.reduceToNat, Nat.reduceMul, Nat.reduceAdd, allocA, rowOf, fillA, partsV, setl, Nat.reduceLeDiff, AV.len, evalUn, Int.reduceLT, Int.reduceLE, Int.reduceEq, Int.reduceNe, strs_eq, h5, h13, cq, h14, cw, h15, cz, h16, h17, h18, hb, sgS, sg6]
        refine AC.use hF ?_
        simp only [WS, stepW, evalA, reduceIte, Nat.reduceEqDiff, reduceCtorEq, evalBin, Option.getD, Int.reduceToNat, Nat.reduceMul, Nat.reduceAdd, allocA, rowOf, fillA, partsV, setl, Nat.reduceLeDiff, AV.len, evalUn, Int.reduceLT, Int.reduceLE, Int.reduceEq, Int.reduceNe, strs_eq, hb, Bool.true_eq_false, if_true, if_false, true_or]
      | true =>
        cases hb2 : inS X.ress Q1.rt with
        | false =>
          simp only [WS, stepW, evalA, reduceIte, Nat.reduceEqDiff, reduceCtorEq, evalBin, Option.getD, Int.reduceToNat, Nat.reduceMul, Nat.reduceAdd, allocA, rowOf, fillA, partsV, setl, Nat.reduceLeDiff, AV.len, evalUn, Int.reduceLT, Int.reduceLE, Int.reduceEq, Int.reduceNe, strs_eq, h5, h13, cq, h14, cw, h15, cz, h16, h17, h18, hb, hb2, sgS, sg6]
          refine AC.use hF ?_
          simp only [WS, stepW, evalA, reduceIte, Nat.reduceEqDiff, reduceCtorEq, evalBin, Option.getD, Int.reduceToNat, Nat.reduceMul, Nat.reduceAdd, allocA, rowOf, fillA, partsV, setl, Nat.reduceLeDiff, AV.len, evalUn, Int.reduceLT, Int.reduceLE, Int.reduceEq, Int.reduceNe, strs_eq, hb, hb2, Bool.true_eq_false, if_true, if_false, or_true]
        | true =>
          simp only [WS, stepW, evalA, reduceIte, Nat.reduceEqDiff, reduceCtorEq, evalBin, Option.getD, Int.reduceToNat, Nat.reduceMul, Nat.reduceAdd, allocA, rowOf, fillA, partsV, setl, Nat.reduceLeDiff, AV.len, evalUn, Int.reduceLT, Int.reduceLE, Int.reduceEq, Int.reduceNe, strs_eq, h5, h13, cq, h14, cw, h15, cz, h16, h17, h18, hb, hb2, sgS, sg6]
          refine AC.use hF ?_
          simp only [WS, stepW, evalA, reduceIte, Nat.reduceEqDiff, reduceCtorEq, evalBin, Option.getD, Int.reduceToNat, Nat.reduceMul, Nat.reduceAdd, allocA, rowOf, fillA, partsV, setl, Nat.reduceLeDiff, AV.len, evalUn, Int.reduceLT, Int.reduceLE, Int.reduceEq, Int.reduceNe, strs_eq, hb, hb2, Bool.true_eq_false, if_true, if_false, or_self]
end Go.Proofs.Ytaokfpjjaejjgaa.Va
