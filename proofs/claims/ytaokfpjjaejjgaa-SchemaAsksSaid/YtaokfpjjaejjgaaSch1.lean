/- Kinds that a schema has, told by both. Conditions: none. -/
import Derived.Test.YtaokfpjjaejjgaaSch0
set_option maxRecDepth 100000
set_option maxHeartbeats 4000000
set_option linter.all false
namespace Go.Proofs.Ytaokfpjjaejjgaa.Va
open Go.Proofs

theorem hasF_ac {k : Kd} {n : Str} {b : Nat} {σ : AState} (hb : σ.cells b = some [.str n]) (hbn : b < σ.n) :
    AC Try.prog 59 [.agg k.c, .ptr b 0] σ fun v s => v = .bool (decide (k.name = n)) ∧ Keeps σ.n σ s := by
  refine ac_wp fn59 cf59 cl59 rfl ?_
  simp only [ac59]
  unfold ab59
  have h1 : ¬ b = σ.n := by omega
  simp only [WS, stepW, evalA, reduceIte, Nat.reduceEqDiff, reduceCtorEq, evalBin, Option.getD, Int.reduceToNat, Nat.reduceMul, Nat.reduceAdd, allocA, rowOf, fillA, partsV, setl, Nat.reduceLeDiff, AV.len, evalUn, Int.reduceLT, Int.reduceLE, Int.reduceEq, Int.reduceNe, strs_eq, Kd.c_eq, hb, h1]
  exact (Keeps.refl σ).push _

/- The place of the first. -/
def idx (ks : List Kd) (n : Str) : Int := if hasS ks n then (ks.findIdx fun k => decide (k.name = n) : Nat) else -1

theorem idxF_ac {ks : List Kd} {n : Str} {b : Nat} {σ : AState} (hl : ks.length ≤ Most) (hb : σ.cells b = some [.str n]) (hbn : b < σ.n) :
    AC Try.prog 63 [slc Kd.c ks, .fn 59 [.ptr b 0]] σ fun v s => (∃ i : Int, v = .int .i64 i ∧ decide (0 ≤ i) = hasS ks n) ∧ Keeps σ.n σ s := by
  refine ac_wp fn63 cf63 cl63 rfl ?_
  simp only [ac63]
  unfold ab63
  simp only [WS, stepW, evalA, reduceIte, Nat.reduceEqDiff, reduceCtorEq, evalBin, Option.getD, Int.reduceToNat, Nat.reduceMul, Nat.reduceAdd, allocA, rowOf, fillA, partsV, setl, Nat.reduceLeDiff, AV.len, evalUn, Int.reduceLT, Int.reduceLE, Int.reduceEq, Int.reduceNe, strs_eq]
  refine w_for (fun i ρ s => ρ.rd 8 = .int .i64 i ∧ ρ.rd 7 = .int .i64 ks.length ∧ ρ.rd 0 = slc Kd.c ks ∧ ρ.rd 1 = .fn 59 [.ptr b 0] ∧ Keeps σ.n σ s ∧ hasS (ks.take i) n = false) ks.length ?_ ?_
  · simp only [WS, stepW, evalA, reduceIte, Nat.reduceEqDiff, reduceCtorEq, evalBin, Option.getD, Int.reduceToNat, Nat.reduceMul, Nat.reduceAdd, allocA, rowOf, fillA, partsV, setl, Nat.reduceLeDiff, AV.len, evalUn, Int.reduceLT, Int.reduceLE, Int.reduceEq, Int.reduceNe, strs_eq]
    exact ⟨rfl, Keeps.refl σ, rfl⟩
  · rintro i ρ s hi ⟨h8, h7, h0, h1, hk, hno⟩
    simp only [WS, stepW, evalA, reduceIte, Nat.reduceEqDiff, reduceCtorEq, evalBin, Option.getD, Int.reduceToNat, Nat.reduceMul, Nat.reduceAdd, allocA, rowOf, fillA, partsV, setl, Nat.reduceLeDiff, AV.len, evalUn, Int.reduceLT, Int.reduceLE, Int.reduceEq, Int.reduceNe, strs_eq, h8, h7, h0, h1]
    refine Br_dec (fun hlt => ?_) (fun hge => ?_)
    · have hlt' : i < ks.length := by omega
      have A := kdAt hlt'
      have hr := lt_idx hlt'
      simp only [WS, stepW, evalA, reduceIte, Nat.reduceEqDiff, reduceCtorEq, evalBin, Option.getD, Int.reduceToNat, Nat.reduceMul, Nat.reduceAdd, allocA, rowOf, fillA, partsV, setl, Nat.reduceLeDiff, AV.len, evalUn, Int.reduceLT, Int.reduceLE, Int.reduceEq, Int.reduceNe, strs_eq, h8, h7, h0, h1, hr, A.fit, A.all]
      have hbs : s.cells b = some [.str n] := (hk.cells hbn).trans hb
      refine (hasF_ac (k := ks[i]) hbs (by have := hk.1; omega)).mono ?_
      rintro v s' ⟨rfl, hk'⟩
      have hstep : hasS (ks.take (i + 1)) n = decide (ks[i].name = n) := by
        rw [hasS, List.take_add_one, List.any_append, show (ks.take i).any (fun k => decide (k.name = n)) = false from hno, List.getElem?_eq_getElem hlt']
        simp
      simp only [WS, stepW, evalA, reduceIte, Nat.reduceEqDiff, reduceCtorEq, evalBin, Option.getD, Int.reduceToNat, Nat.reduceMul, Nat.reduceAdd, allocA, rowOf, fillA, partsV, setl, Nat.reduceLeDiff, AV.len, evalUn, Int.reduceLT, Int.reduceLE, Int.reduceEq, Int.reduceNe, strs_eq]
      refine Br_dec (fun hy => ?_) (fun hn => ?_)
      · simp only [WS, stepW, evalA, reduceIte, Nat.reduceEqDiff, reduceCtorEq, evalBin, Option.getD, Int.reduceToNat, Nat.reduceMul, Nat.reduceAdd, allocA, rowOf, fillA, partsV, setl, Nat.reduceLeDiff, AV.len, evalUn, Int.reduceLT, Int.reduceLE, Int.reduceEq, Int.reduceNe, strs_eq]
        refine ⟨⟨i, rfl, ?_⟩, hk.trans (hk'.mono hk.1)⟩
        rw [hasS, ← List.take_append_drop (i + 1) ks, List.any_append, show (ks.take (i + 1)).any (fun k => decide (k.name = n)) = true by rw [show (ks.take (i + 1)).any (fun k => decide (k.name = n)) = decide (ks[i].name = n) from hstep, decide_eq_true hy]]
        simp
      · have hw : IntKind.i64.wrap ((i : Int) + 1) = ((i + 1 : Nat) : Int) := wrap_succ (by have : Most = 9223372036854775807 := rfl; omega)
        simp only [WS, stepW, evalA, reduceIte, Nat.reduceEqDiff, reduceCtorEq, evalBin, Option.getD, Int.reduceToNat, Nat.reduceMul, Nat.reduceAdd, allocA, rowOf, fillA, partsV, setl, Nat.reduceLeDiff, AV.len, evalUn, Int.reduceLT, Int.reduceLE, Int.reduceEq, Int.reduceNe, strs_eq, h8, h7, h0, h1, hw]
        exact ⟨hlt', hk.trans (hk'.mono hk.1), by rw [hstep, decide_eq_false hn]⟩
    · have : i = ks.length := by omega
      subst this
      simp only [WS, stepW, evalA, reduceIte, Nat.reduceEqDiff, reduceCtorEq, evalBin, Option.getD, Int.reduceToNat, Nat.reduceMul, Nat.reduceAdd, allocA, rowOf, fillA, partsV, setl, Nat.reduceLeDiff, AV.len, evalUn, Int.reduceLT, Int.reduceLE, Int.reduceEq, Int.reduceNe, strs_eq, h8, h7, h0, h1]
      rw [List.take_length] at hno
      exact ⟨⟨-1, rfl, by rw [hno]; rfl⟩, hk⟩

theorem contF_ac {ks : List Kd} {n : Str} {b : Nat} {σ : AState} (hl : ks.length ≤ Most) (hb : σ.cells b = some [.str n]) (hbn : b < σ.n) :
    AC Try.prog 58 [slc Kd.c ks, .fn 59 [.ptr b 0]] σ fun v s => v = .bool (hasS ks n) ∧ Keeps σ.n σ s := by
  refine ac_wp fn58 cf58 cl58 rfl ?_
  simp only [ac58]
  unfold ab58
  simp only [WS, stepW, evalA, reduceIte, Nat.reduceEqDiff, reduceCtorEq, evalBin, Option.getD, Int.reduceToNat, Nat.reduceMul, Nat.reduceAdd, allocA, rowOf, fillA, partsV, setl, Nat.reduceLeDiff, AV.len, evalUn, Int.reduceLT, Int.reduceLE, Int.reduceEq, Int.reduceNe, strs_eq]
  refine (idxF_ac hl hb hbn).mono ?_
  rintro v s ⟨⟨i, rfl, hi⟩, hk⟩
  simp only [WS, stepW, evalA, reduceIte, Nat.reduceEqDiff, reduceCtorEq, evalBin, Option.getD, Int.reduceToNat, Nat.reduceMul, Nat.reduceAdd, allocA, rowOf, fillA, partsV, setl, Nat.reduceLeDiff, AV.len, evalUn, Int.reduceLT, Int.reduceLE, Int.reduceEq, Int.reduceNe, strs_eq, hi]
  exact hk
theorem has_st0 {s : Sc} {n : Str} (hs : s.ok) : AC Try.prog 50 [.agg s.c, .str n] st0 fun v _ => v = .bool (hasS s.kinds n) := by
  refine ac_wp fn50 cf50 cl50 rfl ?_
  simp only [ac50]
  unfold ab50
  simp only [WS, stepW, evalA, reduceIte, Nat.reduceEqDiff, reduceCtorEq, evalBin, Option.getD, Int.reduceToNat, Nat.reduceMul, Nat.reduceAdd, allocA, rowOf, fillA, partsV, setl, Nat.reduceLeDiff, AV.len, evalUn, Int.reduceLT, Int.reduceLE, Int.reduceEq, Int.reduceNe, strs_eq, Sc.c_eq]
  refine (contF_ac (ks := s.kinds) (n := n) (b := 1) hs.kl ?_ ?_).mono ?_
  · simp only [WS, stepW, evalA, reduceIte, Nat.reduceEqDiff, reduceCtorEq, evalBin, Option.getD, Int.reduceToNat, Nat.reduceMul, Nat.reduceAdd, allocA, rowOf, fillA, partsV, setl, Nat.reduceLeDiff, AV.len, evalUn, Int.reduceLT, Int.reduceLE, Int.reduceEq, Int.reduceNe, strs_eq]
  · simp only [WS, stepW, evalA, reduceIte, Nat.reduceEqDiff, reduceCtorEq, evalBin, Option.getD, Int.reduceToNat, Nat.reduceMul, Nat.reduceAdd, allocA, rowOf, fillA, partsV, setl, Nat.reduceLeDiff, AV.len, evalUn, Int.reduceLT, Int.reduceLE, Int.reduceEq, Int.reduceNe, strs_eq]
    omega
  rintro v s' ⟨rfl, hk⟩
  simp only [WS, stepW, evalA, reduceIte, Nat.reduceEqDiff, reduceCtorEq, evalBin, Option.getD, Int.reduceToNat, Nat.reduceMul, Nat.reduceAdd, allocA, rowOf, fillA, partsV, setl, Nat.reduceLeDiff, AV.len, evalUn, Int.reduceLT, Int.reduceLE, Int.reduceEq, Int.reduceNe, strs_eq]
theorem has_ac {s : Sc} {n : Str} {σ : AState} (hs : s.ok) : AC Try.prog 50 [.agg s.c, .str n] σ fun v s' => s' = σ ∧ v = .bool (hasS s.kinds n) :=
  AC.told (.cons (.agg (Sc.fxd s)) (.cons (.flat rfl) .nil)) rfl (has_st0 hs)

/- ------------------------------------------------ names -/
def letterS (x : UInt8) : Bool := decide (97 ≤ (x.toNat : Int) ∧ (x.toNat : Int) ≤ 122 ∨ 65 ≤ (x.toNat : Int) ∧ (x.toNat : Int) ≤ 90 ∨ (x.toNat : Int) = 95)
def digitS (x : UInt8) : Bool := decide (48 ≤ (x.toNat : Int) ∧ (x.toNat : Int) ≤ 57)
def identGo : Nat → Str → Bool
  | _, [] => true
  | i, x :: r => (letterS x || (decide (i ≠ 0) && digitS x)) && identGo (i + 1) r
def identS (n : Str) : Bool := identGo 0 n && (decide (1 ≤ (n.length : Int)) && decide ((n.length : Int) ≤ 12))

theorem letter_ac (x : UInt8) (σ : AState) : AC Try.prog 56 [.int .u8 x.toNat] σ fun v s => v = .bool (letterS x) ∧ s = σ := by
  refine ac_wp fn56 cf56 cl56 rfl ?_
  simp only [ac56]
  unfold ab56
  simp only [WS, stepW, evalA, reduceIte, Nat.reduceEqDiff, reduceCtorEq, evalBin, Option.getD, Int.reduceToNat, Nat.reduceMul, Nat.reduceAdd, allocA, rowOf, fillA, partsV, setl, Nat.reduceLeDiff, AV.len, evalUn, Int.reduceLT, Int.reduceLE, Int.reduceEq, Int.reduceNe, strs_eq]
  repeat' (first
    | (refine Br_dec (fun _ => ?_) (fun _ => ?_) <;> (try simp only [WS, stepW, evalA, reduceIte, Nat.reduceEqDiff, reduceCtorEq, evalBin, Option.getD, Int.reduceToNat, Nat.reduceMul, Nat.reduceAdd, allocA, rowOf, fillA, partsV, setl, Nat.reduceLeDiff, AV.len, evalUn, Int.reduceLT, Int.reduceLE, Int.reduceEq, Int.reduceNe, strs_eq, *]))
    | (refine Br_intro (fun _ => ?_) (fun _ => ?_) <;> (try simp only [WS, stepW, evalA, reduceIte, Nat.reduceEqDiff, reduceCtorEq, evalBin, Option.getD, Int.reduceToNat, Nat.reduceMul, Nat.reduceAdd, allocA, rowOf, fillA, partsV, setl, Nat.reduceLeDiff, AV.len, evalUn, Int.reduceLT, Int.reduceLE, Int.reduceEq, Int.reduceNe, strs_eq, *])))
  all_goals (refine congrArg AV.bool (Bool.eq_iff_iff.2 ?_); simp only [letterS, decide_eq_true_eq, true_iff, false_iff, Bool.false_eq_true]; omega)
theorem digit_ac (x : UInt8) (σ : AState) : AC Try.prog 57 [.int .u8 x.toNat] σ fun v s => v = .bool (digitS x) ∧ s = σ := by
  refine ac_wp fn57 cf57 cl57 rfl ?_
  simp only [ac57]
  unfold ab57
  simp only [WS, stepW, evalA, reduceIte, Nat.reduceEqDiff, reduceCtorEq, evalBin, Option.getD, Int.reduceToNat, Nat.reduceMul, Nat.reduceAdd, allocA, rowOf, fillA, partsV, setl, Nat.reduceLeDiff, AV.len, evalUn, Int.reduceLT, Int.reduceLE, Int.reduceEq, Int.reduceNe, strs_eq]
  repeat' (first
    | (refine Br_dec (fun _ => ?_) (fun _ => ?_) <;> (try simp only [WS, stepW, evalA, reduceIte, Nat.reduceEqDiff, reduceCtorEq, evalBin, Option.getD, Int.reduceToNat, Nat.reduceMul, Nat.reduceAdd, allocA, rowOf, fillA, partsV, setl, Nat.reduceLeDiff, AV.len, evalUn, Int.reduceLT, Int.reduceLE, Int.reduceEq, Int.reduceNe, strs_eq, *]))
    | (refine Br_intro (fun _ => ?_) (fun _ => ?_) <;> (try simp only [WS, stepW, evalA, reduceIte, Nat.reduceEqDiff, reduceCtorEq, evalBin, Option.getD, Int.reduceToNat, Nat.reduceMul, Nat.reduceAdd, allocA, rowOf, fillA, partsV, setl, Nat.reduceLeDiff, AV.len, evalUn, Int.reduceLT, Int.reduceLE, Int.reduceEq, Int.reduceNe, strs_eq, *])))
  all_goals (refine congrArg AV.bool (Bool.eq_iff_iff.2 ?_); simp only [digitS, decide_eq_true_eq, true_iff, false_iff, Bool.false_eq_true]; omega)
end Go.Proofs.Ytaokfpjjaejjgaa.Va
