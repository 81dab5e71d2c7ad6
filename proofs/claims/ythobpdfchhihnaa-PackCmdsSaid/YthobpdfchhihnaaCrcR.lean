/- The reference's sum of bytes. Conditions: none. -/
import Derived.Test.YthobpdfchhihnaaCrc
set_option maxRecDepth 100000
set_option maxHeartbeats 4000000
set_option linter.all false
namespace Go.Proofs.Ythobpdfchhihnaa.Va
open Go.Proofs

theorem toNat_one (a : BitVec 32) : ((a.toNat : Int) = 1) ↔ a = 1#32 := by
  constructor
  · intro h; apply BitVec.eq_of_toNat_eq; have : a.toNat = 1 := by omega
    rw [this]; rfl
  · intro h; rw [h]; rfl

theorem crcR_ac {l : List UInt8} (hm : l.length < 4611686018427387903) (σ : AState) : AC Try.prog 11 [.psl (ofU8s l) 0 l.length] σ fun v s => v = .int .u32 (crc l).toNat ∧ s = σ := by
  refine ac_wp fn11 cf11 cl11 rfl ?_
  simp only [ac11]
  unfold ab11
  simp only [WS, stepW, evalA, reduceIte, Nat.reduceEqDiff, reduceCtorEq, evalBin, Option.getD, Int.reduceToNat, Nat.reduceMul, Nat.reduceAdd, allocA, rowOf, fillA, partsV, setl, Nat.reduceLeDiff, AV.len, evalUn, Int.reduceLT, Int.reduceLE, Int.reduceEq, Int.reduceNe]
  refine w_for (fun i ρ s => s = σ ∧ ρ.rd 4 = .int .i64 i ∧ ρ.rd 0 = .psl (ofU8s l) 0 l.length ∧ ρ.rd 3 = .int .u32 (crcFold (l.take i)).toNat) l.length ?_ ?_
  · simp only [WS, stepW, evalA, reduceIte, Nat.reduceEqDiff, reduceCtorEq, evalBin, Option.getD, Int.reduceToNat, Nat.reduceMul, Nat.reduceAdd, allocA, rowOf, fillA, partsV, setl, Nat.reduceLeDiff, AV.len, evalUn, Int.reduceLT, Int.reduceLE, Int.reduceEq, Int.reduceNe]
    simp [crcFold]
  · rintro i ρ s hi ⟨rfl, h4, h0, h3⟩
    simp only [WS, stepW, evalA, reduceIte, Nat.reduceEqDiff, reduceCtorEq, evalBin, Option.getD, Int.reduceToNat, Nat.reduceMul, Nat.reduceAdd, allocA, rowOf, fillA, partsV, setl, Nat.reduceLeDiff, AV.len, evalUn, Int.reduceLT, Int.reduceLE, Int.reduceEq, Int.reduceNe, h4, h0, h3]
    refine Br_dec (fun hlt => ?_) (fun hge => ?_)
    · have hlt' : i < l.length := by omega
      have hr := lt_idx hlt'
      have hw : IntKind.u32.wrap (l[i].toNat : Int) = (u32 l[i]).toNat := by rw [wrap32, u32_toNat]; have := l[i].toNat_lt; omega
      simp only [WS, stepW, evalA, reduceIte, Nat.reduceEqDiff, reduceCtorEq, evalBin, Option.getD, Int.reduceToNat, Nat.reduceMul, Nat.reduceAdd, allocA, rowOf, fillA, partsV, setl, Nat.reduceLeDiff, AV.len, evalUn, Int.reduceLT, Int.reduceLE, Int.reduceEq, Int.reduceNe, h4, h0, h3, hr, ofU8s_get hlt', hw, e_xor]
      refine w_for (fun j ρ' s' => s' = s ∧ ρ'.rd 5 = .int .i64 j ∧ ρ'.rd 4 = .int .i64 i ∧ ρ'.rd 0 = .psl (ofU8s l) 0 l.length ∧ ρ'.rd 3 = .int .u32 (Tn j (crcFold (l.take i) ^^^ u32 l[i])).toNat) 8 ?_ ?_
      · simp only [WS, stepW, evalA, reduceIte, Nat.reduceEqDiff, reduceCtorEq, evalBin, Option.getD, Int.reduceToNat, Nat.reduceMul, Nat.reduceAdd, allocA, rowOf, fillA, partsV, setl, Nat.reduceLeDiff, AV.len, evalUn, Int.reduceLT, Int.reduceLE, Int.reduceEq, Int.reduceNe, h4, h0, h3, Tn]
        trivial
      · rintro j ρ' s' hj ⟨rfl, g5, g4, g0, g3⟩
        simp only [WS, stepW, evalA, reduceIte, Nat.reduceEqDiff, reduceCtorEq, evalBin, Option.getD, Int.reduceToNat, Nat.reduceMul, Nat.reduceAdd, allocA, rowOf, fillA, partsV, setl, Nat.reduceLeDiff, AV.len, evalUn, Int.reduceLT, Int.reduceLE, Int.reduceEq, Int.reduceNe, g5, g4, g0, g3]
        refine Br_dec (fun hjlt => ?_) (fun hjge => ?_)
        · have hj8 : j < 8 := by omega
          have hwj : IntKind.i64.wrap ((j : Int) + 1) = ((j + 1 : Nat) : Int) := wrap_succ (by omega)
          simp only [WS, stepW, evalA, reduceIte, Nat.reduceEqDiff, reduceCtorEq, evalBin, Option.getD, Int.reduceToNat, Nat.reduceMul, Nat.reduceAdd, allocA, rowOf, fillA, partsV, setl, Nat.reduceLeDiff, AV.len, evalUn, Int.reduceLT, Int.reduceLE, Int.reduceEq, Int.reduceNe, g5, g4, g0, g3, e_and1, e_eql1]
          refine Br_dec (fun hb => ?_) (fun hb => ?_)
          · simp only [WS, stepW, evalA, reduceIte, Nat.reduceEqDiff, reduceCtorEq, evalBin, Option.getD, Int.reduceToNat, Nat.reduceMul, Nat.reduceAdd, allocA, rowOf, fillA, partsV, setl, Nat.reduceLeDiff, AV.len, evalUn, Int.reduceLT, Int.reduceLE, Int.reduceEq, Int.reduceNe, g5, g4, g0, g3, e_shr1, e_xorP, hwj]
            exact ⟨hj8, by rw [Tn, T1, if_pos ((toNat_one _).1 hb)]⟩
          · simp only [WS, stepW, evalA, reduceIte, Nat.reduceEqDiff, reduceCtorEq, evalBin, Option.getD, Int.reduceToNat, Nat.reduceMul, Nat.reduceAdd, allocA, rowOf, fillA, partsV, setl, Nat.reduceLeDiff, AV.len, evalUn, Int.reduceLT, Int.reduceLE, Int.reduceEq, Int.reduceNe, g5, g4, g0, g3, e_shr1, e_xorP, hwj]
            exact ⟨hj8, by rw [Tn, T1, if_neg (fun h => hb ((toNat_one _).2 h))]⟩
        · have : j = 8 := by omega
          subst this
          have hwi : IntKind.i64.wrap ((i : Int) + 1) = ((i + 1 : Nat) : Int) := wrap_succ (by omega)
          simp only [WS, stepW, evalA, reduceIte, Nat.reduceEqDiff, reduceCtorEq, evalBin, Option.getD, Int.reduceToNat, Nat.reduceMul, Nat.reduceAdd, allocA, rowOf, fillA, partsV, setl, Nat.reduceLeDiff, AV.len, evalUn, Int.reduceLT, Int.reduceLE, Int.reduceEq, Int.reduceNe, g5, g4, g0, g3, hwi]
          exact ⟨hlt', by rw [fold_take hlt']⟩
    · have : i = l.length := by omega
      subst this
      simp only [WS, stepW, evalA, reduceIte, Nat.reduceEqDiff, reduceCtorEq, evalBin, Option.getD, Int.reduceToNat, Nat.reduceMul, Nat.reduceAdd, allocA, rowOf, fillA, partsV, setl, Nat.reduceLeDiff, AV.len, evalUn, Int.reduceLT, Int.reduceLE, Int.reduceEq, Int.reduceNe, h4, h0, h3, e_not, -evalUn]
      rw [List.take_length]
      rfl
end Go.Proofs.Ythobpdfchhihnaa.Va
