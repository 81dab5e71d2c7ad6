/- The law 'PackFrames' returns true at each input. Conditions: none. -/
import Derived.Test.YthobpdfchhihnaaUnf
set_option maxRecDepth 100000
set_option maxHeartbeats 4000000
set_option linter.all false
namespace Go.Proofs.Ythobpdfchhihnaa.Va
open Go.Proofs

theorem known_run : (runF tab 400 6 [] st0).map (fun r => isYes r.1) = some true := by kernel_rfl
theorem known_ac (σ : AState) : AC Try.prog 6 [] σ fun v s => v = .bool true ∧ s = σ := by
  obtain ⟨⟨v, s⟩, h1, h2⟩ := Option.map_eq_some_iff.1 known_run
  refine AC.plain rfl (fun x hx => by cases hx) ((runs 400 6 [] st0 v s h1).mono ?_)
  rintro v' s' ⟨rfl, rfl⟩
  exact isYes_eq h2

theorem u8s_ofU8s (l : List UInt8) : u8s (ofU8s l) = some l := by
  induction l with
  | nil => rfl
  | cons a l ih =>
    have : u8s (ofU8s (a :: l)) = (u8s (ofU8s l)).map (UInt8.ofNat (a.toNat : Int).toNat :: ·) := rfl
    rw [this, ih]
    simp
theorem firstA_sl {σ : AState} {b : Nat} {l : List UInt8} {cap : Option Nat} (h : σ.cells b = some (ofU8s l)) : firstA σ 1 l.length (.sl b 0 l.length cap 1) = some (ofU8s l) := by
  unfold firstA
  cases h0 : Nat.beq l.length 0 with
  | true => have := Nat.eq_of_beq_eq_true h0; have : l = [] := List.eq_nil_of_length_eq_zero this; subst this; rfl
  | false =>
    have hb : Nat.ble (0 + l.length * 1) (ofU8s l).length = true := by rw [ofU8s_length]; simp
    simp only [cond_false, base, h, hb, cond_true]
    rw [seg, List.drop_zero, Nat.mul_one, List.take_of_length_le (by rw [ofU8s_length]; omega)]
theorem str_neq (l : List UInt8) : evalStr .neq l l = some (.bool false) := by simp [evalStr]
theorem str_eql (l : List UInt8) : evalStr .eql l l = some (.bool true) := by simp [evalStr]
theorem e_xor_u8 (a b : UInt8) : evalInt .xor .u8 a.toNat b.toNat = some (.int .u8 ((a ^^^ b).toNat : Nat)) := by
  simp only [evalInt]
  congr 2
  have ha := a.toNat_lt; have hb := b.toNat_lt
  have h1 : (BitVec.ofInt IntKind.u8.bits (a.toNat : Int)).toNat = a.toNat := by
    show (BitVec.ofInt 8 _).toNat = _
    rw [BitVec.toNat_ofInt]; omega
  have h2 : (BitVec.ofInt IntKind.u8.bits (b.toNat : Int)).toNat = b.toNat := by
    show (BitVec.ofInt 8 _).toNat = _
    rw [BitVec.toNat_ofInt]; omega
  rw [BitVec.toNat_xor, h1, h2, wrap8, UInt8.toNat_xor]
  have : a.toNat ^^^ b.toNat < 256 := Nat.xor_lt_two_pow (n := 8) ha hb
  omega
theorem ofU8s_setx {l : List UInt8} {k : Nat} (h : k < l.length) (y : UInt8) : setx (ofU8s l) k (.int .u8 (y.toNat : Nat)) = ofU8s (l.set k y) := by
  apply List.ext_getElem?
  intro i
  rw [setx_get (by rw [ofU8s_length]; omega)]
  simp only [ofU8s, List.getElem?_map, List.getElem?_set]
  by_cases hik : i = k
  · subst hik; simp [h]
  · rw [if_neg hik, if_neg (fun e => hik e.symm)]

theorem packFrames_ac (l : List UInt8) (at_ : Int) (by_ : UInt8) : AC Try.prog 3 [.psl (ofU8s l) 0 l.length, .int .i64 at_, .int .u8 by_.toNat] st0 fun v _ => v = .bool true := by
  refine ac_wp fn3 cf3 cl3 rfl ?_
  simp only [ac3]
  unfold ab3
  simp only [WS, stepW, evalA, reduceIte, Nat.reduceEqDiff, reduceCtorEq, evalBin, Option.getD, Int.reduceToNat, Nat.reduceMul, Nat.reduceAdd, allocA, rowOf, fillA, partsV, setl, Nat.reduceLeDiff, AV.len, evalUn, Int.reduceLT, Int.reduceLE, Int.reduceEq, Int.reduceNe]
  refine (known_ac st0).mono ?_
  rintro v s ⟨rfl, rfl⟩
  simp only [WS, stepW, evalA, reduceIte, Nat.reduceEqDiff, reduceCtorEq, evalBin, Option.getD, Int.reduceToNat, Nat.reduceMul, Nat.reduceAdd, allocA, rowOf, fillA, partsV, setl, Nat.reduceLeDiff, AV.len, evalUn, Int.reduceLT, Int.reduceLE, Int.reduceEq, Int.reduceNe, evalUn]
  refine Br_dec (fun hlong => ?_) (fun hlong => ?_)
  · simp only [WS, stepW, evalA, reduceIte, Nat.reduceEqDiff, reduceCtorEq, evalBin, Option.getD, Int.reduceToNat, Nat.reduceMul, Nat.reduceAdd, allocA, rowOf, fillA, partsV, setl, Nat.reduceLeDiff, AV.len, evalUn, Int.reduceLT, Int.reduceLE, Int.reduceEq, Int.reduceNe]
  · simp only [WS, stepW, evalA, reduceIte, Nat.reduceEqDiff, reduceCtorEq, evalBin, Option.getD, Int.reduceToNat, Nat.reduceMul, Nat.reduceAdd, allocA, rowOf, fillA, partsV, setl, Nat.reduceLeDiff, AV.len, evalUn, Int.reduceLT, Int.reduceLE, Int.reduceEq, Int.reduceNe]
    have hl : l.length ≤ 3000 := by omega
    refine (frame_st0 (by omega)).mono ?_
    rintro v s ⟨b, cap, rfl, hb⟩
    simp only [WS, stepW, evalA, reduceIte, Nat.reduceEqDiff, reduceCtorEq, evalBin, Option.getD, Int.reduceToNat, Nat.reduceMul, Nat.reduceAdd, allocA, rowOf, fillA, partsV, setl, Nat.reduceLeDiff, AV.len, evalUn, Int.reduceLT, Int.reduceLE, Int.reduceEq, Int.reduceNe]
    refine (frameR_ac (l := l) (by omega) (isB_psl _ _)).mono ?_
    rintro v s ⟨rfl, rfl⟩
    simp only [WS, stepW, evalA, reduceIte, Nat.reduceEqDiff, reduceCtorEq, evalBin, Option.getD, Int.reduceToNat, Nat.reduceMul, Nat.reduceAdd, allocA, rowOf, fillA, partsV, setl, Nat.reduceLeDiff, AV.len, evalUn, Int.reduceLT, Int.reduceLE, Int.reduceEq, Int.reduceNe, tupB]
    have hfl : (frame l).length ≤ 70000 := by simp [frame, hdr]; omega
    refine (unframe_ac hfl (isB_sl s (frame l) b cap hb)).mono ?_
    rintro v s ⟨rfl, rfl⟩
    have hu : unfV (frame l) = .tup [.psl (ofU8s l) 0 l.length, .int .i64 0] := by rw [unfV, unf_frame]; rfl
    simp only [WS, stepW, evalA, reduceIte, Nat.reduceEqDiff, reduceCtorEq, evalBin, Option.getD, Int.reduceToNat, Nat.reduceMul, Nat.reduceAdd, allocA, rowOf, fillA, partsV, setl, Nat.reduceLeDiff, AV.len, evalUn, Int.reduceLT, Int.reduceLE, Int.reduceEq, Int.reduceNe, hu, firstA_sl hb, firstA_psl, u8s_ofU8s, str_neq, ne_eq, not_true_eq_false]
    refine (crc_ac (by omega) (isB_psl _ _)).mono ?_
    rintro v s' ⟨rfl, rfl⟩
    simp only [WS, stepW, evalA, reduceIte, Nat.reduceEqDiff, reduceCtorEq, evalBin, Option.getD, Int.reduceToNat, Nat.reduceMul, Nat.reduceAdd, allocA, rowOf, fillA, partsV, setl, Nat.reduceLeDiff, AV.len, evalUn, Int.reduceLT, Int.reduceLE, Int.reduceEq, Int.reduceNe]
    refine (crcR_ac' (by omega) (isB_psl _ _)).mono ?_
    rintro v s' ⟨rfl, rfl⟩
    simp only [WS, stepW, evalA, reduceIte, Nat.reduceEqDiff, reduceCtorEq, evalBin, Option.getD, Int.reduceToNat, Nat.reduceMul, Nat.reduceAdd, allocA, rowOf, fillA, partsV, setl, Nat.reduceLeDiff, AV.len, evalUn, Int.reduceLT, Int.reduceLE, Int.reduceEq, Int.reduceNe, ne_eq, not_true_eq_false]
    refine (unframe_ac (by omega) (isB_psl _ l)).mono ?_
    rintro v s' ⟨rfl, rfl⟩
    simp only [WS, stepW, evalA, reduceIte, Nat.reduceEqDiff, reduceCtorEq, evalBin, Option.getD, Int.reduceToNat, Nat.reduceMul, Nat.reduceAdd, allocA, rowOf, fillA, partsV, setl, Nat.reduceLeDiff, AV.len, evalUn, Int.reduceLT, Int.reduceLE, Int.reduceEq, Int.reduceNe, unfV, tupB]
    refine (unframeR_ac (by omega) (isB_psl _ l)).mono ?_
    rintro v s' ⟨rfl, rfl⟩
    simp only [WS, stepW, evalA, reduceIte, Nat.reduceEqDiff, reduceCtorEq, evalBin, Option.getD, Int.reduceToNat, Nat.reduceMul, Nat.reduceAdd, allocA, rowOf, fillA, partsV, setl, Nat.reduceLeDiff, AV.len, evalUn, Int.reduceLT, Int.reduceLE, Int.reduceEq, Int.reduceNe, unfV, tupB, firstA_psl, u8s_ofU8s, str_neq, ne_eq, not_true_eq_false]
    refine Br_dec (fun h0 => ?_) (fun h0 => ?_)
    · simp only [WS, stepW, evalA, reduceIte, Nat.reduceEqDiff, reduceCtorEq, evalBin, Option.getD, Int.reduceToNat, Nat.reduceMul, Nat.reduceAdd, allocA, rowOf, fillA, partsV, setl, Nat.reduceLeDiff, AV.len, evalUn, Int.reduceLT, Int.reduceLE, Int.reduceEq, Int.reduceNe, firstA_psl, u8s_ofU8s, str_eql]
    · have hfp : 0 < (frame l).length := by simp [frame, hdr]
      have hwr := wi_range at_ (n := ((frame l).length : Nat)) (by omega)
      simp only [WS, stepW, evalA, reduceIte, Nat.reduceEqDiff, reduceCtorEq, evalBin, Option.getD, Int.reduceToNat, Nat.reduceMul, Nat.reduceAdd, allocA, rowOf, fillA, partsV, setl, Nat.reduceLeDiff, AV.len, evalUn, Int.reduceLT, Int.reduceLE, Int.reduceEq, Int.reduceNe]
      refine (within_ac (σ := s') fn13 cf13 cl13 (by omega) (by omega)).mono ?_
      rintro v s ⟨rfl, rfl⟩
      obtain ⟨k, hk⟩ : ∃ k : Nat, wi at_ ((frame l).length : Nat) = k := ⟨(wi at_ ((frame l).length : Nat)).toNat, by omega⟩
      rw [hk] at hwr ⊢
      have hkl : k < (frame l).length := by omega
      have hr := lt_idx hkl
      have hby : by_ ≠ 0 := fun e => h0 (by rw [e]; rfl)
      have hst := store1 (v := .int .u8 ((((frame l)[k] ^^^ by_).toNat : Nat) : Int)) hb (by rw [ofU8s_length]; exact hkl) rfl
      rw [ofU8s_setx hkl] at hst
      simp only [WS, stepW, evalA, reduceIte, Nat.reduceEqDiff, reduceCtorEq, evalBin, Option.getD, Int.reduceToNat, Nat.reduceMul, Nat.reduceAdd, allocA, rowOf, fillA, partsV, setl, Nat.reduceLeDiff, AV.len, evalUn, Int.reduceLT, Int.reduceLE, Int.reduceEq, Int.reduceNe, hr, hb, ofU8s_get hkl, e_xor_u8, hst]
      have hB : IsB (s.put b (ofU8s ((frame l).set k ((frame l)[k] ^^^ by_)))) (.sl b 0 (frame l).length cap 1) ((frame l).set k ((frame l)[k] ^^^ by_)) := by
        have := isB_sl (s.put b (ofU8s ((frame l).set k ((frame l)[k] ^^^ by_)))) ((frame l).set k ((frame l)[k] ^^^ by_)) b cap (AState.put_cells _ _ _)
        rwa [List.length_set] at this
      refine (unframe_ac (by rw [List.length_set]; exact hfl) hB).mono ?_
      rintro v s2 ⟨rfl, rfl⟩
      simp only [WS, stepW, evalA, reduceIte, Nat.reduceEqDiff, reduceCtorEq, evalBin, Option.getD, Int.reduceToNat, Nat.reduceMul, Nat.reduceAdd, allocA, rowOf, fillA, partsV, setl, Nat.reduceLeDiff, AV.len, evalUn, Int.reduceLT, Int.reduceLE, Int.reduceEq, Int.reduceNe, unfV, unf_turned hkl hby, tupB]
end Go.Proofs.Ythobpdfchhihnaa.Va
