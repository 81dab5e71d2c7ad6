/- Names, told by both. Conditions: none. -/
import Derived.Test.YtaokfpjjaejjgaaSch1
import Derived.Laws.RangeAny
import Derived.Laws.RangeString
set_option maxRecDepth 100000
set_option maxHeartbeats 4000000
set_option linter.all false
namespace Go.Proofs.Ytaokfpjjaejjgaa.Va
open Go.Proofs

theorem identGo_drop {n : Str} {i : Nat} (h : i < n.length) : identGo i (n.drop i) = ((letterS n[i] || (decide (i ≠ 0) && digitS n[i])) && identGo (i + 1) (n.drop (i + 1))) := by
  rw [List.drop_eq_getElem_cons h, identGo]
theorem decLow {n : Str} {i : Nat} (h : i < n.length) (hx : n[i].toNat < 128) : Utf8.decode ⟨n.toArray⟩ i = (n[i].toNat, 1) := by
  have := decode_ascii ⟨n.toArray⟩ i (by simpa [ByteArray.size] using h) (by simpa [ByteArray.getElem_eq_getElem_data] using hx)
  simpa [ByteArray.getElem_eq_getElem_data] using this
theorem decHigh {n : Str} {i : Nat} (h : i < n.length) (hx : 128 ≤ n[i].toNat) : 128 ≤ (Utf8.decode ⟨n.toArray⟩ i).1 :=
  (decode_high ⟨n.toArray⟩ i (by simpa [ByteArray.size] using h) (by simpa [ByteArray.getElem_eq_getElem_data] using hx)).1
theorem wrap8_small (x : UInt8) : IntKind.u8.wrap (x.toNat : Int) = x.toNat := by
  have : x.toNat < 256 := x.toNat_lt
  simp only [IntKind.wrap, IntKind.bits, IntKind.signed]
  simp
  omega
theorem get_iter (s : AState) (b : Nat) (o : Option ABlk) : (AState.mk s.n (s.h.set b o)).h.get b = o := by simp

theorem identL_st0 {n : Str} (hl : n.length ≤ Most) : AC Try.prog 48 [.str n] st0 fun v _ => v = .bool (identS n) := by
  refine ac_wp fn48 cf48 cl48 rfl ?_
  simp only [ac48]
  unfold ab48
  simp only [WS, stepW, evalA, reduceIte, Nat.reduceEqDiff, reduceCtorEq, evalBin, Option.getD, Int.reduceToNat, Nat.reduceMul, Nat.reduceAdd, allocA, rowOf, fillA, partsV, setl, Nat.reduceLeDiff, AV.len, evalUn, Int.reduceLT, Int.reduceLE, Int.reduceEq, Int.reduceNe, strs_eq]
  refine w_for (fun i ρ s => ρ.rd 6 = .ptr 0 0 ∧ ρ.rd 0 = .str n ∧ s.h.get 0 = some (.iter n i) ∧ identGo 0 n = identGo i (n.drop i)) n.length ?_ ?_
  · simp only [WS, stepW, evalA, reduceIte, Nat.reduceEqDiff, reduceCtorEq, evalBin, Option.getD, Int.reduceToNat, Nat.reduceMul, Nat.reduceAdd, allocA, rowOf, fillA, partsV, setl, Nat.reduceLeDiff, AV.len, evalUn, Int.reduceLT, Int.reduceLE, Int.reduceEq, Int.reduceNe, strs_eq]
    exact ⟨by simp [AState.push, st0], by simp⟩
  · rintro i ρ s hi ⟨h6, h0, hit, hgo⟩
    by_cases hlt : i < n.length
    · have hgd := identGo_drop hlt
      by_cases hx : n[i].toNat < 128
      · have hd := decLow hlt hx
        have hc : ¬ (127 : Int) < (n[i].toNat : Int) := by omega
        simp only [WS, stepW, evalA, reduceIte, Nat.reduceEqDiff, reduceCtorEq, evalBin, Option.getD, Int.reduceToNat, Nat.reduceMul, Nat.reduceAdd, allocA, rowOf, fillA, partsV, setl, Nat.reduceLeDiff, AV.len, evalUn, Int.reduceLT, Int.reduceLE, Int.reduceEq, Int.reduceNe, strs_eq, h6, h0, hit, hlt, hd, hc, wrap8_small]
        refine (letter_ac n[i] _).use' ?_
        cases hL : letterS n[i] with
        | true =>
          simp only [WS, stepW, evalA, reduceIte, Nat.reduceEqDiff, reduceCtorEq, evalBin, Option.getD, Int.reduceToNat, Nat.reduceMul, Nat.reduceAdd, allocA, rowOf, fillA, partsV, setl, Nat.reduceLeDiff, AV.len, evalUn, Int.reduceLT, Int.reduceLE, Int.reduceEq, Int.reduceNe, strs_eq, hL, h6, h0]
          exact ⟨by simp, by rw [hgo, hgd, hL]; simp⟩
        | false =>
          simp only [WS, stepW, evalA, reduceIte, Nat.reduceEqDiff, reduceCtorEq, evalBin, Option.getD, Int.reduceToNat, Nat.reduceMul, Nat.reduceAdd, allocA, rowOf, fillA, partsV, setl, Nat.reduceLeDiff, AV.len, evalUn, Int.reduceLT, Int.reduceLE, Int.reduceEq, Int.reduceNe, strs_eq, hL, wrap8_small]
          refine Br_dec (fun h0i => ?_) (fun h0i => ?_)
          · simp only [WS, stepW, evalA, reduceIte, Nat.reduceEqDiff, reduceCtorEq, evalBin, Option.getD, Int.reduceToNat, Nat.reduceMul, Nat.reduceAdd, allocA, rowOf, fillA, partsV, setl, Nat.reduceLeDiff, AV.len, evalUn, Int.reduceLT, Int.reduceLE, Int.reduceEq, Int.reduceNe, strs_eq, h0i]
            have : i = 0 := by omega
            subst this
            rw [identS, hgo, hgd, hL]; simp
          · have h0i' : ¬ (i : Int) = 0 := h0i
            simp only [WS, stepW, evalA, reduceIte, Nat.reduceEqDiff, reduceCtorEq, evalBin, Option.getD, Int.reduceToNat, Nat.reduceMul, Nat.reduceAdd, allocA, rowOf, fillA, partsV, setl, Nat.reduceLeDiff, AV.len, evalUn, Int.reduceLT, Int.reduceLE, Int.reduceEq, Int.reduceNe, strs_eq, h0i', wrap8_small]
            refine (digit_ac n[i] _).use' ?_
            have hi0 : ¬ i = 0 := by omega
            cases hD : digitS n[i] with
            | true =>
              simp only [WS, stepW, evalA, reduceIte, Nat.reduceEqDiff, reduceCtorEq, evalBin, Option.getD, Int.reduceToNat, Nat.reduceMul, Nat.reduceAdd, allocA, rowOf, fillA, partsV, setl, Nat.reduceLeDiff, AV.len, evalUn, Int.reduceLT, Int.reduceLE, Int.reduceEq, Int.reduceNe, strs_eq, hD, h6, h0]
              exact ⟨by simp, by rw [hgo, hgd, hL, hD]; simp [hi0]⟩
            | false =>
              simp only [WS, stepW, evalA, reduceIte, Nat.reduceEqDiff, reduceCtorEq, evalBin, Option.getD, Int.reduceToNat, Nat.reduceMul, Nat.reduceAdd, allocA, rowOf, fillA, partsV, setl, Nat.reduceLeDiff, AV.len, evalUn, Int.reduceLT, Int.reduceLE, Int.reduceEq, Int.reduceNe, strs_eq, hD, h6, h0]
              rw [identS, hgo, hgd, hL, hD]; simp
      · have hd := decHigh hlt (by omega)
        have hL : letterS n[i] = false := by simp only [letterS, decide_eq_false_iff_not]; omega
        have hD : digitS n[i] = false := by simp only [digitS, decide_eq_false_iff_not]; omega
        have hc : (127 : Int) < ((Utf8.decode ⟨n.toArray⟩ i).1 : Int) := by omega
        simp only [WS, stepW, evalA, reduceIte, Nat.reduceEqDiff, reduceCtorEq, evalBin, Option.getD, Int.reduceToNat, Nat.reduceMul, Nat.reduceAdd, allocA, rowOf, fillA, partsV, setl, Nat.reduceLeDiff, AV.len, evalUn, Int.reduceLT, Int.reduceLE, Int.reduceEq, Int.reduceNe, strs_eq, h6, h0, hit, hlt, hc]
        rw [identS, hgo, hgd, hL, hD]; simp
    · have : i = n.length := by omega
      subst this
      have hgo' : identGo 0 n = true := by rw [hgo]; simp [identGo]
      simp only [WS, stepW, evalA, reduceIte, Nat.reduceEqDiff, reduceCtorEq, evalBin, Option.getD, Int.reduceToNat, Nat.reduceMul, Nat.reduceAdd, allocA, rowOf, fillA, partsV, setl, Nat.reduceLeDiff, AV.len, evalUn, Int.reduceLT, Int.reduceLE, Int.reduceEq, Int.reduceNe, strs_eq, h6, h0, hit, hlt]
      refine Br_dec (fun h1 => ?_) (fun h1 => ?_)
      · simp only [WS, stepW, evalA, reduceIte, Nat.reduceEqDiff, reduceCtorEq, evalBin, Option.getD, Int.reduceToNat, Nat.reduceMul, Nat.reduceAdd, allocA, rowOf, fillA, partsV, setl, Nat.reduceLeDiff, AV.len, evalUn, Int.reduceLT, Int.reduceLE, Int.reduceEq, Int.reduceNe, strs_eq, h1, h0]
        rw [identS, hgo', decide_eq_true h1]; simp
      · simp only [WS, stepW, evalA, reduceIte, Nat.reduceEqDiff, reduceCtorEq, evalBin, Option.getD, Int.reduceToNat, Nat.reduceMul, Nat.reduceAdd, allocA, rowOf, fillA, partsV, setl, Nat.reduceLeDiff, AV.len, evalUn, Int.reduceLT, Int.reduceLE, Int.reduceEq, Int.reduceNe, strs_eq, h1, h0]
        rw [identS, hgo', decide_eq_false h1]; simp
theorem identL_ac {n : Str} {σ : AState} (hl : n.length ≤ Most) : AC Try.prog 48 [.str n] σ fun v s => s = σ ∧ v = .bool (identS n) :=
  AC.told (.cons (.flat rfl) .nil) rfl (identL_st0 hl)

theorem istr_get {n : Str} {i : Nat} (h : i < n.length) : n[i]? = some n[i] := List.getElem?_eq_getElem h
theorem identR_ac {n : Str} {σ : AState} (hl : n.length ≤ Most) : AC Try.prog 33 [.str n] σ fun v s => s = σ ∧ v = .bool (identS n) := by
  refine ac_wp fn33 cf33 cl33 rfl ?_
  simp only [ac33]
  unfold ab33
  simp only [WS, stepW, evalA, reduceIte, Nat.reduceEqDiff, reduceCtorEq, evalBin, Option.getD, Int.reduceToNat, Nat.reduceMul, Nat.reduceAdd, allocA, rowOf, fillA, partsV, setl, Nat.reduceLeDiff, AV.len, evalUn, Int.reduceLT, Int.reduceLE, Int.reduceEq, Int.reduceNe, strs_eq]
  refine w_for (fun i ρ s => s = σ ∧ ρ.rd 3 = .int .i64 i ∧ ρ.rd 0 = .str n ∧ identGo 0 n = identGo i (n.drop i)) n.length ?_ ?_
  · simp only [WS, stepW, evalA, reduceIte, Nat.reduceEqDiff, reduceCtorEq, evalBin, Option.getD, Int.reduceToNat, Nat.reduceMul, Nat.reduceAdd, allocA, rowOf, fillA, partsV, setl, Nat.reduceLeDiff, AV.len, evalUn, Int.reduceLT, Int.reduceLE, Int.reduceEq, Int.reduceNe, strs_eq]
    simp
  · rintro i ρ s hi ⟨rfl, h3, h0, hgo⟩
    simp only [WS, stepW, evalA, reduceIte, Nat.reduceEqDiff, reduceCtorEq, evalBin, Option.getD, Int.reduceToNat, Nat.reduceMul, Nat.reduceAdd, allocA, rowOf, fillA, partsV, setl, Nat.reduceLeDiff, AV.len, evalUn, Int.reduceLT, Int.reduceLE, Int.reduceEq, Int.reduceNe, strs_eq, h3, h0]
    refine Br_dec (fun hlt' => ?_) (fun hge => ?_)
    · have hlt : i < n.length := by omega
      have hgd := identGo_drop hlt
      have hx := istr_get hlt
      have h0i : (0 : Int) ≤ i := by omega
      have hw : IntKind.i64.wrap ((i : Int) + 1) = ((i + 1 : Nat) : Int) := wrap_succ (by have : Most = 9223372036854775807 := rfl; omega)
      simp only [wpC_block, wpC_seq, wpC_skip, wpCK_normal]
      refine w_mid (fun ρ s' => s' = s ∧ ρ.rd 3 = .int .i64 i ∧ ρ.rd 0 = .str n ∧ ρ.rd 4 = .bool (letterS n[i])) ?_ ?_
      · simp only [WS, stepW, evalA, reduceIte, Nat.reduceEqDiff, reduceCtorEq, evalBin, Option.getD, Int.reduceToNat, Nat.reduceMul, Nat.reduceAdd, allocA, rowOf, fillA, partsV, setl, Nat.reduceLeDiff, AV.len, evalUn, Int.reduceLT, Int.reduceLE, Int.reduceEq, Int.reduceNe, strs_eq, h3, h0, hx, h0i]
        repeat' (first
          | (refine Br_dec (fun _ => ?_) (fun _ => ?_) <;> (try simp only [WS, stepW, evalA, reduceIte, Nat.reduceEqDiff, reduceCtorEq, evalBin, Option.getD, Int.reduceToNat, Nat.reduceMul, Nat.reduceAdd, allocA, rowOf, fillA, partsV, setl, Nat.reduceLeDiff, AV.len, evalUn, Int.reduceLT, Int.reduceLE, Int.reduceEq, Int.reduceNe, strs_eq, *, h3, h0, hx, h0i, ret_bool]))
          | (refine Br_intro (fun _ => ?_) (fun _ => ?_) <;> (try simp only [WS, stepW, evalA, reduceIte, Nat.reduceEqDiff, reduceCtorEq, evalBin, Option.getD, Int.reduceToNat, Nat.reduceMul, Nat.reduceAdd, allocA, rowOf, fillA, partsV, setl, Nat.reduceLeDiff, AV.len, evalUn, Int.reduceLT, Int.reduceLE, Int.reduceEq, Int.reduceNe, strs_eq, *, h3, h0, hx, h0i, ret_bool])))
        all_goals (refine Bool.eq_iff_iff.2 ?_; simp only [letterS, decide_eq_true_eq, true_iff, false_iff, Bool.false_eq_true]; omega)
      · rintro ρ s' ⟨rfl, h3, h0, h4⟩
        cases hL : letterS n[i] with
        | true =>
          simp only [WS, stepW, evalA, reduceIte, Nat.reduceEqDiff, reduceCtorEq, evalBin, Option.getD, Int.reduceToNat, Nat.reduceMul, Nat.reduceAdd, allocA, rowOf, fillA, partsV, setl, Nat.reduceLeDiff, AV.len, evalUn, Int.reduceLT, Int.reduceLE, Int.reduceEq, Int.reduceNe, strs_eq, hL, h3, h0, h4, hw]
          exact ⟨hlt, by rw [hgo, hgd, hL]; simp⟩
        | false =>
          simp only [WS, stepW, evalA, reduceIte, Nat.reduceEqDiff, reduceCtorEq, evalBin, Option.getD, Int.reduceToNat, Nat.reduceMul, Nat.reduceAdd, allocA, rowOf, fillA, partsV, setl, Nat.reduceLeDiff, AV.len, evalUn, Int.reduceLT, Int.reduceLE, Int.reduceEq, Int.reduceNe, strs_eq, hL, h3, h0, h4]
          refine Br_dec (fun h0i' => ?_) (fun h0i' => ?_)
          · simp only [WS, stepW, evalA, reduceIte, Nat.reduceEqDiff, reduceCtorEq, evalBin, Option.getD, Int.reduceToNat, Nat.reduceMul, Nat.reduceAdd, allocA, rowOf, fillA, partsV, setl, Nat.reduceLeDiff, AV.len, evalUn, Int.reduceLT, Int.reduceLE, Int.reduceEq, Int.reduceNe, strs_eq, h0i']
            have : i = 0 := by omega
            subst this
            rw [identS, hgo, hgd, hL]; simp
          · have hi0 : ¬ i = 0 := by omega
            simp only [WS, stepW, evalA, reduceIte, Nat.reduceEqDiff, reduceCtorEq, evalBin, Option.getD, Int.reduceToNat, Nat.reduceMul, Nat.reduceAdd, allocA, rowOf, fillA, partsV, setl, Nat.reduceLeDiff, AV.len, evalUn, Int.reduceLT, Int.reduceLE, Int.reduceEq, Int.reduceNe, strs_eq, h0i', h3, h0, hx, h0i]
            cases hD : digitS n[i] with
            | true =>
              have hD' := hD
              simp only [digitS, decide_eq_true_eq] at hD'
              have h48 : ¬ (n[i].toNat : Int) < 48 := by omega
              have h57 : ¬ (57 : Int) < n[i].toNat := by omega
              simp only [WS, stepW, evalA, reduceIte, Nat.reduceEqDiff, reduceCtorEq, evalBin, Option.getD, Int.reduceToNat, Nat.reduceMul, Nat.reduceAdd, allocA, rowOf, fillA, partsV, setl, Nat.reduceLeDiff, AV.len, evalUn, Int.reduceLT, Int.reduceLE, Int.reduceEq, Int.reduceNe, strs_eq, h48, h57, h3, h0, hx, h0i, hw]
              exact ⟨hlt, by rw [hgo, hgd, hL, hD]; simp [hi0]⟩
            | false =>
              have hD' := hD
              simp only [digitS, decide_eq_false_iff_not] at hD'
              refine Br_dec (fun h48 => ?_) (fun h48 => ?_)
              · simp only [WS, stepW, evalA, reduceIte, Nat.reduceEqDiff, reduceCtorEq, evalBin, Option.getD, Int.reduceToNat, Nat.reduceMul, Nat.reduceAdd, allocA, rowOf, fillA, partsV, setl, Nat.reduceLeDiff, AV.len, evalUn, Int.reduceLT, Int.reduceLE, Int.reduceEq, Int.reduceNe, strs_eq, h48, h3, h0, hx, h0i]
                rw [identS, hgo, hgd, hL, hD]; simp
              · have h57 : (57 : Int) < n[i].toNat := by omega
                simp only [WS, stepW, evalA, reduceIte, Nat.reduceEqDiff, reduceCtorEq, evalBin, Option.getD, Int.reduceToNat, Nat.reduceMul, Nat.reduceAdd, allocA, rowOf, fillA, partsV, setl, Nat.reduceLeDiff, AV.len, evalUn, Int.reduceLT, Int.reduceLE, Int.reduceEq, Int.reduceNe, strs_eq, h48, h57, h3, h0, hx, h0i]
                rw [identS, hgo, hgd, hL, hD]; simp
    · have : i = n.length := by omega
      subst this
      have hgo' : identGo 0 n = true := by rw [hgo]; simp [identGo]
      simp only [WS, stepW, evalA, reduceIte, Nat.reduceEqDiff, reduceCtorEq, evalBin, Option.getD, Int.reduceToNat, Nat.reduceMul, Nat.reduceAdd, allocA, rowOf, fillA, partsV, setl, Nat.reduceLeDiff, AV.len, evalUn, Int.reduceLT, Int.reduceLE, Int.reduceEq, Int.reduceNe, strs_eq, h3, h0]
      refine Br_dec (fun h1 => ?_) (fun h1 => ?_)
      · simp only [WS, stepW, evalA, reduceIte, Nat.reduceEqDiff, reduceCtorEq, evalBin, Option.getD, Int.reduceToNat, Nat.reduceMul, Nat.reduceAdd, allocA, rowOf, fillA, partsV, setl, Nat.reduceLeDiff, AV.len, evalUn, Int.reduceLT, Int.reduceLE, Int.reduceEq, Int.reduceNe, strs_eq, h1, h0]
        rw [identS, hgo', decide_eq_true h1]; simp
      · simp only [WS, stepW, evalA, reduceIte, Nat.reduceEqDiff, reduceCtorEq, evalBin, Option.getD, Int.reduceToNat, Nat.reduceMul, Nat.reduceAdd, allocA, rowOf, fillA, partsV, setl, Nat.reduceLeDiff, AV.len, evalUn, Int.reduceLT, Int.reduceLE, Int.reduceEq, Int.reduceNe, strs_eq, h1, h0]
        rw [identS, hgo', decide_eq_false h1]; simp
end Go.Proofs.Ytaokfpjjaejjgaa.Va
