/- Bytes read by the reference. Conditions: none. -/
import Derived.Test.YthobpdfchhihnaaPkJ
set_option maxRecDepth 100000
set_option maxHeartbeats 4000000
set_option linter.all false
namespace Go.Proofs.Ythobpdfchhihnaa.Va
open Go.Proofs
theorem RS.slots {b0 : Nat} {σ : AState} {L : List UInt8} {r : Rd} (h : RS b0 σ L r) (m : Nat) : RS b0 (addSlots σ.n m σ []) L r := by
  obtain ⟨⟨P, hc, hr⟩, hlt, hsm⟩ := h
  exact ⟨⟨P, hc, hr⟩, Nat.lt_of_lt_of_le hlt (Nat.le_add_right _ _), hsm⟩
theorem K1.slots (b0 : Nat) (σ : AState) (m : Nat) : K1 b0 σ (addSlots σ.n m σ []) := ⟨Nat.le_add_right _ _, fun b _ _ _ => rfl⟩
/- A row of bytes that was just made. -/
def NB (σ s : AState) (v : AV) (o : List UInt8) : Prop := RowP (fun b => σ.n ≤ b) s v (ofU8s o) o.length 1
theorem bytesR2_ac {b0 : Nat} {σ : AState} {L : List UInt8} {r : Rd} (h : RS b0 σ L r) :
    AC Try.prog 34 [.ptr b0 0] σ fun v s => NB σ s v r.bytes.1 ∧ RS b0 s L r.bytes.2 ∧ K1 b0 σ s := by
  have lt2 : ∀ r : Rd, r.byte.1 < 256 := fun r => by
    simp only [Rd.byte, firstB]; split
    · decide
    · exact UInt8.toNat_lt _
  have lt1 := lt2 r
  refine ac_wp fn34 cf34 cl34 rfl ?_
  simp only [ac34]
  unfold ab34
  simp only [WS, stepW, evalA, reduceIte, Nat.reduceEqDiff, reduceCtorEq, evalBin, Option.getD, Int.reduceToNat, Nat.reduceMul, Nat.reduceAdd, allocA, rowOf, fillA, partsV, setl, Nat.reduceLeDiff, AV.len, evalUn, Int.reduceLT, Int.reduceLE, Int.reduceEq, Int.reduceNe]
  refine (u8_ac h).mono ?_
  rintro v s ⟨rfl, h1, hk1⟩
  have e0 : IntKind.i64.wrap (r.byte.1 : Int) = r.byte.1 := wrap64_nat (by omega)
  have e1 := e_shlw r.byte.1
  rw [e0] at e1
  simp only [WS, stepW, evalA, reduceIte, Nat.reduceEqDiff, reduceCtorEq, evalBin, Option.getD, Int.reduceToNat, Nat.reduceMul, Nat.reduceAdd, allocA, rowOf, fillA, partsV, setl, Nat.reduceLeDiff, AV.len, evalUn, Int.reduceLT, Int.reduceLE, Int.reduceEq, Int.reduceNe, e1]
  refine (u8_ac h1).mono ?_
  rintro v s' ⟨rfl, h2, hk2⟩
  have l2 := lt2 r.byte.2
  obtain ⟨x, hx⟩ : ∃ x : UInt8, x.toNat = r.byte.2.byte.1 := ⟨UInt8.ofNat r.byte.2.byte.1, by simp; omega⟩
  have e2 := e_orw (N := r.byte.1) (by omega) x
  rw [hx] at e2
  have e3 : IntKind.i64.wrap ((r.byte.1 * 256 + r.byte.2.byte.1 : Nat) : Int) = ((r.byte.1 * 256 + r.byte.2.byte.1 : Nat) : Int) := wrap64_nat (by omega)
  rw [e3] at e2
  have hK := hk1.trans hk2
  rw [show r.bytes = r.byte.2.byte.2.take (r.byte.1 * 256 + r.byte.2.byte.1) from rfl]
  have hn : r.byte.1 * 256 + r.byte.2.byte.1 < 65536 := by omega
  simp only [WS, stepW, evalA, reduceIte, Nat.reduceEqDiff, reduceCtorEq, evalBin, Option.getD, Int.reduceToNat, Nat.reduceMul, Nat.reduceAdd, allocA, rowOf, fillA, partsV, setl, Nat.reduceLeDiff, AV.len, evalUn, Int.reduceLT, Int.reduceLE, Int.reduceEq, Int.reduceNe, e2]
  clear e0 e1 e2 e3 l2 hx lt1 lt2 hk1 hk2 h1 h
  generalize r.byte.1 * 256 + r.byte.2.byte.1 = n at *
  generalize r.byte.2.byte.2 = r2 at *
  refine w_dreg0 follow ?_ rfl
  have hR := h2.slots 19
  have hK2 := hK.trans (K1.slots 0 s' 19 |> fun k => (⟨k.1, fun b _ _ _ => rfl⟩ : K1 b0 s' (addSlots s'.n 19 s' [])))
  generalize addSlots s'.n 19 s' [] = s2 at *
  clear h2 hK
  have hR' := hR
  obtain ⟨⟨P, hc, hP, hl⟩, hlt, hsm⟩ := hR
  obtain ⟨l, ok⟩ := r2
  simp only at hc hl
  cases ok with
  | false =>
    have et : Rd.take ⟨l, false⟩ n = ([], ⟨l, false⟩) := rfl
    rw [et]
    simp only [eV] at hc
    simp only [WS, stepW, evalA, reduceIte, Nat.reduceEqDiff, reduceCtorEq, evalBin, Option.getD, Int.reduceToNat, Nat.reduceMul, Nat.reduceAdd, allocA, rowOf, fillA, partsV, setl, Nat.reduceLeDiff, AV.len, evalUn, Int.reduceLT, Int.reduceLE, Int.reduceEq, Int.reduceNe, hc]
    exact ⟨RowP.nil _ _ _, hR', hK2⟩
  | true =>
    simp only [eV] at hc
    have hll : l.length = L.length - P := by rw [hl, List.length_drop]
    have hw0 : IntKind.i64.wrap ((L.length : Int) - P) = (l.length : Nat) := by rw [hll, show (L.length : Int) - P = ((L.length - P : Nat) : Int) by omega]; exact wrap64_nat (by omega)
    by_cases hlt' : (l.length : Int) < n
    · have hb : Nat.ble n l.length = false := by
        cases hh : Nat.ble n l.length with
        | true => have := Nat.le_of_ble_eq_true hh; omega
        | false => rfl
      have et : Rd.take ⟨l, true⟩ n = ([], ⟨l, false⟩) := by simp only [Rd.take, hb, Bool.and_false]
      rw [et]
      simp only [WS, stepW, evalA, reduceIte, Nat.reduceEqDiff, reduceCtorEq, evalBin, Option.getD, Int.reduceToNat, Nat.reduceMul, Nat.reduceAdd, allocA, rowOf, fillA, partsV, setl, Nat.reduceLeDiff, AV.len, evalUn, Int.reduceLT, Int.reduceLE, Int.reduceEq, Int.reduceNe, hc, hw0, hlt', decide_true, storeA, sets, setx, TS]
      exact ⟨RowP.nil _ _ _, hR'.put (r' := ⟨l, false⟩) hP hl, hK2.trans (K1.put _ _ _)⟩
    · have hb : Nat.ble n l.length = true := Nat.ble_eq_true_of_le (by omega)
      have et : Rd.take ⟨l, true⟩ n = (l.take n, ⟨l.drop n, true⟩) := by simp only [Rd.take, hb, Bool.and_true]
      rw [et]
      have hwP : IntKind.i64.wrap ((P : Int) + n) = ((P + n : Nat) : Int) := by rw [show (P : Int) + n = ((P + n : Nat) : Int) by omega]; exact wrap64_nat (by omega)
      simp only [WS, stepW, evalA, reduceIte, Nat.reduceEqDiff, reduceCtorEq, evalBin, Option.getD, Int.reduceToNat, Nat.reduceMul, Nat.reduceAdd, allocA, rowOf, fillA, partsV, setl, Nat.reduceLeDiff, AV.len, evalUn, Int.reduceLT, Int.reduceLE, Int.reduceEq, Int.reduceNe, hc, hw0, hlt', decide_false]
      refine w_dreg follow [] rfl ?_
      have hR3 := hR'.slots 18
      have hK3 : K1 b0 σ (addSlots s2.n 18 s2 []) := hK2.trans (K1.slots _ _ _)
      have hc3 : (addSlots s2.n 18 s2 []).cells b0 = some [.psl (ofU8s L) 0 L.length, .int .i64 P, .int .i64 0] := hc
      generalize addSlots s2.n 18 s2 [] = s3 at *
      have hf : firstA (s3.push (.cells [])) 1 n (.psl (ofU8s L) P n) = some (ofU8s (l.take n)) := by rw [hl]; exact firstA_part (by omega) _
      have hlen : (l.take n).length = n := by rw [List.length_take]; omega
      have hrow : RowP (fun b => s3.n ≤ b) (s3.push (.cells [])) (.sl s3.n 0 0 (some 0) 1) [] 0 1 := .of (Nat.le_refl _) (Nat.lt_succ_self _) (push_cells _ _) rfl
      obtain ⟨x', s4, happ, hrow4, hn4, hk4⟩ := app_rowP (bytes := 1) hrow (Nat.le_succ _) (y := .psl (ofU8s L) P n) (k := n) rfl hf (ofU8s_one _) (by rw [ofU8s_length, hlen, Nat.mul_one]) (by omega)
      have hl3 := hR3.lt
      have hn4' : s3.n + 1 ≤ s4.n := hn4
      have ne3 : ¬ b0 = s3.n := by omega
      have hk34 : ∀ b, b < s3.n → s4.h.get b = s3.h.get b := fun b hb => by
        rw [hk4 b (Nat.lt_succ_of_lt hb) (by omega), push_h hb]
      have hc4 : s4.cells b0 = some [.psl (ofU8s L) 0 L.length, .int .i64 P, .int .i64 0] := (get_cells (hk34 b0 hl3)).trans hc3
      have hsub : P + n - P = n := by omega
      have q0 : (0 : Int) ≤ P := by omega
      have q1 : (P : Int) ≤ ((P + n : Nat) : Int) := by omega
      have q2 : ((P + n : Nat) : Int) ≤ L.length := by omega
      simp only [WS, stepW, evalA, reduceIte, Nat.reduceEqDiff, reduceCtorEq, evalBin, Option.getD, Int.reduceToNat, Nat.reduceMul, Nat.reduceAdd, allocA, rowOf, fillA, partsV, setl, Nat.reduceLeDiff, AV.len, evalUn, Int.reduceLT, Int.reduceLE, Int.reduceEq, Int.reduceNe, DS, isSl, AOp.pure, AOp.reader, allocD, AOp.quiet, isSlot, Nat.reduceBEq, hc3, ne3, hwP, q0, q1, q2, hsub, fillA]
      simp only [happ]
      simp only [WS, stepW, evalA, reduceIte, Nat.reduceEqDiff, reduceCtorEq, evalBin, Option.getD, Int.reduceToNat, Nat.reduceMul, Nat.reduceAdd, allocA, rowOf, fillA, partsV, setl, Nat.reduceLeDiff, AV.len, evalUn, Int.reduceLT, Int.reduceLE, Int.reduceEq, Int.reduceNe, DS, isSl, AOp.pure, AOp.reader, allocD, AOp.quiet, isSlot, Nat.reduceBEq, hc3, ne3, hwP, q0, q1, q2, hsub, fillA, hc4]
      refine ⟨⟨?_, fun sl hsl => by simp at hsl⟩, ?_⟩
      · intro l hl c hc hf
        simp only [List.mem_cons, List.mem_nil_iff, List.not_mem_nil, or_false] at hl hc
        rcases hl with rfl | rfl | rfl <;> rcases hc with rfl | rfl | rfl <;> dsimp only at hf ⊢ <;> first
          | (exact absurd hf (by decide +kernel))
          | (simp only [WS, stepW, evalA, reduceIte, Nat.reduceEqDiff, reduceCtorEq, evalBin, Option.getD, Int.reduceToNat, Nat.reduceMul, Nat.reduceAdd, allocA, rowOf, fillA, partsV, setl, Nat.reduceLeDiff, AV.len, evalUn, Int.reduceLT, Int.reduceLE, Int.reduceEq, Int.reduceNe, hc3, hc4, ne3]; done)
      · simp only [WS, stepW, evalA, reduceIte, Nat.reduceEqDiff, reduceCtorEq, evalBin, Option.getD, Int.reduceToNat, Nat.reduceMul, Nat.reduceAdd, allocA, rowOf, fillA, partsV, setl, Nat.reduceLeDiff, AV.len, evalUn, Int.reduceLT, Int.reduceLE, Int.reduceEq, Int.reduceNe, hc4, hwP, storeA, sets, setx, TS]
        have hR4 : RS b0 s4 L ⟨l, true⟩ := ⟨⟨P, hc4, hP, hl⟩, by omega, hsm⟩
        have hK4 : K1 b0 σ s4 := hK3.trans ⟨by omega, fun b c1 _ c3 => hk34 b c1⟩
        refine ⟨?_, hR4.put (P := P + n) (r' := ⟨l.drop n, true⟩) (by omega) (by show l.drop n = _; rw [hl, List.drop_drop]), hK4.trans (K1.put _ _ _)⟩
        have hs0 : σ.n ≤ s3.n := hK3.1
        have := (hrow4.mono (q := fun b => σ.n ≤ b ∧ b ≠ b0) fun b c1 _ => ⟨by omega, by omega⟩).put (b0 := b0) (by omega) [.psl (ofU8s L) 0 L.length, .int .i64 (P + n : Nat), .int .i64 0]
        have := this.mono (q := fun b => σ.n ≤ b) fun b c1 _ => c1.1
        rw [Nat.zero_add, List.nil_append] at this
        unfold NB
        rw [hlen]
        exact this
end Go.Proofs.Ythobpdfchhihnaa.Va
