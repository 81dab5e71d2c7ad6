/- The reader of pack: take, byte, int, bytes, end. Conditions: none. -/
import Derived.Test.YthobpdfchhihnaaPkF
set_option maxRecDepth 100000
set_option maxHeartbeats 4000000
set_option linter.all false
namespace Go.Proofs.Ythobpdfchhihnaa.Va
open Go.Proofs
def eV (ok : Bool) : Int := match ok with | true => 0 | false => 8
structure PS (b0 : Nat) (σ : AState) (L : List UInt8) (r : Rd) : Prop where
  c : ∃ off, σ.cells b0 = some [.psl (ofU8s L) off r.l.length, .int .i64 (eV r.ok)] ∧ r.l = L.drop off ∧ off ≤ L.length
  lt : b0 < σ.n
  small : L.length ≤ 70000
/- What was taken. -/
def TB (b0 : Nat) (σ s : AState) (v : AV) (o : List UInt8) : Prop := (v = .nils ∧ o = []) ∨ ∃ nb, v = .sl nb 0 o.length (some o.length) 1 ∧ s.cells nb = some (ofU8s o) ∧ nb < s.n ∧ σ.n ≤ nb
abbrev K1 (b0 : Nat) (σ s : AState) : Prop := Kp (fun _ => False) b0 σ s
theorem firstA_part {L : List UInt8} {off n m : Nat} (h : off + n ≤ L.length) (s : AState) : firstA s 1 n (.psl (ofU8s L) off m) = some (ofU8s ((L.drop off).take n)) := by
  unfold firstA
  cases h0 : Nat.beq n 0 with
  | true => have := Nat.eq_of_beq_eq_true h0; subst this; rfl
  | false =>
    have hb : Nat.ble (off + n * 1) (ofU8s L).length = true := by rw [ofU8s_length]; exact Nat.ble_eq_true_of_le (by omega)
    simp only [cond_false, base, hb, cond_true]
    rw [seg, ofU8s_take, ofU8s_drop, Nat.mul_one]
theorem store_whole {s : AState} {b : Nat} {cs ds : List AV} (h : s.cells b = some ds) (hl : ds.length = cs.length) (hone : cs.all AV.one = true) : storeA s (.ptr b 0) cs = some (s.put b cs) := by
  unfold storeA
  have h1 : Nat.ble (0 + cs.length) ds.length = true := Nat.ble_eq_true_of_le (by omega)
  simp only [h, h1, hone, Bool.and_true, cond_true]
  rw [sets_eq _ _ _ (by omega), List.take_zero, List.nil_append, List.drop_of_length_le (by omega), List.append_nil]
theorem take_ac {b0 : Nat} {σ : AState} {L : List UInt8} {r : Rd} (h : PS b0 σ L r) {n : Nat} (hn : n ≤ 70000) :
    AC Try.prog 37 [.ptr b0 0, .int .i64 n] σ fun v s => TB b0 σ s v (r.take n).1 ∧ PS b0 s L (r.take n).2 ∧ K1 b0 σ s := by
  obtain ⟨⟨off, hc, hl, hle⟩, hlt, hsm⟩ := h
  obtain ⟨l, ok⟩ := r
  simp only at hc hl
  have hll : l.length = L.length - off := by rw [hl, List.length_drop]
  cases ok with
  | false =>
    simp only [Rd.take, Bool.false_and]
    simp only [eV] at hc
    refine ac_wp fn37 cf37 cl37 rfl ?_
    simp only [ac37]
    unfold ab37
    simp only [WS, stepW, evalA, reduceIte, Nat.reduceEqDiff, reduceCtorEq, evalBin, Option.getD, Int.reduceToNat, Nat.reduceMul, Nat.reduceAdd, allocA, rowOf, fillA, partsV, setl, Nat.reduceLeDiff, AV.len, evalUn, Int.reduceLT, Int.reduceLE, Int.reduceEq, Int.reduceNe, hc]
    exact ⟨.inl ⟨rfl, rfl⟩, ⟨⟨off, hc, hl, hle⟩, hlt, hsm⟩, Kp.refl _ _ _⟩
  | true =>
    simp only [eV] at hc
    by_cases hb : n ≤ l.length
    rotate_left
    · have hb1 : Nat.ble n l.length = false := by
        cases hh : Nat.ble n l.length with
        | true => exact absurd (Nat.le_of_ble_eq_true hh) hb
        | false => rfl
      have hb2 : (l.length : Int) < n := by omega
      simp only [Rd.take, Bool.true_and, hb1]
      refine ac_wp fn37 cf37 cl37 rfl ?_
      simp only [ac37]
      unfold ab37
      simp only [WS, stepW, evalA, reduceIte, Nat.reduceEqDiff, reduceCtorEq, evalBin, Option.getD, Int.reduceToNat, Nat.reduceMul, Nat.reduceAdd, allocA, rowOf, fillA, partsV, setl, Nat.reduceLeDiff, AV.len, evalUn, Int.reduceLT, Int.reduceLE, Int.reduceEq, Int.reduceNe, hc, hb2, decide_true, storeA, sets, setx, TS]
      exact ⟨.inl ⟨rfl, rfl⟩, ⟨⟨off, put_self _ _ _, hl, hle⟩, hlt, hsm⟩, ⟨Nat.le_refl _, fun b h1 h2 h3 => put_h h3⟩⟩
    have hb1 : Nat.ble n l.length = true := Nat.ble_eq_true_of_le hb
    have hb2 : ¬ (l.length : Int) < n := by omega
    have q0 : (0 : Int) ≤ n := by omega
    have q1 : (n : Int) < 4611686018427387904 := by omega
    have q2 : ((1 : Nat) : Int) * n ≤ 140737488355328 := by omega
    have q3 : (n : Int) ≤ l.length := by omega
    simp only [Rd.take, Bool.true_and, hb1]
    have ne : ¬ b0 = σ.n := by omega
    have hfirst : ∀ s, firstA s 1 n (.psl (ofU8s L) off l.length) = some (ofU8s (l.take n)) := fun s => by rw [hl]; exact firstA_part (by omega) s
    have hlt2 : (l.take n).length = n := by rw [List.length_take]; omega
    have hdl : (l.drop n).length = l.length - n := by rw [List.length_drop]
    have hmin : min l.length n = n := Nat.min_eq_right hb
    have len1 : (ofU8s (l.take n)).length = n := by rw [ofU8s_length, hlt2]
    have len2 : (ofU8s (List.replicate n 0)).length = n := by rw [ofU8s_length, List.length_replicate]
    have hsets : sets (ofU8s (List.replicate n 0)) 0 (ofU8s (l.take n)) = ofU8s (l.take n) := by
      rw [sets_eq _ _ _ (by omega), List.take_zero, List.nil_append, List.drop_of_length_le (by omega), List.append_nil]
    have hle2 : (ofU8s (l.take n)).length ≤ (ofU8s (List.replicate n 0)).length := by omega
    have fin : ∀ s : AState, s.n = σ.n + 1 → s.cells σ.n = some (ofU8s (l.take n)) → s.cells b0 = some [.psl (ofU8s L) (off + n) (l.length - n), .int .i64 0] → (∀ b, b < σ.n → b ≠ b0 → s.h.get b = σ.h.get b) →
        TB b0 σ s (.sl σ.n 0 n (some n) 1) (l.take n) ∧ PS b0 s L ⟨l.drop n, true⟩ ∧ K1 b0 σ s := fun s h1 h2 h3 h4 =>
      ⟨.inr ⟨σ.n, by rw [hlt2], h2, by omega, Nat.le_refl _⟩, ⟨⟨off + n, by rw [hdl]; exact h3, by show l.drop n = _; rw [hl, List.drop_drop], by omega⟩, by omega, hsm⟩, ⟨by omega, fun b c1 _ c3 => h4 b c1 c3⟩⟩
    by_cases hz : n = 0
    · have hz' := eq_true hz
      refine ac_wp fn37 cf37 cl37 rfl ?_
      simp only [ac37]
      unfold ab37
      simp only [WS, stepW, evalA, reduceIte, Nat.reduceEqDiff, reduceCtorEq, evalBin, Option.getD, Int.reduceToNat, Nat.reduceMul, Nat.reduceAdd, allocA, rowOf, fillA, partsV, setl, Nat.reduceLeDiff, AV.len, evalUn, Int.reduceLT, Int.reduceLE, Int.reduceEq, Int.reduceNe, hc, hb2, ne, decide_true, decide_false, q0, q1, q2, q3, Int.le_refl, Nat.le_refl, allocD, row_bytes, hmin, hfirst, len1, len2, hz']
      simp only [WS, stepW, evalA, reduceIte, Nat.reduceEqDiff, reduceCtorEq, evalBin, Option.getD, Int.reduceToNat, Nat.reduceMul, Nat.reduceAdd, allocA, rowOf, fillA, partsV, setl, Nat.reduceLeDiff, AV.len, evalUn, Int.reduceLT, Int.reduceLE, Int.reduceEq, Int.reduceNe, hc, ne, q0, q3, Int.le_refl, storeA, sets, setx, TS]
      exact fin _ rfl (by rw [put_get, if_neg (by omega), push_get, if_pos rfl, hz]; rfl) (put_self _ _ _) fun b c1 c2 => by rw [put_h c2, push_h c1]
    · refine ac_wp fn37 cf37 cl37 rfl ?_
      simp only [ac37]
      unfold ab37
      simp only [WS, stepW, evalA, reduceIte, Nat.reduceEqDiff, reduceCtorEq, evalBin, Option.getD, Int.reduceToNat, Nat.reduceMul, Nat.reduceAdd, allocA, rowOf, fillA, partsV, setl, Nat.reduceLeDiff, AV.len, evalUn, Int.reduceLT, Int.reduceLE, Int.reduceEq, Int.reduceNe, hc, hb2, ne, decide_false, q0, q1, q2, q3, Int.le_refl, Nat.le_refl, allocD, row_bytes, hmin, hfirst, len1, len2, hz, ofU8s_one]
      have hst : storeA (σ.push (.cells (ofU8s (List.replicate n 0)))) (.ptr σ.n 0) (ofU8s (l.take n)) = some ((σ.push (.cells (ofU8s (List.replicate n 0)))).put σ.n (ofU8s (l.take n))) := store_whole (push_cells _ _) (by omega) (ofU8s_one _)
      simp only [hst]
      simp only [WS, stepW, evalA, reduceIte, Nat.reduceEqDiff, reduceCtorEq, evalBin, Option.getD, Int.reduceToNat, Nat.reduceMul, Nat.reduceAdd, allocA, rowOf, fillA, partsV, setl, Nat.reduceLeDiff, AV.len, evalUn, Int.reduceLT, Int.reduceLE, Int.reduceEq, Int.reduceNe, hc, ne, q0, q3, Int.le_refl, storeA, sets, setx, TS]
      exact fin _ rfl (by rw [put_get, if_neg (by omega), put_self]) (put_self _ _ _) fun b c1 c2 => by rw [put_h c2, put_h (by omega), push_h c1]
end Go.Proofs.Ythobpdfchhihnaa.Va
