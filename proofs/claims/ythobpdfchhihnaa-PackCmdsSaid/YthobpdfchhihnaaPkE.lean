/- A command written by the reference: exact values and states. Conditions: none. -/
import Derived.Test.YthobpdfchhihnaaPkD
set_option maxRecDepth 100000
set_option maxHeartbeats 4000000
set_option linter.all false
namespace Go.Proofs.Ythobpdfchhihnaa.Va
open Go.Proofs
/- One byte more behind a row, exactly. -/
def pushV (r : AV × AState) (v : UInt8) : AV × AState :=
  match appendA (r.2.push (.cells [.int .u8 (v.toNat : Nat)])) 1 1 r.1 (.sl r.2.n 0 1 (some 1) 1) with
  | some q => q
  | none => r
def pushVL (r : AV × AState) (l : List UInt8) : AV × AState := l.foldl pushV r
/- A row of bytes of one's own. -/
def RB (p : Nat → Prop) (r : AV × AState) (l : List UInt8) : Prop := RowP p r.2 r.1 (ofU8s l) l.length 1
def Kq (p : Nat → Prop) (σ s : AState) : Prop := σ.n ≤ s.n ∧ ∀ b, b < σ.n → ¬ p b → s.h.get b = σ.h.get b
theorem Kq.trans {p : Nat → Prop} {σ s s' : AState} (h : Kq p σ s) (h' : Kq p s s') : Kq p σ s' := ⟨Nat.le_trans h.1 h'.1, fun b h1 h2 => (h'.2 b (Nat.lt_of_lt_of_le h1 h.1) h2).trans (h.2 b h1 h2)⟩
theorem Kq.refl (p : Nat → Prop) (σ : AState) : Kq p σ σ := ⟨Nat.le_refl _, fun _ _ _ => rfl⟩
theorem pushV_ok {p : Nat → Prop} {x : AV} {σ : AState} {l : List UInt8} (v : UInt8) (h : RB p (x, σ) l) (hp : ∀ b, σ.n ≤ b → p b) (hm : l.length ≤ 1100000) :
    (∃ b cap u, appendA (σ.push (.cells [.int .u8 (v.toNat : Nat)])) 1 1 x (.sl σ.n 0 1 (some 1) 1) = some (.sl b 0 (l.length + 1) cap 1, u) ∧ pushV (x, σ) v = (.sl b 0 (l.length + 1) cap 1, u)) ∧ RB p (pushV (x, σ) v) (l ++ [v]) ∧ Kq p σ (pushV (x, σ) v).2 := by
  obtain ⟨b, cap, u, happ, hrow', hn', hk'⟩ := app_lit (bytes := 1) h hp (new := [.int .u8 (v.toNat : Nat)]) (k := 1) rfl rfl (by omega) (by omega)
  have e0 : pushV (x, σ) v = (.sl b 0 (l.length + 1) cap 1, u) := by simp only [pushV]; rw [happ]
  refine ⟨⟨b, cap, u, happ, e0⟩, ?_⟩
  rw [e0]
  refine ⟨?_, by show σ.n ≤ u.n; simp only at hn'; omega, hk'⟩
  have e1 : (l ++ [v]).length = l.length + 1 := by simp
  unfold RB
  rw [e1, ofU8s_append]
  exact hrow'
theorem pushVL_ok {p : Nat → Prop} : ∀ (m : List UInt8) {x : AV} {σ : AState} {l : List UInt8}, RB p (x, σ) l → (∀ b, σ.n ≤ b → p b) → l.length + m.length ≤ 1100000 → RB p (pushVL (x, σ) m) (l ++ m) ∧ Kq p σ (pushVL (x, σ) m).2 := by
  intro m
  induction m with
  | nil => intro x σ l h hp hm; rw [List.append_nil]; exact ⟨h, Kq.refl _ _⟩
  | cons v m ih =>
    intro x σ l h hp hm
    simp only [List.length_cons] at hm
    have h1 := (pushV_ok v h hp (by omega)).2
    have h2 := ih (x := (pushV (x, σ) v).1) (σ := (pushV (x, σ) v).2) h1.1 (fun b hb => hp b (Nat.le_trans h1.2.1 hb)) (by simp only [List.length_append, List.length_cons, List.length_nil]; omega)
    rw [List.append_assoc] at h2
    exact ⟨h2.1, h1.2.trans h2.2⟩
theorem pushVL_append (r : AV × AState) (l m : List UInt8) : pushVL r (l ++ m) = pushVL (pushVL r l) m := by simp only [pushVL, List.foldl_append]
theorem nb_u64 (n : Int) {k : Nat} (h : k < 8) : b8 ((IntKind.u64.wrap n) / 2 ^ (8 * k)) = nb n k := by
  have e : IntKind.u64.wrap n = n % 18446744073709551616 := by simp [IntKind.wrap, IntKind.bits, IntKind.signed]
  have e2 : ∀ a b : Int, a % 256 = b % 256 → b8 a = b8 b := fun a b h => by rw [b8, b8, h]
  rw [e, nb]
  apply e2
  rcases (by omega : k = 0 ∨ k = 1 ∨ k = 2 ∨ k = 3 ∨ k = 4 ∨ k = 5 ∨ k = 6 ∨ k = 7) with rfl | rfl | rfl | rfl | rfl | rfl | rfl | rfl <;> simp only [Nat.reduceMul, Int.reducePow] <;> omega
theorem e_shu (n : Int) {k : Nat} (h : k ≤ 64) : evalShift .shr .u64 n (k : Nat) = some (.int .u64 (n / 2 ^ k)) := by
  simp only [evalShift, IntKind.bits]
  rw [if_neg (by omega), Int.toNat_natCast, Nat.min_eq_left h, Int.fdiv_eq_ediv_of_nonneg _ (Int.le_of_lt (Int.pow_pos (by decide)))]

theorem num_ac {p : Nat → Prop} {x : AV} {σ : AState} {l : List UInt8} {n : Int} (h : RB p (x, σ) l) (hp : ∀ b, σ.n ≤ b → p b) (hm : l.length ≤ 1000000) :
    AC Try.prog 26 [x, .int .i64 n] σ fun v s => s = (pushVL (x, σ) (numS n)).2 ∧ v = (pushVL (x, σ) (numS n)).1 := by
  refine ac_wp fn26 cf26 cl26 rfl ?_
  simp only [ac26]
  unfold ab26
  simp only [WS, stepW, evalA, reduceIte, Nat.reduceEqDiff, reduceCtorEq, evalBin, Option.getD, Int.reduceToNat, Nat.reduceMul, Nat.reduceAdd, allocA, rowOf, fillA, partsV, setl, Nat.reduceLeDiff, AV.len, evalUn, Int.reduceLT, Int.reduceLE, Int.reduceEq, Int.reduceNe]
  refine w_for (fun i ρ s => ρ.rd 1 = .int .i64 n ∧ ρ.rd 5 = .int .i64 (7 - (i : Int)) ∧ (ρ.rd 0, s) = pushVL (x, σ) (numK n i)) 8 ?_ ?_
  · simp only [WS, stepW, evalA, reduceIte, Nat.reduceEqDiff, reduceCtorEq, evalBin, Option.getD, Int.reduceToNat, Nat.reduceMul, Nat.reduceAdd, allocA, rowOf, fillA, partsV, setl, Nat.reduceLeDiff, AV.len, evalUn, Int.reduceLT, Int.reduceLE, Int.reduceEq, Int.reduceNe]
    exact ⟨rfl, rfl⟩
  rintro i ρ s hi ⟨g1, g5, es⟩
  have e1 : ρ.rd 0 = (pushVL (x, σ) (numK n i)).1 := congrArg (·.1) es
  have e2 : s = (pushVL (x, σ) (numK n i)).2 := congrArg (·.2) es
  by_cases hge : (0 : Int) ≤ 7 - (i : Int)
  rotate_left
  · have : i = 8 := by omega
    subst this
    simp only [WS, stepW, evalA, reduceIte, Nat.reduceEqDiff, reduceCtorEq, evalBin, Option.getD, Int.reduceToNat, Nat.reduceMul, Nat.reduceAdd, allocA, rowOf, fillA, partsV, setl, Nat.reduceLeDiff, AV.len, evalUn, Int.reduceLT, Int.reduceLE, Int.reduceEq, Int.reduceNe, g1, g5, hge]
    exact ⟨e2, e1⟩
  have hi8 : i < 8 := by omega
  have hk4 := numK_len n hi
  obtain ⟨hw, hk⟩ := pushVL_ok (numK n i) h hp (by omega)
  rw [← es] at hw
  rw [← e2] at hk
  obtain ⟨⟨b, cap, u, happ, eB⟩, -⟩ := pushV_ok (nb n (7 - i)) hw (fun b hb => hp b (Nat.le_trans hk.1 hb)) (by simp only [List.length_append]; omega)
  have n64 := numK_succ n hi8
  have e4 : pushV (ρ.rd 0, s) (nb n (7 - i)) = pushVL (x, σ) (numK n (i + 1)) := by rw [← n64, pushVL_append, ← es]; rfl
  rw [e4] at eB
  have hs := e_shu (IntKind.u64.wrap n) (k := 8 * (7 - i)) (by omega)
  have hb8 := e_b8 (IntKind.u64.wrap n / 2 ^ (8 * (7 - i)))
  rw [nb_u64 n (by omega)] at hb8
  generalize hx0 : ρ.rd 0 = x0 at *
  simp only [WS, stepW, evalA, reduceIte, Nat.reduceEqDiff, reduceCtorEq, evalBin, Option.getD, Int.reduceToNat, Nat.reduceMul, Nat.reduceAdd, allocA, rowOf, fillA, partsV, setl, Nat.reduceLeDiff, AV.len, evalUn, Int.reduceLT, Int.reduceLE, Int.reduceEq, Int.reduceNe, hx0, g1, g5, hge, e_down hi8, hs, hb8, happ, e_pred hi8]
  exact ⟨hi8, eB.symm⟩

/- Bytes with their length ahead. -/
theorem bytesR_ac {p : Nat → Prop} {x y : AV} {σ : AState} {l m : List UInt8} (h : RB p (x, σ) l) (hp : ∀ b, σ.n ≤ b → p b) (hm : l.length ≤ 1000000) (hm' : m.length ≤ 1000000) {b0 : Nat} {cap : Option Nat} (hy : y = .sl b0 0 m.length cap 1) (h0 : b0 < σ.n) (hp0 : ¬ p b0) (hc : σ.cells b0 = some (ofU8s m)) :
    ∃ x' s', (AC Try.prog 27 [x, y] σ fun v s => s = s' ∧ v = x') ∧ RB p (x', s') (l ++ (lenS m.length ++ m)) ∧ Kq p σ s' := by
  subst hy
  obtain ⟨b, cap1, s, happ, hrow', hn', hk'⟩ := app_lit (bytes := 1) h hp (new := [.int .u8 ((b8 (m.length / 256)).toNat : Nat), .int .u8 ((b8 m.length).toNat : Nat)]) (k := 2) rfl rfl (by omega) (by omega)
  have hcs : s.cells b0 = some (ofU8s m) := (get_cells (hk' b0 h0 hp0)).trans hc
  have hf : firstA s 1 m.length (.sl b0 0 m.length cap 1) = some (ofU8s m) := by
    rw [firstA_own hcs (by rw [ofU8s_length]; omega), seg_self _ _ (by rw [ofU8s_length]; omega)]
  obtain ⟨b2, cap2, s2, happ2, hrow3, hn2, hk2⟩ := app_rowS (bytes := 1) hrow' (hp _ (by simp only at hn'; omega)) (y := .sl b0 0 m.length cap 1) (k := m.length) rfl hf (ofU8s_one m) (by simp [ofU8s]) (by omega) (by omega)
  have hsh : evalShift .shr .i64 (m.length : Int) 8 = some (.int .i64 ((m.length : Int) / 256)) := by
    simp only [evalShift, IntKind.bits]
    rw [if_neg (by omega), Int.fdiv_eq_ediv_of_nonneg _ (by decide)]
    rfl
  simp only at happ hn' hk'
  refine ⟨.sl b2 0 (l.length + 2 + m.length) cap2 1, s2, ?_, ?_, ?_⟩
  rotate_left
  · unfold RB
    have e1 : (l ++ (lenS (m.length : Int) ++ m)).length = l.length + 2 + m.length := by simp only [List.length_append, lenS, List.length_cons, List.length_nil]; omega
    rw [e1, ofU8s_append, ofU8s_append, ← List.append_assoc]
    exact hrow3
  · exact Kq.trans ⟨by omega, hk'⟩ ⟨hn2, hk2⟩
  · refine ac_wp fn27 cf27 cl27 rfl ?_
    simp only [ac27]
    unfold ab27
    simp only [WS, stepW, evalA, reduceIte, Nat.reduceEqDiff, reduceCtorEq, evalBin, Option.getD, Int.reduceToNat, Nat.reduceMul, Nat.reduceAdd, allocA, rowOf, fillA, partsV, setl, Nat.reduceLeDiff, AV.len, evalUn, Int.reduceLT, Int.reduceLE, Int.reduceEq, Int.reduceNe, e_b8, hsh, happ, happ2]
end Go.Proofs.Ythobpdfchhihnaa.Va
