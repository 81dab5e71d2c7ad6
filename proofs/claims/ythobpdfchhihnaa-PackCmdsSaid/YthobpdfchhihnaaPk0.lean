/- Rows of bytes that grow in a struct: byte, int, bytes of pack.row. Conditions: none. -/
import Derived.Test.YthobpdfchhihnaaFrm
set_option maxRecDepth 100000
set_option maxHeartbeats 4000000
set_option linter.all false
namespace Go.Proofs.Ythobpdfchhihnaa.Va
open Go.Proofs
def b8 (n : Int) : UInt8 := UInt8.ofNat (n % 256).toNat
theorem e_b8 (n : Int) : IntKind.u8.wrap n = ((b8 n).toNat : Nat) := by
  rw [wrap8, b8]
  simp only [UInt8.toNat_ofNat']
  omega
/- The byte k of a number. -/
def nb (n : Int) (k : Nat) : UInt8 := b8 (n / 2 ^ (8 * k))
def numS (n : Int) : List UInt8 := [nb n 7, nb n 6, nb n 5, nb n 4, nb n 3, nb n 2, nb n 1, nb n 0]
def numK (n : Int) (k : Nat) : List UInt8 := (numS n).take k
/- b0: a struct of one row of bytes, whose block is one of p. -/
structure RW (p : Nat → Prop) (b0 : Nat) (σ : AState) (l : List UInt8) : Prop where
  c : ∃ x, σ.cells b0 = some [x] ∧ RowP p σ x (ofU8s l) l.length 1
  lt : b0 < σ.n
def Kp (p : Nat → Prop) (b0 : Nat) (σ s : AState) : Prop := σ.n ≤ s.n ∧ ∀ b, b < σ.n → ¬ p b → b ≠ b0 → s.h.get b = σ.h.get b
theorem Kp.trans {p : Nat → Prop} {b0 : Nat} {σ s s' : AState} (h : Kp p b0 σ s) (h' : Kp p b0 s s') : Kp p b0 σ s' := ⟨Nat.le_trans h.1 h'.1, fun b h1 h2 h3 => (h'.2 b (Nat.lt_of_lt_of_le h1 h.1) h2 h3).trans (h.2 b h1 h2 h3)⟩
theorem Kp.refl (p : Nat → Prop) (b0 : Nat) (σ : AState) : Kp p b0 σ σ := ⟨Nat.le_refl _, fun _ _ _ _ => rfl⟩
theorem Kp.cells {p : Nat → Prop} {b0 : Nat} {σ s : AState} (h : Kp p b0 σ s) {b : Nat} (h1 : b < σ.n) (h2 : ¬ p b) (h3 : b ≠ b0) : s.cells b = σ.cells b := get_cells (h.2 b h1 h2 h3)

theorem put_self (s : AState) (b : Nat) (cs : List AV) : (s.put b cs).cells b = some cs := by rw [put_get, if_pos rfl]
theorem RW.grow {p : Nat → Prop} {b0 : Nat} {σ s : AState} {l m : List UInt8} {x : AV} {n : Nat} (hlt : b0 < σ.n) (h0 : ¬ p b0) (hr : RowP p s x (ofU8s l ++ ofU8s m) n 1) (hl : n = (l ++ m).length) (hn : σ.n ≤ s.n) (hk : ∀ b, b < σ.n → ¬ p b → s.h.get b = σ.h.get b) :
    RW p b0 (s.put b0 [x]) (l ++ m) ∧ Kp p b0 σ (s.put b0 [x]) := by
  subst hl
  refine ⟨⟨⟨_, put_self _ _ _, ?_⟩, by rw [put_n]; omega⟩, by rw [put_n]; exact hn, fun b h1 h2 h3 => ?_⟩
  · rw [ofU8s_append]; exact hr.put h0 _
  · rw [put_h h3]; exact hk b h1 h2

theorem byte_ac {p : Nat → Prop} {b0 : Nat} {σ : AState} {l : List UInt8} {n : Int} (h : RW p b0 σ l) (hp : ∀ b, σ.n ≤ b → p b) (h0 : ¬ p b0) (hm : l.length ≤ 1000000) : AC Try.prog 22 [.ptr b0 0, .int .i64 n] σ fun v s => RW p b0 s (l ++ [b8 n]) ∧ Kp p b0 σ s := by
  obtain ⟨⟨x, hc, hrow⟩, hlt⟩ := h
  have hne : ¬ b0 = σ.n := by omega
  obtain ⟨b, cap, s, happ, hrow', hn', hk'⟩ := app_lit (bytes := 1) hrow hp (new := [.int .u8 ((b8 n).toNat : Nat)]) (k := 1) rfl rfl (by omega) (by omega)
  have c' : s.cells b0 = some [x] := (get_cells (hk' b0 hlt h0)).trans hc
  refine ac_wp fn22 cf22 cl22 rfl ?_
  simp only [ac22]
  unfold ab22
  simp only [WS, stepW, evalA, reduceIte, Nat.reduceEqDiff, reduceCtorEq, evalBin, Option.getD, Int.reduceToNat, Nat.reduceMul, Nat.reduceAdd, allocA, rowOf, fillA, partsV, setl, Nat.reduceLeDiff, AV.len, evalUn, Int.reduceLT, Int.reduceLE, Int.reduceEq, Int.reduceNe, hc, e_b8, happ, c', storeA, sets, setx, TS]
  exact RW.grow (m := [b8 n]) hlt h0 hrow' (by simp) (by omega) hk'

/- A value that is a row of bytes, fixed, or of a block that is none of p, nor b0. -/
def Yb (p : Nat → Prop) (b0 : Nat) (σ : AState) (y : AV) (m : List UInt8) : Prop := y = .psl (ofU8s m) 0 m.length ∨ y = .nils ∧ m = [] ∨ ∃ b cap, y = .sl b 0 m.length cap 1 ∧ b < σ.n ∧ ¬ p b ∧ b ≠ b0 ∧ σ.cells b = some (ofU8s m)
theorem Yb.first {p : Nat → Prop} {b0 : Nat} {σ : AState} {y : AV} {m : List UInt8} (h : Yb p b0 σ y m) {s : AState} (hk : Kp p b0 σ s) : firstA s 1 m.length y = some (ofU8s m) := by
  rcases h with rfl | ⟨rfl, rfl⟩ | ⟨b, cap, rfl, h1, h2, h3, h4⟩
  · exact firstA_psl
  · rfl
  · rw [firstA_own ((hk.cells h1 h2 h3).trans h4) (by rw [ofU8s_length]; omega), seg_self _ _ (by rw [ofU8s_length]; omega)]
theorem Yb.len {p : Nat → Prop} {b0 : Nat} {σ : AState} {y : AV} {m : List UInt8} (h : Yb p b0 σ y m) : y.len = some m.length := by
  rcases h with rfl | ⟨rfl, rfl⟩ | ⟨b, cap, rfl, h1, h2, h3, h4⟩ <;> rfl
def lenS (n : Int) : List UInt8 := [b8 (n / 256), b8 n]
theorem bytes_ac {p : Nat → Prop} {b0 : Nat} {σ : AState} {l m : List UInt8} {y : AV} (h : RW p b0 σ l) (hp : ∀ b, σ.n ≤ b → p b) (h0 : ¬ p b0) (hm : l.length ≤ 1000000) (hm' : m.length ≤ 1000000) (hy : Yb p b0 σ y m) :
    AC Try.prog 24 [.ptr b0 0, y] σ fun v s => RW p b0 s (l ++ (lenS m.length ++ m)) ∧ Kp p b0 σ s := by
  obtain ⟨⟨x, hc, hrow⟩, hlt⟩ := h
  have hne : ¬ b0 = σ.n := by omega
  obtain ⟨b, cap, s, happ, hrow', hn', hk'⟩ := app_lit (bytes := 1) hrow hp (new := [.int .u8 ((b8 (m.length / 256)).toNat : Nat), .int .u8 ((b8 m.length).toNat : Nat)]) (k := 2) rfl rfl (by omega) (by omega)
  have c' : s.cells b0 = some [x] := (get_cells (hk' b0 hlt h0)).trans hc
  have hsh : evalShift .shr .i64 (m.length : Int) 8 = some (.int .i64 ((m.length : Int) / 256)) := by
    simp only [evalShift, IntKind.bits]
    rw [if_neg (by omega), Int.fdiv_eq_ediv_of_nonneg _ (by decide)]
    rfl
  have hG := RW.grow (l := l) (m := lenS m.length) hlt h0 hrow' (by simp [lenS]) (by omega) hk'
  refine ac_wp fn24 cf24 cl24 rfl ?_
  simp only [ac24]
  unfold ab24
  simp only [wpC_seq, wpC_skip, wpCK_normal]
  refine w_mid (fun ρ s' => ρ.rd 0 = .ptr b0 0 ∧ ρ.rd 1 = y ∧ RW p b0 s' (l ++ lenS m.length) ∧ Kp p b0 σ s') ?_ ?_
  · rcases hy with rfl | ⟨rfl, rfl⟩ | ⟨yb, ycap, rfl, _⟩
    · simp only [WS, stepW, evalA, reduceIte, Nat.reduceEqDiff, reduceCtorEq, evalBin, Option.getD, Int.reduceToNat, Nat.reduceMul, Nat.reduceAdd, allocA, rowOf, fillA, partsV, setl, Nat.reduceLeDiff, AV.len, evalUn, Int.reduceLT, Int.reduceLE, Int.reduceEq, Int.reduceNe, hc, e_b8, hsh, happ, c', storeA, sets, setx, TS]
      exact hG
    · have hsh' : evalShift .shr .i64 0 8 = some (.int .i64 (((0 : Nat) : Int) / 256)) := hsh
      have e0 : IntKind.u8.wrap 0 = ((b8 ((0 : Nat) : Int)).toNat : Nat) := e_b8 _
      simp only [List.length_nil] at happ hG
      simp only [WS, stepW, evalA, reduceIte, Nat.reduceEqDiff, reduceCtorEq, evalBin, Option.getD, Int.reduceToNat, Nat.reduceMul, Nat.reduceAdd, allocA, rowOf, fillA, partsV, setl, Nat.reduceLeDiff, AV.len, evalUn, Int.reduceLT, Int.reduceLE, Int.reduceEq, Int.reduceNe, hc, hsh', e0, e_b8, happ, c', storeA, sets, setx, TS]
      exact hG
    · simp only [WS, stepW, evalA, reduceIte, Nat.reduceEqDiff, reduceCtorEq, evalBin, Option.getD, Int.reduceToNat, Nat.reduceMul, Nat.reduceAdd, allocA, rowOf, fillA, partsV, setl, Nat.reduceLeDiff, AV.len, evalUn, Int.reduceLT, Int.reduceLE, Int.reduceEq, Int.reduceNe, hc, e_b8, hsh, happ, c', storeA, sets, setx, TS]
      exact hG
  rintro ρ s' ⟨g0, g1, ⟨⟨x', hc', hrow2⟩, hlt'⟩, hkp⟩
  obtain ⟨b2, cap2, s2, happ2, hrow3, hn2, hk2⟩ := app_rowS (bytes := 1) hrow2 (hp _ hkp.1) hy.len (hy.first hkp) (ofU8s_one m) (by simp [ofU8s]) (by simp [lenS]; omega) (by simp [lenS]; omega)
  have c2 : s2.cells b0 = some [x'] := (get_cells (hk2 b0 hlt' h0)).trans hc'
  simp only [WS, stepW, evalA, reduceIte, Nat.reduceEqDiff, reduceCtorEq, evalBin, Option.getD, Int.reduceToNat, Nat.reduceMul, Nat.reduceAdd, allocA, rowOf, fillA, partsV, setl, Nat.reduceLeDiff, AV.len, evalUn, Int.reduceLT, Int.reduceLE, Int.reduceEq, Int.reduceNe, g0, g1, hc', happ2, c2, storeA, sets, setx, TS]
  have := RW.grow (l := l ++ lenS m.length) (m := m) hlt' h0 hrow3 (by simp only [List.length_append]) (by omega) hk2
  rw [List.append_assoc] at this
  exact ⟨this.1, hkp.trans this.2⟩
end Go.Proofs.Ythobpdfchhihnaa.Va
