/- Numbers behind a row: pack.row.int. Conditions: none. -/
import Derived.Test.YthobpdfchhihnaaPk0
set_option maxRecDepth 100000
set_option maxHeartbeats 4000000
set_option linter.all false
namespace Go.Proofs.Ythobpdfchhihnaa.Va
open Go.Proofs
/- A value that is a row of numbers, fixed, or of a block that is none of p, nor b0. -/
def Yi (p : Nat → Prop) (b0 : Nat) (σ : AState) (y : AV) (m : List Int) : Prop := y = .psl (ofInts m) 0 m.length ∨ y = .nils ∧ m = [] ∨ ∃ b cap, y = .sl b 0 m.length cap 1 ∧ b < σ.n ∧ ¬ p b ∧ b ≠ b0 ∧ σ.cells b = some (ofInts m)
theorem numK_succ (n : Int) {i : Nat} (h : i < 8) : numK n i ++ [nb n (7 - i)] = numK n (i + 1) := by
  rcases (by omega : i = 0 ∨ i = 1 ∨ i = 2 ∨ i = 3 ∨ i = 4 ∨ i = 5 ∨ i = 6 ∨ i = 7) with rfl | rfl | rfl | rfl | rfl | rfl | rfl | rfl <;> rfl
theorem numK_len (n : Int) {i : Nat} (h : i ≤ 8) : (numK n i).length = i := by simp [numK, numS]; omega
theorem numK_all (n : Int) : numK n 8 = numS n := rfl
theorem numS_len (n : Int) : (numS n).length = 8 := rfl
def numsS (l : List Int) : List UInt8 := l.flatMap numS
theorem numsS_len (l : List Int) : (numsS l).length = 8 * l.length := by
  induction l with
  | nil => rfl
  | cons a l ih => simp only [numsS, List.flatMap_cons, List.length_append, numS_len, List.length_cons] at ih ⊢; omega
theorem numsS_take {l : List Int} {i : Nat} (h : i < l.length) : numsS (l.take (i + 1)) = numsS (l.take i) ++ numS l[i] := by
  simp only [numsS]; rw [List.take_add_one, List.getElem?_eq_getElem h, List.flatMap_append]; simp
theorem ints_get {l : List Int} {i : Nat} (h : i < l.length) : (ofInts l)[i]? = some (.int .i64 l[i]) := by simp [ofInts, h]
theorem e_down {i : Nat} (h : i < 8) : IntKind.i64.wrap (8 * (7 - (i : Int))) = ((8 * (7 - i) : Nat) : Int) := by
  rcases (by omega : i = 0 ∨ i = 1 ∨ i = 2 ∨ i = 3 ∨ i = 4 ∨ i = 5 ∨ i = 6 ∨ i = 7) with rfl | rfl | rfl | rfl | rfl | rfl | rfl | rfl <;> rfl
theorem e_pred {i : Nat} (h : i < 8) : IntKind.i64.wrap (7 - (i : Int) - 1) = 7 - ((i + 1 : Nat) : Int) := by
  rcases (by omega : i = 0 ∨ i = 1 ∨ i = 2 ∨ i = 3 ∨ i = 4 ∨ i = 5 ∨ i = 6 ∨ i = 7) with rfl | rfl | rfl | rfl | rfl | rfl | rfl | rfl <;> rfl
theorem e_shn (n : Int) {k : Nat} (h : k ≤ 64) : evalShift .shr .i64 n (k : Nat) = some (.int .i64 (n / 2 ^ k)) := by
  simp only [evalShift, IntKind.bits]
  rw [if_neg (by omega), Int.toNat_natCast, Nat.min_eq_left h, Int.fdiv_eq_ediv_of_nonneg _ (Int.le_of_lt (Int.pow_pos (by decide)))]

/- One byte more, exactly. -/
def pushB (b0 : Nat) (s : AState) (v : UInt8) : AState :=
  match (addSlots s.n 15 s []).cells b0 with
  | some [x] => match appendA ((addSlots s.n 15 s []).push (.cells [.int .u8 (v.toNat : Nat)])) 1 1 x (.sl (addSlots s.n 15 s []).n 0 1 (some 1) 1) with
    | some (y, u) => u.put b0 [y]
    | none => s
  | _ => s
def pushL (b0 : Nat) (s : AState) (l : List UInt8) : AState := l.foldl (pushB b0) s
theorem pushB_ok {p : Nat → Prop} {b0 : Nat} {s t : AState} {l : List UInt8} (v : UInt8) (h : RW p b0 s l) (hp : ∀ b, s.n ≤ b → p b) (h0 : ¬ p b0) (hm : l.length ≤ 1100000) (ht : addSlots s.n 15 s [] = t) :
    (∃ x b cap u, t.cells b0 = some [x] ∧ appendA (t.push (.cells [.int .u8 (v.toNat : Nat)])) 1 1 x (.sl t.n 0 1 (some 1) 1) = some (.sl b 0 (l.length + 1) cap 1, u) ∧ u.cells b0 = some [x] ∧ ¬ b0 = t.n ∧ u.put b0 [.sl b 0 (l.length + 1) cap 1] = pushB b0 s v) ∧ RW p b0 (pushB b0 s v) (l ++ [v]) ∧ Kp p b0 s (pushB b0 s v) := by
  obtain ⟨⟨x, hc, hrow⟩, hlt⟩ := h
  have cA : (addSlots s.n 15 s []).cells b0 = some [x] := hc
  have hrowA := hrow.slots 15
  have hnA : s.n ≤ (addSlots s.n 15 s []).n := by simp only [addSlots]; omega
  have hkA : Kp p b0 s (addSlots s.n 15 s []) := ⟨hnA, fun b _ _ _ => rfl⟩
  have e0 : pushB b0 s v = pushB b0 s v := rfl
  conv at e0 => rhs; unfold pushB
  rw [ht] at cA hrowA hnA hkA e0
  obtain ⟨b, cap, u, happ, hrow', hn', hk'⟩ := app_lit (bytes := 1) hrowA (fun b hb => hp b (by omega)) (new := [.int .u8 (v.toNat : Nat)]) (k := 1) rfl rfl (by omega) (by omega)
  have cu : u.cells b0 = some [x] := (get_cells (hk' b0 (by omega) h0)).trans cA
  rw [cA] at e0
  simp only at e0
  rw [happ] at e0
  simp only at e0
  have G := RW.grow (l := l) (m := [v]) (by omega : b0 < t.n) h0 hrow' (by simp only [List.length_append, List.length_cons, List.length_nil]) (by omega) hk'
  rw [← e0] at G
  exact ⟨⟨x, b, cap, u, cA, happ, cu, by omega, e0.symm⟩, G.1, hkA.trans G.2⟩
theorem pushL_ok {p : Nat → Prop} {b0 : Nat} (h0 : ¬ p b0) : ∀ (m : List UInt8) {s : AState} {l : List UInt8}, RW p b0 s l → (∀ b, s.n ≤ b → p b) → l.length + m.length ≤ 1100000 → RW p b0 (pushL b0 s m) (l ++ m) ∧ Kp p b0 s (pushL b0 s m) := by
  intro m
  induction m with
  | nil => intro s l h hp hm; rw [List.append_nil]; exact ⟨h, Kp.refl _ _ _⟩
  | cons v m ih =>
    intro s l h hp hm
    simp only [List.length_cons] at hm
    have h1 := (pushB_ok v h hp h0 (by omega) rfl).2
    have h2 := ih h1.1 (fun b hb => hp b (Nat.le_trans h1.2.1 hb)) (by simp only [List.length_append, List.length_cons, List.length_nil]; omega)
    rw [List.append_assoc] at h2
    exact ⟨h2.1, h1.2.trans h2.2⟩
theorem pushL_append (b0 : Nat) (s : AState) (l m : List UInt8) : pushL b0 s (l ++ m) = pushL b0 (pushL b0 s l) m := by simp only [pushL, List.foldl_append]

theorem int_ac {p : Nat → Prop} {b0 : Nat} {σ : AState} {l : List UInt8} {ns : List Int} {y : AV} (h : RW p b0 σ l) (hp : ∀ b, σ.n ≤ b → p b) (h0 : ¬ p b0) (hm : l.length ≤ 1000000) (hm' : ns.length ≤ 1000) (hy : Yi p b0 σ y ns) :
    AC Try.prog 23 [.ptr b0 0, y] σ fun v s => s = pushL b0 σ (numsS ns) ∧ v = .tup [] := by
  have hb0 := h.lt
  refine ac_wp fn23 cf23 cl23 rfl ?_
  simp only [ac23]
  unfold ab23
  simp only [wpC_seq, wpC_skip, wpCK_normal]
  refine w_mid (fun ρ s => s = σ ∧ ρ.rd 0 = .ptr b0 0 ∧ ρ.rd 7 = y ∧ ρ.rd 8 = .int .i64 ns.length ∧ ρ.rd 9 = .int .i64 0) ?_ ?_
  · rcases hy with rfl | ⟨rfl, rfl⟩ | ⟨yb, ycap, rfl, _⟩
    · simp only [WS, stepW, evalA, reduceIte, Nat.reduceEqDiff, reduceCtorEq, evalBin, Option.getD, Int.reduceToNat, Nat.reduceMul, Nat.reduceAdd, allocA, rowOf, fillA, partsV, setl, Nat.reduceLeDiff, AV.len, evalUn, Int.reduceLT, Int.reduceLE, Int.reduceEq, Int.reduceNe]
    · simp only [WS, stepW, evalA, reduceIte, Nat.reduceEqDiff, reduceCtorEq, evalBin, Option.getD, Int.reduceToNat, Nat.reduceMul, Nat.reduceAdd, allocA, rowOf, fillA, partsV, setl, Nat.reduceLeDiff, AV.len, evalUn, Int.reduceLT, Int.reduceLE, Int.reduceEq, Int.reduceNe, List.length_nil]
      rfl
    · simp only [WS, stepW, evalA, reduceIte, Nat.reduceEqDiff, reduceCtorEq, evalBin, Option.getD, Int.reduceToNat, Nat.reduceMul, Nat.reduceAdd, allocA, rowOf, fillA, partsV, setl, Nat.reduceLeDiff, AV.len, evalUn, Int.reduceLT, Int.reduceLE, Int.reduceEq, Int.reduceNe]
  rintro ρ s ⟨rfl, g0, g7, g8, g9⟩
  simp only [wpC_block, wpC_seq, wpC_skip, wpCK_normal]
  refine w_for (fun j ρ s' => ρ.rd 0 = .ptr b0 0 ∧ ρ.rd 7 = y ∧ ρ.rd 8 = .int .i64 ns.length ∧ ρ.rd 9 = .int .i64 j ∧ s' = pushL b0 s (numsS (ns.take j))) ns.length ?_ ?_
  · exact ⟨g0, g7, g8, g9, rfl⟩
  clear g0 g7 g8 g9
  rintro j ρ s1 hj ⟨g0, g7, g8, g9, es⟩
  have hll : (l ++ numsS (ns.take j)).length ≤ 1008000 := by simp only [List.length_append, numsS_len, List.length_take]; omega
  obtain ⟨hw, hk⟩ := pushL_ok h0 (numsS (ns.take j)) h hp (by simp only [List.length_append] at hll; omega)
  rw [← es] at hw hk
  by_cases hlt' : (j : Int) < ns.length
  rotate_left
  · have : j = ns.length := by omega
    subst this
    simp only [WS, stepW, evalA, reduceIte, Nat.reduceEqDiff, reduceCtorEq, evalBin, Option.getD, Int.reduceToNat, Nat.reduceMul, Nat.reduceAdd, allocA, rowOf, fillA, partsV, setl, Nat.reduceLeDiff, AV.len, evalUn, Int.reduceLT, Int.reduceLE, Int.reduceEq, Int.reduceNe, g0, g7, g8, g9, hlt']
    rw [List.take_length] at es
    exact es
  have hlt : j < ns.length := by omega
  have hr := lt_idx hlt
  have hwj : IntKind.i64.wrap ((j : Int) + 1) = ((j + 1 : Nat) : Int) := wrap_succ (by omega)
  rw [wpC_seq]
  refine w_mid (fun ρ s' => s' = s1 ∧ ρ.rd 0 = .ptr b0 0 ∧ ρ.rd 7 = y ∧ ρ.rd 8 = .int .i64 ns.length ∧ ρ.rd 9 = .int .i64 j ∧ ρ.rd 10 = .bool true) ?_ ?_
  · simp only [WS, stepW, evalA, reduceIte, Nat.reduceEqDiff, reduceCtorEq, evalBin, Option.getD, Int.reduceToNat, Nat.reduceMul, Nat.reduceAdd, allocA, rowOf, fillA, partsV, setl, Nat.reduceLeDiff, AV.len, evalUn, Int.reduceLT, Int.reduceLE, Int.reduceEq, Int.reduceNe, g0, g7, g8, g9, hlt', decide_true]
  clear g0 g7 g8 g9
  rintro ρ s2 ⟨rfl, g0, g7, g8, g9, g10⟩
  rw [wpC_seq]
  refine w_mid (fun ρ s' => s' = s2 ∧ ρ.rd 0 = .ptr b0 0 ∧ ρ.rd 7 = y ∧ ρ.rd 8 = .int .i64 ns.length ∧ ρ.rd 9 = .int .i64 j) ?_ ?_
  · simp only [WS, stepW, evalA, reduceIte, Nat.reduceEqDiff, reduceCtorEq, evalBin, Option.getD, Int.reduceToNat, Nat.reduceMul, Nat.reduceAdd, allocA, rowOf, fillA, partsV, setl, Nat.reduceLeDiff, AV.len, evalUn, Int.reduceLT, Int.reduceLE, Int.reduceEq, Int.reduceNe, g0, g7, g8, g9, g10]
  clear g0 g7 g8 g9 g10
  rintro ρ s2 ⟨rfl, g0, g7, g8, g9⟩
  rw [wpC_seq, wpC_block, wpC_seq]
  refine w_mid (fun ρ s' => s' = s2 ∧ ρ.rd 0 = .ptr b0 0 ∧ ρ.rd 7 = y ∧ ρ.rd 8 = .int .i64 ns.length ∧ ρ.rd 9 = .int .i64 j ∧ ρ.rd 5 = .int .i64 ns[j]) ?_ ?_
  · rcases hy with rfl | ⟨rfl, rfl⟩ | ⟨yb, ycap, rfl, h1, h2, h3, h4⟩
    · simp only [WS, stepW, evalA, reduceIte, Nat.reduceEqDiff, reduceCtorEq, evalBin, Option.getD, Int.reduceToNat, Nat.reduceMul, Nat.reduceAdd, allocA, rowOf, fillA, partsV, setl, Nat.reduceLeDiff, AV.len, evalUn, Int.reduceLT, Int.reduceLE, Int.reduceEq, Int.reduceNe, g0, g7, g8, g9, hr, ints_get hlt]
    · cases hlt
    · have := (hk.cells h1 h2 h3).trans h4
      simp only [WS, stepW, evalA, reduceIte, Nat.reduceEqDiff, reduceCtorEq, evalBin, Option.getD, Int.reduceToNat, Nat.reduceMul, Nat.reduceAdd, allocA, rowOf, fillA, partsV, setl, Nat.reduceLeDiff, AV.len, evalUn, Int.reduceLT, Int.reduceLE, Int.reduceEq, Int.reduceNe, g0, g7, g8, g9, hr, this, ints_get hlt]
  clear g0 g7 g8 g9
  rintro ρ s3 ⟨rfl, g0, g7, g8, g9, g5⟩
  have htk := numsS_take hlt
  generalize hL : l ++ numsS (ns.take j) = L at *
  generalize ns[j] = n at *
  simp only [WS, stepW, evalA, reduceIte, Nat.reduceEqDiff, reduceCtorEq, evalBin, Option.getD, Int.reduceToNat, Nat.reduceMul, Nat.reduceAdd, allocA, rowOf, fillA, partsV, setl, Nat.reduceLeDiff, AV.len, evalUn, Int.reduceLT, Int.reduceLE, Int.reduceEq, Int.reduceNe, g0, g7, g8, g9, g5]
  refine w_for (fun i ρ s' => ρ.rd 0 = .ptr b0 0 ∧ ρ.rd 7 = y ∧ ρ.rd 8 = .int .i64 ns.length ∧ ρ.rd 9 = .int .i64 j ∧ ρ.rd 5 = .int .i64 n ∧ ρ.rd 6 = .int .i64 (7 - (i : Int)) ∧ s' = pushL b0 s3 (numK n i)) 8 ?_ ?_
  · simp only [WS, stepW, evalA, reduceIte, Nat.reduceEqDiff, reduceCtorEq, evalBin, Option.getD, Int.reduceToNat, Nat.reduceMul, Nat.reduceAdd, allocA, rowOf, fillA, partsV, setl, Nat.reduceLeDiff, AV.len, evalUn, Int.reduceLT, Int.reduceLE, Int.reduceEq, Int.reduceNe, g0, g7, g8, g9, g5]
    exact ⟨rfl, rfl⟩
  clear g0 g7 g8 g9 g5
  rintro i ρ s4 hi ⟨g0, g7, g8, g9, g5, g6, es4⟩
  by_cases hge : (0 : Int) ≤ 7 - (i : Int)
  rotate_left
  · have : i = 8 := by omega
    subst this
    simp only [WS, stepW, evalA, reduceIte, Nat.reduceEqDiff, reduceCtorEq, evalBin, Option.getD, Int.reduceToNat, Nat.reduceMul, Nat.reduceAdd, allocA, rowOf, fillA, partsV, setl, Nat.reduceLeDiff, AV.len, evalUn, Int.reduceLT, Int.reduceLE, Int.reduceEq, Int.reduceNe, g0, g7, g8, g9, g5, g6, hge, hwj]
    exact ⟨hlt, by rw [htk, pushL_append, ← es]; exact es4⟩
  have hi8 : i < 8 := by omega
  have hk4 := numK_len n hi
  obtain ⟨hw4, hk4'⟩ := pushL_ok h0 (numK n i) hw (fun b hb => hp b (Nat.le_trans hk.1 hb)) (by omega)
  rw [← es4] at hw4 hk4'
  obtain ⟨⟨x, b6, cap6, s6, cA, happ, c6, ne5, eB⟩, -⟩ := pushB_ok (nb n (7 - i)) hw4 (fun b hb => hp b (Nat.le_trans hk.1 (Nat.le_trans hk4'.1 hb))) h0 (by simp only [List.length_append]; omega) rfl
  have n64 := numK_succ n hi8
  have e4 : pushB b0 s4 (nb n (7 - i)) = pushL b0 s3 (numK n (i + 1)) := by rw [← n64, pushL_append, ← es4]; rfl
  rw [e4] at eB
  clear e4 n64 hw4 hk4' hw hk es4
  simp only [WS, stepW, evalA, reduceIte, Nat.reduceEqDiff, reduceCtorEq, evalBin, Option.getD, Int.reduceToNat, Nat.reduceMul, Nat.reduceAdd, allocA, rowOf, fillA, partsV, setl, Nat.reduceLeDiff, AV.len, evalUn, Int.reduceLT, Int.reduceLE, Int.reduceEq, Int.reduceNe, g0, g7, g8, g9, g5, g6, hge]
  refine w_dreg follow [] rfl ?_
  generalize addSlots s4.n 15 s4 [] = s5 at *
  have hs := e_shn n (k := 8 * (7 - i)) (by omega)
  have hb8 := e_b8 (n / 2 ^ (8 * (7 - i)))
  rw [show b8 (n / 2 ^ (8 * (7 - i))) = nb n (7 - i) from rfl] at hb8
  simp only [WS, stepW, evalA, reduceIte, Nat.reduceEqDiff, reduceCtorEq, evalBin, Option.getD, Int.reduceToNat, Nat.reduceMul, Nat.reduceAdd, allocA, rowOf, fillA, partsV, setl, Nat.reduceLeDiff, AV.len, evalUn, Int.reduceLT, Int.reduceLE, Int.reduceEq, Int.reduceNe, DS, isSl, AOp.pure, AOp.reader, allocD, AOp.quiet, isSlot, Nat.reduceBEq, g0, g7, g8, g9, g5, g6, cA, e_down hi8, hs, hb8]
  simp only [WS, stepW, evalA, reduceIte, Nat.reduceEqDiff, reduceCtorEq, evalBin, Option.getD, Int.reduceToNat, Nat.reduceMul, Nat.reduceAdd, allocA, rowOf, fillA, partsV, setl, Nat.reduceLeDiff, AV.len, evalUn, Int.reduceLT, Int.reduceLE, Int.reduceEq, Int.reduceNe, DS, isSl, AOp.pure, AOp.reader, allocD, AOp.quiet, isSlot, Nat.reduceBEq, happ, c6, ne5, storeA, sets, setx, TS]
  refine ⟨⟨?_, ?_⟩, ?_⟩
  · intro l hl c hc hf
    simp only [List.mem_cons, List.mem_nil_iff, List.not_mem_nil, or_false] at hl hc
    rcases hl with rfl <;> rcases hc with rfl | rfl | rfl | rfl <;> dsimp only at hf ⊢ <;> first
      | (exact absurd hf (by decide +kernel))
      | (simp only [WS, stepW, evalA, reduceIte, Nat.reduceEqDiff, reduceCtorEq, evalBin, Option.getD, Int.reduceToNat, Nat.reduceMul, Nat.reduceAdd, allocA, rowOf, fillA, partsV, setl, Nat.reduceLeDiff, AV.len, evalUn, Int.reduceLT, Int.reduceLE, Int.reduceEq, Int.reduceNe, g0, g7, g8, g9, g5, g6, cA, c6, ne5]; done)
  · intro sl hsl; simp at hsl
  · simp only [WS, stepW, evalA, reduceIte, Nat.reduceEqDiff, reduceCtorEq, evalBin, Option.getD, Int.reduceToNat, Nat.reduceMul, Nat.reduceAdd, allocA, rowOf, fillA, partsV, setl, Nat.reduceLeDiff, AV.len, evalUn, Int.reduceLT, Int.reduceLE, Int.reduceEq, Int.reduceNe, g0, g7, g8, g9, g5, g6, e_pred hi8]
    exact ⟨hi8, eB⟩
end Go.Proofs.Ythobpdfchhihnaa.Va
