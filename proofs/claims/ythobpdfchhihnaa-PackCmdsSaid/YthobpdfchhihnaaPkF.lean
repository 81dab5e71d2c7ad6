/- A command written by the reference. Conditions: none. -/
import Derived.Test.YthobpdfchhihnaaPkE
set_option maxRecDepth 100000
set_option maxHeartbeats 4000000
set_option linter.all false
namespace Go.Proofs.Ythobpdfchhihnaa.Va
open Go.Proofs
theorem Kq.mono {p q : Nat → Prop} {σ s : AState} (h : Kq p σ s) (hq : ∀ b, b < σ.n → p b → q b) : Kq q σ s := ⟨h.1, fun b h1 h2 => h.2 b h1 fun h3 => h2 (hq b h1 h3)⟩
theorem cmdR_bad {c : Cm} (hw : wrongS c ≠ 0) (σ : AState) : AC Try.prog 15 [.agg c.c] σ fun v s => v = .tup [.nils, .int .i64 (wrongS c)] ∧ Kq (fun b => σ.n ≤ b) σ s := by
  refine ac_wp fn15 cf15 cl15 rfl ?_
  simp only [ac15]
  unfold ab15
  simp only [WS, stepW, evalA, reduceIte, Nat.reduceEqDiff, reduceCtorEq, evalBin, Option.getD, Int.reduceToNat, Nat.reduceMul, Nat.reduceAdd, allocA, rowOf, fillA, partsV, setl, Nat.reduceLeDiff, AV.len, evalUn, Int.reduceLT, Int.reduceLE, Int.reduceEq, Int.reduceNe, Cm.c_eq]
  rw [← Cm.c_eq]
  refine (wrongR_ac c _).use ?_
  simp only [WS, stepW, evalA, reduceIte, Nat.reduceEqDiff, reduceCtorEq, evalBin, Option.getD, Int.reduceToNat, Nat.reduceMul, Nat.reduceAdd, allocA, rowOf, fillA, partsV, setl, Nat.reduceLeDiff, AV.len, evalUn, Int.reduceLT, Int.reduceLE, Int.reduceEq, Int.reduceNe, Cm.c_eq, ne_eq, hw, not_false_eq_true, decide_true]
  rw [← Cm.c_eq]
  refine (wrongR_ac c _).use ?_
  simp only [WS, stepW, evalA, reduceIte, Nat.reduceEqDiff, reduceCtorEq, evalBin, Option.getD, Int.reduceToNat, Nat.reduceMul, Nat.reduceAdd, allocA, rowOf, fillA, partsV, setl, Nat.reduceLeDiff, AV.len, evalUn, Int.reduceLT, Int.reduceLE, Int.reduceEq, Int.reduceNe]
  exact ⟨Nat.le_succ _, fun b h1 h2 => push_h h1⟩
theorem cmdR_ok {c : Cm} (hn : c.name.length ≤ 1000) (ht : c.text.length ≤ 1000) (hw : wrongS c = 0) (σ : AState) :
    AC Try.prog 15 [.agg c.c] σ fun v s => ∃ x, v = .tup [x, .int .i64 0] ∧ RB (fun b => σ.n ≤ b) (x, s) (cmdS c) ∧ Kq (fun b => σ.n ≤ b) σ s := by
  have e2 : cmdS c = [b8 c.client] ++ numS c.seq ++ [b8 c.kind] ++ (lenS c.name.length ++ c.name) ++ (lenS c.text.length ++ c.text) := rfl
  have hL : ([b8 c.client] ++ numS c.seq ++ [b8 c.kind]).length = 10 := rfl
  generalize hB : σ.n = B at *
  refine ac_wp fn15 cf15 cl15 rfl ?_
  simp only [ac15]
  unfold ab15
  simp only [wpC_seq, wpC_skip, wpCK_normal]
  refine w_mid (fun ρ s => ρ.rd 1 = .ptr B 0 ∧ s.cells B = some c.c ∧ B < s.n ∧ Kq (fun b => B ≤ b) σ s) ?_ ?_
  · simp only [WS, stepW, evalA, reduceIte, Nat.reduceEqDiff, reduceCtorEq, evalBin, Option.getD, Int.reduceToNat, Nat.reduceMul, Nat.reduceAdd, allocA, rowOf, fillA, partsV, setl, Nat.reduceLeDiff, AV.len, evalUn, Int.reduceLT, Int.reduceLE, Int.reduceEq, Int.reduceNe, Cm.c_eq, hB]
    exact ⟨by omega, by show σ.n ≤ σ.n + 1; omega, fun b h1 h2 => push_h h1⟩
  rintro ρ s ⟨g1, c0, hBn, hk⟩
  rw [wpC_seq]
  refine w_mid (fun ρ s => ρ.rd 1 = .ptr B 0 ∧ s.cells B = some c.c ∧ B < s.n ∧ Kq (fun b => B ≤ b) σ s) ?_ ?_
  · rw [Cm.c_eq] at c0
    simp only [WS, stepW, evalA, reduceIte, Nat.reduceEqDiff, reduceCtorEq, evalBin, Option.getD, Int.reduceToNat, Nat.reduceMul, Nat.reduceAdd, allocA, rowOf, fillA, partsV, setl, Nat.reduceLeDiff, AV.len, evalUn, Int.reduceLT, Int.reduceLE, Int.reduceEq, Int.reduceNe, g1, c0]
    refine (wrongR_ac c _).use ?_
    simp only [WS, stepW, evalA, reduceIte, Nat.reduceEqDiff, reduceCtorEq, evalBin, Option.getD, Int.reduceToNat, Nat.reduceMul, Nat.reduceAdd, allocA, rowOf, fillA, partsV, setl, Nat.reduceLeDiff, AV.len, evalUn, Int.reduceLT, Int.reduceLE, Int.reduceEq, Int.reduceNe, g1, c0, ne_eq, hw, not_true_eq_false, decide_false, Cm.c_eq]
    exact ⟨hBn, hk⟩
  clear g1 c0 hBn hk
  rintro ρ s ⟨g1, c0, hBn, hk⟩
  rw [wpC_seq]
  refine w_mid (fun ρ s => ρ.rd 1 = .ptr B 0 ∧ s.cells B = some c.c ∧ B < s.n ∧ Kq (fun b => B ≤ b) σ s ∧ ∃ x, ρ.rd 4 = x ∧ RB (fun b => B + 1 ≤ b) (x, s) ([b8 c.client] ++ numS c.seq ++ [b8 c.kind])) ?_ ?_
  · simp only [WS, stepW, evalA, reduceIte, Nat.reduceEqDiff, reduceCtorEq, evalBin, Option.getD, Int.reduceToNat, Nat.reduceMul, Nat.reduceAdd, allocA, rowOf, fillA, partsV, setl, Nat.reduceLeDiff, AV.len, evalUn, Int.reduceLT, Int.reduceLE, Int.reduceEq, Int.reduceNe]
    refine w_dreg follow [(3, [.int .u8 ((b8 c.client).toNat : Nat)]), (10, [.int .u8 ((b8 c.kind).toNat : Nat)])] rfl ?_
    have c1 : (addSlots s.n 13 s [(3, [.int .u8 ((b8 c.client).toNat : Nat)]), (10, [.int .u8 ((b8 c.kind).toNat : Nat)])]).cells B = some c.c := (slots_old _ hBn).trans c0
    have k3 := slots_get (s := s) (m := 13) [(3, [.int .u8 ((b8 c.client).toNat : Nat)]), (10, [.int .u8 ((b8 c.kind).toNat : Nat)])] 3 _ rfl
    have k10 := slots_get (s := s) (m := 13) [(3, [.int .u8 ((b8 c.client).toNat : Nat)]), (10, [.int .u8 ((b8 c.kind).toNat : Nat)])] 10 _ rfl
    have hnA : (addSlots s.n 13 s [(3, [.int .u8 ((b8 c.client).toNat : Nat)]), (10, [.int .u8 ((b8 c.kind).toNat : Nat)])]).n = s.n + 13 := rfl
    have hkA : ∀ b, b < s.n → (addSlots s.n 13 s [(3, [.int .u8 ((b8 c.client).toNat : Nat)]), (10, [.int .u8 ((b8 c.kind).toNat : Nat)])]).h.get b = s.h.get b := (slots_keep (Keeps.refl s)).2
    generalize addSlots s.n 13 s [(3, [.int .u8 ((b8 c.client).toNat : Nat)]), (10, [.int .u8 ((b8 c.kind).toNat : Nat)])] = s1 at *
    have r1 : RB (fun b => s.n ≤ b ∧ b ≠ s.n + 10) (.sl (s.n + 3) 0 1 (some 1) 1, s1) [b8 c.client] := RowP.of (by omega) (by simp only; omega) (cells_of k3) rfl
    have hp1 : ∀ b, s1.n ≤ b → (s.n ≤ b ∧ b ≠ s.n + 10) := fun b hb => by omega
    have hnum := num_ac (n := c.seq) r1 hp1 (by simp)
    obtain ⟨r2, hk2⟩ := pushVL_ok (numS c.seq) r1 hp1 (by simp [numS])
    generalize hP : pushVL (AV.sl (s.n + 3) 0 1 (some 1) 1, s1) (numS c.seq) = P2 at *
    obtain ⟨x2, s2⟩ := P2
    simp only at hnum hk2
    have q10 : s2.h.get (s.n + 10) = some (.cells [.int .u8 ((b8 c.kind).toNat : Nat)]) := (hk2.2 _ (by omega) (by omega)).trans k10
    have hy : RowP (fun b => b = s.n + 10) s2 (.sl (s.n + 10) 0 1 (some 1) 1) [.int .u8 ((b8 c.kind).toNat : Nat)] 1 1 := .of rfl (by have := hk2.1; omega) (cells_of q10) rfl
    obtain ⟨b3, cap3, s3, happ, r3, hn3, hk3⟩ := app_rowS (bytes := 1) r2 (by have := hk2.1; simp only; omega) hy.len.1 hy.firstA rfl rfl (by omega) (by simp [numS])
    have c2 : s2.cells B = some c.c := (get_cells (hk2.2 B (by omega) (by omega))).trans c1
    simp only at happ hn3 hk3
    have c3 : s3.cells B = some c.c := (get_cells (hk3 B (by have := hk2.1; omega) (by omega))).trans c2
    rw [Cm.c_eq] at c1 c2 c3
    have hK : Kq (fun b => B ≤ b) σ s3 := by
      refine ⟨by have := hk.1; have := hk2.1; omega, fun b h1 h2 => ?_⟩
      rw [hk3 b (by have := hk.1; have := hk2.1; omega) (by have := hk.1; omega), hk2.2 b (by have := hk.1; omega) (by have := hk.1; omega), hkA b (by have := hk.1; omega), hk.2 b h1 h2]
    simp only [WS, stepW, evalA, reduceIte, Nat.reduceEqDiff, reduceCtorEq, evalBin, Option.getD, Int.reduceToNat, Nat.reduceMul, Nat.reduceAdd, allocA, rowOf, fillA, partsV, setl, Nat.reduceLeDiff, AV.len, evalUn, Int.reduceLT, Int.reduceLE, Int.reduceEq, Int.reduceNe, DS, isSl, AOp.pure, AOp.reader, allocD, AOp.quiet, isSlot, Nat.reduceBEq, g1, c1, e_b8]
    refine hnum.useD ?_
    simp only [WS, stepW, evalA, reduceIte, Nat.reduceEqDiff, reduceCtorEq, evalBin, Option.getD, Int.reduceToNat, Nat.reduceMul, Nat.reduceAdd, allocA, rowOf, fillA, partsV, setl, Nat.reduceLeDiff, AV.len, evalUn, Int.reduceLT, Int.reduceLE, Int.reduceEq, Int.reduceNe, DS, isSl, AOp.pure, AOp.reader, allocD, AOp.quiet, isSlot, Nat.reduceBEq, g1, c1, c2, e_b8]
    simp only [happ]
    simp only [WS, stepW, evalA, reduceIte, Nat.reduceEqDiff, reduceCtorEq, evalBin, Option.getD, Int.reduceToNat, Nat.reduceMul, Nat.reduceAdd, allocA, rowOf, fillA, partsV, setl, Nat.reduceLeDiff, AV.len, evalUn, Int.reduceLT, Int.reduceLE, Int.reduceEq, Int.reduceNe, DS, isSl, AOp.pure, AOp.reader, allocD, AOp.quiet, isSlot, Nat.reduceBEq, g1, c1, c2, c3]
    refine ⟨⟨?_, ?_⟩, ?_⟩
    · intro l hl c hc hf
      simp only [List.mem_cons, List.mem_nil_iff, List.not_mem_nil, or_false] at hl hc
      rcases hl with rfl | rfl | rfl <;> rcases hc with rfl | rfl | rfl <;> dsimp only at hf ⊢ <;> first
        | (exact absurd hf (by decide +kernel))
        | (simp only [WS, stepW, evalA, reduceIte, Nat.reduceEqDiff, reduceCtorEq, evalBin, Option.getD, Int.reduceToNat, Nat.reduceMul, Nat.reduceAdd, allocA, rowOf, fillA, partsV, setl, Nat.reduceLeDiff, AV.len, evalUn, Int.reduceLT, Int.reduceLE, Int.reduceEq, Int.reduceNe, g1, c1, c2, c3]; done)
    · intro sl hsl c hc hf
      simp only [List.mem_cons, List.mem_nil_iff, List.not_mem_nil, or_false] at hsl hc
      rcases hsl with rfl | rfl <;> rcases hc with rfl | rfl | rfl <;> dsimp only at hf ⊢ <;> first
        | (exact absurd hf (by decide +kernel))
        | exact ⟨by omega, k3⟩
        | exact ⟨by omega, k10⟩
        | exact ⟨by have := hk2.1; omega, q10⟩
    · refine ⟨by rw [Cm.c_eq], by have := hk2.1; omega, hK, _, rfl, ?_⟩
      have e3 : (b8 c.client :: (numS c.seq ++ [b8 c.kind])).length = (numS c.seq).length + 1 + 1 := by simp
      unfold RB
      rw [e3]
      have r4 := r3.mono (q := fun b => B + 1 ≤ b) fun b h1 _ => by omega
      simpa [ofU8s] using r4
  have hl10 : ([b8 c.client] ++ numS c.seq ++ [b8 c.kind]).length = 10 := rfl
  rw [e2]
  generalize [b8 c.client] ++ numS c.seq ++ [b8 c.kind] = L at *
  clear g1 c0 hBn hk e2
  rintro ρ s ⟨g1, c0, hBn, hk, x, g4, r⟩
  simp only [WS, stepW, evalA, reduceIte, Nat.reduceEqDiff, reduceCtorEq, evalBin, Option.getD, Int.reduceToNat, Nat.reduceMul, Nat.reduceAdd, allocA, rowOf, fillA, partsV, setl, Nat.reduceLeDiff, AV.len, evalUn, Int.reduceLT, Int.reduceLE, Int.reduceEq, Int.reduceNe]
  refine w_dreg follow [(3, ofU8s c.name), (7, ofU8s c.text)] rfl ?_
  have c1 : (addSlots s.n 11 s [(3, ofU8s c.name), (7, ofU8s c.text)]).cells B = some c.c := (slots_old _ hBn).trans c0
  have k3 := slots_get (s := s) (m := 11) [(3, ofU8s c.name), (7, ofU8s c.text)] 3 _ rfl
  have k7 := slots_get (s := s) (m := 11) [(3, ofU8s c.name), (7, ofU8s c.text)] 7 _ rfl
  have hnA : (addSlots s.n 11 s [(3, ofU8s c.name), (7, ofU8s c.text)]).n = s.n + 11 := rfl
  have hkA : ∀ b, b < s.n → (addSlots s.n 11 s [(3, ofU8s c.name), (7, ofU8s c.text)]).h.get b = s.h.get b := (slots_keep (Keeps.refl s)).2
  have r1 : RowP (fun b => B + 1 ≤ b ∧ b ≠ s.n + 3 ∧ b ≠ s.n + 7) (addSlots s.n 11 s [(3, ofU8s c.name), (7, ofU8s c.text)]) x (ofU8s L) L.length 1 := ((r.mono fun b h1 h2 => by simp only at h2; omega).slotsL 11 _)
  generalize addSlots s.n 11 s [(3, ofU8s c.name), (7, ofU8s c.text)] = s1 at *
  have hp1 : ∀ b, s1.n ≤ b → (B + 1 ≤ b ∧ b ≠ s.n + 3 ∧ b ≠ s.n + 7) := fun b hb => by omega
  obtain ⟨x2, s2, hac2, r2, hk2⟩ := bytesR_ac (l := L) (m := c.name) (cap := none) r1 hp1 (by omega) (by omega) rfl (by omega : s.n + 3 < s1.n) (by omega) (cells_of k3)
  have hl2 : (L ++ (lenS (c.name.length : Int) ++ c.name)).length = 12 + c.name.length := by simp only [List.length_append, lenS, List.length_cons, List.length_nil]; omega
  have q7 : s2.h.get (s.n + 7) = some (.cells (ofU8s c.text)) := (hk2.2 _ (by omega) (by omega)).trans k7
  have hn2 := hk2.1
  obtain ⟨x3, s3, hac3, r3, hk3⟩ := bytesR_ac (m := c.text) (cap := none) r2 (fun b hb => hp1 b (by omega)) (by omega) (by omega) rfl (by omega : s.n + 7 < s2.n) (by omega) (cells_of q7)
  have c2 : s2.cells B = some c.c := (get_cells (hk2.2 B (by omega) (by omega))).trans c1
  have c3 : s3.cells B = some c.c := (get_cells (hk3.2 B (by omega) (by omega))).trans c2
  rw [Cm.c_eq] at c1 c2 c3
  have hn3 := hk3.1
  have hn0 := hk.1
  have hK : Kq (fun b => B ≤ b) σ s3 := by
    refine ⟨by omega, fun b h1 h2 => ?_⟩
    rw [hk3.2 b (by omega) (by omega), hk2.2 b (by omega) (by omega), hkA b (by omega), hk.2 b h1 h2]
  simp only [WS, stepW, evalA, reduceIte, Nat.reduceEqDiff, reduceCtorEq, evalBin, Option.getD, Int.reduceToNat, Nat.reduceMul, Nat.reduceAdd, allocA, rowOf, fillA, partsV, setl, Nat.reduceLeDiff, AV.len, evalUn, Int.reduceLT, Int.reduceLE, Int.reduceEq, Int.reduceNe, DS, isSl, AOp.pure, AOp.reader, allocD, AOp.quiet, isSlot, Nat.reduceBEq, g1, g4, c1, map_u8]
  refine hac2.useD ?_
  simp only [WS, stepW, evalA, reduceIte, Nat.reduceEqDiff, reduceCtorEq, evalBin, Option.getD, Int.reduceToNat, Nat.reduceMul, Nat.reduceAdd, allocA, rowOf, fillA, partsV, setl, Nat.reduceLeDiff, AV.len, evalUn, Int.reduceLT, Int.reduceLE, Int.reduceEq, Int.reduceNe, DS, isSl, AOp.pure, AOp.reader, allocD, AOp.quiet, isSlot, Nat.reduceBEq, g1, c2, map_u8]
  refine hac3.useD ?_
  simp only [WS, stepW, evalA, reduceIte, Nat.reduceEqDiff, reduceCtorEq, evalBin, Option.getD, Int.reduceToNat, Nat.reduceMul, Nat.reduceAdd, allocA, rowOf, fillA, partsV, setl, Nat.reduceLeDiff, AV.len, evalUn, Int.reduceLT, Int.reduceLE, Int.reduceEq, Int.reduceNe, DS, isSl, AOp.pure, AOp.reader, allocD, AOp.quiet, isSlot, Nat.reduceBEq, g1, c3]
  refine ⟨⟨?_, ?_⟩, ?_⟩
  · intro l hl c hc hf
    simp only [List.mem_cons, List.mem_nil_iff, List.not_mem_nil, or_false] at hl hc
    rcases hl with rfl | rfl <;> rcases hc with rfl | rfl | rfl <;> dsimp only at hf ⊢ <;> first
      | (exact absurd hf (by decide +kernel))
      | (simp only [WS, stepW, evalA, reduceIte, Nat.reduceEqDiff, reduceCtorEq, evalBin, Option.getD, Int.reduceToNat, Nat.reduceMul, Nat.reduceAdd, allocA, rowOf, fillA, partsV, setl, Nat.reduceLeDiff, AV.len, evalUn, Int.reduceLT, Int.reduceLE, Int.reduceEq, Int.reduceNe, g1, c1, c2, c3]; done)
  · intro sl hsl c hc hf
    simp only [List.mem_cons, List.mem_nil_iff, List.not_mem_nil, or_false] at hsl hc
    rcases hsl with rfl | rfl <;> rcases hc with rfl | rfl | rfl <;> dsimp only at hf ⊢ <;> first
      | (exact absurd hf (by decide +kernel))
      | exact ⟨by omega, k3⟩
      | exact ⟨by omega, k7⟩
      | exact ⟨by omega, q7⟩
  · refine ⟨x3, rfl, ?_, hK⟩
    exact RowP.mono r3 fun b h1 _ => by omega
end Go.Proofs.Ythobpdfchhihnaa.Va
