/- The law 'PackCmds' returns true at each input. Conditions: none. -/
import Derived.Test.YthobpdfchhihnaaPkM
set_option maxRecDepth 100000
set_option maxHeartbeats 4000000
set_option linter.all false
namespace Go.Proofs.Ythobpdfchhihnaa.Va
open Go.Proofs
/- A row of bytes in the law's hands: fixed, or the head of a block. -/
def RowL (s : AState) (v : AV) (l : List UInt8) : Prop := v = .psl (ofU8s l) 0 l.length ∨ v = .nils ∧ l = [] ∨ ∃ b cap cs, v = .sl b 0 l.length cap 1 ∧ b < s.n ∧ s.cells b = some cs ∧ ofU8s l = seg cs 0 l.length ∧ l.length ≤ cs.length
theorem RowL.isB {s : AState} {v : AV} {l : List UInt8} (h : RowL s v l) : IsB s v l := by
  rcases h with rfl | ⟨rfl, rfl⟩ | ⟨b, cap, cs, rfl, hbn, hc, hs, hl⟩
  · exact isB_psl _ _
  · exact pur_nils _ _
  · refine .sl _ _ _ _ _ _ _ hc (by omega) (by rw [ofU8s_length]; omega) fun i hi hi' => ?_
    have e : (ofU8s l)[i]? = cs[i]? := by
      rw [hs]
      rw [ofU8s_length] at hi'
      have := seg_get (cs := cs) (m := l.length) (o := i) hi'
      exact this
    rw [List.getElem?_eq_getElem hi', List.getElem?_eq_getElem (by omega)] at e
    have e' := Option.some.inj e
    simp only [Nat.zero_add]
    rw [← e']
    exact .flat _ (ofU8s_flat hi')
theorem RowL.first {s : AState} {v : AV} {l : List UInt8} (h : RowL s v l) : firstA s 1 l.length v = some (ofU8s l) := by
  rcases h with rfl | ⟨rfl, rfl⟩ | ⟨b, cap, cs, rfl, hbn, hc, hs, hl⟩
  · exact firstA_psl
  · rfl
  · rw [firstA_own hc (by omega), Nat.mul_one, ← hs]
theorem RowL.len {s : AState} {v : AV} {l : List UInt8} (h : RowL s v l) : v.len = some l.length := by
  rcases h with rfl | ⟨rfl, rfl⟩ | ⟨b, cap, cs, rfl, hbn, hc, hs, hl⟩ <;> rfl
theorem RowL.move {s s' : AState} {v : AV} {l : List UInt8} (h : RowL s v l) (hn : s.n ≤ s'.n) (hk : ∀ b, b < s.n → s'.h.get b = s.h.get b) : RowL s' v l := by
  rcases h with h | h | ⟨b, cap, cs, rfl, hbn, hc, hs, hl⟩
  · exact .inl h
  · exact .inr (.inl h)
  · exact .inr (.inr ⟨b, cap, cs, rfl, by omega, (get_cells (hk _ hbn)).trans hc, hs, hl⟩)
theorem RowP.rowL {p : Nat → Prop} {s : AState} {v : AV} {l : List UInt8} (h : RowP p s v (ofU8s l) l.length 1) : RowL s v l := by
  rcases h with ⟨rfl, h2, _⟩ | ⟨b, cap, cs, rfl, h1, h2, h3, h4, h5, h6⟩
  · exact .inr (.inl ⟨rfl, List.eq_nil_of_length_eq_zero h2⟩)
  · rw [Nat.mul_one] at h4 h5
    exact .inr (.inr ⟨b, cap, cs, rfl, h2, h3, h4, h5⟩)
theorem RowL.one {s : AState} {v : AV} {l : List UInt8} (h : RowL s v l) (h3 : v ≠ .undef) : v.cells = [v] ∧ v.one = true := by
  rcases h with rfl | ⟨rfl, rfl⟩ | ⟨b, cap, cs, rfl, hbn, hc, hs, hl⟩ <;> exact ⟨rfl, rfl⟩

theorem ecm_self (a b k : Int) (n t : List UInt8) : evalEq (.agg [.i, .i, .i, .s, .s]) (.agg [.int .i64 a, .int .i64 b, .int .i64 k, .str n, .str t]) (.agg [.int .i64 a, .int .i64 b, .int .i64 k, .str n, .str t]) = some true := by
  simp [evalEq, eqCells, eqCell]
theorem packCmds_ac (c : Cm) (at_ : Int) (by_ : UInt8) (cut : Int) (raw : List UInt8) (hseq : c.seq < 9223372036854775808) : AC Try.prog 4 [.agg c.c, .int .i64 at_, .int .u8 by_.toNat, .int .i64 cut, .psl (ofU8s raw) 0 raw.length] st0 fun v _ => v = .bool true := by
  refine ac_wp fn4 cf4 cl4 rfl ?_
  simp only [ac4]
  unfold ab4
  simp only [wpC_seq, wpC_skip, wpCK_normal]
  refine w_mid (fun ρ s => ρ.rd 1 = .int .i64 at_ ∧ ρ.rd 2 = .int .u8 by_.toNat ∧ ρ.rd 3 = .int .i64 cut ∧ ρ.rd 4 = .psl (ofU8s raw) 0 raw.length ∧ ρ.rd 5 = .ptr 0 0 ∧ s.n = 1 ∧ s.cells 0 = some c.c) ?_ ?_
  · simp only [WS, stepW, evalA, reduceIte, Nat.reduceEqDiff, reduceCtorEq, evalBin, Option.getD, Int.reduceToNat, Nat.reduceMul, Nat.reduceAdd, allocA, rowOf, fillA, partsV, setl, Nat.reduceLeDiff, AV.len, evalUn, Int.reduceLT, Int.reduceLE, Int.reduceEq, Int.reduceNe, Cm.c_eq]
  rintro ρ s ⟨g1, g2, g3, g4, g5, hn, c0⟩
  rw [wpC_seq]
  refine w_mid (fun ρ s => ρ.rd 1 = .int .i64 at_ ∧ ρ.rd 2 = .int .u8 by_.toNat ∧ ρ.rd 3 = .int .i64 cut ∧ ρ.rd 4 = .psl (ofU8s raw) 0 raw.length ∧ ρ.rd 5 = .ptr 0 0 ∧ s.n = 1 ∧ s.cells 0 = some c.c) ?_ ?_
  · simp only [WS, stepW, evalA, reduceIte, Nat.reduceEqDiff, reduceCtorEq, evalBin, Option.getD, Int.reduceToNat, Nat.reduceMul, Nat.reduceAdd, allocA, rowOf, fillA, partsV, setl, Nat.reduceLeDiff, AV.len, evalUn, Int.reduceLT, Int.reduceLE, Int.reduceEq, Int.reduceNe]
    refine (known_ac s).use' ?_
    simp only [WS, stepW, evalA, reduceIte, Nat.reduceEqDiff, reduceCtorEq, evalBin, Option.getD, Int.reduceToNat, Nat.reduceMul, Nat.reduceAdd, allocA, rowOf, fillA, partsV, setl, Nat.reduceLeDiff, AV.len, evalUn, Int.reduceLT, Int.reduceLE, Int.reduceEq, Int.reduceNe, g1, g2, g3, g4, g5, hn, c0, evalUn]
  clear g1 g2 g3 g4 g5 hn c0
  rintro ρ s ⟨g1, g2, g3, g4, g5, hn, c0⟩
  by_cases a1 : (c.name.length : Int) > 300
  · rw [Cm.c_eq] at c0
    simp only [WS, stepW, evalA, reduceIte, Nat.reduceEqDiff, reduceCtorEq, evalBin, Option.getD, Int.reduceToNat, Nat.reduceMul, Nat.reduceAdd, allocA, rowOf, fillA, partsV, setl, Nat.reduceLeDiff, AV.len, evalUn, Int.reduceLT, Int.reduceLE, Int.reduceEq, Int.reduceNe, g1, g2, g3, g4, g5, c0, a1, decide_true]
  by_cases a2 : (c.text.length : Int) > 1000
  · rw [Cm.c_eq] at c0
    simp only [WS, stepW, evalA, reduceIte, Nat.reduceEqDiff, reduceCtorEq, evalBin, Option.getD, Int.reduceToNat, Nat.reduceMul, Nat.reduceAdd, allocA, rowOf, fillA, partsV, setl, Nat.reduceLeDiff, AV.len, evalUn, Int.reduceLT, Int.reduceLE, Int.reduceEq, Int.reduceNe, g1, g2, g3, g4, g5, c0, a1, a2, decide_true, decide_false]
  by_cases a3 : (raw.length : Int) > 500
  · rw [Cm.c_eq] at c0
    simp only [WS, stepW, evalA, reduceIte, Nat.reduceEqDiff, reduceCtorEq, evalBin, Option.getD, Int.reduceToNat, Nat.reduceMul, Nat.reduceAdd, allocA, rowOf, fillA, partsV, setl, Nat.reduceLeDiff, AV.len, evalUn, Int.reduceLT, Int.reduceLE, Int.reduceEq, Int.reduceNe, g1, g2, g3, g4, g5, c0, a1, a2, a3, decide_true, decide_false]
  rw [wpC_seq]
  refine w_mid (fun ρ s => ρ.rd 1 = .int .i64 at_ ∧ ρ.rd 2 = .int .u8 by_.toNat ∧ ρ.rd 3 = .int .i64 cut ∧ ρ.rd 4 = .psl (ofU8s raw) 0 raw.length ∧ ρ.rd 5 = .ptr 0 0 ∧ s.n = 1 ∧ s.cells 0 = some c.c) ?_ ?_
  · rw [Cm.c_eq] at c0
    simp only [WS, stepW, evalA, reduceIte, Nat.reduceEqDiff, reduceCtorEq, evalBin, Option.getD, Int.reduceToNat, Nat.reduceMul, Nat.reduceAdd, allocA, rowOf, fillA, partsV, setl, Nat.reduceLeDiff, AV.len, evalUn, Int.reduceLT, Int.reduceLE, Int.reduceEq, Int.reduceNe, g1, g2, g3, g4, g5, c0, a1, a2, a3, decide_true, decide_false, hn, Cm.c_eq]
  clear g1 g2 g3 g4 g5 hn c0
  rintro ρ s ⟨g1, g2, g3, g4, g5, hn, c0⟩
  have cn : c.name.length ≤ 1000 := by omega
  have ct : c.text.length ≤ 1000 := by omega
  rw [wpC_seq]
  refine w_mid (fun ρ s => ρ.rd 1 = .int .i64 at_ ∧ ρ.rd 2 = .int .u8 by_.toNat ∧ ρ.rd 3 = .int .i64 cut ∧ ρ.rd 4 = .psl (ofU8s raw) 0 raw.length ∧ ρ.rd 5 = .ptr 0 0 ∧ s.n = 1 ∧ s.cells 0 = some c.c ∧ .tup [ρ.rd 11, ρ.rd 12] = cmdV c) ?_ ?_
  · have c0' := c0
    rw [Cm.c_eq] at c0'
    simp only [WS, stepW, evalA, reduceIte, Nat.reduceEqDiff, reduceCtorEq, evalBin, Option.getD, Int.reduceToNat, Nat.reduceMul, Nat.reduceAdd, allocA, rowOf, fillA, partsV, setl, Nat.reduceLeDiff, AV.len, evalUn, Int.reduceLT, Int.reduceLE, Int.reduceEq, Int.reduceNe, g1, g2, g3, g4, g5, c0']
    rw [seg5, ← Cm.c_eq]
    refine (cmd_ac cn ct _).use ?_
    by_cases hw : wrongS c = 0
    · have ev : cmdV c = tupB (cmdS c) 0 := by rw [cmdV, hw]; rfl
      rw [ev]
      simp only [WS, stepW, evalA, reduceIte, Nat.reduceEqDiff, reduceCtorEq, evalBin, Option.getD, Int.reduceToNat, Nat.reduceMul, Nat.reduceAdd, allocA, rowOf, fillA, partsV, setl, Nat.reduceLeDiff, AV.len, evalUn, Int.reduceLT, Int.reduceLE, Int.reduceEq, Int.reduceNe, tupB, g1, g2, g3, g4, g5, hn]
      exact c0
    · have ev : cmdV c = tupB [] (wrongS c) := by
        unfold cmdV
        split
        · rename_i h; exact absurd h hw
        · rfl
      rw [ev]
      simp only [WS, stepW, evalA, reduceIte, Nat.reduceEqDiff, reduceCtorEq, evalBin, Option.getD, Int.reduceToNat, Nat.reduceMul, Nat.reduceAdd, allocA, rowOf, fillA, partsV, setl, Nat.reduceLeDiff, AV.len, evalUn, Int.reduceLT, Int.reduceLE, Int.reduceEq, Int.reduceNe, tupB, g1, g2, g3, g4, g5, hn]
      exact c0
  clear g1 g2 g3 g4 g5 hn c0
  rintro ρ s ⟨g1, g2, g3, g4, g5, hn, c0, g11⟩
  have hlc : (cmdS c).length ≤ 1700 := by
    simp only [cmdS, List.length_append, numS_len, lenS, List.length_cons, List.length_nil]; omega
  /- both have written the same -/
  have hout : ∃ (la : List UInt8) (e : Int), cmdV c = tupB la e ∧ ((wrongS c = 0 ∧ la = cmdS c ∧ e = 0) ∨ (wrongS c ≠ 0 ∧ la = [] ∧ e = wrongS c)) := by
    by_cases hw : wrongS c = 0
    · exact ⟨_, _, by rw [cmdV, hw]; rfl, .inl ⟨hw, rfl, rfl⟩⟩
    · refine ⟨[], wrongS c, ?_, .inr ⟨hw, rfl, rfl⟩⟩
      unfold cmdV
      split
      · rename_i h; exact absurd h hw
      · rfl
  obtain ⟨la, e, ev, hcase⟩ := hout
  rw [ev, tupB] at g11
  simp only [AV.tup.injEq, List.cons.injEq, and_true] at g11
  obtain ⟨g11, g12⟩ := g11
  rw [wpC_seq]
  refine w_mid (fun ρ s => ρ.rd 1 = .int .i64 at_ ∧ ρ.rd 2 = .int .u8 by_.toNat ∧ ρ.rd 3 = .int .i64 cut ∧ ρ.rd 4 = .psl (ofU8s raw) 0 raw.length ∧ ρ.rd 5 = .ptr 0 0 ∧ 1 ≤ s.n ∧ s.cells 0 = some c.c ∧ ρ.rd 11 = .psl (ofU8s la) 0 la.length ∧ ρ.rd 12 = .int .i64 e ∧ ρ.rd 14 = .int .i64 e ∧ ∃ x, ρ.rd 13 = x ∧ RowP (fun b => 1 ≤ b) s x (ofU8s la) la.length 1) ?_ ?_
  · have c0' := c0
    rw [Cm.c_eq] at c0'
    simp only [WS, stepW, evalA, reduceIte, Nat.reduceEqDiff, reduceCtorEq, evalBin, Option.getD, Int.reduceToNat, Nat.reduceMul, Nat.reduceAdd, allocA, rowOf, fillA, partsV, setl, Nat.reduceLeDiff, AV.len, evalUn, Int.reduceLT, Int.reduceLE, Int.reduceEq, Int.reduceNe, g1, g2, g3, g4, g5, c0']
    rw [seg5, ← Cm.c_eq]
    rcases hcase with ⟨hw, rfl, rfl⟩ | ⟨hw, rfl, rfl⟩
    · refine (cmdR_ok cn ct hw _).mono ?_
      rintro v s' ⟨x, rfl, hr, hk⟩
      rw [hn] at hr hk
      simp only [WS, stepW, evalA, reduceIte, Nat.reduceEqDiff, reduceCtorEq, evalBin, Option.getD, Int.reduceToNat, Nat.reduceMul, Nat.reduceAdd, allocA, rowOf, fillA, partsV, setl, Nat.reduceLeDiff, AV.len, evalUn, Int.reduceLT, Int.reduceLE, Int.reduceEq, Int.reduceNe, g1, g2, g3, g4, g5, g11, g12]
      refine ⟨by have := hk.1; omega, (get_cells (hk.2 0 (by omega) (by omega))).trans c0, x, rfl, hr⟩
    · refine (cmdR_bad hw _).mono ?_
      rintro v s' ⟨rfl, hk⟩
      rw [hn] at hk
      simp only [WS, stepW, evalA, reduceIte, Nat.reduceEqDiff, reduceCtorEq, evalBin, Option.getD, Int.reduceToNat, Nat.reduceMul, Nat.reduceAdd, allocA, rowOf, fillA, partsV, setl, Nat.reduceLeDiff, AV.len, evalUn, Int.reduceLT, Int.reduceLE, Int.reduceEq, Int.reduceNe, g1, g2, g3, g4, g5, g11, g12]
      refine ⟨by have := hk.1; omega, (get_cells (hk.2 0 (by omega) (by omega))).trans c0, _, rfl, RowP.nil _ _ _⟩
  clear g1 g2 g3 g4 g5 hn c0 g11 g12
  rintro ρ s ⟨g1, g2, g3, g4, g5, hn, c0, g11, g12, g14, x, g13, hrow⟩
  have hfx := hrow.firstA
  rw [wpC_seq]
  refine w_mid (fun ρ s' => s' = s ∧ ρ.rd 1 = .int .i64 at_ ∧ ρ.rd 2 = .int .u8 by_.toNat ∧ ρ.rd 3 = .int .i64 cut ∧ ρ.rd 4 = .psl (ofU8s raw) 0 raw.length ∧ ρ.rd 5 = .ptr 0 0 ∧ ρ.rd 11 = .psl (ofU8s la) 0 la.length ∧ ρ.rd 12 = .int .i64 e ∧ ρ.rd 13 = x) ?_ ?_
  · rcases hrow.form with rfl | ⟨b, cap, rfl⟩
    · have : la = [] := by
        rcases hrow with ⟨_, h2, _⟩ | ⟨_, _, _, h, _⟩
        · exact List.eq_nil_of_length_eq_zero h2
        · cases h
      subst this
      have z1 : firstA s 1 0 (.psl (ofU8s []) 0 0) = some [] := rfl
      have z2 : u8s [] = some [] := rfl
      simp only [WS, stepW, evalA, reduceIte, Nat.reduceEqDiff, reduceCtorEq, evalBin, Option.getD, Int.reduceToNat, Nat.reduceMul, Nat.reduceAdd, allocA, rowOf, fillA, partsV, setl, Nat.reduceLeDiff, AV.len, evalUn, Int.reduceLT, Int.reduceLE, Int.reduceEq, Int.reduceNe, g1, g2, g3, g4, g5, g11, g12, g13, g14, z1, z2, u8s_ofU8s, str_neq, ne_eq, not_true_eq_false, decide_false]
    · simp only [WS, stepW, evalA, reduceIte, Nat.reduceEqDiff, reduceCtorEq, evalBin, Option.getD, Int.reduceToNat, Nat.reduceMul, Nat.reduceAdd, allocA, rowOf, fillA, partsV, setl, Nat.reduceLeDiff, AV.len, evalUn, Int.reduceLT, Int.reduceLE, Int.reduceEq, Int.reduceNe, g1, g2, g3, g4, g5, g11, g12, g13, g14, firstA_psl, hfx, u8s_ofU8s, str_neq, ne_eq, not_true_eq_false, decide_false]
  clear g1 g2 g3 g4 g5 g11 g12 g13 g14
  rintro ρ s' ⟨rfl, g1, g2, g3, g4, g5, g11, g12, g13⟩
  rw [wpC_seq]
  refine w_mid (fun ρ s => ρ.rd 4 = .psl (ofU8s raw) 0 raw.length ∧ ∃ lb, RowL s (ρ.rd 13) lb ∧ lb.length ≤ 2000) ?_ ?_
  · rcases hcase with ⟨hw, rfl, rfl⟩ | ⟨hw, rfl, rfl⟩
    rotate_left
    · have hnil : RowL s' x [] := by
        rcases hrow with ⟨h, _⟩ | ⟨b, cap, cs, rfl, h1, h2, h3, h4, h5⟩
        · exact .inr (.inl ⟨h, rfl⟩)
        · exact .inr (.inr ⟨b, cap, cs, rfl, h2, h3, h4, by simp⟩)
      simp only [WS, stepW, evalA, reduceIte, Nat.reduceEqDiff, reduceCtorEq, evalBin, Option.getD, Int.reduceToNat, Nat.reduceMul, Nat.reduceAdd, allocA, rowOf, fillA, partsV, setl, Nat.reduceLeDiff, AV.len, evalUn, Int.reduceLT, Int.reduceLE, Int.reduceEq, Int.reduceNe, g12, hw, g4, g13, decide_false]
      exact ⟨[], hnil, by simp⟩
    have hla : 0 < (cmdS c).length := by simp [cmdS]
    obtain ⟨b, cap, cs, hS⟩ := hrow.some hla
    have hx := hS.eq
    subst hx
    rw [wpC_seq]
    refine w_mid (fun ρ t => t = s' ∧ ρ.rd 63 = .bool true ∧ ρ.rd 1 = .int .i64 at_ ∧ ρ.rd 2 = .int .u8 by_.toNat ∧ ρ.rd 3 = .int .i64 cut ∧ ρ.rd 4 = .psl (ofU8s raw) 0 raw.length ∧ ρ.rd 5 = .ptr 0 0 ∧ ρ.rd 11 = .psl (ofU8s (cmdS c)) 0 (cmdS c).length ∧ ρ.rd 13 = .sl b 0 (cmdS c).length cap 1) ?_ ?_
    · simp only [WS, stepW, evalA, reduceIte, Nat.reduceEqDiff, reduceCtorEq, evalBin, Option.getD, Int.reduceToNat, Nat.reduceMul, Nat.reduceAdd, allocA, rowOf, fillA, partsV, setl, Nat.reduceLeDiff, AV.len, evalUn, Int.reduceLT, Int.reduceLE, Int.reduceEq, Int.reduceNe, g1, g2, g3, g4, g5, g11, g12, g13, decide_true]
    clear g1 g2 g3 g4 g5 g11 g12 g13
    rintro ρ s ⟨rfl, g63, g1, g2, g3, g4, g5, g11, g13⟩
    simp only [wpC_cond, Opd.ev, g63, onB, Br_true]
    rw [wpC_seq]
    refine w_mid (fun ρ s' => ρ.rd 1 = .int .i64 at_ ∧ ρ.rd 2 = .int .u8 by_.toNat ∧ ρ.rd 3 = .int .i64 cut ∧ ρ.rd 4 = .psl (ofU8s raw) 0 raw.length ∧ ρ.rd 5 = .ptr 0 0 ∧ ρ.rd 13 = .sl b 0 (cmdS c).length cap 1 ∧ s'.cells b = some cs ∧ b < s'.n ∧ s'.cells 0 = some c.c ∧ ∃ q, ρ.rd 15 = .ptr q 0 ∧ s'.cells q = some c.c ∧ ρ.rd 16 = .int .i64 0) ?_ ?_
    · simp only [WS, stepW, evalA, reduceIte, Nat.reduceEqDiff, reduceCtorEq, evalBin, Option.getD, Int.reduceToNat, Nat.reduceMul, Nat.reduceAdd, allocA, rowOf, fillA, partsV, setl, Nat.reduceLeDiff, AV.len, evalUn, Int.reduceLT, Int.reduceLE, Int.reduceEq, Int.reduceNe, g11]
      refine (parse_ac (by omega) (isB_psl _ _)).use ?_
      rw [parse_cmd hw hseq]
      simp only [WS, stepW, evalA, reduceIte, Nat.reduceEqDiff, reduceCtorEq, evalBin, Option.getD, Int.reduceToNat, Nat.reduceMul, Nat.reduceAdd, allocA, rowOf, fillA, partsV, setl, Nat.reduceLeDiff, AV.len, evalUn, Int.reduceLT, Int.reduceLE, Int.reduceEq, Int.reduceNe, g1, g2, g3, g4, g5, g13, Cm.c_eq, storeA, sets, setx, TS]
      have nb : ¬ b = s.n := by have := hS.lt; omega
      have n0 : ¬ 0 = s.n := by omega
      rw [Cm.c_eq] at c0
      simp only [nb, n0, if_false]
      exact ⟨hS.cells, by have := hS.lt; omega, c0, s.n, rfl, by rw [if_pos rfl]⟩
    clear g63 g1 g2 g3 g4 g5 g11 g13 c0
    rintro ρ t ⟨g1, g2, g3, g4, g5, g13, ccs, hbl, c0, q, g15, cq, g16⟩
    rw [wpC_seq]
    refine w_mid (fun ρ t' => t' = t ∧ ρ.rd 1 = .int .i64 at_ ∧ ρ.rd 2 = .int .u8 by_.toNat ∧ ρ.rd 3 = .int .i64 cut ∧ ρ.rd 4 = .psl (ofU8s raw) 0 raw.length ∧ ρ.rd 13 = .sl b 0 (cmdS c).length cap 1) ?_ ?_
    · rw [Cm.c_eq] at c0 cq
      simp only [WS, stepW, evalA, reduceIte, Nat.reduceEqDiff, reduceCtorEq, evalBin, Option.getD, Int.reduceToNat, Nat.reduceMul, Nat.reduceAdd, allocA, rowOf, fillA, partsV, setl, Nat.reduceLeDiff, AV.len, evalUn, Int.reduceLT, Int.reduceLE, Int.reduceEq, Int.reduceNe, g1, g2, g3, g4, g5, g13, g15, g16, c0, cq, seg5, ecm_self, Bool.not_true]
    clear g1 g2 g3 g4 g5 g13 c0 g15 cq g16
    rintro ρ t' ⟨rfl, g1, g2, g3, g4, g13⟩
    have hwr := wi_range at_ (n := ((cmdS c).length : Nat)) (by omega)
    obtain ⟨k, hk⟩ : ∃ k : Nat, wi at_ ((cmdS c).length : Nat) = k := ⟨(wi at_ ((cmdS c).length : Nat)).toNat, by omega⟩
    have hkl : k < (cmdS c).length := by omega
    have hr := lt_idx hkl
    have hget : cs[k]? = some (.int .u8 ((cmdS c)[k].toNat : Nat)) := by
      rw [hS.get (o := k) (by omega)]; exact ofU8s_get hkl
    rw [wpC_seq]
    refine w_mid (fun ρ s2 => ρ.rd 3 = .int .i64 cut ∧ ρ.rd 4 = .psl (ofU8s raw) 0 raw.length ∧ ρ.rd 13 = .sl b 0 (cmdS c).length cap 1 ∧ b < s2.n ∧ ∃ y : UInt8, s2.cells b = some (setx cs k (.int .u8 (y.toNat : Nat)))) ?_ ?_
    · simp only [WS, stepW, evalA, reduceIte, Nat.reduceEqDiff, reduceCtorEq, evalBin, Option.getD, Int.reduceToNat, Nat.reduceMul, Nat.reduceAdd, allocA, rowOf, fillA, partsV, setl, Nat.reduceLeDiff, AV.len, evalUn, Int.reduceLT, Int.reduceLE, Int.reduceEq, Int.reduceNe, g1, g2, g3, g4, g13]
      refine (within_ac fn13 cf13 cl13 (by omega) (by omega)).use' ?_
      rw [hk]
      simp only [WS, stepW, evalA, reduceIte, Nat.reduceEqDiff, reduceCtorEq, evalBin, Option.getD, Int.reduceToNat, Nat.reduceMul, Nat.reduceAdd, allocA, rowOf, fillA, partsV, setl, Nat.reduceLeDiff, AV.len, evalUn, Int.reduceLT, Int.reduceLE, Int.reduceEq, Int.reduceNe, g1, g2, g3, g4, g13, hr, ccs, hget, e_b8]
      have hst := store1 (v := .int .u8 ((b8 (((cmdS c)[k].toNat : Int) + by_.toNat)).toNat : Nat)) (off := k) ccs (by have := hS.fit; omega) rfl
      simp only [hst]
      simp only [WS, stepW, evalA, reduceIte, Nat.reduceEqDiff, reduceCtorEq, evalBin, Option.getD, Int.reduceToNat, Nat.reduceMul, Nat.reduceAdd, allocA, rowOf, fillA, partsV, setl, Nat.reduceLeDiff, AV.len, evalUn, Int.reduceLT, Int.reduceLE, Int.reduceEq, Int.reduceNe, g3, g4, g13]
      exact ⟨hbl, _, rfl⟩
    clear g1 g2 g3 g4 g13 ccs hbl
    rintro ρ s2 ⟨g3, g4, g13, hbl2, y, ccs⟩
    have hset : ofU8s ((cmdS c).set k y) = seg (setx cs k (.int .u8 (y.toNat : Nat))) 0 (cmdS c).length := by
      rw [seg_setx hkl (by have := hS.fit; omega), ← ofU8s_setx hkl]
      congr 1
      have := hS.seg
      rw [Nat.mul_one] at this
      exact this
    have hsl : ((cmdS c).set k y).length = (cmdS c).length := List.length_set
    have hxl : (setx cs k (.int .u8 (y.toNat : Nat))).length = cs.length := by have := hS.fit; rw [setx_length (by omega)]; omega
    generalize setx cs k (.int .u8 (y.toNat : Nat)) = cs2 at *
    generalize (cmdS c).set k y = lb at *
    have hfit := hS.fit
    have hcapd := hS.capd
    have hrl : RowL s2 (.sl b 0 (cmdS c).length cap 1) lb := .inr (.inr ⟨b, cap, cs2, by rw [hsl], hbl2, ccs, by rw [hsl]; exact hset, by omega⟩)
    have hrl2 : ∀ j cap', j ≤ lb.length → RowL s2 (.sl b 0 j cap' 1) (lb.take j) := fun j cap' hj => by
      have hjl : (lb.take j).length = j := by rw [List.length_take]; omega
      refine .inr (.inr ⟨b, cap', cs2, by rw [hjl], hbl2, ccs, ?_, by omega⟩)
      rw [hjl, ofU8s_take, hset]
      simp only [seg, List.drop_zero, List.take_take]
      congr 1
      omega
    have hw1 : IntKind.i64.wrap (((cmdS c).length : Int) + 1) = (((cmdS c).length + 1 : Nat) : Int) := wrap_succ (by omega)
    have e_rem : evalInt .rem .i64 cut 2 = some (.int .i64 (cut.tmod 2)) := rfl
    have e_quo : evalInt .quo .i64 cut 2 = some (.int .i64 (IntKind.i64.wrap (cut.tdiv 2))) := rfl
    simp only [WS, stepW, evalA, reduceIte, Nat.reduceEqDiff, reduceCtorEq, evalBin, Option.getD, Int.reduceToNat, Nat.reduceMul, Nat.reduceAdd, allocA, rowOf, fillA, partsV, setl, Nat.reduceLeDiff, AV.len, evalUn, Int.reduceLT, Int.reduceLE, Int.reduceEq, Int.reduceNe, g3, g4, g13, e_rem]
    refine Br_intro (fun hd => ?_) (fun hd => ?_)
    · simp only [WS, stepW, evalA, reduceIte, Nat.reduceEqDiff, reduceCtorEq, evalBin, Option.getD, Int.reduceToNat, Nat.reduceMul, Nat.reduceAdd, allocA, rowOf, fillA, partsV, setl, Nat.reduceLeDiff, AV.len, evalUn, Int.reduceLT, Int.reduceLE, Int.reduceEq, Int.reduceNe, g3, g4, g13, hw1, e_quo]
      refine (within_ac fn13 cf13 cl13 (by omega) (by omega)).use' ?_
      have hwr2 := wi_range (IntKind.i64.wrap (cut.tdiv 2)) (n := (((cmdS c).length + 1 : Nat) : Int)) (by omega)
      obtain ⟨j, hj⟩ : ∃ j : Nat, wi (IntKind.i64.wrap (cut.tdiv 2)) (((cmdS c).length + 1 : Nat) : Int) = j := ⟨(wi (IntKind.i64.wrap (cut.tdiv 2)) (((cmdS c).length + 1 : Nat) : Int)).toNat, by omega⟩
      rw [hj]
      have hjl : j ≤ (cmdS c).length := by omega
      have q1 : (0 : Int) ≤ j := by omega
      have htk : (lb.take j).length ≤ 2000 := by rw [List.length_take]; omega
      cases cap with
      | none =>
        have q2 : (j : Int) ≤ (cmdS c).length := by omega
        simp only [WS, stepW, evalA, reduceIte, Nat.reduceEqDiff, reduceCtorEq, evalBin, Option.getD, Int.reduceToNat, Nat.reduceMul, Nat.reduceAdd, allocA, rowOf, fillA, partsV, setl, Nat.reduceLeDiff, AV.len, evalUn, Int.reduceLT, Int.reduceLE, Int.reduceEq, Int.reduceNe, g3, g4, g13, q1, q2, Nat.sub_zero]
        exact ⟨_, hrl2 j _ (by omega), htk⟩
      | some k' =>
        have q2 : (j : Int) ≤ k' := by have := hcapd k' rfl; omega
        simp only [WS, stepW, evalA, reduceIte, Nat.reduceEqDiff, reduceCtorEq, evalBin, Option.getD, Int.reduceToNat, Nat.reduceMul, Nat.reduceAdd, allocA, rowOf, fillA, partsV, setl, Nat.reduceLeDiff, AV.len, evalUn, Int.reduceLT, Int.reduceLE, Int.reduceEq, Int.reduceNe, g3, g4, g13, q1, q2, Nat.sub_zero]
        exact ⟨_, hrl2 j _ (by omega), htk⟩
    · simp only [WS, stepW, evalA, reduceIte, Nat.reduceEqDiff, reduceCtorEq, evalBin, Option.getD, Int.reduceToNat, Nat.reduceMul, Nat.reduceAdd, allocA, rowOf, fillA, partsV, setl, Nat.reduceLeDiff, AV.len, evalUn, Int.reduceLT, Int.reduceLE, Int.reduceEq, Int.reduceNe, g3, g4, g13]
      exact ⟨lb, hrl, by omega⟩
  clear hrow hfx hn c0
  clear g1 g2 g3 g4 g5 g11 g12 g13
  rintro ρ s ⟨g4, lb, hb, hlb⟩
  generalize hx : ρ.rd 13 = v0 at *
  have hraw : raw.length ≤ 500 := by omega
  rw [wpC_seq]
  refine w_mid (fun ρ s => ∃ (R : Nat) (x2 : AV), ρ.rd 17 = .sl R 0 3 (some 3) 1 ∧ s.cells R = some [v0, x2, .psl (ofU8s raw) 0 raw.length] ∧ R < s.n ∧ RowL s v0 lb ∧ RowL s x2 (lb ++ raw)) ?_ ?_
  · have r0 : RowP (fun b => s.n ≤ b) (s.push (.cells [])) (.sl s.n 0 0 (some 0) 1) [] 0 1 := .of (Nat.le_refl _) (Nat.lt_succ_self _) (push_cells _ _) rfl
    have hb1 : RowL (s.push (.cells [])) v0 lb := hb.move (Nat.le_succ _) fun b h => push_h h
    obtain ⟨x1, s1, happ1, r1, hn1, hk1⟩ := app_rowP (bytes := 1) r0 (Nat.le_succ _) hb1.len hb1.first (ofU8s_one _) (by rw [ofU8s_length, Nat.mul_one]) (by omega)
    obtain ⟨x2, s2, happ2, r2, hn2, hk2⟩ := app_rowP (bytes := 1) r1 (by have : s.n + 1 ≤ s1.n := hn1; omega) (y := .psl (ofU8s raw) 0 raw.length) (k := raw.length) rfl firstA_psl (ofU8s_one _) (by rw [ofU8s_length, Nat.mul_one]) (by omega)
    have hn1' : s.n + 1 ≤ s1.n := hn1
    have m2 : ∀ b, b < s.n → s2.h.get b = s.h.get b := fun b h => by
      rw [hk2 b (by omega) (by omega), hk1 b (Nat.lt_succ_of_lt h) (by omega), push_h h]
    have hb2 : RowL s2 v0 lb := hb.move (by omega) m2
    have hx2 : RowL s2 x2 (lb ++ raw) := by
      refine RowP.rowL (p := fun b => s.n ≤ b) ?_
      have e1 : (lb ++ raw).length = 0 + lb.length + raw.length := by simp
      rw [e1, ofU8s_append]
      simpa using r2
    have fin : ∀ cs : List AV, RowL (s2.push (.cells cs)) v0 lb ∧ RowL (s2.push (.cells cs)) x2 (lb ++ raw) := fun cs => ⟨hb2.move (Nat.le_succ _) fun b h => push_h h, hx2.move (Nat.le_succ _) fun b h => push_h h⟩
    have hc : ∀ cs : List AV, (s2.push (.cells cs)).cells s2.n = some cs := fun cs => push_cells _ _
    clear r0 hb1 r1 hk1 r2 hk2 m2
    rcases hb2 with rfl | ⟨rfl, hz⟩ | ⟨b, cap, cs, rfl, _⟩ <;> rcases hx2 with rfl | ⟨rfl, hz2⟩ | ⟨b', cap', cs', rfl, _⟩
    all_goals
      simp only [WS, stepW, evalA, reduceIte, Nat.reduceEqDiff, reduceCtorEq, evalBin, Option.getD, Int.reduceToNat, Nat.reduceMul, Nat.reduceAdd, allocA, rowOf, fillA, partsV, setl, Nat.reduceLeDiff, AV.len, evalUn, Int.reduceLT, Int.reduceLE, Int.reduceEq, Int.reduceNe, hx, g4, happ1, happ2, fillA]
      exact ⟨_, _, rfl, if_pos rfl, Nat.lt_succ_self _, fin _⟩
  clear hx g4 hb
  rintro ρ s ⟨R, x2, g17, cR, hRn, h0, h2⟩
  rw [wpC_seq]
  refine w_mid (fun ρ s => True) ?_ ?_
  · simp only [WS, stepW, evalA, reduceIte, Nat.reduceEqDiff, reduceCtorEq, evalBin, Option.getD, Int.reduceToNat, Nat.reduceMul, Nat.reduceAdd, allocA, rowOf, fillA, partsV, setl, Nat.reduceLeDiff, AV.len, evalUn, Int.reduceLT, Int.reduceLE, Int.reduceEq, Int.reduceNe]
    refine w_for (fun i ρ s => ρ.rd 18 = .int .i64 i ∧ ρ.rd 17 = .sl R 0 3 (some 3) 1 ∧ s.cells R = some [v0, x2, .psl (ofU8s raw) 0 raw.length] ∧ R < s.n ∧ RowL s v0 lb ∧ RowL s x2 (lb ++ raw)) 3 ?_ ?_
    · simp only [WS, stepW, evalA, reduceIte, Nat.reduceEqDiff, reduceCtorEq, evalBin, Option.getD, Int.reduceToNat, Nat.reduceMul, Nat.reduceAdd, allocA, rowOf, fillA, partsV, setl, Nat.reduceLeDiff, AV.len, evalUn, Int.reduceLT, Int.reduceLE, Int.reduceEq, Int.reduceNe, g17]
      exact ⟨rfl, cR, hRn, h0, h2⟩
    clear g17 cR hRn h0 h2
    rintro i ρ s hi ⟨g18, g17, cR, hRn, h0, h2⟩
    by_cases hlt : (i : Int) < 3
    rotate_left
    · simp only [WS, stepW, evalA, reduceIte, Nat.reduceEqDiff, reduceCtorEq, evalBin, Option.getD, Int.reduceToNat, Nat.reduceMul, Nat.reduceAdd, allocA, rowOf, fillA, partsV, setl, Nat.reduceLeDiff, AV.len, evalUn, Int.reduceLT, Int.reduceLE, Int.reduceEq, Int.reduceNe, g18, hlt]
    have hi3 : i < 3 := by omega
    have hwi : IntKind.i64.wrap ((i : Int) + 1) = ((i + 1 : Nat) : Int) := wrap_succ (by omega)
    have hr : (0 : Int) ≤ i ∧ (i : Int) < ((3 : Nat) : Int) := by omega
    obtain ⟨v, l, hv, hl, hlen⟩ : ∃ v l, [v0, x2, .psl (ofU8s raw) 0 raw.length][i]? = some v ∧ RowL s v l ∧ l.length ≤ 3000 := by
      rcases (by omega : i = 0 ∨ i = 1 ∨ i = 2) with rfl | rfl | rfl
      · exact ⟨v0, lb, rfl, h0, by omega⟩
      · exact ⟨x2, lb ++ raw, rfl, h2, by rw [List.length_append]; omega⟩
      · exact ⟨_, raw, rfl, .inl rfl, by omega⟩
    have hcR : ∀ s' : AState, (∀ b, b < s.n → s'.h.get b = s.h.get b) → s'.cells R = some [v0, x2, .psl (ofU8s raw) 0 raw.length] := fun s' h => (get_cells (h R hRn)).trans cR
    rw [wpC_seq]
    refine w_mid (fun ρ t => t = s ∧ ρ.rd 18 = .int .i64 i ∧ ρ.rd 17 = .sl R 0 3 (some 3) 1) ?_ ?_
    · simp only [WS, stepW, evalA, reduceIte, Nat.reduceEqDiff, reduceCtorEq, evalBin, Option.getD, Int.reduceToNat, Nat.reduceMul, Nat.reduceAdd, allocA, rowOf, fillA, partsV, setl, Nat.reduceLeDiff, AV.len, evalUn, Int.reduceLT, Int.reduceLE, Int.reduceEq, Int.reduceNe, g18, g17, hlt, decide_true]
    clear g18 g17
    rintro ρ t ⟨rfl, g18, g17⟩
    generalize hP : parseS l = P at *
    rw [wpC_seq, wpC_block, wpC_seq]
    refine w_mid (fun ρ t' => ρ.rd 18 = .int .i64 i ∧ ρ.rd 17 = .sl R 0 3 (some 3) 1 ∧ t.n ≤ t'.n ∧ (∀ b, b < t.n → t'.h.get b = t.h.get b) ∧ ∃ q, ρ.rd 19 = .ptr q 0 ∧ q < t'.n ∧ t'.cells q = some P.1.c ∧ ρ.rd 20 = .int .i64 P.2) ?_ ?_
    · have r0 : RowP (fun b => t.n ≤ b) (t.push (.cells [])) (.sl t.n 0 0 (some 0) 1) [] 0 1 := .of (Nat.le_refl _) (Nat.lt_succ_self _) (push_cells _ _) rfl
      have hb1 : RowL (t.push (.cells [])) v l := hl.move (Nat.le_succ _) fun b h => push_h h
      obtain ⟨x1, s1, happ1, r1, hn1, hk1⟩ := app_rowP (bytes := 1) r0 (Nat.le_succ _) hb1.len hb1.first (ofU8s_one _) (by rw [ofU8s_length, Nat.mul_one]) (by omega)
      have hn1' : t.n + 1 ≤ s1.n := hn1
      have m1 : ∀ b, b < t.n → s1.h.get b = t.h.get b := fun b h => by rw [hk1 b (Nat.lt_succ_of_lt h) (by omega), push_h h]
      have hx1 : IsB s1 x1 l := by
        refine RowL.isB (RowP.rowL (p := fun b => t.n ≤ b) ?_)
        simpa using r1
      have neR : ¬ R = t.n := by omega
      simp only [WS, stepW, evalA, reduceIte, Nat.reduceEqDiff, reduceCtorEq, evalBin, Option.getD, Int.reduceToNat, Nat.reduceMul, Nat.reduceAdd, allocA, rowOf, fillA, partsV, setl, Nat.reduceLeDiff, AV.len, evalUn, Int.reduceLT, Int.reduceLE, Int.reduceEq, Int.reduceNe, g18, g17, hr, neR, cR, hv, happ1, fillA]
      refine (parse_ac (by omega) hx1).use ?_
      rw [hP]
      simp only [WS, stepW, evalA, reduceIte, Nat.reduceEqDiff, reduceCtorEq, evalBin, Option.getD, Int.reduceToNat, Nat.reduceMul, Nat.reduceAdd, allocA, rowOf, fillA, partsV, setl, Nat.reduceLeDiff, AV.len, evalUn, Int.reduceLT, Int.reduceLE, Int.reduceEq, Int.reduceNe, g18, g17, Cm.c_eq, storeA, sets, setx, TS]
      refine ⟨by omega, fun b hb => ?_, s1.n, rfl, Nat.lt_succ_self _, if_pos rfl⟩
      rw [put_h (by omega), push_h (by omega), m1 b hb]
    clear g18 g17
    rintro ρ t1 ⟨g18, g17, hn1, m1, q, g19, hq, cq, g20⟩
    have hl1 := hl.move hn1 m1
    have cR1 := hcR t1 m1
    rw [wpC_seq]
    refine w_mid (fun ρ t' => ρ.rd 18 = .int .i64 i ∧ ρ.rd 17 = .sl R 0 3 (some 3) 1 ∧ t1.n ≤ t'.n ∧ (∀ b, b < t1.n → t'.h.get b = t1.h.get b) ∧ ρ.rd 19 = .ptr q 0 ∧ ρ.rd 20 = .int .i64 P.2 ∧ ∃ q2, ρ.rd 21 = .ptr q2 0 ∧ t'.cells q2 = some P.1.c ∧ ρ.rd 22 = .int .i64 P.2) ?_ ?_
    · simp only [WS, stepW, evalA, reduceIte, Nat.reduceEqDiff, reduceCtorEq, evalBin, Option.getD, Int.reduceToNat, Nat.reduceMul, Nat.reduceAdd, allocA, rowOf, fillA, partsV, setl, Nat.reduceLeDiff, AV.len, evalUn, Int.reduceLT, Int.reduceLE, Int.reduceEq, Int.reduceNe, g18, g17, hr, cR1, hv]
      refine (parseR_ac (by omega) hl1.isB).use ?_
      rw [hP]
      simp only [WS, stepW, evalA, reduceIte, Nat.reduceEqDiff, reduceCtorEq, evalBin, Option.getD, Int.reduceToNat, Nat.reduceMul, Nat.reduceAdd, allocA, rowOf, fillA, partsV, setl, Nat.reduceLeDiff, AV.len, evalUn, Int.reduceLT, Int.reduceLE, Int.reduceEq, Int.reduceNe, g18, g17, g19, g20, Cm.c_eq, storeA, sets, setx, TS]
      refine ⟨by omega, fun b hb => ?_, t1.n, rfl, if_pos rfl⟩
      rw [put_h (by omega), push_h (by omega)]
    clear g18 g17 g19 g20
    rintro ρ t2 ⟨g18, g17, hn2, m2, g19, g20, q2, g21, cq2, g22⟩
    have hl2 := hl1.move hn2 m2
    have cR2 : t2.cells R = some [v0, x2, .psl (ofU8s raw) 0 raw.length] := hcR t2 fun b hb => (m2 b (by omega)).trans (m1 b hb)
    have cq' : t2.cells q = some P.1.c := (get_cells (m2 q hq)).trans cq
    rw [wpC_seq]
    refine w_mid (fun ρ t' => t' = t2 ∧ ρ.rd 18 = .int .i64 i ∧ ρ.rd 17 = .sl R 0 3 (some 3) 1 ∧ ρ.rd 19 = .ptr q 0 ∧ ρ.rd 22 = .int .i64 P.2) ?_ ?_
    · rw [Cm.c_eq] at cq' cq2
      simp only [WS, stepW, evalA, reduceIte, Nat.reduceEqDiff, reduceCtorEq, evalBin, Option.getD, Int.reduceToNat, Nat.reduceMul, Nat.reduceAdd, allocA, rowOf, fillA, partsV, setl, Nat.reduceLeDiff, AV.len, evalUn, Int.reduceLT, Int.reduceLE, Int.reduceEq, Int.reduceNe, g18, g17, g19, g20, g21, g22, cq', cq2, seg5, ecm_self, Bool.not_true, ne_eq, not_true_eq_false, decide_false]
    clear g18 g17 g19 g20 g21 g22
    rintro ρ t3 ⟨rfl, g18, g17, g19, g22⟩
    have fin : RowL t3 v0 lb ∧ RowL t3 x2 (lb ++ raw) := ⟨(h0.move hn1 m1).move hn2 m2, (h2.move hn1 m1).move hn2 m2⟩
    by_cases he : P.2 = 0
    rotate_left
    · simp only [WS, stepW, evalA, reduceIte, Nat.reduceEqDiff, reduceCtorEq, evalBin, Option.getD, Int.reduceToNat, Nat.reduceMul, Nat.reduceAdd, allocA, rowOf, fillA, partsV, setl, Nat.reduceLeDiff, AV.len, evalUn, Int.reduceLT, Int.reduceLE, Int.reduceEq, Int.reduceNe, g18, g17, g22, he, hwi, decide_false]
      exact ⟨hi3, cR2, by omega, fin⟩
    · have hpl : parseS l = (P.1, 0) := by rw [hP, ← he]
      have hw0 := parse_seq hpl
      have hcl := cmd_parse hpl
      obtain ⟨-, -, -, hnm, htx⟩ := wrongS_ok hw0
      have ev : cmdV P.1 = tupB l 0 := by rw [cmdV, hw0, ← hcl]; rfl
      rw [Cm.c_eq] at cq'
      simp only [WS, stepW, evalA, reduceIte, Nat.reduceEqDiff, reduceCtorEq, evalBin, Option.getD, Int.reduceToNat, Nat.reduceMul, Nat.reduceAdd, allocA, rowOf, fillA, partsV, setl, Nat.reduceLeDiff, AV.len, evalUn, Int.reduceLT, Int.reduceLE, Int.reduceEq, Int.reduceNe, g19, g22, he, cq', decide_true]
      rw [seg5, ← Cm.c_eq]
      refine (cmd_ac (by omega) (by omega) _).use ?_
      rw [ev]
      simp only [WS, stepW, evalA, reduceIte, Nat.reduceEqDiff, reduceCtorEq, evalBin, Option.getD, Int.reduceToNat, Nat.reduceMul, Nat.reduceAdd, allocA, rowOf, fillA, partsV, setl, Nat.reduceLeDiff, AV.len, evalUn, Int.reduceLT, Int.reduceLE, Int.reduceEq, Int.reduceNe, tupB, g18, g17]
      refine w_dreg0 follow ?_ rfl
      have cR3 : (addSlots t3.n 8 t3 []).cells R = some [v0, x2, .psl (ofU8s raw) 0 raw.length] := cR2
      have hl3 : RowL (addSlots t3.n 8 t3 []) v l := hl2.move (Nat.le_add_right _ _) fun b _ => rfl
      have fin3 : RowL (addSlots t3.n 8 t3 []) v0 lb ∧ RowL (addSlots t3.n 8 t3 []) x2 (lb ++ raw) := ⟨fin.1.move (Nat.le_add_right _ _) fun b _ => rfl, fin.2.move (Nat.le_add_right _ _) fun b _ => rfl⟩
      have hn3 : t3.n ≤ (addSlots t3.n 8 t3 []).n := Nat.le_add_right _ _
      generalize addSlots t3.n 8 t3 [] = t4 at *
      have hfl := hl3.first
      rcases hl3 with rfl | ⟨rfl, rfl⟩ | ⟨b, cap, cs, rfl, _⟩
      · simp only [WS, stepW, evalA, reduceIte, Nat.reduceEqDiff, reduceCtorEq, evalBin, Option.getD, Int.reduceToNat, Nat.reduceMul, Nat.reduceAdd, allocA, rowOf, fillA, partsV, setl, Nat.reduceLeDiff, AV.len, evalUn, Int.reduceLT, Int.reduceLE, Int.reduceEq, Int.reduceNe, g18, g17, hr, cR3, hv, firstA_psl, u8s_ofU8s, str_neq, ne_eq, not_true_eq_false, decide_false, hwi]
        exact ⟨hi3, by omega, fin3⟩
      · have z1 : firstA t4 1 0 (.psl (ofU8s []) 0 0) = some [] := rfl
        have z2 : u8s [] = some [] := rfl
        simp only [WS, stepW, evalA, reduceIte, Nat.reduceEqDiff, reduceCtorEq, evalBin, Option.getD, Int.reduceToNat, Nat.reduceMul, Nat.reduceAdd, allocA, rowOf, fillA, partsV, setl, Nat.reduceLeDiff, AV.len, evalUn, Int.reduceLT, Int.reduceLE, Int.reduceEq, Int.reduceNe, g18, g17, hr, cR3, hv, z1, z2, str_neq, ne_eq, not_true_eq_false, decide_false, hwi]
        exact ⟨hi3, by omega, fin3⟩
      · simp only [WS, stepW, evalA, reduceIte, Nat.reduceEqDiff, reduceCtorEq, evalBin, Option.getD, Int.reduceToNat, Nat.reduceMul, Nat.reduceAdd, allocA, rowOf, fillA, partsV, setl, Nat.reduceLeDiff, AV.len, evalUn, Int.reduceLT, Int.reduceLE, Int.reduceEq, Int.reduceNe, g18, g17, hr, cR3, hv, firstA_psl, hfl, u8s_ofU8s, str_neq, ne_eq, not_true_eq_false, decide_false, hwi]
        exact ⟨hi3, by omega, fin3⟩
  rintro ρ s -
  simp only [WS, stepW, evalA, reduceIte, Nat.reduceEqDiff, reduceCtorEq, evalBin, Option.getD, Int.reduceToNat, Nat.reduceMul, Nat.reduceAdd, allocA, rowOf, fillA, partsV, setl, Nat.reduceLeDiff, AV.len, evalUn, Int.reduceLT, Int.reduceLE, Int.reduceEq, Int.reduceNe]
end Go.Proofs.Ythobpdfchhihnaa.Va
