/- A command read by chancelref7.ParseCmd. Conditions: none. -/
import Derived.Test.YthobpdfchhihnaaPkK
set_option maxRecDepth 100000
set_option maxHeartbeats 4000000
set_option linter.all false
namespace Go.Proofs.Ythobpdfchhihnaa.Va
open Go.Proofs
def chain (a q : Int) (r : Rd) : Cm × Int :=
  let k := r.byte
  let nm := k.2.bytes
  let tx := nm.2.bytes
  endS ⟨a, q, k.1, nm.1, tx.1⟩ tx.2.fin
theorem chain_eq (L : List UInt8) : chain (Rd.byte ⟨L, true⟩).1 (Rd.byte ⟨L, true⟩).2.int.1 (Rd.byte ⟨L, true⟩).2.int.2 = parseS L := by
  rw [← parseP_eq]; rfl
theorem chain_cut {a q : Int} {r : Rd} (h : r.ok = false) : chain a q r = (.zero, 8) := by
  obtain ⟨l, ok⟩ := r
  simp only at h
  subst h
  cases l <;> rfl
/- The command that is being read. -/
structure QI (B : Nat) (L : List UInt8) (ρ : Env) (s : AState) (r : Rd) (c : Cm) : Prop where
  r2 : ρ.rd 2 = .ptr 0 0
  r4 : ρ.rd 4 = .ptr 1 0
  r5 : ρ.rd 5 = .ptr B 0
  c0 : s.cells 0 = some Cm.zero.c
  cB : s.cells B = some c.c
  ps : RS 1 s L r
  hB : 1 < B
  lt : B < s.n
theorem QI.next {B : Nat} {L : List UInt8} {ρ ρ' : Env} {s s' : AState} {r r' : Rd} {c : Cm} (h : QI B L ρ s r c) (h2 : ρ'.rd 2 = .ptr 0 0) (h4 : ρ'.rd 4 = .ptr 1 0) (h5 : ρ'.rd 5 = .ptr B 0) (hp : RS 1 s' L r') (hk : K1 1 s s') (c' : Cm) : QI B L ρ' (s'.put B c'.c) r' c' := by
  have hB := h.hB
  have hlt := h.lt
  have hn := hk.1
  refine ⟨h2, h4, h5, ?_, put_self _ _ _, ?_, hB, by rw [put_n]; omega⟩
  · rw [put_get, if_neg (by omega)]; exact (hk.cells (by omega) (by intro h; exact h) (by omega)).trans h.c0
  · obtain ⟨⟨off, hc, hr⟩, hl, hs⟩ := hp
    exact ⟨⟨off, by rw [put_get, if_neg (by omega)]; exact hc, hr⟩, hl, hs⟩
theorem QI.cell {B : Nat} {L : List UInt8} {ρ : Env} {s s' : AState} {r : Rd} {c : Cm} (h : QI B L ρ s r c) (hk : K1 1 s s') : s'.cells B = some c.c := (hk.cells h.lt (by intro h; exact h) (by have := h.hB; omega)).trans h.cB
theorem NB.form {σ s : AState} {v : AV} {o : List UInt8} (h : NB σ s v o) : (v = .nils ∧ o = []) ∨ ∃ nb cap, v = .sl nb 0 o.length cap 1 ∧ firstA s 1 o.length (.sl nb 0 o.length cap 1) = some (ofU8s o) := by
  have hf := h.firstA
  rcases h with ⟨rfl, h2, h3⟩ | ⟨b, cap, cs, rfl, _⟩
  · exact .inl ⟨rfl, List.eq_nil_of_length_eq_zero h2⟩
  · exact .inr ⟨b, cap, rfl, hf⟩
theorem parseR_st0 {L : List UInt8} (hL : L.length ≤ 70000) : AC Try.prog 17 [.psl (ofU8s L) 0 L.length] st0 fun v s => ∃ a, Pur s false v a ∧ a = .tup [.agg (parseS L).1.c, .int .i64 (parseS L).2] := by
  rw [← chain_eq]
  refine ac_wp fn17 cf17 cl17 rfl ?_
  simp only [ac17]
  unfold ab17
  simp only [wpC_seq, wpC_skip, wpCK_normal]
  refine w_mid (fun ρ s => ρ.rd 0 = .psl (ofU8s L) 0 L.length ∧ ρ.rd 2 = .ptr 0 0 ∧ s.n = 1 ∧ s.cells 0 = some Cm.zero.c) ?_ ?_
  · simp only [WS, stepW, evalA, reduceIte, Nat.reduceEqDiff, reduceCtorEq, evalBin, Option.getD, Int.reduceToNat, Nat.reduceMul, Nat.reduceAdd, allocA, rowOf, fillA, partsV, setl, Nat.reduceLeDiff, AV.len, evalUn, Int.reduceLT, Int.reduceLE, Int.reduceEq, Int.reduceNe, Cm.c_eq, Cm.zero]
  rintro ρ s ⟨g0, g2, hn, c0⟩
  rw [wpC_seq]
  refine w_mid (fun ρ s => ρ.rd 2 = .ptr 0 0 ∧ ρ.rd 4 = .ptr 1 0 ∧ s.n = 2 ∧ s.cells 0 = some Cm.zero.c ∧ RS 1 s L ⟨L, true⟩) ?_ ?_
  · simp only [WS, stepW, evalA, reduceIte, Nat.reduceEqDiff, reduceCtorEq, evalBin, Option.getD, Int.reduceToNat, Nat.reduceMul, Nat.reduceAdd, allocA, rowOf, fillA, partsV, setl, Nat.reduceLeDiff, AV.len, evalUn, Int.reduceLT, Int.reduceLE, Int.reduceEq, Int.reduceNe, g0, g2]
    refine ⟨by rw [hn], hn, ?_, ⟨0, ?_, by omega, rfl⟩, ?_, hL⟩
    · rw [if_neg (by omega)]; exact c0
    · rw [push_get, if_pos hn.symm]; rfl
    · show 1 < s.n + 1
      omega
  clear g0 g2 hn c0
  rintro ρ s ⟨g2, g4, hn, c0, ps⟩
  rw [wpC_seq]
  refine w_mid (fun ρ s => ∃ B, QI B L ρ s (Rd.byte ⟨L, true⟩).2 ⟨(Rd.byte ⟨L, true⟩).1, 0, 0, [], []⟩) ?_ ?_
  · simp only [WS, stepW, evalA, reduceIte, Nat.reduceEqDiff, reduceCtorEq, evalBin, Option.getD, Int.reduceToNat, Nat.reduceMul, Nat.reduceAdd, allocA, rowOf, fillA, partsV, setl, Nat.reduceLeDiff, AV.len, evalUn, Int.reduceLT, Int.reduceLE, Int.reduceEq, Int.reduceNe, g2, g4]
    refine (u8_ac ps).mono ?_
    rintro v s' ⟨rfl, ps', hk⟩
    simp only [WS, stepW, evalA, reduceIte, Nat.reduceEqDiff, reduceCtorEq, evalBin, Option.getD, Int.reduceToNat, Nat.reduceMul, Nat.reduceAdd, allocA, rowOf, fillA, partsV, setl, Nat.reduceLeDiff, AV.len, evalUn, Int.reduceLT, Int.reduceLE, Int.reduceEq, Int.reduceNe, g2, g4, storeA, sets, setx, TS]
    have hn' := hk.1
    refine ⟨s'.n, ?_, ?_, ?_, ?_, put_self _ _ _, ?_, by omega, Nat.lt_succ_self _⟩
    · simp only [WS, stepW, evalA, reduceIte, Nat.reduceEqDiff, reduceCtorEq, evalBin, Option.getD, Int.reduceToNat, Nat.reduceMul, Nat.reduceAdd, allocA, rowOf, fillA, partsV, setl, Nat.reduceLeDiff, AV.len, evalUn, Int.reduceLT, Int.reduceLE, Int.reduceEq, Int.reduceNe, g2]
    · simp only [WS, stepW, evalA, reduceIte, Nat.reduceEqDiff, reduceCtorEq, evalBin, Option.getD, Int.reduceToNat, Nat.reduceMul, Nat.reduceAdd, allocA, rowOf, fillA, partsV, setl, Nat.reduceLeDiff, AV.len, evalUn, Int.reduceLT, Int.reduceLE, Int.reduceEq, Int.reduceNe, g4]
    · simp only [WS, stepW, evalA, reduceIte, Nat.reduceEqDiff, reduceCtorEq, evalBin, Option.getD, Int.reduceToNat, Nat.reduceMul, Nat.reduceAdd, allocA, rowOf, fillA, partsV, setl, Nat.reduceLeDiff, AV.len, evalUn, Int.reduceLT, Int.reduceLE, Int.reduceEq, Int.reduceNe, g4]
    · rw [put_get, if_neg (by omega), push_get, if_neg (by omega)]; exact (hk.cells (by omega) (by intro h; exact h) (by omega)).trans c0
    · obtain ⟨⟨off, hc, hr⟩, hl, hs⟩ := ps'
      exact ⟨⟨off, by rw [put_get, if_neg (by omega), push_get, if_neg (by omega)]; exact hc, hr⟩, Nat.lt_succ_of_lt hl, hs⟩
  clear g2 g4 hn c0 ps
  generalize Rd.byte ⟨L, true⟩ = a
  rintro ρ s ⟨B, m⟩
  rw [wpC_seq]
  refine w_mid (fun ρ s => ∃ q : Int × Rd, QI B L ρ s q.2 ⟨a.1, q.1, 0, [], []⟩ ∧ (q = a.2.int ∨ (a.2.int.2.ok = false ∧ q.2.ok = false))) ?_ ?_
  · obtain ⟨g2, g4, g5, c0, cB, ps, hB, hlt⟩ := id m
    simp only [WS, stepW, evalA, reduceIte, Nat.reduceEqDiff, reduceCtorEq, evalBin, Option.getD, Int.reduceToNat, Nat.reduceMul, Nat.reduceAdd, allocA, rowOf, fillA, partsV, setl, Nat.reduceLeDiff, AV.len, evalUn, Int.reduceLT, Int.reduceLE, Int.reduceEq, Int.reduceNe, g2, g4, g5]
    refine (num_r_ac ps).mono ?_
    rintro v s' ⟨n, r', rfl, ps', hk, hcase⟩
    have cB' := m.cell hk
    rw [Cm.c_eq] at cB'
    simp only [WS, stepW, evalA, reduceIte, Nat.reduceEqDiff, reduceCtorEq, evalBin, Option.getD, Int.reduceToNat, Nat.reduceMul, Nat.reduceAdd, allocA, rowOf, fillA, partsV, setl, Nat.reduceLeDiff, AV.len, evalUn, Int.reduceLT, Int.reduceLE, Int.reduceEq, Int.reduceNe, g2, g4, g5, cB', storeA, sets, setx, TS]
    refine ⟨(n, r'), m.next ?_ ?_ ?_ ps' hk ⟨a.1, n, 0, [], []⟩, hcase⟩
    · simp only [WS, stepW, evalA, reduceIte, Nat.reduceEqDiff, reduceCtorEq, evalBin, Option.getD, Int.reduceToNat, Nat.reduceMul, Nat.reduceAdd, allocA, rowOf, fillA, partsV, setl, Nat.reduceLeDiff, AV.len, evalUn, Int.reduceLT, Int.reduceLE, Int.reduceEq, Int.reduceNe, g2]
    · simp only [WS, stepW, evalA, reduceIte, Nat.reduceEqDiff, reduceCtorEq, evalBin, Option.getD, Int.reduceToNat, Nat.reduceMul, Nat.reduceAdd, allocA, rowOf, fillA, partsV, setl, Nat.reduceLeDiff, AV.len, evalUn, Int.reduceLT, Int.reduceLE, Int.reduceEq, Int.reduceNe, g4]
    · simp only [WS, stepW, evalA, reduceIte, Nat.reduceEqDiff, reduceCtorEq, evalBin, Option.getD, Int.reduceToNat, Nat.reduceMul, Nat.reduceAdd, allocA, rowOf, fillA, partsV, setl, Nat.reduceLeDiff, AV.len, evalUn, Int.reduceLT, Int.reduceLE, Int.reduceEq, Int.reduceNe, g5]
  rintro ρ s ⟨q, m, hq⟩
  have hch : chain a.1 a.2.int.1 a.2.int.2 = chain a.1 q.1 q.2 := by
    rcases hq with rfl | ⟨h1, h2⟩
    · rfl
    · rw [chain_cut h1, chain_cut h2]
  rw [hch]
  clear hch hq
  simp only [chain]
  rw [wpC_seq]
  refine w_mid (fun ρ s => QI B L ρ s q.2.byte.2 ⟨a.1, q.1, q.2.byte.1, [], []⟩) ?_ ?_
  · obtain ⟨g2, g4, g5, c0, cB, ps, hB, hlt⟩ := id m
    simp only [WS, stepW, evalA, reduceIte, Nat.reduceEqDiff, reduceCtorEq, evalBin, Option.getD, Int.reduceToNat, Nat.reduceMul, Nat.reduceAdd, allocA, rowOf, fillA, partsV, setl, Nat.reduceLeDiff, AV.len, evalUn, Int.reduceLT, Int.reduceLE, Int.reduceEq, Int.reduceNe, g2, g4, g5]
    refine (u8_ac ps).mono ?_
    rintro v s' ⟨rfl, ps', hk⟩
    have cB' := m.cell hk
    rw [Cm.c_eq] at cB'
    simp only [WS, stepW, evalA, reduceIte, Nat.reduceEqDiff, reduceCtorEq, evalBin, Option.getD, Int.reduceToNat, Nat.reduceMul, Nat.reduceAdd, allocA, rowOf, fillA, partsV, setl, Nat.reduceLeDiff, AV.len, evalUn, Int.reduceLT, Int.reduceLE, Int.reduceEq, Int.reduceNe, g2, g4, g5, cB', storeA, sets, setx, TS]
    refine m.next ?_ ?_ ?_ ps' hk ⟨a.1, q.1, q.2.byte.1, [], []⟩
    · simp only [WS, stepW, evalA, reduceIte, Nat.reduceEqDiff, reduceCtorEq, evalBin, Option.getD, Int.reduceToNat, Nat.reduceMul, Nat.reduceAdd, allocA, rowOf, fillA, partsV, setl, Nat.reduceLeDiff, AV.len, evalUn, Int.reduceLT, Int.reduceLE, Int.reduceEq, Int.reduceNe, g2]
    · simp only [WS, stepW, evalA, reduceIte, Nat.reduceEqDiff, reduceCtorEq, evalBin, Option.getD, Int.reduceToNat, Nat.reduceMul, Nat.reduceAdd, allocA, rowOf, fillA, partsV, setl, Nat.reduceLeDiff, AV.len, evalUn, Int.reduceLT, Int.reduceLE, Int.reduceEq, Int.reduceNe, g4]
    · simp only [WS, stepW, evalA, reduceIte, Nat.reduceEqDiff, reduceCtorEq, evalBin, Option.getD, Int.reduceToNat, Nat.reduceMul, Nat.reduceAdd, allocA, rowOf, fillA, partsV, setl, Nat.reduceLeDiff, AV.len, evalUn, Int.reduceLT, Int.reduceLE, Int.reduceEq, Int.reduceNe, g5]
  generalize q.2.byte = k
  intro ρ s m
  rw [wpC_seq]
  refine w_mid (fun ρ s => QI B L ρ s k.2.bytes.2 ⟨a.1, q.1, k.1, k.2.bytes.1, []⟩) ?_ ?_
  · obtain ⟨g2, g4, g5, c0, cB, ps, hB, hlt⟩ := id m
    simp only [WS, stepW, evalA, reduceIte, Nat.reduceEqDiff, reduceCtorEq, evalBin, Option.getD, Int.reduceToNat, Nat.reduceMul, Nat.reduceAdd, allocA, rowOf, fillA, partsV, setl, Nat.reduceLeDiff, AV.len, evalUn, Int.reduceLT, Int.reduceLE, Int.reduceEq, Int.reduceNe, g2, g4, g5]
    refine (bytesR2_ac ps).mono ?_
    rintro v s' ⟨tb, ps', hk⟩
    have cB' := m.cell hk
    rw [Cm.c_eq] at cB'
    rcases tb.form with ⟨rfl, e⟩ | ⟨nb, cap, rfl, hf⟩
    · simp only [WS, stepW, evalA, reduceIte, Nat.reduceEqDiff, reduceCtorEq, evalBin, Option.getD, Int.reduceToNat, Nat.reduceMul, Nat.reduceAdd, allocA, rowOf, fillA, partsV, setl, Nat.reduceLeDiff, AV.len, evalUn, Int.reduceLT, Int.reduceLE, Int.reduceEq, Int.reduceNe, g2, g4, g5, cB', storeA, sets, setx, TS]
      rw [e]
      refine m.next ?_ ?_ ?_ ps' hk ⟨a.1, q.1, k.1, [], []⟩
      · simp only [WS, stepW, evalA, reduceIte, Nat.reduceEqDiff, reduceCtorEq, evalBin, Option.getD, Int.reduceToNat, Nat.reduceMul, Nat.reduceAdd, allocA, rowOf, fillA, partsV, setl, Nat.reduceLeDiff, AV.len, evalUn, Int.reduceLT, Int.reduceLE, Int.reduceEq, Int.reduceNe, g2]
      · simp only [WS, stepW, evalA, reduceIte, Nat.reduceEqDiff, reduceCtorEq, evalBin, Option.getD, Int.reduceToNat, Nat.reduceMul, Nat.reduceAdd, allocA, rowOf, fillA, partsV, setl, Nat.reduceLeDiff, AV.len, evalUn, Int.reduceLT, Int.reduceLE, Int.reduceEq, Int.reduceNe, g4]
      · simp only [WS, stepW, evalA, reduceIte, Nat.reduceEqDiff, reduceCtorEq, evalBin, Option.getD, Int.reduceToNat, Nat.reduceMul, Nat.reduceAdd, allocA, rowOf, fillA, partsV, setl, Nat.reduceLeDiff, AV.len, evalUn, Int.reduceLT, Int.reduceLE, Int.reduceEq, Int.reduceNe, g5]
    · simp only [WS, stepW, evalA, reduceIte, Nat.reduceEqDiff, reduceCtorEq, evalBin, Option.getD, Int.reduceToNat, Nat.reduceMul, Nat.reduceAdd, allocA, rowOf, fillA, partsV, setl, Nat.reduceLeDiff, AV.len, evalUn, Int.reduceLT, Int.reduceLE, Int.reduceEq, Int.reduceNe, g2, g4, g5, cB', hf, u8s_ofU8s, storeA, sets, setx, TS]
      refine m.next ?_ ?_ ?_ ps' hk ⟨a.1, q.1, k.1, k.2.bytes.1, []⟩
      · simp only [WS, stepW, evalA, reduceIte, Nat.reduceEqDiff, reduceCtorEq, evalBin, Option.getD, Int.reduceToNat, Nat.reduceMul, Nat.reduceAdd, allocA, rowOf, fillA, partsV, setl, Nat.reduceLeDiff, AV.len, evalUn, Int.reduceLT, Int.reduceLE, Int.reduceEq, Int.reduceNe, g2]
      · simp only [WS, stepW, evalA, reduceIte, Nat.reduceEqDiff, reduceCtorEq, evalBin, Option.getD, Int.reduceToNat, Nat.reduceMul, Nat.reduceAdd, allocA, rowOf, fillA, partsV, setl, Nat.reduceLeDiff, AV.len, evalUn, Int.reduceLT, Int.reduceLE, Int.reduceEq, Int.reduceNe, g4]
      · simp only [WS, stepW, evalA, reduceIte, Nat.reduceEqDiff, reduceCtorEq, evalBin, Option.getD, Int.reduceToNat, Nat.reduceMul, Nat.reduceAdd, allocA, rowOf, fillA, partsV, setl, Nat.reduceLeDiff, AV.len, evalUn, Int.reduceLT, Int.reduceLE, Int.reduceEq, Int.reduceNe, g5]
  generalize k.2.bytes = nm
  intro ρ s m
  rw [wpC_seq]
  refine w_mid (fun ρ s => QI B L ρ s nm.2.bytes.2 ⟨a.1, q.1, k.1, nm.1, nm.2.bytes.1⟩) ?_ ?_
  · obtain ⟨g2, g4, g5, c0, cB, ps, hB, hlt⟩ := id m
    simp only [WS, stepW, evalA, reduceIte, Nat.reduceEqDiff, reduceCtorEq, evalBin, Option.getD, Int.reduceToNat, Nat.reduceMul, Nat.reduceAdd, allocA, rowOf, fillA, partsV, setl, Nat.reduceLeDiff, AV.len, evalUn, Int.reduceLT, Int.reduceLE, Int.reduceEq, Int.reduceNe, g2, g4, g5]
    refine (bytesR2_ac ps).mono ?_
    rintro v s' ⟨tb, ps', hk⟩
    have cB' := m.cell hk
    rw [Cm.c_eq] at cB'
    rcases tb.form with ⟨rfl, e⟩ | ⟨nb, cap, rfl, hf⟩
    · simp only [WS, stepW, evalA, reduceIte, Nat.reduceEqDiff, reduceCtorEq, evalBin, Option.getD, Int.reduceToNat, Nat.reduceMul, Nat.reduceAdd, allocA, rowOf, fillA, partsV, setl, Nat.reduceLeDiff, AV.len, evalUn, Int.reduceLT, Int.reduceLE, Int.reduceEq, Int.reduceNe, g2, g4, g5, cB', storeA, sets, setx, TS]
      rw [e]
      refine m.next ?_ ?_ ?_ ps' hk ⟨a.1, q.1, k.1, nm.1, []⟩
      · simp only [WS, stepW, evalA, reduceIte, Nat.reduceEqDiff, reduceCtorEq, evalBin, Option.getD, Int.reduceToNat, Nat.reduceMul, Nat.reduceAdd, allocA, rowOf, fillA, partsV, setl, Nat.reduceLeDiff, AV.len, evalUn, Int.reduceLT, Int.reduceLE, Int.reduceEq, Int.reduceNe, g2]
      · simp only [WS, stepW, evalA, reduceIte, Nat.reduceEqDiff, reduceCtorEq, evalBin, Option.getD, Int.reduceToNat, Nat.reduceMul, Nat.reduceAdd, allocA, rowOf, fillA, partsV, setl, Nat.reduceLeDiff, AV.len, evalUn, Int.reduceLT, Int.reduceLE, Int.reduceEq, Int.reduceNe, g4]
      · simp only [WS, stepW, evalA, reduceIte, Nat.reduceEqDiff, reduceCtorEq, evalBin, Option.getD, Int.reduceToNat, Nat.reduceMul, Nat.reduceAdd, allocA, rowOf, fillA, partsV, setl, Nat.reduceLeDiff, AV.len, evalUn, Int.reduceLT, Int.reduceLE, Int.reduceEq, Int.reduceNe, g5]
    · simp only [WS, stepW, evalA, reduceIte, Nat.reduceEqDiff, reduceCtorEq, evalBin, Option.getD, Int.reduceToNat, Nat.reduceMul, Nat.reduceAdd, allocA, rowOf, fillA, partsV, setl, Nat.reduceLeDiff, AV.len, evalUn, Int.reduceLT, Int.reduceLE, Int.reduceEq, Int.reduceNe, g2, g4, g5, cB', hf, u8s_ofU8s, storeA, sets, setx, TS]
      refine m.next ?_ ?_ ?_ ps' hk ⟨a.1, q.1, k.1, nm.1, nm.2.bytes.1⟩
      · simp only [WS, stepW, evalA, reduceIte, Nat.reduceEqDiff, reduceCtorEq, evalBin, Option.getD, Int.reduceToNat, Nat.reduceMul, Nat.reduceAdd, allocA, rowOf, fillA, partsV, setl, Nat.reduceLeDiff, AV.len, evalUn, Int.reduceLT, Int.reduceLE, Int.reduceEq, Int.reduceNe, g2]
      · simp only [WS, stepW, evalA, reduceIte, Nat.reduceEqDiff, reduceCtorEq, evalBin, Option.getD, Int.reduceToNat, Nat.reduceMul, Nat.reduceAdd, allocA, rowOf, fillA, partsV, setl, Nat.reduceLeDiff, AV.len, evalUn, Int.reduceLT, Int.reduceLE, Int.reduceEq, Int.reduceNe, g4]
      · simp only [WS, stepW, evalA, reduceIte, Nat.reduceEqDiff, reduceCtorEq, evalBin, Option.getD, Int.reduceToNat, Nat.reduceMul, Nat.reduceAdd, allocA, rowOf, fillA, partsV, setl, Nat.reduceLeDiff, AV.len, evalUn, Int.reduceLT, Int.reduceLE, Int.reduceEq, Int.reduceNe, g5]
  generalize nm.2.bytes = tx
  generalize (⟨a.1, q.1, k.1, nm.1, tx.1⟩ : Cm) = c
  rintro ρ s ⟨g2, g4, g5, c0, cB, ps, hB, hlt⟩
  simp only [WS, stepW, evalA, reduceIte, Nat.reduceEqDiff, reduceCtorEq, evalBin, Option.getD, Int.reduceToNat, Nat.reduceMul, Nat.reduceAdd, allocA, rowOf, fillA, partsV, setl, Nat.reduceLeDiff, AV.len, evalUn, Int.reduceLT, Int.reduceLE, Int.reduceEq, Int.reduceNe, g2, g4, g5]
  refine (endR_ac ps).mono ?_
  rintro v s' ⟨rfl, ps', hk⟩
  have cB' : s'.cells B = some c.c := (hk.cells hlt (by intro h; exact h) (by omega)).trans cB
  have c0' : s'.cells 0 = some Cm.zero.c := (hk.cells (by omega) (by intro h; exact h) (by omega)).trans c0
  have hn1 := hk.1
  rw [Cm.c_eq] at cB'
  by_cases he : tx.2.fin = 0
  rotate_left
  · simp only [WS, stepW, evalA, reduceIte, Nat.reduceEqDiff, reduceCtorEq, evalBin, Option.getD, Int.reduceToNat, Nat.reduceMul, Nat.reduceAdd, allocA, rowOf, fillA, partsV, setl, Nat.reduceLeDiff, AV.len, evalUn, Int.reduceLT, Int.reduceLE, Int.reduceEq, Int.reduceNe, g2, g4, g5, ne_eq, he, not_false_eq_true, decide_true]
    refine (endR_ac ps').mono ?_
    rintro v s2 ⟨rfl, ps2, hk2⟩
    have c02 : s2.cells 0 = some Cm.zero.c := (hk2.cells (by omega) (by intro h; exact h) (by omega)).trans c0'
    simp only [Cm.c_eq, Cm.zero] at c02
    simp only [WS, stepW, evalA, reduceIte, Nat.reduceEqDiff, reduceCtorEq, evalBin, Option.getD, Int.reduceToNat, Nat.reduceMul, Nat.reduceAdd, allocA, rowOf, fillA, partsV, setl, Nat.reduceLeDiff, AV.len, evalUn, Int.reduceLT, Int.reduceLE, Int.reduceEq, Int.reduceNe, g2, g4, g5, c02, seg5, storeA, sets, setx, TS]
    rw [endS_ne he]
    exact ⟨_, (pur_out .zero _), rfl⟩
  simp only [Cm.c_eq, Cm.zero] at c0'
  simp only [WS, stepW, evalA, reduceIte, Nat.reduceEqDiff, reduceCtorEq, evalBin, Option.getD, Int.reduceToNat, Nat.reduceMul, Nat.reduceAdd, allocA, rowOf, fillA, partsV, setl, Nat.reduceLeDiff, AV.len, evalUn, Int.reduceLT, Int.reduceLE, Int.reduceEq, Int.reduceNe, g2, g4, g5, ne_eq, he, not_true_eq_false, decide_false, cB']
  rw [seg5, ← Cm.c_eq]
  refine (wrongR_ac c _).use ?_
  by_cases hw : wrongS c = 0
  · simp only [WS, stepW, evalA, reduceIte, Nat.reduceEqDiff, reduceCtorEq, evalBin, Option.getD, Int.reduceToNat, Nat.reduceMul, Nat.reduceAdd, allocA, rowOf, fillA, partsV, setl, Nat.reduceLeDiff, AV.len, evalUn, Int.reduceLT, Int.reduceLE, Int.reduceEq, Int.reduceNe, g2, g4, g5, ne_eq, hw, not_true_eq_false, decide_false, cB', c0', seg5, storeA, sets, setx, TS]
    rw [endS_ok hw]
    exact ⟨_, (pur_out c 0), rfl⟩
  · simp only [WS, stepW, evalA, reduceIte, Nat.reduceEqDiff, reduceCtorEq, evalBin, Option.getD, Int.reduceToNat, Nat.reduceMul, Nat.reduceAdd, allocA, rowOf, fillA, partsV, setl, Nat.reduceLeDiff, AV.len, evalUn, Int.reduceLT, Int.reduceLE, Int.reduceEq, Int.reduceNe, g2, g4, g5, ne_eq, hw, not_false_eq_true, decide_true, cB', seg5]
    rw [← Cm.c_eq]
    refine (wrongR_ac c _).use ?_
    simp only [WS, stepW, evalA, reduceIte, Nat.reduceEqDiff, reduceCtorEq, evalBin, Option.getD, Int.reduceToNat, Nat.reduceMul, Nat.reduceAdd, allocA, rowOf, fillA, partsV, setl, Nat.reduceLeDiff, AV.len, evalUn, Int.reduceLT, Int.reduceLE, Int.reduceEq, Int.reduceNe, g2, g4, g5, c0', seg5, storeA, sets, setx, TS]
    rw [endS_bad hw]
    exact ⟨_, (pur_out .zero (wrongS c)), rfl⟩
theorem parseR_ac {L : List UInt8} (hL : L.length ≤ 70000) {σ : AState} {x : AV} (hx : IsB σ x L) : AC Try.prog 17 [x] σ fun v s => s = σ ∧ v = .tup [.agg (parseS L).1.c, .int .i64 (parseS L).2] :=
  AC.pure (.cons hx .nil) (parseR_st0 hL)
end Go.Proofs.Ythobpdfchhihnaa.Va
