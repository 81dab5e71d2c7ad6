/- A command read by pack.ParseCmd. Conditions: none. -/
import Derived.Test.YthobpdfchhihnaaPkH
import Derived.Test.YthobpdfchhihnaaFrames
set_option maxRecDepth 100000
set_option maxHeartbeats 4000000
set_option linter.all false
namespace Go.Proofs.Ythobpdfchhihnaa.Va
open Go.Proofs
def endS (c : Cm) (e : Int) : Cm × Int := match e with | 0 => (match wrongS c == 0 with | true => (c, 0) | false => (.zero, wrongS c)) | e => (.zero, e)
def parseP (L : List UInt8) : Cm × Int :=
  let a := Rd.byte ⟨L, true⟩
  let q := a.2.int
  let k := q.2.byte
  let nm := k.2.bytes
  let tx := nm.2.bytes
  endS ⟨a.1, q.1, k.1, nm.1, tx.1⟩ tx.2.fin
theorem parseP_eq (L : List UInt8) : parseP L = parseS L := by
  match L with
  | [] => rfl
  | [_] => rfl
  | [_, _] => rfl
  | [_, _, _] => rfl
  | [_, _, _, _] => rfl
  | [_, _, _, _, _] => rfl
  | [_, _, _, _, _, _] => rfl
  | [_, _, _, _, _, _, _] => rfl
  | [_, _, _, _, _, _, _, _] => rfl
  | [_, _, _, _, _, _, _, _, _] => rfl
  | [_, _, _, _, _, _, _, _, _, _] => rfl
  | [_, _, _, _, _, _, _, _, _, _, _] => rfl
  | a :: s7 :: s6 :: s5 :: s4 :: s3 :: s2 :: s1 :: s0 :: k :: n1 :: n0 :: r =>
    have e1 : parseP (a :: s7 :: s6 :: s5 :: s4 :: s3 :: s2 :: s1 :: s0 :: k :: n1 :: n0 :: r) = (let nm := Rd.take ⟨r, true⟩ (n1.toNat * 256 + n0.toNat); let tx := nm.2.bytes; endS ⟨a.toNat, numV [s7, s6, s5, s4, s3, s2, s1, s0], k.toNat, nm.1, tx.1⟩ tx.2.fin) := rfl
    rw [e1, parseS, decS]
    generalize n1.toNat * 256 + n0.toNat = n
    cases hb : Nat.ble n r.length with
    | false =>
      have e2 : Rd.take ⟨r, true⟩ n = ([], ⟨r, false⟩) := by simp only [Rd.take, hb, Bool.and_false]
      rw [e2]
      rfl
    | true =>
      have e2 : Rd.take ⟨r, true⟩ n = (r.take n, ⟨r.drop n, true⟩) := by simp only [Rd.take, hb, Bool.and_true]
      rw [e2]
      match hd : r.drop n with
      | [] => simp only [hd]; rfl
      | [t] => simp only [hd]; rfl
      | t1 :: t0 :: q =>
        simp only [hd]
        have e3 : Rd.bytes ⟨t1 :: t0 :: q, true⟩ = Rd.take ⟨q, true⟩ (t1.toNat * 256 + t0.toNat) := rfl
        rw [e3]
        generalize t1.toNat * 256 + t0.toNat = m
        cases hb2 : Nat.ble m q.length with
        | false =>
          have e4 : Rd.take ⟨q, true⟩ m = ([], ⟨q, false⟩) := by simp only [Rd.take, hb2, Bool.and_false]
          rw [e4]
          rfl
        | true =>
          have e4 : Rd.take ⟨q, true⟩ m = (q.take m, ⟨q.drop m, true⟩) := by simp only [Rd.take, hb2, Bool.and_true]
          rw [e4]
          simp only
          cases hq : q.drop m with
          | nil => rfl
          | cons x y => rfl

/- The command that is being read. -/
structure PI (B : Nat) (L : List UInt8) (ρ : Env) (s : AState) (r : Rd) (c : Cm) : Prop where
  r2 : ρ.rd 2 = .ptr 0 0
  r4 : ρ.rd 4 = .ptr 1 0
  r5 : ρ.rd 5 = .ptr B 0
  c0 : s.cells 0 = some Cm.zero.c
  cB : s.cells B = some c.c
  ps : PS 1 s L r
  hB : 1 < B
  lt : B < s.n
theorem PI.next {B : Nat} {L : List UInt8} {ρ ρ' : Env} {s s' : AState} {r r' : Rd} {c : Cm} (h : PI B L ρ s r c) (h2 : ρ'.rd 2 = .ptr 0 0) (h4 : ρ'.rd 4 = .ptr 1 0) (h5 : ρ'.rd 5 = .ptr B 0) (hp : PS 1 s' L r') (hk : K1 1 s s') (c' : Cm) : PI B L ρ' (s'.put B c'.c) r' c' := by
  have hB := h.hB
  have hlt := h.lt
  have hn := hk.1
  refine ⟨h2, h4, h5, ?_, put_self _ _ _, ?_, hB, by rw [put_n]; omega⟩
  · rw [put_get, if_neg (by omega)]; exact (hk.cells (by omega) (by intro h; exact h) (by omega)).trans h.c0
  · obtain ⟨⟨off, hc, hr⟩, hl, hs⟩ := hp
    exact ⟨⟨off, by rw [put_get, if_neg (by omega)]; exact hc, hr⟩, hl, hs⟩
theorem PI.cell {B : Nat} {L : List UInt8} {ρ : Env} {s s' : AState} {r : Rd} {c : Cm} (h : PI B L ρ s r c) (hk : K1 1 s s') : s'.cells B = some c.c := (hk.cells h.lt (by intro h; exact h) (by have := h.hB; omega)).trans h.cB
theorem TB.form {b0 : Nat} {σ s : AState} {v : AV} {o : List UInt8} (h : TB b0 σ s v o) : (v = .nils ∧ o = []) ∨ ∃ nb, v = .sl nb 0 o.length (some o.length) 1 ∧ firstA s 1 o.length (.sl nb 0 o.length (some o.length) 1) = some (ofU8s o) := by
  rcases h with ⟨rfl, rfl⟩ | ⟨nb, rfl, hc, _, _⟩
  · exact .inl ⟨rfl, rfl⟩
  · exact .inr ⟨nb, rfl, by rw [firstA_own hc (by rw [ofU8s_length]; omega), seg_self _ _ (by rw [ofU8s_length]; omega)]⟩
theorem endS_ne {c : Cm} {e : Int} (h : e ≠ 0) : endS c e = (.zero, e) := by
  unfold endS
  split
  · exact absurd rfl h
  · rfl
theorem endS_ok {c : Cm} (h : wrongS c = 0) : endS c 0 = (c, 0) := by
  unfold endS
  rw [h]; rfl
theorem endS_bad {c : Cm} (h : wrongS c ≠ 0) : endS c 0 = (.zero, wrongS c) := by
  unfold endS
  have : (wrongS c == 0) = false := by simpa using h
  simp only [this]
theorem seg5 (a b c d e : AV) : seg [a, b, c, d, e] 0 5 = [a, b, c, d, e] := Eq.trans rfl rfl
theorem pur_out (c : Cm) (e : Int) {s : AState} : Pur s false (.tup [.agg c.c, .int .i64 e]) (.tup [.agg c.c, .int .i64 e]) := .tup _ _ rfl fun i hi hi' => by
  match i, hi with
  | 0, _ => exact c.pur
  | 1, _ => exact .flat _ rfl
theorem parse_st0 {L : List UInt8} (hL : L.length ≤ 70000) : AC Try.prog 16 [.psl (ofU8s L) 0 L.length] st0 fun v s => ∃ a, Pur s false v a ∧ a = .tup [.agg (parseS L).1.c, .int .i64 (parseS L).2] := by
  rw [← parseP_eq]
  refine ac_wp fn16 cf16 cl16 rfl ?_
  simp only [ac16]
  unfold ab16
  simp only [wpC_seq, wpC_skip, wpCK_normal]
  refine w_mid (fun ρ s => ρ.rd 0 = .psl (ofU8s L) 0 L.length ∧ ρ.rd 2 = .ptr 0 0 ∧ s.n = 1 ∧ s.cells 0 = some Cm.zero.c) ?_ ?_
  · simp only [WS, stepW, evalA, reduceIte, Nat.reduceEqDiff, reduceCtorEq, evalBin, Option.getD, Int.reduceToNat, Nat.reduceMul, Nat.reduceAdd, allocA, rowOf, fillA, partsV, setl, Nat.reduceLeDiff, AV.len, evalUn, Int.reduceLT, Int.reduceLE, Int.reduceEq, Int.reduceNe, Cm.c_eq, Cm.zero]
  rintro ρ s ⟨g0, g2, hn, c0⟩
  rw [wpC_seq]
  refine w_mid (fun ρ s => ρ.rd 2 = .ptr 0 0 ∧ ρ.rd 4 = .ptr 1 0 ∧ s.n = 2 ∧ s.cells 0 = some Cm.zero.c ∧ PS 1 s L ⟨L, true⟩) ?_ ?_
  · simp only [WS, stepW, evalA, reduceIte, Nat.reduceEqDiff, reduceCtorEq, evalBin, Option.getD, Int.reduceToNat, Nat.reduceMul, Nat.reduceAdd, allocA, rowOf, fillA, partsV, setl, Nat.reduceLeDiff, AV.len, evalUn, Int.reduceLT, Int.reduceLE, Int.reduceEq, Int.reduceNe, g0, g2]
    refine ⟨by rw [hn], hn, ?_, ⟨0, ?_, rfl, by omega⟩, ?_, hL⟩
    · rw [if_neg (by omega)]; exact c0
    · rw [push_get, if_pos hn.symm]; rfl
    · show 1 < s.n + 1
      omega
  clear g0 g2 hn c0
  rintro ρ s ⟨g2, g4, hn, c0, ps⟩
  rw [wpC_seq]
  simp only [parseP]
  refine w_mid (fun ρ s => ∃ B, PI B L ρ s (Rd.byte ⟨L, true⟩).2 ⟨(Rd.byte ⟨L, true⟩).1, 0, 0, [], []⟩) ?_ ?_
  · simp only [WS, stepW, evalA, reduceIte, Nat.reduceEqDiff, reduceCtorEq, evalBin, Option.getD, Int.reduceToNat, Nat.reduceMul, Nat.reduceAdd, allocA, rowOf, fillA, partsV, setl, Nat.reduceLeDiff, AV.len, evalUn, Int.reduceLT, Int.reduceLE, Int.reduceEq, Int.reduceNe, g2, g4]
    refine (byteP_ac ps).mono ?_
    rintro v s' ⟨rfl, ps', hk⟩
    simp only [WS, stepW, evalA, reduceIte, Nat.reduceEqDiff, reduceCtorEq, evalBin, Option.getD, Int.reduceToNat, Nat.reduceMul, Nat.reduceAdd, allocA, rowOf, fillA, partsV, setl, Nat.reduceLeDiff, AV.len, evalUn, Int.reduceLT, Int.reduceLE, Int.reduceEq, Int.reduceNe, g2, g4, storeA, sets, setx, TS]
    have hn' := hk.1
    refine ⟨s'.n, ?_, ?_, ?_, ?_, put_self _ _ _, ?_, by omega, Nat.lt_succ_self _⟩
    · simp only [WS, stepW, evalA, reduceIte, Nat.reduceEqDiff, reduceCtorEq, evalBin, Option.getD, Int.reduceToNat, Nat.reduceMul, Nat.reduceAdd, allocA, rowOf, fillA, partsV, setl, Nat.reduceLeDiff, AV.len, evalUn, Int.reduceLT, Int.reduceLE, Int.reduceEq, Int.reduceNe, g2]
    · simp only [WS, stepW, evalA, reduceIte, Nat.reduceEqDiff, reduceCtorEq, evalBin, Option.getD, Int.reduceToNat, Nat.reduceMul, Nat.reduceAdd, allocA, rowOf, fillA, partsV, setl, Nat.reduceLeDiff, AV.len, evalUn, Int.reduceLT, Int.reduceLE, Int.reduceEq, Int.reduceNe, g4]
    · simp only [WS, stepW, evalA, reduceIte, Nat.reduceEqDiff, reduceCtorEq, evalBin, Option.getD, Int.reduceToNat, Nat.reduceMul, Nat.reduceAdd, allocA, rowOf, fillA, partsV, setl, Nat.reduceLeDiff, AV.len, evalUn, Int.reduceLT, Int.reduceLE, Int.reduceEq, Int.reduceNe, g4]
    · rw [put_get, if_neg (by omega), push_get, if_neg (by omega)]; exact (hk.cells (by omega) (by intro h; exact h) (by omega)).trans c0
    · obtain ⟨⟨off, hc, hr⟩, hl, hs⟩ := ps'
      exact ⟨⟨off, by rw [put_get, if_neg (by omega), push_get, if_neg (by omega)]; exact hc, hr⟩, Nat.lt_succ_of_lt hl, hs⟩
  clear g2 g4 hn c0 ps
  generalize Rd.byte ⟨L, true⟩ = a
  rintro ρ s ⟨B, m⟩
  rw [wpC_seq]
  refine w_mid (fun ρ s => PI B L ρ s a.2.int.2 ⟨a.1, a.2.int.1, 0, [], []⟩) ?_ ?_
  · obtain ⟨g2, g4, g5, c0, cB, ps, hB, hlt⟩ := id m
    simp only [WS, stepW, evalA, reduceIte, Nat.reduceEqDiff, reduceCtorEq, evalBin, Option.getD, Int.reduceToNat, Nat.reduceMul, Nat.reduceAdd, allocA, rowOf, fillA, partsV, setl, Nat.reduceLeDiff, AV.len, evalUn, Int.reduceLT, Int.reduceLE, Int.reduceEq, Int.reduceNe, g2, g4, g5]
    refine (intP_ac ps).mono ?_
    rintro v s' ⟨rfl, ps', hk⟩
    have cB' := m.cell hk
    rw [Cm.c_eq] at cB'
    simp only [WS, stepW, evalA, reduceIte, Nat.reduceEqDiff, reduceCtorEq, evalBin, Option.getD, Int.reduceToNat, Nat.reduceMul, Nat.reduceAdd, allocA, rowOf, fillA, partsV, setl, Nat.reduceLeDiff, AV.len, evalUn, Int.reduceLT, Int.reduceLE, Int.reduceEq, Int.reduceNe, g2, g4, g5, cB', storeA, sets, setx, TS]
    refine m.next ?_ ?_ ?_ ps' hk ⟨a.1, a.2.int.1, 0, [], []⟩
    · simp only [WS, stepW, evalA, reduceIte, Nat.reduceEqDiff, reduceCtorEq, evalBin, Option.getD, Int.reduceToNat, Nat.reduceMul, Nat.reduceAdd, allocA, rowOf, fillA, partsV, setl, Nat.reduceLeDiff, AV.len, evalUn, Int.reduceLT, Int.reduceLE, Int.reduceEq, Int.reduceNe, g2]
    · simp only [WS, stepW, evalA, reduceIte, Nat.reduceEqDiff, reduceCtorEq, evalBin, Option.getD, Int.reduceToNat, Nat.reduceMul, Nat.reduceAdd, allocA, rowOf, fillA, partsV, setl, Nat.reduceLeDiff, AV.len, evalUn, Int.reduceLT, Int.reduceLE, Int.reduceEq, Int.reduceNe, g4]
    · simp only [WS, stepW, evalA, reduceIte, Nat.reduceEqDiff, reduceCtorEq, evalBin, Option.getD, Int.reduceToNat, Nat.reduceMul, Nat.reduceAdd, allocA, rowOf, fillA, partsV, setl, Nat.reduceLeDiff, AV.len, evalUn, Int.reduceLT, Int.reduceLE, Int.reduceEq, Int.reduceNe, g5]
  generalize a.2.int = q
  intro ρ s m
  rw [wpC_seq]
  refine w_mid (fun ρ s => PI B L ρ s q.2.byte.2 ⟨a.1, q.1, q.2.byte.1, [], []⟩) ?_ ?_
  · obtain ⟨g2, g4, g5, c0, cB, ps, hB, hlt⟩ := id m
    simp only [WS, stepW, evalA, reduceIte, Nat.reduceEqDiff, reduceCtorEq, evalBin, Option.getD, Int.reduceToNat, Nat.reduceMul, Nat.reduceAdd, allocA, rowOf, fillA, partsV, setl, Nat.reduceLeDiff, AV.len, evalUn, Int.reduceLT, Int.reduceLE, Int.reduceEq, Int.reduceNe, g2, g4, g5]
    refine (byteP_ac ps).mono ?_
    rintro v s' ⟨rfl, ps', hk⟩
    have cB' := m.cell hk
    rw [Cm.c_eq] at cB'
    simp only [WS, stepW, evalA, reduceIte, Nat.reduceEqDiff, reduceCtorEq, evalBin, Option.getD, Int.reduceToNat, Nat.reduceMul, Nat.reduceAdd, allocA, rowOf, fillA, partsV, setl, Nat.reduceLeDiff, AV.len, evalUn, Int.reduceLT, Int.reduceLE, Int.reduceEq, Int.reduceNe, g2, g4, g5, cB', storeA, sets, setx, TS]
    refine m.next ?_ ?_ ?_ ps' hk ⟨a.1, q.1, q.2.byte.1, [], []⟩
    · simp only [WS, stepW, evalA, reduceIte, Nat.reduceEqDiff, reduceCtorEq, evalBin, Option.getD, Int.reduceToNat, Nat.reduceMul, Nat.reduceAdd, allocA, rowOf, fillA, partsV, setl, Nat.reduceLeDiff, AV.len, evalUn, Int.reduceLT, Int.reduceLE, Int.reduceEq, Int.reduceNe, g2]
    · simp only [WS, stepW, evalA, reduceIte, Nat.reduceEqDiff, reduceCtorEq, evalBin, Option.getD, Int.reduceToNat, Nat.reduceMul, Nat.reduceAdd, allocA, rowOf, fillA, partsV, setl, Nat.reduceLeDiff, AV.len, evalUn, Int.reduceLT, Int.reduceLE, Int.reduceEq, Int.reduceNe, g4]
    · simp only [WS, stepW, evalA, reduceIte, Nat.reduceEqDiff, reduceCtorEq, evalBin, Option.getD, Int.reduceToNat, Nat.reduceMul, Nat.reduceAdd, allocA, rowOf, fillA, partsV, setl, Nat.reduceLeDiff, AV.len, evalUn, Int.reduceLT, Int.reduceLE, Int.reduceEq, Int.reduceNe, g5]
  generalize q.2.byte = k
  intro ρ s m
  rw [wpC_seq]
  refine w_mid (fun ρ s => PI B L ρ s k.2.bytes.2 ⟨a.1, q.1, k.1, k.2.bytes.1, []⟩) ?_ ?_
  · obtain ⟨g2, g4, g5, c0, cB, ps, hB, hlt⟩ := id m
    simp only [WS, stepW, evalA, reduceIte, Nat.reduceEqDiff, reduceCtorEq, evalBin, Option.getD, Int.reduceToNat, Nat.reduceMul, Nat.reduceAdd, allocA, rowOf, fillA, partsV, setl, Nat.reduceLeDiff, AV.len, evalUn, Int.reduceLT, Int.reduceLE, Int.reduceEq, Int.reduceNe, g2, g4, g5]
    refine (bytesP_ac ps).mono ?_
    rintro v s' ⟨⟨σ', hσ, tb⟩, ps', hk⟩
    have cB' := m.cell hk
    rw [Cm.c_eq] at cB'
    rcases tb.form with ⟨rfl, e⟩ | ⟨nb, rfl, hf⟩
    · simp only [WS, stepW, evalA, reduceIte, Nat.reduceEqDiff, reduceCtorEq, evalBin, Option.getD, Int.reduceToNat, Nat.reduceMul, Nat.reduceAdd, allocA, rowOf, fillA, partsV, setl, Nat.reduceLeDiff, AV.len, evalUn, Int.reduceLT, Int.reduceLE, Int.reduceEq, Int.reduceNe, g2, g4, g5, cB', storeA, sets, setx, TS]
      rw [e]
      refine m.next ?_ ?_ ?_ ps' hk ⟨a.1, q.1, k.1, [], []⟩
      · simp only [WS, stepW, evalA, reduceIte, Nat.reduceEqDiff, reduceCtorEq, evalBin, Option.getD, Int.reduceToNat, Nat.reduceMul, Nat.reduceAdd, allocA, rowOf, fillA, partsV, setl, Nat.reduceLeDiff, AV.len, evalUn, Int.reduceLT, Int.reduceLE, Int.reduceEq, Int.reduceNe, g2]
      · simp only [WS, stepW, evalA, reduceIte, Nat.reduceEqDiff, reduceCtorEq, evalBin, Option.getD, Int.reduceToNat, Nat.reduceMul, Nat.reduceAdd, allocA, rowOf, fillA, partsV, setl, Nat.reduceLeDiff, AV.len, evalUn, Int.reduceLT, Int.reduceLE, Int.reduceEq, Int.reduceNe, g4]
      · simp only [WS, stepW, evalA, reduceIte, Nat.reduceEqDiff, reduceCtorEq, evalBin, Option.getD, Int.reduceToNat, Nat.reduceMul, Nat.reduceAdd, allocA, rowOf, fillA, partsV, setl, Nat.reduceLeDiff, AV.len, evalUn, Int.reduceLT, Int.reduceLE, Int.reduceEq, Int.reduceNe, g5]
    · simp only [WS, stepW, evalA, reduceIte, Nat.reduceEqDiff, reduceCtorEq, evalBin, Option.getD, Int.reduceToNat, Nat.reduceMul, Nat.reduceAdd, allocA, rowOf, fillA, partsV, setl, Nat.reduceLeDiff, AV.len, evalUn, Int.reduceLT, Int.reduceLE, Int.reduceEq, Int.reduceNe, g2, g4, g5, cB', hf, u8s_ofU8s, storeA, sets, setx, TS]
      refine m.next ?_ ?_ ?_ ps' hk ⟨a.1, q.1, k.1, k.2.bytes.1, []⟩
      · simp only [WS, stepW, evalA, reduceIte, Nat.reduceEqDiff, reduceCtorEq, evalBin, Option.getD, Int.reduceToNat, Nat.reduceMul, Nat.reduceAdd, allocA, rowOf, fillA, partsV, setl, Nat.reduceLeDiff, AV.len, evalUn, Int.reduceLT, Int.reduceLE, Int.reduceEq, Int.reduceNe, g2]
      · simp only [WS, stepW, evalA, reduceIte, Nat.reduceEqDiff, reduceCtorEq, evalBin, Option.getD, Int.reduceToNat, Nat.reduceMul, Nat.reduceAdd, allocA, rowOf, fillA, partsV, setl, Nat.reduceLeDiff, AV.len, evalUn, Int.reduceLT, Int.reduceLE, Int.reduceEq, Int.reduceNe, g4]
      · simp only [WS, stepW, evalA, reduceIte, Nat.reduceEqDiff, reduceCtorEq, evalBin, Option.getD, Int.reduceToNat, Nat.reduceMul, Nat.reduceAdd, allocA, rowOf, fillA, partsV, setl, Nat.reduceLeDiff, AV.len, evalUn, Int.reduceLT, Int.reduceLE, Int.reduceEq, Int.reduceNe, g5]
  generalize k.2.bytes = nm
  intro ρ s m
  rw [wpC_seq]
  refine w_mid (fun ρ s => PI B L ρ s nm.2.bytes.2 ⟨a.1, q.1, k.1, nm.1, nm.2.bytes.1⟩) ?_ ?_
  · obtain ⟨g2, g4, g5, c0, cB, ps, hB, hlt⟩ := id m
    simp only [WS, stepW, evalA, reduceIte, Nat.reduceEqDiff, reduceCtorEq, evalBin, Option.getD, Int.reduceToNat, Nat.reduceMul, Nat.reduceAdd, allocA, rowOf, fillA, partsV, setl, Nat.reduceLeDiff, AV.len, evalUn, Int.reduceLT, Int.reduceLE, Int.reduceEq, Int.reduceNe, g2, g4, g5]
    refine (bytesP_ac ps).mono ?_
    rintro v s' ⟨⟨σ', hσ, tb⟩, ps', hk⟩
    have cB' := m.cell hk
    rw [Cm.c_eq] at cB'
    rcases tb.form with ⟨rfl, e⟩ | ⟨nb, rfl, hf⟩
    · simp only [WS, stepW, evalA, reduceIte, Nat.reduceEqDiff, reduceCtorEq, evalBin, Option.getD, Int.reduceToNat, Nat.reduceMul, Nat.reduceAdd, allocA, rowOf, fillA, partsV, setl, Nat.reduceLeDiff, AV.len, evalUn, Int.reduceLT, Int.reduceLE, Int.reduceEq, Int.reduceNe, g2, g4, g5, cB', storeA, sets, setx, TS]
      rw [e]
      refine m.next ?_ ?_ ?_ ps' hk ⟨a.1, q.1, k.1, nm.1, []⟩
      · simp only [WS, stepW, evalA, reduceIte, Nat.reduceEqDiff, reduceCtorEq, evalBin, Option.getD, Int.reduceToNat, Nat.reduceMul, Nat.reduceAdd, allocA, rowOf, fillA, partsV, setl, Nat.reduceLeDiff, AV.len, evalUn, Int.reduceLT, Int.reduceLE, Int.reduceEq, Int.reduceNe, g2]
      · simp only [WS, stepW, evalA, reduceIte, Nat.reduceEqDiff, reduceCtorEq, evalBin, Option.getD, Int.reduceToNat, Nat.reduceMul, Nat.reduceAdd, allocA, rowOf, fillA, partsV, setl, Nat.reduceLeDiff, AV.len, evalUn, Int.reduceLT, Int.reduceLE, Int.reduceEq, Int.reduceNe, g4]
      · simp only [WS, stepW, evalA, reduceIte, Nat.reduceEqDiff, reduceCtorEq, evalBin, Option.getD, Int.reduceToNat, Nat.reduceMul, Nat.reduceAdd, allocA, rowOf, fillA, partsV, setl, Nat.reduceLeDiff, AV.len, evalUn, Int.reduceLT, Int.reduceLE, Int.reduceEq, Int.reduceNe, g5]
    · simp only [WS, stepW, evalA, reduceIte, Nat.reduceEqDiff, reduceCtorEq, evalBin, Option.getD, Int.reduceToNat, Nat.reduceMul, Nat.reduceAdd, allocA, rowOf, fillA, partsV, setl, Nat.reduceLeDiff, AV.len, evalUn, Int.reduceLT, Int.reduceLE, Int.reduceEq, Int.reduceNe, g2, g4, g5, cB', hf, u8s_ofU8s, storeA, sets, setx, TS]
      refine m.next ?_ ?_ ?_ ps' hk ⟨a.1, q.1, k.1, nm.1, nm.2.bytes.1⟩
      · simp only [WS, stepW, evalA, reduceIte, Nat.reduceEqDiff, reduceCtorEq, evalBin, Option.getD, Int.reduceToNat, Nat.reduceMul, Nat.reduceAdd, allocA, rowOf, fillA, partsV, setl, Nat.reduceLeDiff, AV.len, evalUn, Int.reduceLT, Int.reduceLE, Int.reduceEq, Int.reduceNe, g2]
      · simp only [WS, stepW, evalA, reduceIte, Nat.reduceEqDiff, reduceCtorEq, evalBin, Option.getD, Int.reduceToNat, Nat.reduceMul, Nat.reduceAdd, allocA, rowOf, fillA, partsV, setl, Nat.reduceLeDiff, AV.len, evalUn, Int.reduceLT, Int.reduceLE, Int.reduceEq, Int.reduceNe, g4]
      · simp only [WS, stepW, evalA, reduceIte, Nat.reduceEqDiff, reduceCtorEq, evalBin, Option.getD, Int.reduceToNat, Nat.reduceMul, Nat.reduceAdd, allocA, rowOf, fillA, partsV, setl, Nat.reduceLeDiff, AV.len, evalUn, Int.reduceLT, Int.reduceLE, Int.reduceEq, Int.reduceNe, g5]
  generalize nm.2.bytes = tx
  generalize (⟨a.1, q.1, k.1, nm.1, tx.1⟩ : Cm) = c
  rintro ρ s ⟨g2, g4, g5, c0, cB, ps, hB, hlt⟩
  simp only [WS, stepW, evalA, reduceIte, Nat.reduceEqDiff, reduceCtorEq, evalBin, Option.getD, Int.reduceToNat, Nat.reduceMul, Nat.reduceAdd, allocA, rowOf, fillA, partsV, setl, Nat.reduceLeDiff, AV.len, evalUn, Int.reduceLT, Int.reduceLE, Int.reduceEq, Int.reduceNe, g2, g4, g5]
  refine (endP_ac ps).mono ?_
  rintro v s' ⟨rfl, hk⟩
  have cB' : s'.cells B = some c.c := (hk.cells hlt (by intro h; exact h) (by omega)).trans cB
  have c0' : s'.cells 0 = some Cm.zero.c := (hk.cells (by omega) (by intro h; exact h) (by omega)).trans c0
  generalize tx.2.fin = e
  rw [Cm.c_eq] at cB'
  simp only [Cm.c_eq, Cm.zero] at c0'
  by_cases he : e = 0
  rotate_left
  · simp only [WS, stepW, evalA, reduceIte, Nat.reduceEqDiff, reduceCtorEq, evalBin, Option.getD, Int.reduceToNat, Nat.reduceMul, Nat.reduceAdd, allocA, rowOf, fillA, partsV, setl, Nat.reduceLeDiff, AV.len, evalUn, Int.reduceLT, Int.reduceLE, Int.reduceEq, Int.reduceNe, g2, g4, g5, ne_eq, he, not_false_eq_true, decide_true, c0', storeA, sets, setx, TS]
    rw [endS_ne he]
    exact ⟨_, (pur_out .zero e), rfl⟩
  subst he
  simp only [WS, stepW, evalA, reduceIte, Nat.reduceEqDiff, reduceCtorEq, evalBin, Option.getD, Int.reduceToNat, Nat.reduceMul, Nat.reduceAdd, allocA, rowOf, fillA, partsV, setl, Nat.reduceLeDiff, AV.len, evalUn, Int.reduceLT, Int.reduceLE, Int.reduceEq, Int.reduceNe, g2, g4, g5, ne_eq, not_true_eq_false, decide_false, cB']
  rw [seg5, ← Cm.c_eq]
  refine (wrong_ac c _).use ?_
  by_cases hw : wrongS c = 0
  · simp only [WS, stepW, evalA, reduceIte, Nat.reduceEqDiff, reduceCtorEq, evalBin, Option.getD, Int.reduceToNat, Nat.reduceMul, Nat.reduceAdd, allocA, rowOf, fillA, partsV, setl, Nat.reduceLeDiff, AV.len, evalUn, Int.reduceLT, Int.reduceLE, Int.reduceEq, Int.reduceNe, g2, g4, g5, ne_eq, hw, not_true_eq_false, decide_false, cB', c0', seg5, storeA, sets, setx, TS]
    rw [endS_ok hw]
    exact ⟨_, (pur_out c 0), rfl⟩
  · simp only [WS, stepW, evalA, reduceIte, Nat.reduceEqDiff, reduceCtorEq, evalBin, Option.getD, Int.reduceToNat, Nat.reduceMul, Nat.reduceAdd, allocA, rowOf, fillA, partsV, setl, Nat.reduceLeDiff, AV.len, evalUn, Int.reduceLT, Int.reduceLE, Int.reduceEq, Int.reduceNe, g2, g4, g5, ne_eq, hw, not_false_eq_true, decide_true, c0', seg5, storeA, sets, setx, TS]
    rw [endS_bad hw]
    exact ⟨_, (pur_out .zero (wrongS c)), rfl⟩
theorem parse_ac {L : List UInt8} (hL : L.length ≤ 70000) {σ : AState} {x : AV} (hx : IsB σ x L) : AC Try.prog 16 [x] σ fun v s => s = σ ∧ v = .tup [.agg (parseS L).1.c, .int .i64 (parseS L).2] :=
  AC.pure (.cons hx .nil) (parse_st0 hL)
end Go.Proofs.Ythobpdfchhihnaa.Va
