/- The reader of pack: byte, int, bytes, end. Conditions: none. -/
import Derived.Test.YthobpdfchhihnaaPkG
set_option maxRecDepth 100000
set_option maxHeartbeats 4000000
set_option linter.all false
namespace Go.Proofs.Ythobpdfchhihnaa.Va
open Go.Proofs
/- Numbers out of bytes. -/
theorem wrap64e (n : Int) : IntKind.i64.wrap n = if (true && decide (n % 2 ^ 64 ≥ 2 ^ (64 - 1))) = true then n % 2 ^ 64 - 2 ^ 64 else n % 2 ^ 64 := rfl
theorem wrap64_mod (n : Int) : ∃ k : Int, IntKind.i64.wrap n = n + k * 18446744073709551616 := by
  rw [wrap64e]
  split
  · exact ⟨-(n / 18446744073709551616) - 1, by omega⟩
  · exact ⟨-(n / 18446744073709551616), by omega⟩
theorem wrap64_congr {a b : Int} (h : a % 18446744073709551616 = b % 18446744073709551616) : IntKind.i64.wrap a = IntKind.i64.wrap b := by
  rw [wrap64e, wrap64e]
  have h' : a % 2 ^ 64 = b % 2 ^ 64 := h
  rw [h']
theorem e_shlw (N : Nat) : evalShift .shl .i64 (IntKind.i64.wrap (N : Int)) 8 = some (.int .i64 (IntKind.i64.wrap ((N * 256 : Nat) : Int))) := by
  simp only [evalShift, IntKind.bits]
  rw [if_neg (by omega)]
  congr 2
  apply wrap64_congr
  obtain ⟨k, hk⟩ := wrap64_mod (N : Int)
  have e : min (8 : Int).toNat 64 = 8 := rfl
  rw [e, hk]
  omega
theorem e_orw {N : Nat} (hN : N < 72057594037927936) (x : UInt8) : evalInt .or .i64 (IntKind.i64.wrap ((N * 256 : Nat) : Int)) x.toNat = some (.int .i64 (IntKind.i64.wrap ((N * 256 + x.toNat : Nat) : Int))) := by
  have hx := x.toNat_lt
  obtain ⟨k, hk⟩ := wrap64_mod ((N * 256 : Nat) : Int)
  have h1 : (BitVec.ofInt IntKind.i64.bits (IntKind.i64.wrap ((N * 256 : Nat) : Int))).toNat = N <<< 8 := by
    show (BitVec.ofInt 64 _).toNat = _
    rw [BitVec.toNat_ofInt, hk, Nat.shiftLeft_eq]; omega
  have h2 : (BitVec.ofInt IntKind.i64.bits (x.toNat : Int)).toNat = x.toNat := by
    show (BitVec.ofInt 64 _).toNat = _
    rw [BitVec.toNat_ofInt]; omega
  simp only [evalInt]
  rw [BitVec.toNat_or, h1, h2, ← Nat.shiftLeft_add_eq_or_of_lt hx, Nat.shiftLeft_eq]
theorem beN_snoc (l : List UInt8) (x : UInt8) : beN (l ++ [x]) = beN l * 256 + x.toNat := by simp only [beN, List.foldl_append, List.foldl_cons, List.foldl_nil]
theorem beN_lt (l : List UInt8) : ∀ i, i ≤ l.length → beN (l.take i) < 256 ^ i := by
  intro i
  induction i with
  | zero => intro _; simp [beN]
  | succ i ih =>
    intro h
    have hi : i < l.length := by omega
    rw [List.take_add_one, List.getElem?_eq_getElem hi, Option.toList_some, beN_snoc, Nat.pow_succ]
    have := ih (by omega)
    have := l[i].toNat_lt
    omega
def Rd.byte (r : Rd) : Nat × Rd := (firstB (r.take 1).1, (r.take 1).2)
def Rd.int (r : Rd) : Int × Rd := (numV (r.take 8).1, (r.take 8).2)
def Rd.bytes (r : Rd) : List UInt8 × Rd := r.byte.2.byte.2.take (r.byte.1 * 256 + r.byte.2.byte.1)
def Rd.fin (r : Rd) : Int := match r.ok, r.l with | true, [] => 0 | true, _ :: _ => 9 | false, _ => 8
theorem Rd.take_len (r : Rd) (n : Nat) : (r.take n).1.length ≤ n := by
  unfold Rd.take
  split
  · rw [List.length_take]; omega
  · simp
theorem byteP_ac {b0 : Nat} {σ : AState} {L : List UInt8} {r : Rd} (h : PS b0 σ L r) :
    AC Try.prog 28 [.ptr b0 0] σ fun v s => v = .int .i64 r.byte.1 ∧ PS b0 s L r.byte.2 ∧ K1 b0 σ s := by
  have ht := take_ac h (n := 1) (by decide)
  have hlen := r.take_len 1
  simp only [Rd.byte]
  generalize r.take 1 = q at *
  obtain ⟨o, r'⟩ := q
  simp only at ht hlen ⊢
  refine ac_wp fn28 cf28 cl28 rfl ?_
  simp only [ac28]
  unfold ab28
  simp only [WS, stepW, evalA, reduceIte, Nat.reduceEqDiff, reduceCtorEq, evalBin, Option.getD, Int.reduceToNat, Nat.reduceMul, Nat.reduceAdd, allocA, rowOf, fillA, partsV, setl, Nat.reduceLeDiff, AV.len, evalUn, Int.reduceLT, Int.reduceLE, Int.reduceEq, Int.reduceNe]
  refine ht.mono ?_
  rintro v s ⟨hv, hps, hk⟩
  rcases hv with ⟨rfl, rfl⟩ | ⟨nb, rfl, hc, hnb, hnn⟩
  · simp only [WS, stepW, evalA, reduceIte, Nat.reduceEqDiff, reduceCtorEq, evalBin, Option.getD, Int.reduceToNat, Nat.reduceMul, Nat.reduceAdd, allocA, rowOf, fillA, partsV, setl, Nat.reduceLeDiff, AV.len, evalUn, Int.reduceLT, Int.reduceLE, Int.reduceEq, Int.reduceNe]
    refine w_for (fun i ρ s' => s' = s ∧ i = 0 ∧ ρ.rd 8 = .int .i64 0 ∧ ρ.rd 7 = .int .i64 0) 1 ?_ ?_
    · simp only [WS, stepW, evalA, reduceIte, Nat.reduceEqDiff, reduceCtorEq, evalBin, Option.getD, Int.reduceToNat, Nat.reduceMul, Nat.reduceAdd, allocA, rowOf, fillA, partsV, setl, Nat.reduceLeDiff, AV.len, evalUn, Int.reduceLT, Int.reduceLE, Int.reduceEq, Int.reduceNe]
    · rintro i ρ s' hi ⟨rfl, rfl, g8, g7⟩
      simp only [WS, stepW, evalA, reduceIte, Nat.reduceEqDiff, reduceCtorEq, evalBin, Option.getD, Int.reduceToNat, Nat.reduceMul, Nat.reduceAdd, allocA, rowOf, fillA, partsV, setl, Nat.reduceLeDiff, AV.len, evalUn, Int.reduceLT, Int.reduceLE, Int.reduceEq, Int.reduceNe, g8, g7]
      exact ⟨rfl, hps, hk⟩
  · simp only [WS, stepW, evalA, reduceIte, Nat.reduceEqDiff, reduceCtorEq, evalBin, Option.getD, Int.reduceToNat, Nat.reduceMul, Nat.reduceAdd, allocA, rowOf, fillA, partsV, setl, Nat.reduceLeDiff, AV.len, evalUn, Int.reduceLT, Int.reduceLE, Int.reduceEq, Int.reduceNe]
    refine w_for (fun i ρ s' => s' = s ∧ i = 0 ∧ ρ.rd 8 = .int .i64 0 ∧ ρ.rd 7 = .int .i64 o.length ∧ ρ.rd 6 = .sl nb 0 o.length (some o.length) 1) 1 ?_ ?_
    · simp only [WS, stepW, evalA, reduceIte, Nat.reduceEqDiff, reduceCtorEq, evalBin, Option.getD, Int.reduceToNat, Nat.reduceMul, Nat.reduceAdd, allocA, rowOf, fillA, partsV, setl, Nat.reduceLeDiff, AV.len, evalUn, Int.reduceLT, Int.reduceLE, Int.reduceEq, Int.reduceNe]
    · rintro i ρ s' hi ⟨rfl, rfl, g8, g7, g6⟩
      cases o with
      | nil =>
        have g7' : ρ.rd 7 = .int .i64 0 := g7
        simp only [WS, stepW, evalA, reduceIte, Nat.reduceEqDiff, reduceCtorEq, evalBin, Option.getD, Int.reduceToNat, Nat.reduceMul, Nat.reduceAdd, allocA, rowOf, fillA, partsV, setl, Nat.reduceLeDiff, AV.len, evalUn, Int.reduceLT, Int.reduceLE, Int.reduceEq, Int.reduceNe, g8, g7']
        exact ⟨rfl, hps, hk⟩
      | cons x o =>
        have : o = [] := by simpa using hlen
        subst this
        have hw : IntKind.i64.wrap (x.toNat : Int) = x.toNat := wrap64_nat (by have := x.toNat_lt; omega)
        have g7' : ρ.rd 7 = .int .i64 1 := g7
        have g6' : ρ.rd 6 = .sl nb 0 1 (some 1) 1 := g6
        have hc' : s'.cells nb = some [.int .u8 (x.toNat : Nat)] := hc
        have h01 : (0 : Int) < ((1 : Nat) : Int) := by decide
        simp only [WS, stepW, evalA, reduceIte, Nat.reduceEqDiff, reduceCtorEq, evalBin, Option.getD, Int.reduceToNat, Nat.reduceMul, Nat.reduceAdd, allocA, rowOf, fillA, partsV, setl, Nat.reduceLeDiff, AV.len, evalUn, Int.reduceLT, Int.reduceLE, Int.reduceEq, Int.reduceNe, g8, g7', g6', hc', hw, h01]
        exact ⟨rfl, hps, hk⟩
theorem intP_ac {b0 : Nat} {σ : AState} {L : List UInt8} {r : Rd} (h : PS b0 σ L r) :
    AC Try.prog 29 [.ptr b0 0] σ fun v s => v = .int .i64 r.int.1 ∧ PS b0 s L r.int.2 ∧ K1 b0 σ s := by
  have ht := take_ac h (n := 8) (by decide)
  have hlen := r.take_len 8
  simp only [Rd.int]
  generalize r.take 8 = q at *
  obtain ⟨o, r'⟩ := q
  simp only at ht hlen ⊢
  refine ac_wp fn29 cf29 cl29 rfl ?_
  simp only [ac29]
  unfold ab29
  simp only [WS, stepW, evalA, reduceIte, Nat.reduceEqDiff, reduceCtorEq, evalBin, Option.getD, Int.reduceToNat, Nat.reduceMul, Nat.reduceAdd, allocA, rowOf, fillA, partsV, setl, Nat.reduceLeDiff, AV.len, evalUn, Int.reduceLT, Int.reduceLE, Int.reduceEq, Int.reduceNe]
  refine ht.mono ?_
  rintro v s ⟨hv, hps, hk⟩
  rcases hv with ⟨rfl, rfl⟩ | ⟨nb, rfl, hc, hnb, hnn⟩
  · simp only [WS, stepW, evalA, reduceIte, Nat.reduceEqDiff, reduceCtorEq, evalBin, Option.getD, Int.reduceToNat, Nat.reduceMul, Nat.reduceAdd, allocA, rowOf, fillA, partsV, setl, Nat.reduceLeDiff, AV.len, evalUn, Int.reduceLT, Int.reduceLE, Int.reduceEq, Int.reduceNe]
    refine w_for (fun i ρ s' => s' = s ∧ i = 0 ∧ ρ.rd 9 = .int .i64 0 ∧ ρ.rd 8 = .int .i64 0 ∧ ρ.rd 3 = .int .i64 0) 1 ?_ ?_
    · simp only [WS, stepW, evalA, reduceIte, Nat.reduceEqDiff, reduceCtorEq, evalBin, Option.getD, Int.reduceToNat, Nat.reduceMul, Nat.reduceAdd, allocA, rowOf, fillA, partsV, setl, Nat.reduceLeDiff, AV.len, evalUn, Int.reduceLT, Int.reduceLE, Int.reduceEq, Int.reduceNe]
    · rintro i ρ s' hi ⟨rfl, rfl, g9, g8, g3⟩
      simp only [WS, stepW, evalA, reduceIte, Nat.reduceEqDiff, reduceCtorEq, evalBin, Option.getD, Int.reduceToNat, Nat.reduceMul, Nat.reduceAdd, allocA, rowOf, fillA, partsV, setl, Nat.reduceLeDiff, AV.len, evalUn, Int.reduceLT, Int.reduceLE, Int.reduceEq, Int.reduceNe, g9, g8, g3]
      exact ⟨rfl, hps, hk⟩
  · simp only [WS, stepW, evalA, reduceIte, Nat.reduceEqDiff, reduceCtorEq, evalBin, Option.getD, Int.reduceToNat, Nat.reduceMul, Nat.reduceAdd, allocA, rowOf, fillA, partsV, setl, Nat.reduceLeDiff, AV.len, evalUn, Int.reduceLT, Int.reduceLE, Int.reduceEq, Int.reduceNe]
    refine w_for (fun i ρ s' => s' = s ∧ ρ.rd 9 = .int .i64 i ∧ ρ.rd 8 = .int .i64 o.length ∧ ρ.rd 7 = .sl nb 0 o.length (some o.length) 1 ∧ ρ.rd 3 = .int .i64 (numV (o.take i))) o.length ?_ ?_
    · simp only [WS, stepW, evalA, reduceIte, Nat.reduceEqDiff, reduceCtorEq, evalBin, Option.getD, Int.reduceToNat, Nat.reduceMul, Nat.reduceAdd, allocA, rowOf, fillA, partsV, setl, Nat.reduceLeDiff, AV.len, evalUn, Int.reduceLT, Int.reduceLE, Int.reduceEq, Int.reduceNe]
      exact ⟨rfl, rfl⟩
    · rintro i ρ s' hi ⟨rfl, g9, g8, g7, g3⟩
      by_cases hlt' : (i : Int) < o.length
      · have hlt : i < o.length := by omega
        have hr := lt_idx hlt
        have hwi : IntKind.i64.wrap ((i : Int) + 1) = ((i + 1 : Nat) : Int) := wrap_succ (by omega)
        have hw : IntKind.i64.wrap (o[i].toNat : Int) = o[i].toNat := wrap64_nat (by have := o[i].toNat_lt; omega)
        have hN : beN (o.take i) < 72057594037927936 := by
          have h1 := beN_lt o i (by omega)
          have h2 : 256 ^ i ≤ 256 ^ 7 := Nat.pow_le_pow_right (by decide) (by omega)
          have h3 : (256 : Nat) ^ 7 = 72057594037927936 := by decide
          omega
        have e1 := e_shlw (beN (o.take i))
        have e2 := e_orw hN o[i]
        have e3 : numV (o.take (i + 1)) = IntKind.i64.wrap ((beN (o.take i) * 256 + o[i].toNat : Nat) : Int) := by
          rw [numV, List.take_add_one, List.getElem?_eq_getElem hlt, Option.toList_some, beN_snoc]
        rw [numV] at g3
        simp only [WS, stepW, evalA, reduceIte, Nat.reduceEqDiff, reduceCtorEq, evalBin, Option.getD, Int.reduceToNat, Nat.reduceMul, Nat.reduceAdd, allocA, rowOf, fillA, partsV, setl, Nat.reduceLeDiff, AV.len, evalUn, Int.reduceLT, Int.reduceLE, Int.reduceEq, Int.reduceNe, g9, g8, g7, g3, hlt', hr, hc, ofU8s_get hlt, hw, e1, e2, hwi]
        exact ⟨hlt, by rw [e3]⟩
      · have : i = o.length := by omega
        subst this
        simp only [WS, stepW, evalA, reduceIte, Nat.reduceEqDiff, reduceCtorEq, evalBin, Option.getD, Int.reduceToNat, Nat.reduceMul, Nat.reduceAdd, allocA, rowOf, fillA, partsV, setl, Nat.reduceLeDiff, AV.len, evalUn, Int.reduceLT, Int.reduceLE, Int.reduceEq, Int.reduceNe, g9, g8, g7, g3, hlt', List.take_length]
        exact ⟨hps, hk⟩
theorem bytesP_ac {b0 : Nat} {σ : AState} {L : List UInt8} {r : Rd} (h : PS b0 σ L r) :
    AC Try.prog 30 [.ptr b0 0] σ fun v s => (∃ σ', σ.n ≤ σ'.n ∧ TB b0 σ' s v r.bytes.1) ∧ PS b0 s L r.bytes.2 ∧ K1 b0 σ s := by
  have lt1 : r.byte.1 < 256 := by
    simp only [Rd.byte, firstB]; split
    · decide
    · exact UInt8.toNat_lt _
  have lt2 : ∀ r : Rd, r.byte.1 < 256 := fun r => by
    simp only [Rd.byte, firstB]; split
    · decide
    · exact UInt8.toNat_lt _
  refine ac_wp fn30 cf30 cl30 rfl ?_
  simp only [ac30]
  unfold ab30
  simp only [WS, stepW, evalA, reduceIte, Nat.reduceEqDiff, reduceCtorEq, evalBin, Option.getD, Int.reduceToNat, Nat.reduceMul, Nat.reduceAdd, allocA, rowOf, fillA, partsV, setl, Nat.reduceLeDiff, AV.len, evalUn, Int.reduceLT, Int.reduceLE, Int.reduceEq, Int.reduceNe]
  refine (byteP_ac h).mono ?_
  rintro v s ⟨rfl, h1, hk1⟩
  have e0 : IntKind.i64.wrap (r.byte.1 : Int) = r.byte.1 := wrap64_nat (by omega)
  have e1 := e_shlw r.byte.1
  rw [e0] at e1
  simp only [WS, stepW, evalA, reduceIte, Nat.reduceEqDiff, reduceCtorEq, evalBin, Option.getD, Int.reduceToNat, Nat.reduceMul, Nat.reduceAdd, allocA, rowOf, fillA, partsV, setl, Nat.reduceLeDiff, AV.len, evalUn, Int.reduceLT, Int.reduceLE, Int.reduceEq, Int.reduceNe, e1]
  refine (byteP_ac h1).mono ?_
  rintro v s' ⟨rfl, h2, hk2⟩
  have l2 := lt2 r.byte.2
  obtain ⟨x, hx⟩ : ∃ x : UInt8, x.toNat = r.byte.2.byte.1 := ⟨UInt8.ofNat r.byte.2.byte.1, by simp; omega⟩
  have e2 := e_orw (N := r.byte.1) (by omega) x
  rw [hx] at e2
  have e3 : IntKind.i64.wrap ((r.byte.1 * 256 + r.byte.2.byte.1 : Nat) : Int) = ((r.byte.1 * 256 + r.byte.2.byte.1 : Nat) : Int) := wrap64_nat (by omega)
  rw [e3] at e2
  simp only [WS, stepW, evalA, reduceIte, Nat.reduceEqDiff, reduceCtorEq, evalBin, Option.getD, Int.reduceToNat, Nat.reduceMul, Nat.reduceAdd, allocA, rowOf, fillA, partsV, setl, Nat.reduceLeDiff, AV.len, evalUn, Int.reduceLT, Int.reduceLE, Int.reduceEq, Int.reduceNe, e2]
  refine (take_ac h2 (n := r.byte.1 * 256 + r.byte.2.byte.1) (by omega)).mono ?_
  rintro v s'' ⟨hv, h3, hk3⟩
  simp only [WS, stepW, evalA, reduceIte, Nat.reduceEqDiff, reduceCtorEq, evalBin, Option.getD, Int.reduceToNat, Nat.reduceMul, Nat.reduceAdd, allocA, rowOf, fillA, partsV, setl, Nat.reduceLeDiff, AV.len, evalUn, Int.reduceLT, Int.reduceLE, Int.reduceEq, Int.reduceNe]
  exact ⟨⟨s', Nat.le_trans hk1.1 hk2.1, hv⟩, h3, (hk1.trans hk2).trans hk3⟩
theorem endP_ac {b0 : Nat} {σ : AState} {L : List UInt8} {r : Rd} (h : PS b0 σ L r) :
    AC Try.prog 31 [.ptr b0 0] σ fun v s => v = .int .i64 r.fin ∧ K1 b0 σ s := by
  obtain ⟨⟨off, hc, hl, hle⟩, hlt, hsm⟩ := h
  obtain ⟨l, ok⟩ := r
  simp only at hc hl
  refine ac_wp fn31 cf31 cl31 rfl ?_
  simp only [ac31]
  unfold ab31
  cases ok with
  | false =>
    simp only [eV] at hc
    simp only [WS, stepW, evalA, reduceIte, Nat.reduceEqDiff, reduceCtorEq, evalBin, Option.getD, Int.reduceToNat, Nat.reduceMul, Nat.reduceAdd, allocA, rowOf, fillA, partsV, setl, Nat.reduceLeDiff, AV.len, evalUn, Int.reduceLT, Int.reduceLE, Int.reduceEq, Int.reduceNe, hc]
    exact ⟨rfl, Kp.refl _ _ _⟩
  | true =>
    simp only [eV] at hc
    cases l with
    | nil =>
      have hc' : σ.cells b0 = some [.psl (ofU8s L) off 0, .int .i64 0] := hc
      have h00 : ¬ (0 : Int) < ((0 : Nat) : Int) := by decide
      simp only [WS, stepW, evalA, reduceIte, Nat.reduceEqDiff, reduceCtorEq, evalBin, Option.getD, Int.reduceToNat, Nat.reduceMul, Nat.reduceAdd, allocA, rowOf, fillA, partsV, setl, Nat.reduceLeDiff, AV.len, evalUn, Int.reduceLT, Int.reduceLE, Int.reduceEq, Int.reduceNe, hc', h00, decide_false]
      exact ⟨rfl, Kp.refl _ _ _⟩
    | cons x l =>
      obtain ⟨m, hm, hm0⟩ : ∃ m : Nat, (x :: l).length = m ∧ 0 < m := ⟨_, rfl, by simp⟩
      rw [hm] at hc
      have h0 : (0 : Int) < (m : Int) := by omega
      simp only [WS, stepW, evalA, reduceIte, Nat.reduceEqDiff, reduceCtorEq, evalBin, Option.getD, Int.reduceToNat, Nat.reduceMul, Nat.reduceAdd, allocA, rowOf, fillA, partsV, setl, Nat.reduceLeDiff, AV.len, evalUn, Int.reduceLT, Int.reduceLE, Int.reduceEq, Int.reduceNe, hc, h0, decide_true, storeA, sets, setx, TS]
      exact ⟨rfl, Nat.le_refl _, fun b h1 h2 h3 => put_h h3⟩
end Go.Proofs.Ythobpdfchhihnaa.Va
