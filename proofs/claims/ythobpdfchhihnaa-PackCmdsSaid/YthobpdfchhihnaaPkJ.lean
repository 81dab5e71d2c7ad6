/- The reader of the reference: u8, num, bytes, end. Conditions: none. -/
import Derived.Test.YthobpdfchhihnaaPkI
set_option maxRecDepth 100000
set_option maxHeartbeats 4000000
set_option linter.all false
namespace Go.Proofs.Ythobpdfchhihnaa.Va
open Go.Proofs
structure RS (b0 : Nat) (σ : AState) (L : List UInt8) (r : Rd) : Prop where
  c : ∃ P : Nat, σ.cells b0 = some [.psl (ofU8s L) 0 L.length, .int .i64 P, .int .i64 (eV r.ok)] ∧ P ≤ L.length ∧ r.l = L.drop P
  lt : b0 < σ.n
  small : L.length ≤ 70000
theorem RS.put {b0 : Nat} {σ : AState} {L : List UInt8} {r : Rd} (h : RS b0 σ L r) {P : Nat} {r' : Rd} (hP : P ≤ L.length) (hl : r'.l = L.drop P) : RS b0 (σ.put b0 [.psl (ofU8s L) 0 L.length, .int .i64 P, .int .i64 (eV r'.ok)]) L r' :=
  ⟨⟨P, put_self _ _ _, hP, hl⟩, h.lt, h.small⟩
theorem K1.put (b0 : Nat) (σ : AState) (cs : List AV) : K1 b0 σ (σ.put b0 cs) := ⟨Nat.le_refl _, fun b h1 h2 h3 => put_h h3⟩
theorem Rd.byte_f (l : List UInt8) : Rd.byte ⟨l, false⟩ = (0, ⟨l, false⟩) := rfl
theorem Rd.byte_n : Rd.byte ⟨[], true⟩ = (0, ⟨[], false⟩) := rfl
theorem Rd.byte_c (x : UInt8) (l : List UInt8) : Rd.byte ⟨x :: l, true⟩ = (x.toNat, ⟨l, true⟩) := rfl
theorem u8_ac {b0 : Nat} {σ : AState} {L : List UInt8} {r : Rd} (h : RS b0 σ L r) :
    AC Try.prog 32 [.ptr b0 0] σ fun v s => v = .int .i64 r.byte.1 ∧ RS b0 s L r.byte.2 ∧ K1 b0 σ s := by
  have h' := h
  obtain ⟨⟨P, hc, hP, hl⟩, hlt, hsm⟩ := h
  obtain ⟨l, ok⟩ := r
  simp only at hc hl
  refine ac_wp fn32 cf32 cl32 rfl ?_
  simp only [ac32]
  unfold ab32
  cases ok with
  | false =>
    rw [Rd.byte_f]
    simp only [eV] at hc
    simp only [WS, stepW, evalA, reduceIte, Nat.reduceEqDiff, reduceCtorEq, evalBin, Option.getD, Int.reduceToNat, Nat.reduceMul, Nat.reduceAdd, allocA, rowOf, fillA, partsV, setl, Nat.reduceLeDiff, AV.len, evalUn, Int.reduceLT, Int.reduceLE, Int.reduceEq, Int.reduceNe]
    refine w_dreg0 follow ?_ rfl
    have hc' : (addSlots σ.n 17 σ []).cells b0 = some [.psl (ofU8s L) 0 L.length, .int .i64 P, .int .i64 8] := hc
    have hK : K1 b0 σ (addSlots σ.n 17 σ []) := ⟨by simp only [addSlots]; omega, fun b _ _ _ => rfl⟩
    have hR : RS b0 (addSlots σ.n 17 σ []) L ⟨l, false⟩ := ⟨⟨P, hc', hP, hl⟩, Nat.lt_of_lt_of_le hlt hK.1, hsm⟩
    generalize addSlots σ.n 17 σ [] = s at *
    simp only [WS, stepW, evalA, reduceIte, Nat.reduceEqDiff, reduceCtorEq, evalBin, Option.getD, Int.reduceToNat, Nat.reduceMul, Nat.reduceAdd, allocA, rowOf, fillA, partsV, setl, Nat.reduceLeDiff, AV.len, evalUn, Int.reduceLT, Int.reduceLE, Int.reduceEq, Int.reduceNe, hc']
    exact ⟨rfl, hR, hK⟩
  | true =>
    simp only [eV] at hc
    simp only [WS, stepW, evalA, reduceIte, Nat.reduceEqDiff, reduceCtorEq, evalBin, Option.getD, Int.reduceToNat, Nat.reduceMul, Nat.reduceAdd, allocA, rowOf, fillA, partsV, setl, Nat.reduceLeDiff, AV.len, evalUn, Int.reduceLT, Int.reduceLE, Int.reduceEq, Int.reduceNe]
    refine w_dreg0 follow ?_ rfl
    have hc' : (addSlots σ.n 17 σ []).cells b0 = some [.psl (ofU8s L) 0 L.length, .int .i64 P, .int .i64 0] := hc
    have hK : K1 b0 σ (addSlots σ.n 17 σ []) := ⟨by simp only [addSlots]; omega, fun b _ _ _ => rfl⟩
    have hR : RS b0 (addSlots σ.n 17 σ []) L ⟨l, true⟩ := ⟨⟨P, hc', hP, hl⟩, Nat.lt_of_lt_of_le hlt hK.1, hsm⟩
    generalize addSlots σ.n 17 σ [] = s at *
    by_cases hge : (P : Int) ≥ L.length
    · have : l = [] := by rw [hl]; exact List.drop_of_length_le (by omega)
      subst this
      rw [Rd.byte_n]
      simp only [WS, stepW, evalA, reduceIte, Nat.reduceEqDiff, reduceCtorEq, evalBin, Option.getD, Int.reduceToNat, Nat.reduceMul, Nat.reduceAdd, allocA, rowOf, fillA, partsV, setl, Nat.reduceLeDiff, AV.len, evalUn, Int.reduceLT, Int.reduceLE, Int.reduceEq, Int.reduceNe, hc', hge, decide_true, storeA, sets, setx, TS]
      exact ⟨rfl, hR.put (r' := ⟨[], false⟩) hP hl, hK.trans (K1.put _ _ _)⟩
    · have hPl : P < L.length := by omega
      have hge' : ¬ (L.length : Int) ≤ P := by omega
      have hl2 : l = L[P] :: L.drop (P + 1) := by rw [hl]; exact List.drop_eq_getElem_cons hPl
      rw [hl2, Rd.byte_c]
      have hw : IntKind.i64.wrap ((P : Int) + 1) = ((P + 1 : Nat) : Int) := wrap_succ (by omega)
      simp only [WS, stepW, evalA, reduceIte, Nat.reduceEqDiff, reduceCtorEq, evalBin, Option.getD, Int.reduceToNat, Nat.reduceMul, Nat.reduceAdd, allocA, rowOf, fillA, partsV, setl, Nat.reduceLeDiff, AV.len, evalUn, Int.reduceLT, Int.reduceLE, Int.reduceEq, Int.reduceNe, hc', hge', decide_false, hw, storeA, sets, setx, TS]
      have hR2 := hR.put (P := P + 1) (r' := ⟨L.drop (P + 1), true⟩) (by omega) rfl
      have hK2 := hK.trans (K1.put b0 s [.psl (ofU8s L) 0 L.length, .int .i64 (P + 1 : Nat), .int .i64 (eV true)])
      have hc2 : (s.put b0 [.psl (ofU8s L) 0 L.length, .int .i64 (P + 1 : Nat), .int .i64 (eV true)]).cells b0 = _ := put_self _ _ _
      have he : eV true = 0 := rfl
      simp only [he] at hR2 hK2 hc2
      generalize s.put b0 [.psl (ofU8s L) 0 L.length, .int .i64 (P + 1 : Nat), .int .i64 0] = s2 at *
      refine w_dreg0 follow ?_ rfl
      have hc3 : (addSlots s2.n 13 s2 []).cells b0 = _ := hc2
      have hK3 : K1 b0 σ (addSlots s2.n 13 s2 []) := hK2.trans ⟨by simp only [addSlots]; omega, fun b _ _ _ => rfl⟩
      have hR3 : RS b0 (addSlots s2.n 13 s2 []) L ⟨L.drop (P + 1), true⟩ := ⟨⟨P + 1, hc3, by omega, rfl⟩, Nat.lt_of_lt_of_le hR2.lt (by simp only [addSlots]; omega), hsm⟩
      generalize addSlots s2.n 13 s2 [] = s3 at *
      have hr := lt_idx hPl
      have hw2 : IntKind.i64.wrap (((P + 1 : Nat) : Int) - 1) = P := by rw [show ((P + 1 : Nat) : Int) - 1 = (P : Int) by omega]; exact wrap64_nat (by omega)
      have hw3 : IntKind.i64.wrap (L[P].toNat : Int) = L[P].toNat := wrap64_nat (by have := L[P].toNat_lt; omega)
      simp only [WS, stepW, evalA, reduceIte, Nat.reduceEqDiff, reduceCtorEq, evalBin, Option.getD, Int.reduceToNat, Nat.reduceMul, Nat.reduceAdd, allocA, rowOf, fillA, partsV, setl, Nat.reduceLeDiff, AV.len, evalUn, Int.reduceLT, Int.reduceLE, Int.reduceEq, Int.reduceNe, hc3, hw2, hr, ofU8s_get hPl, hw3]
      exact ⟨hR3, hK3⟩

/- A number, if nothing was cut; else some number, and the reader tells that something was cut. -/
theorem Rd.int_ok {l : List UInt8} (h : 8 ≤ l.length) : Rd.int ⟨l, true⟩ = (numV (l.take 8), ⟨l.drop 8, true⟩) := by
  have hb : Nat.ble 8 l.length = true := Nat.ble_eq_true_of_le h
  simp only [Rd.int, Rd.take, hb, Bool.and_true]
theorem Rd.int_cut {l : List UInt8} {ok : Bool} (h : ok = false ∨ ¬ 8 ≤ l.length) : (Rd.int ⟨l, ok⟩).2.ok = false := by
  have : (ok && Nat.ble 8 l.length) = false := by
    rcases h with rfl | h
    · rfl
    · cases hh : Nat.ble 8 l.length with
      | true => exact absurd (Nat.le_of_ble_eq_true hh) h
      | false => rw [Bool.and_false]
  simp only [Rd.int, Rd.take, this]
theorem u64e (n : Int) : IntKind.u64.wrap n = n % 18446744073709551616 := by simp [IntKind.wrap, IntKind.bits, IntKind.signed]
theorem e_shlu (a : Int) : evalShift .shl .u64 a 8 = some (.int .u64 (IntKind.u64.wrap (a * 256))) := by
  simp only [evalShift, IntKind.bits]
  rw [if_neg (by decide)]
  rfl
theorem e_oru {N : Nat} (hN : N < 72057594037927936) {x : Nat} (hx : x < 256) : evalInt .or .u64 (IntKind.u64.wrap ((N : Int) * 256)) (IntKind.u64.wrap (x : Int)) = some (.int .u64 ((N * 256 + x : Nat) : Int)) := by
  have h1 : (BitVec.ofInt IntKind.u64.bits (IntKind.u64.wrap ((N : Int) * 256))).toNat = N <<< 8 := by
    show (BitVec.ofInt 64 _).toNat = _
    rw [BitVec.toNat_ofInt, u64e, Nat.shiftLeft_eq]; omega
  have h2 : (BitVec.ofInt IntKind.u64.bits (IntKind.u64.wrap (x : Int))).toNat = x := by
    show (BitVec.ofInt 64 _).toNat = _
    rw [BitVec.toNat_ofInt, u64e]; omega
  simp only [evalInt]
  rw [BitVec.toNat_or, h1, h2, ← Nat.shiftLeft_add_eq_or_of_lt (by omega : x < 2 ^ 8), Nat.shiftLeft_eq, u64e]
  congr 2
  omega
theorem e_orany (a b : Int) : ∃ c, evalInt .or .u64 a b = some (.int .u64 c) := ⟨_, rfl⟩
theorem num_r_ac {b0 : Nat} {σ : AState} {L : List UInt8} {r : Rd} (h : RS b0 σ L r) :
    AC Try.prog 33 [.ptr b0 0] σ fun v s => ∃ n r', v = .int .i64 n ∧ RS b0 s L r' ∧ K1 b0 σ s ∧ ((n, r') = r.int ∨ (r.int.2.ok = false ∧ r'.ok = false)) := by
  obtain ⟨l, ok⟩ := r
  refine ac_wp fn33 cf33 cl33 rfl ?_
  simp only [ac33]
  unfold ab33
  simp only [WS, stepW, evalA, reduceIte, Nat.reduceEqDiff, reduceCtorEq, evalBin, Option.getD, Int.reduceToNat, Nat.reduceMul, Nat.reduceAdd, allocA, rowOf, fillA, partsV, setl, Nat.reduceLeDiff, AV.len, evalUn, Int.reduceLT, Int.reduceLE, Int.reduceEq, Int.reduceNe]
  refine w_for (fun i ρ s => ρ.rd 0 = .ptr b0 0 ∧ ρ.rd 4 = .int .i64 i ∧ ∃ (n : Int) (r' : Rd), ρ.rd 3 = .int .u64 n ∧ RS b0 s L r' ∧ K1 b0 σ s ∧ ((ok = true ∧ i ≤ l.length ∧ n = beN (l.take i) ∧ r' = ⟨l.drop i, true⟩) ∨ ((ok = false ∨ ¬ 8 ≤ l.length) ∧ r'.ok = false))) 8 ?_ ?_
  · simp only [WS, stepW, evalA, reduceIte, Nat.reduceEqDiff, reduceCtorEq, evalBin, Option.getD, Int.reduceToNat, Nat.reduceMul, Nat.reduceAdd, allocA, rowOf, fillA, partsV, setl, Nat.reduceLeDiff, AV.len, evalUn, Int.reduceLT, Int.reduceLE, Int.reduceEq, Int.reduceNe]
    refine ⟨rfl, 0, ⟨l, ok⟩, rfl, h, Kp.refl _ _ _, ?_⟩
    cases ok with
    | true => exact .inl ⟨rfl, by omega, by simp [beN], by rw [List.drop_zero]⟩
    | false => exact .inr ⟨.inl rfl, rfl⟩
  rintro i ρ s hi ⟨g0, g4, n, r', g3, hR, hK, hcase⟩
  by_cases hlt' : (i : Int) < 8
  rotate_left
  · have : i = 8 := by omega
    subst this
    simp only [WS, stepW, evalA, reduceIte, Nat.reduceEqDiff, reduceCtorEq, evalBin, Option.getD, Int.reduceToNat, Nat.reduceMul, Nat.reduceAdd, allocA, rowOf, fillA, partsV, setl, Nat.reduceLeDiff, AV.len, evalUn, Int.reduceLT, Int.reduceLE, Int.reduceEq, Int.reduceNe, g0, g4, g3, hlt']
    rcases hcase with ⟨rfl, h8, rfl, rfl⟩ | ⟨hb, hf⟩
    · exact ⟨_, _, rfl, hR, hK, .inl (by rw [Rd.int_ok h8]; rfl)⟩
    · exact ⟨_, _, rfl, hR, hK, .inr ⟨Rd.int_cut hb, hf⟩⟩
  have hi8 : i < 8 := by omega
  have hwi : IntKind.i64.wrap ((i : Int) + 1) = ((i + 1 : Nat) : Int) := wrap_succ (by omega)
  rcases hcase with ⟨rfl, hil, rfl, rfl⟩ | ⟨hb, hf⟩
  · have hN : beN (l.take i) < 72057594037927936 := by
      have h1 := beN_lt l i (by omega)
      have h2 : 256 ^ i ≤ 256 ^ 7 := Nat.pow_le_pow_right (by decide) (by omega)
      have h3 : (256 : Nat) ^ 7 = 72057594037927936 := by decide
      omega
    simp only [WS, stepW, evalA, reduceIte, Nat.reduceEqDiff, reduceCtorEq, evalBin, Option.getD, Int.reduceToNat, Nat.reduceMul, Nat.reduceAdd, allocA, rowOf, fillA, partsV, setl, Nat.reduceLeDiff, AV.len, evalUn, Int.reduceLT, Int.reduceLE, Int.reduceEq, Int.reduceNe, g0, g4, g3, hlt', e_shlu]
    refine (u8_ac hR).mono ?_
    rintro v s' ⟨rfl, hR', hk⟩
    by_cases hl : i < l.length
    · have hd : l.drop i = l[i] :: l.drop (i + 1) := List.drop_eq_getElem_cons hl
      rw [hd, Rd.byte_c] at hR' ⊢
      have e2 := e_oru hN l[i].toNat_lt
      simp only [WS, stepW, evalA, reduceIte, Nat.reduceEqDiff, reduceCtorEq, evalBin, Option.getD, Int.reduceToNat, Nat.reduceMul, Nat.reduceAdd, allocA, rowOf, fillA, partsV, setl, Nat.reduceLeDiff, AV.len, evalUn, Int.reduceLT, Int.reduceLE, Int.reduceEq, Int.reduceNe, g0, g4, g3, e2, hwi]
      refine ⟨hi8, _, _, rfl, hR', hK.trans hk, .inl ⟨hl, ?_, rfl⟩⟩
      rw [List.take_add_one, List.getElem?_eq_getElem hl, Option.toList_some, beN_snoc]
    · have hd : l.drop i = [] := List.drop_of_length_le (by omega)
      rw [hd, Rd.byte_n] at hR' ⊢
      obtain ⟨c, hc⟩ := e_orany (IntKind.u64.wrap ((beN (l.take i) : Int) * 256)) (IntKind.u64.wrap ((0 : Nat) : Int))
      simp only [WS, stepW, evalA, reduceIte, Nat.reduceEqDiff, reduceCtorEq, evalBin, Option.getD, Int.reduceToNat, Nat.reduceMul, Nat.reduceAdd, allocA, rowOf, fillA, partsV, setl, Nat.reduceLeDiff, AV.len, evalUn, Int.reduceLT, Int.reduceLE, Int.reduceEq, Int.reduceNe, g0, g4, g3, hc, hwi]
      exact ⟨hi8, _, _, rfl, hR', hK.trans hk, .inr ⟨.inr (by omega), rfl⟩⟩
  · simp only [WS, stepW, evalA, reduceIte, Nat.reduceEqDiff, reduceCtorEq, evalBin, Option.getD, Int.reduceToNat, Nat.reduceMul, Nat.reduceAdd, allocA, rowOf, fillA, partsV, setl, Nat.reduceLeDiff, AV.len, evalUn, Int.reduceLT, Int.reduceLE, Int.reduceEq, Int.reduceNe, g0, g4, g3, hlt', e_shlu]
    refine (u8_ac hR).mono ?_
    rintro v s' ⟨rfl, hR', hk⟩
    obtain ⟨l', ok'⟩ := r'
    simp only at hf
    subst hf
    rw [Rd.byte_f] at hR' ⊢
    obtain ⟨c, hc⟩ := e_orany (IntKind.u64.wrap (n * 256)) (IntKind.u64.wrap ((0 : Nat) : Int))
    simp only [WS, stepW, evalA, reduceIte, Nat.reduceEqDiff, reduceCtorEq, evalBin, Option.getD, Int.reduceToNat, Nat.reduceMul, Nat.reduceAdd, allocA, rowOf, fillA, partsV, setl, Nat.reduceLeDiff, AV.len, evalUn, Int.reduceLT, Int.reduceLE, Int.reduceEq, Int.reduceNe, g0, g4, g3, hc, hwi]
    exact ⟨hi8, _, _, rfl, hR', hK.trans hk, .inr ⟨hb, rfl⟩⟩
theorem endR_ac {b0 : Nat} {σ : AState} {L : List UInt8} {r : Rd} (h : RS b0 σ L r) :
    AC Try.prog 35 [.ptr b0 0] σ fun v s => v = .int .i64 r.fin ∧ RS b0 s L r ∧ K1 b0 σ s := by
  obtain ⟨⟨P, hc, hP, hl⟩, hlt, hsm⟩ := h
  obtain ⟨l, ok⟩ := r
  simp only at hc hl
  have hc' : (addSlots σ.n 17 σ []).cells b0 = some [.psl (ofU8s L) 0 L.length, .int .i64 P, .int .i64 (eV ok)] := hc
  have hK : K1 b0 σ (addSlots σ.n 17 σ []) := ⟨by simp only [addSlots]; omega, fun b _ _ _ => rfl⟩
  have hR : RS b0 (addSlots σ.n 17 σ []) L ⟨l, ok⟩ := ⟨⟨P, hc', hP, hl⟩, Nat.lt_of_lt_of_le hlt hK.1, hsm⟩
  refine ac_wp fn35 cf35 cl35 rfl ?_
  simp only [ac35]
  unfold ab35
  simp only [WS, stepW, evalA, reduceIte, Nat.reduceEqDiff, reduceCtorEq, evalBin, Option.getD, Int.reduceToNat, Nat.reduceMul, Nat.reduceAdd, allocA, rowOf, fillA, partsV, setl, Nat.reduceLeDiff, AV.len, evalUn, Int.reduceLT, Int.reduceLE, Int.reduceEq, Int.reduceNe]
  refine w_dreg0 follow ?_ rfl
  generalize addSlots σ.n 17 σ [] = s at *
  cases ok with
  | false =>
    simp only [eV] at hc'
    simp only [WS, stepW, evalA, reduceIte, Nat.reduceEqDiff, reduceCtorEq, evalBin, Option.getD, Int.reduceToNat, Nat.reduceMul, Nat.reduceAdd, allocA, rowOf, fillA, partsV, setl, Nat.reduceLeDiff, AV.len, evalUn, Int.reduceLT, Int.reduceLE, Int.reduceEq, Int.reduceNe, hc']
    exact ⟨rfl, hR, hK⟩
  | true =>
    simp only [eV] at hc'
    by_cases hge : (P : Int) < L.length
    · have hl2 : l = L[P] :: L.drop (P + 1) := by rw [hl]; exact List.drop_eq_getElem_cons (by omega)
      simp only [WS, stepW, evalA, reduceIte, Nat.reduceEqDiff, reduceCtorEq, evalBin, Option.getD, Int.reduceToNat, Nat.reduceMul, Nat.reduceAdd, allocA, rowOf, fillA, partsV, setl, Nat.reduceLeDiff, AV.len, evalUn, Int.reduceLT, Int.reduceLE, Int.reduceEq, Int.reduceNe, hc', hge, decide_true]
      refine ⟨?_, hR, hK⟩
      rw [hl2]
      rfl
    · have : l = [] := by rw [hl]; exact List.drop_of_length_le (by omega)
      subst this
      simp only [WS, stepW, evalA, reduceIte, Nat.reduceEqDiff, reduceCtorEq, evalBin, Option.getD, Int.reduceToNat, Nat.reduceMul, Nat.reduceAdd, allocA, rowOf, fillA, partsV, setl, Nat.reduceLeDiff, AV.len, evalUn, Int.reduceLT, Int.reduceLE, Int.reduceEq, Int.reduceNe, hc', hge, decide_false]
      exact ⟨rfl, hR, hK⟩
end Go.Proofs.Ythobpdfchhihnaa.Va
