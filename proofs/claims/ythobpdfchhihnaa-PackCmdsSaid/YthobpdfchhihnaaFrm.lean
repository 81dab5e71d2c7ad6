/- Frames, written and read, by both. Conditions: none. -/
import Derived.Test.YthobpdfchhihnaaCrcR
set_option maxRecDepth 100000
set_option maxHeartbeats 4000000
set_option linter.all false
namespace Go.Proofs.Ythobpdfchhihnaa.Va
open Go.Proofs

/- A value that is a row of bytes. -/
def IsB (σ : AState) (x : AV) (l : List UInt8) : Prop := Pur σ true x (.psl (ofU8s l) 0 l.length)
theorem ofU8s_length (l : List UInt8) : (ofU8s l).length = l.length := by simp [ofU8s]
theorem ofU8s_flat {l : List UInt8} {i : Nat} (h : i < (ofU8s l).length) : (ofU8s l)[i].flat = true := by simp [ofU8s, AV.flat]
theorem ofU8s_append (a b : List UInt8) : ofU8s (a ++ b) = ofU8s a ++ ofU8s b := by simp [ofU8s]
theorem ofU8s_drop (a : List UInt8) (n : Nat) : ofU8s (a.drop n) = (ofU8s a).drop n := by simp [ofU8s, List.map_drop]
theorem ofU8s_take (a : List UInt8) (n : Nat) : ofU8s (a.take n) = (ofU8s a).take n := by simp [ofU8s, List.map_take]
theorem isB_psl (σ : AState) (l : List UInt8) : IsB σ (.psl (ofU8s l) 0 l.length) l := .psl rfl _ _ _ _ rfl fun i hi hi' => .flat _ (ofU8s_flat hi)
theorem isB_off (σ : AState) (l : List UInt8) (k : Nat) (h : k ≤ l.length) : IsB σ (.psl (ofU8s l) k (l.length - k)) (l.drop k) := by
  have : (l.drop k).length = l.length - k := by simp
  unfold IsB
  rw [this]
  refine .pslc rfl _ _ _ _ (l.length - k) (by rw [ofU8s_length]; omega) (by rw [ofU8s_length]; simp) fun i hi hi' => ?_
  have : (ofU8s (l.drop k))[i] = (ofU8s l)[k + i] := by simp [ofU8s]
  rw [this]
  exact .flat _ (ofU8s_flat hi)
theorem isB_sl (σ : AState) (l : List UInt8) (b : Nat) (cap : Option Nat) (h : σ.cells b = some (ofU8s l)) : IsB σ (.sl b 0 l.length cap 1) l :=
  .sl _ _ _ _ _ _ _ h (by rw [ofU8s_length]; omega) (by rw [ofU8s_length]; omega) fun i hi hi' => by
    simp only [Nat.zero_add]
    exact .flat _ (ofU8s_flat hi')
theorem pur_sl (σ : AState) (al : Bool) (l : List UInt8) (b : Nat) (cap : Option Nat) (h : σ.cells b = some (ofU8s l)) : Pur σ al (.sl b 0 l.length cap 1) (.psl (ofU8s l) 0 l.length) :=
  .sl _ _ _ _ _ _ _ h (by rw [ofU8s_length]; omega) (by rw [ofU8s_length]; omega) fun i hi hi' => by
    simp only [Nat.zero_add]
    exact .flat _ (ofU8s_flat hi')
theorem pur_nils (σ : AState) (al : Bool) : Pur σ al .nils (.psl (ofU8s []) 0 ([] : List UInt8).length) := .nils _ _

theorem crc_st0 {l : List UInt8} (hm : l.length < 4611686018427387903) : AC Try.prog 10 [.psl (ofU8s l) 0 l.length] st0 fun v _ => v = .int .u32 (crc l).toNat := by
  by_cases h : l.length < 300
  · exact (crc_short h st0).mono fun v s h => h.1
  · exact crc_long h (by omega)
theorem crc_ac {l : List UInt8} (hm : l.length < 4611686018427387903) {σ : AState} {x : AV} (hx : IsB σ x l) : AC Try.prog 10 [x] σ fun v s => s = σ ∧ v = .int .u32 (crc l).toNat :=
  AC.pure (.cons hx .nil) ((crc_st0 hm).mono fun v s h => ⟨v, by subst h; exact .flat _ rfl, h⟩)
theorem crcR_ac' {l : List UInt8} (hm : l.length < 4611686018427387903) {σ : AState} {x : AV} (hx : IsB σ x l) : AC Try.prog 11 [x] σ fun v s => s = σ ∧ v = .int .u32 (crc l).toNat :=
  AC.pure (.cons hx .nil) ((crcR_ac hm st0).mono fun v s h => ⟨v, by obtain ⟨rfl, _⟩ := h; exact .flat _ rfl, h.1⟩)

theorem e_u8 (n : Nat) : IntKind.u8.wrap (n : Int) = ((UInt8.ofNat n).toNat : Nat) := by
  rw [wrap8]; simp
def hdr (c : BitVec 32) : List UInt8 := [UInt8.ofNat (c >>> 24).toNat, UInt8.ofNat (c >>> 16).toNat, UInt8.ofNat (c >>> 8).toNat, UInt8.ofNat c.toNat]
def frame (l : List UInt8) : List UInt8 := hdr (crc l) ++ l
theorem e_shr24 (a : BitVec 32) : evalShift .shr .u32 a.toNat 24 = some (.int .u32 (a >>> 24).toNat) := e_shr a 24 (by decide)
theorem e_shr16 (a : BitVec 32) : evalShift .shr .u32 a.toNat 16 = some (.int .u32 (a >>> 16).toNat) := e_shr a 16 (by decide)
theorem e_shl24 (a : BitVec 32) : evalShift .shl .u32 a.toNat 24 = some (.int .u32 (a <<< 24).toNat) := e_shl a 24 (by decide)
theorem e_shl16 (a : BitVec 32) : evalShift .shl .u32 a.toNat 16 = some (.int .u32 (a <<< 16).toNat) := e_shl a 16 (by decide)
theorem e_shl8 (a : BitVec 32) : evalShift .shl .u32 a.toNat 8 = some (.int .u32 (a <<< 8).toNat) := e_shl a 8 (by decide)

/- Appending bytes to a row of one's own. -/
theorem firstA_psl {σ : AState} {l : List UInt8} : firstA σ 1 l.length (.psl (ofU8s l) 0 l.length) = some (ofU8s l) := by
  unfold firstA
  cases h : Nat.beq l.length 0 with
  | true => have := Nat.eq_of_beq_eq_true h; have : l = [] := List.eq_nil_of_length_eq_zero this; subst this; rfl
  | false =>
    simp only [cond_false, base]
    have hb : Nat.ble (0 + l.length * 1) (ofU8s l).length = true := by rw [ofU8s_length]; simp
    simp only [hb, cond_true]
    simp only [seg, List.drop_zero, Nat.mul_one]
    rw [List.take_of_length_le (by rw [ofU8s_length]; omega)]
theorem ofU8s_one (l : List UInt8) : (ofU8s l).all AV.one = true := by simp [ofU8s, AV.one]

def frameV (v : AV) (s : AState) (l : List UInt8) : Prop := ∃ b cap, v = .tup [.sl b 0 (frame l).length cap 1, .int .i64 0] ∧ s.cells b = some (ofU8s (frame l))

theorem app_own {σ : AState} {b c : Nat} {a l : List UInt8} (hb : σ.cells b = some (ofU8s a)) (hc : a.length = c) (hl : (2 * (a.length + l.length) + 1024) * 1 ≤ 140737488355328) :
    ∃ b' cap s', appendA σ 1 1 (.sl b 0 a.length (some c) 1) (.psl (ofU8s l) 0 l.length) = some (.sl b' 0 (a ++ l).length cap 1, s') ∧ s'.cells b' = some (ofU8s (a ++ l)) := by
  have h1 : Nat.ble ((2 * (a.length + l.length) + 1024) * 1) 140737488355328 = true := Nat.ble_eq_true_of_le hl
  have h2 : Nat.beq (ofU8s l).length (l.length * 1) = true := by rw [ofU8s_length]; simp
  have h3 : Nat.ble (0 + a.length * 1) (ofU8s a).length = true := by rw [ofU8s_length]; simp
  have h4 : Nat.beq 1 1 = true := rfl
  have h5 : seg (ofU8s a) 0 (a.length * 1) ++ ofU8s l = ofU8s (a ++ l) := by
    rw [ofU8s_append, seg, List.drop_zero, List.take_of_length_le (by rw [ofU8s_length]; omega)]
  unfold appendA
  simp only [AV.len, firstA_psl, h1, h2, h3, h4, ofU8s_one, hb, Bool.and_true, Bool.true_and, cond_true, h5]
  cases hle : Nat.ble (a.length + l.length) c with
  | true => exact ⟨σ.n, some c, (σ.kill b).push (.cells (ofU8s (a ++ l))), by simp only [cond_true, List.length_append], push_cells (σ.kill b) _⟩
  | false => exact ⟨σ.n, none, σ.push (.cells (ofU8s (a ++ l))), by simp only [cond_false, List.length_append], push_cells _ _⟩

theorem frame_st0 {l : List UInt8} (hm : l.length ≤ 65000) : AC Try.prog 7 [.psl (ofU8s l) 0 l.length] st0 fun v s => frameV v s l := by
  refine ac_wp fn7 cf7 cl7 rfl ?_
  simp only [ac7]
  unfold ab7
  have hd : decide ((65000 : Int) < l.length) = false := by simp; omega
  simp only [WS, stepW, evalA, reduceIte, Nat.reduceEqDiff, reduceCtorEq, evalBin, Option.getD, Int.reduceToNat, Nat.reduceMul, Nat.reduceAdd, allocA, rowOf, fillA, partsV, setl, Nat.reduceLeDiff, AV.len, evalUn, Int.reduceLT, Int.reduceLE, Int.reduceEq, Int.reduceNe, hd]
  refine (crc_ac (by omega) (isB_psl _ _)).mono ?_
  rintro v s ⟨rfl, rfl⟩
  simp only [WS, stepW, evalA, reduceIte, Nat.reduceEqDiff, reduceCtorEq, evalBin, Option.getD, Int.reduceToNat, Nat.reduceMul, Nat.reduceAdd, allocA, rowOf, fillA, partsV, setl, Nat.reduceLeDiff, AV.len, evalUn, Int.reduceLT, Int.reduceLE, Int.reduceEq, Int.reduceNe, e_shr24, e_shr16, e_shr8, e_u8]
  obtain ⟨b', cap, s', happ, hs'⟩ := app_own (σ := st0.push (.cells (ofU8s (hdr (crc l))))) (a := hdr (crc l)) (l := l) (push_cells st0 _) rfl (by simp only [hdr, List.length_cons, List.length_nil]; omega)
  simp only [hdr, ofU8s, List.map_cons, List.map_nil, List.length_cons, List.length_nil, Nat.zero_add, Nat.reduceAdd, st0_n] at happ
  simp only [ofU8s] at *
  rw [happ]
  simp only [WS, stepW, evalA, reduceIte, Nat.reduceEqDiff, reduceCtorEq, evalBin, Option.getD, Int.reduceToNat, Nat.reduceMul, Nat.reduceAdd, allocA, rowOf, fillA, partsV, setl, Nat.reduceLeDiff, AV.len, evalUn, Int.reduceLT, Int.reduceLE, Int.reduceEq, Int.reduceNe]
  exact ⟨b', cap, by simp only [frame, hdr, List.cons_append, List.nil_append, List.length_cons], hs'⟩

theorem frameR_st0 {l : List UInt8} (hm : l.length ≤ 65000) : AC Try.prog 8 [.psl (ofU8s l) 0 l.length] st0 fun v s => frameV v s l := by
  refine ac_wp fn8 cf8 cl8 rfl ?_
  simp only [ac8]
  unfold ab8
  have hd : decide ((65000 : Int) < l.length) = false := by simp; omega
  simp only [WS, stepW, evalA, reduceIte, Nat.reduceEqDiff, reduceCtorEq, evalBin, Option.getD, Int.reduceToNat, Nat.reduceMul, Nat.reduceAdd, allocA, rowOf, fillA, partsV, setl, Nat.reduceLeDiff, AV.len, evalUn, Int.reduceLT, Int.reduceLE, Int.reduceEq, Int.reduceNe, hd]
  refine (crcR_ac' (by omega) (isB_psl _ _)).mono ?_
  rintro v s ⟨rfl, rfl⟩
  simp only [WS, stepW, evalA, reduceIte, Nat.reduceEqDiff, reduceCtorEq, evalBin, Option.getD, Int.reduceToNat, Nat.reduceMul, Nat.reduceAdd, allocA, rowOf, fillA, partsV, setl, Nat.reduceLeDiff, AV.len, evalUn, Int.reduceLT, Int.reduceLE, Int.reduceEq, Int.reduceNe, e_shr24, e_shr16, e_shr8, e_u8]
  obtain ⟨b', cap, s', happ, hs'⟩ := app_own (σ := st0.push (.cells (ofU8s (hdr (crc l))))) (a := hdr (crc l)) (l := l) (push_cells st0 _) rfl (by simp only [hdr, List.length_cons, List.length_nil]; omega)
  simp only [hdr, ofU8s, List.map_cons, List.map_nil, List.length_cons, List.length_nil, Nat.zero_add, Nat.reduceAdd, st0_n] at happ
  simp only [ofU8s] at *
  rw [happ]
  simp only [WS, stepW, evalA, reduceIte, Nat.reduceEqDiff, reduceCtorEq, evalBin, Option.getD, Int.reduceToNat, Nat.reduceMul, Nat.reduceAdd, allocA, rowOf, fillA, partsV, setl, Nat.reduceLeDiff, AV.len, evalUn, Int.reduceLT, Int.reduceLE, Int.reduceEq, Int.reduceNe]
  exact ⟨b', cap, by simp only [frame, hdr, List.cons_append, List.nil_append, List.length_cons], hs'⟩

def tupB (out : List UInt8) (e : Int) : AV := .tup [.psl (ofU8s out) 0 out.length, .int .i64 e]
theorem frameV_pur {v : AV} {s : AState} {l : List UInt8} (h : frameV v s l) : ∃ a, Pur s false v a ∧ a = tupB (frame l) 0 := by
  obtain ⟨b, cap, rfl, hb⟩ := h
  exact ⟨tupB (frame l) 0, .tup _ _ rfl fun i hi hi' => by
    match i, hi with
    | 0, _ => exact pur_sl _ _ _ _ _ hb
    | 1, _ => exact .flat _ rfl, rfl⟩
theorem frame_ac {l : List UInt8} (hm : l.length ≤ 65000) {σ : AState} {x : AV} (hx : IsB σ x l) : AC Try.prog 7 [x] σ fun v s => s = σ ∧ v = tupB (frame l) 0 :=
  AC.pure (.cons hx .nil) ((frame_st0 hm).mono fun v s h => frameV_pur h)
theorem frameR_ac {l : List UInt8} (hm : l.length ≤ 65000) {σ : AState} {x : AV} (hx : IsB σ x l) : AC Try.prog 8 [x] σ fun v s => s = σ ∧ v = tupB (frame l) 0 :=
  AC.pure (.cons hx .nil) ((frameR_st0 hm).mono fun v s h => frameV_pur h)

/- A clone of bytes. -/
theorem app_new {σ : AState} {b : Nat} {x : AV} {l : List UInt8} (hb : σ.cells b = some []) (hx : x.len = some l.length) (hf : firstA σ 1 l.length x = some (ofU8s l)) (hl : (2 * l.length + 1024) * 1 ≤ 140737488355328) :
    ∃ b' cap s', appendA σ 1 1 (.sl b 0 0 (some 0) 1) x = some (.sl b' 0 l.length cap 1, s') ∧ s'.cells b' = some (ofU8s l) := by
  have h1 : Nat.ble ((2 * (0 + l.length) + 1024) * 1) 140737488355328 = true := Nat.ble_eq_true_of_le (by omega)
  have h2 : Nat.beq (ofU8s l).length (l.length * 1) = true := by rw [ofU8s_length]; simp
  have h4 : Nat.beq 1 1 = true := rfl
  have h0 : AV.len (.sl b 0 0 (some 0) 1) = some 0 := rfl
  unfold appendA
  simp only [h0, hx, hf, h1, h2, h4, ofU8s_one, hb, Bool.and_true, Bool.true_and, cond_true]
  have h5 : Nat.ble (0 + 0 * 1) ([] : List AV).length = true := rfl
  simp only [h5, cond_true, seg, List.drop_nil, List.take_nil, List.nil_append, Nat.zero_add]
  cases hle : Nat.ble l.length 0 with
  | true => exact ⟨σ.n, some 0, (σ.kill b).push (.cells (ofU8s l)), rfl, push_cells (σ.kill b) _⟩
  | false => exact ⟨σ.n, none, σ.push (.cells (ofU8s l)), rfl, push_cells _ _⟩

theorem clone_gen {σ : AState} {cs : List AV} {off : Nat} {l : List UInt8} (hf : ∀ s, firstA s 1 l.length (.psl cs off l.length) = some (ofU8s l)) (hm : l.length ≤ 70000000) :
    AC Try.prog 19 [.psl cs off l.length] σ fun v s => Pur s false v (.psl (ofU8s l) 0 l.length) := by
  cases h : l.length with
  | zero =>
    have : l = [] := List.eq_nil_of_length_eq_zero h
    subst this
    refine AC.nil_split (pre := []) (post := []) ?_ ?_
    · refine ac_wp fn19 cf19 cl19 rfl ?_
      simp only [ac19]
      unfold ab19
      simp only [WS, stepW, evalA, reduceIte, Nat.reduceEqDiff, reduceCtorEq, evalBin, Option.getD, Int.reduceToNat, Nat.reduceMul, Nat.reduceAdd, allocA, rowOf, fillA, partsV, setl, Nat.reduceLeDiff, AV.len, evalUn, Int.reduceLT, Int.reduceLE, Int.reduceEq, Int.reduceNe, evalEq, Option.map]
      exact .nils _ _
    · refine ac_wp fn19 cf19 cl19 rfl ?_
      simp only [ac19]
      unfold ab19
      simp only [WS, stepW, evalA, reduceIte, Nat.reduceEqDiff, reduceCtorEq, evalBin, Option.getD, Int.reduceToNat, Nat.reduceMul, Nat.reduceAdd, allocA, rowOf, fillA, partsV, setl, Nat.reduceLeDiff, AV.len, evalUn, Int.reduceLT, Int.reduceLE, Int.reduceEq, Int.reduceNe, evalEq, Option.map]
      obtain ⟨b', cap, s', happ, hs'⟩ := app_new (σ := σ.push (.cells [])) (b := σ.n) (x := .pse) (l := []) (push_cells σ _) rfl rfl (by decide)
      rw [happ]
      simp only [WS, stepW, evalA, reduceIte, Nat.reduceEqDiff, reduceCtorEq, evalBin, Option.getD, Int.reduceToNat, Nat.reduceMul, Nat.reduceAdd, allocA, rowOf, fillA, partsV, setl, Nat.reduceLeDiff, AV.len, evalUn, Int.reduceLT, Int.reduceLE, Int.reduceEq, Int.reduceNe]
      exact pur_sl _ _ _ _ _ hs'
  | succ n =>
    have hf' := hf
    rw [h] at hf'
    refine ac_wp fn19 cf19 cl19 rfl ?_
    simp only [ac19]
    unfold ab19
    simp only [WS, stepW, evalA, reduceIte, Nat.reduceEqDiff, reduceCtorEq, evalBin, Option.getD, Int.reduceToNat, Nat.reduceMul, Nat.reduceAdd, allocA, rowOf, fillA, partsV, setl, Nat.reduceLeDiff, AV.len, evalUn, Int.reduceLT, Int.reduceLE, Int.reduceEq, Int.reduceNe, evalEq, Option.map]
    obtain ⟨b', cap, s', happ, hs'⟩ := app_new (σ := σ.push (.cells [])) (b := σ.n) (x := .psl cs off (n + 1)) (l := l) (push_cells σ _) (by rw [h]; rfl) (by rw [h]; exact hf' _) (by omega)
    rw [happ]
    simp only [WS, stepW, evalA, reduceIte, Nat.reduceEqDiff, reduceCtorEq, evalBin, Option.getD, Int.reduceToNat, Nat.reduceMul, Nat.reduceAdd, allocA, rowOf, fillA, partsV, setl, Nat.reduceLeDiff, AV.len, evalUn, Int.reduceLT, Int.reduceLE, Int.reduceEq, Int.reduceNe]
    have := pur_sl s' false l b' cap hs'
    rw [h] at this
    rw [h]
    exact this
theorem firstA_off {l : List UInt8} {k : Nat} (h : k ≤ l.length) (s : AState) : firstA s 1 (l.drop k).length (.psl (ofU8s l) k (l.drop k).length) = some (ofU8s (l.drop k)) := by
  unfold firstA
  cases h0 : Nat.beq (l.drop k).length 0 with
  | true => have := Nat.eq_of_beq_eq_true h0; have := List.eq_nil_of_length_eq_zero this; rw [this]; rfl
  | false =>
    have hb : Nat.ble (k + (l.drop k).length * 1) (ofU8s l).length = true := by rw [ofU8s_length, List.length_drop]; exact Nat.ble_eq_true_of_le (by omega)
    simp only [cond_false, base, hb, cond_true]
    rw [seg, ofU8s_drop, Nat.mul_one, List.take_of_length_le (by simp [ofU8s_length])]

end Go.Proofs.Ythobpdfchhihnaa.Va
