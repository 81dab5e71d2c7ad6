/- Frames read, by both; a frame of which a byte was turned. Conditions: none. -/
import Derived.Test.YthobpdfchhihnaaFrm
set_option maxRecDepth 100000
set_option maxHeartbeats 4000000
set_option linter.all false
namespace Go.Proofs.Ythobpdfchhihnaa.Va
open Go.Proofs

def join4 (a b c d : UInt8) : BitVec 32 := ((u32 a <<< 24 ||| u32 b <<< 16) ||| u32 c <<< 8) ||| u32 d
def unf (l : List UInt8) : List UInt8 × Int :=
  match l with
  | a :: b :: c :: d :: r => if join4 a b c d = crc r then (r, 0) else ([], 31)
  | _ => ([], 8)
def unfV (l : List UInt8) : AV := tupB (unf l).1 (unf l).2

theorem wrapU (x : UInt8) : IntKind.u32.wrap (x.toNat : Int) = (u32 x).toNat := by rw [wrap32, u32_toNat]; have := x.toNat_lt; omega
theorem toNat_inj (a b : BitVec 32) : ((a.toNat : Int) ≠ b.toNat) ↔ a ≠ b := by
  constructor
  · intro h e; exact h (by rw [e])
  · intro h e; exact h (BitVec.eq_of_toNat_eq (by omega))
theorem pur_fail (σ : AState) (e : Int) : Pur σ false (.tup [.nils, .int .i64 e]) (tupB [] e) := .tup _ _ rfl fun i hi hi' => by
  match i, hi with
  | 0, _ => exact .nils _ _
  | 1, _ => exact .flat _ rfl

theorem unframe_st0 {l : List UInt8} (hm : l.length ≤ 70000) : AC Try.prog 9 [.psl (ofU8s l) 0 l.length] st0 fun v s => ∃ a, Pur s false v a ∧ a = unfV l := by
  refine ac_wp fn9 cf9 cl9 rfl ?_
  simp only [ac9]
  unfold ab9
  simp only [WS, stepW, evalA, reduceIte, Nat.reduceEqDiff, reduceCtorEq, evalBin, Option.getD, Int.reduceToNat, Nat.reduceMul, Nat.reduceAdd, allocA, rowOf, fillA, partsV, setl, Nat.reduceLeDiff, AV.len, evalUn, Int.reduceLT, Int.reduceLE, Int.reduceEq, Int.reduceNe]
  refine Br_dec (fun h4 => ?_) (fun h4 => ?_)
  · simp only [WS, stepW, evalA, reduceIte, Nat.reduceEqDiff, reduceCtorEq, evalBin, Option.getD, Int.reduceToNat, Nat.reduceMul, Nat.reduceAdd, allocA, rowOf, fillA, partsV, setl, Nat.reduceLeDiff, AV.len, evalUn, Int.reduceLT, Int.reduceLE, Int.reduceEq, Int.reduceNe]
    refine ⟨_, pur_fail _ 8, ?_⟩
    match l, h4 with
    | [], _ | [_], _ | [_, _], _ | [_, _, _], _ => rfl
    | _ :: _ :: _ :: _ :: _, h => simp at h; omega
  · obtain ⟨a, b, c, d, r, rfl⟩ : ∃ a b c d r, l = a :: b :: c :: d :: r := by
      match l, h4 with
      | [], h | [_], h | [_, _], h | [_, _, _], h => exact absurd (by simp) h
      | a :: b :: c :: d :: r, _ => exact ⟨a, b, c, d, r, rfl⟩
    have hlen : (a :: b :: c :: d :: r).length = r.length + 4 := rfl
    have r0 : (0 : Int) ≤ 0 ∧ (0 : Int) < ((r.length + 4 : Nat) : Int) := by omega
    have r1 : (0 : Int) ≤ 1 ∧ (1 : Int) < ((r.length + 4 : Nat) : Int) := by omega
    have r2 : (0 : Int) ≤ 2 ∧ (2 : Int) < ((r.length + 4 : Nat) : Int) := by omega
    have r3 : (0 : Int) ≤ 3 ∧ (3 : Int) < ((r.length + 4 : Nat) : Int) := by omega
    rw [hlen]
    simp only [WS, stepW, evalA, reduceIte, Nat.reduceEqDiff, reduceCtorEq, evalBin, Option.getD, Int.reduceToNat, Nat.reduceMul, Nat.reduceAdd, allocA, rowOf, fillA, partsV, setl, Nat.reduceLeDiff, AV.len, evalUn, Int.reduceLT, Int.reduceLE, Int.reduceEq, Int.reduceNe]
    refine w_dreg0 follow ?_ rfl
    have g0 : (ofU8s (a :: b :: c :: d :: r))[0]? = some (.int .u8 a.toNat) := rfl
    have g1 : (ofU8s (a :: b :: c :: d :: r))[1]? = some (.int .u8 b.toNat) := rfl
    have g2 : (ofU8s (a :: b :: c :: d :: r))[2]? = some (.int .u8 c.toNat) := rfl
    have g3 : (ofU8s (a :: b :: c :: d :: r))[3]? = some (.int .u8 d.toNat) := rfl
    have r4 : (0 : Int) ≤ 4 ∧ (4 : Int) ≤ ((r.length + 4 : Nat) : Int) := by omega
    have hx : ∀ σ, IsB σ (.psl (ofU8s (a :: b :: c :: d :: r)) 4 (r.length + 4 - 4)) r := fun σ => isB_off σ (a :: b :: c :: d :: r) 4 (by simp)
    simp only [WS, stepW, evalA, reduceIte, Nat.reduceEqDiff, reduceCtorEq, evalBin, Option.getD, Int.reduceToNat, Nat.reduceMul, Nat.reduceAdd, allocA, rowOf, fillA, partsV, setl, Nat.reduceLeDiff, AV.len, evalUn, Int.reduceLT, Int.reduceLE, Int.reduceEq, Int.reduceNe, r0, r1, r2, r3, g0, g1, g2, g3, wrapU, e_shl24, e_shl16, e_shl8, e_or, r4, Int.le_refl]
    refine (crc_ac (by rw [hlen] at hm; omega) (hx _)).mono ?_
    rintro v s ⟨rfl, rfl⟩
    simp only [WS, stepW, evalA, reduceIte, Nat.reduceEqDiff, reduceCtorEq, evalBin, Option.getD, Int.reduceToNat, Nat.reduceMul, Nat.reduceAdd, allocA, rowOf, fillA, partsV, setl, Nat.reduceLeDiff, AV.len, evalUn, Int.reduceLT, Int.reduceLE, Int.reduceEq, Int.reduceNe, r4, Int.le_refl]
    refine Br_dec (fun hne => ?_) (fun heq => ?_)
    · simp only [WS, stepW, evalA, reduceIte, Nat.reduceEqDiff, reduceCtorEq, evalBin, Option.getD, Int.reduceToNat, Nat.reduceMul, Nat.reduceAdd, allocA, rowOf, fillA, partsV, setl, Nat.reduceLeDiff, AV.len, evalUn, Int.reduceLT, Int.reduceLE, Int.reduceEq, Int.reduceNe]
      have hj := (toNat_inj _ _).1 hne
      refine ⟨_, pur_fail _ 31, ?_⟩
      have hj' : ¬ join4 a b c d = crc r := hj
      simp only [unfV, unf, if_neg hj']
    · simp only [WS, stepW, evalA, reduceIte, Nat.reduceEqDiff, reduceCtorEq, evalBin, Option.getD, Int.reduceToNat, Nat.reduceMul, Nat.reduceAdd, allocA, rowOf, fillA, partsV, setl, Nat.reduceLeDiff, AV.len, evalUn, Int.reduceLT, Int.reduceLE, Int.reduceEq, Int.reduceNe, r4, Int.le_refl]
      have hj : join4 a b c d = crc r := by
        by_cases h : join4 a b c d = crc r
        · exact h
        · exact absurd ((toNat_inj _ _).2 h) heq
      refine (clone_gen (cs := ofU8s (a :: b :: c :: d :: r)) (off := 4) (l := r) (firstA_off (l := a :: b :: c :: d :: r) (k := 4) (by simp)) (by rw [hlen] at hm; omega)).mono ?_
      rintro v s hp
      simp only [WS, stepW, evalA, reduceIte, Nat.reduceEqDiff, reduceCtorEq, evalBin, Option.getD, Int.reduceToNat, Nat.reduceMul, Nat.reduceAdd, allocA, rowOf, fillA, partsV, setl, Nat.reduceLeDiff, AV.len, evalUn, Int.reduceLT, Int.reduceLE, Int.reduceEq, Int.reduceNe]
      refine ⟨tupB r 0, ?_, ?_⟩
      · exact .tup _ _ rfl fun i hi hi' => by
          match i, hi with
          | 0, _ => exact hp
          | 1, _ => exact .flat _ rfl
      · simp only [unfV, unf, if_pos hj]

theorem unframeR_st0 {l : List UInt8} (hm : l.length ≤ 70000) : AC Try.prog 12 [.psl (ofU8s l) 0 l.length] st0 fun v s => ∃ a, Pur s false v a ∧ a = unfV l := by
  refine ac_wp fn12 cf12 cl12 rfl ?_
  simp only [ac12]
  unfold ab12
  simp only [WS, stepW, evalA, reduceIte, Nat.reduceEqDiff, reduceCtorEq, evalBin, Option.getD, Int.reduceToNat, Nat.reduceMul, Nat.reduceAdd, allocA, rowOf, fillA, partsV, setl, Nat.reduceLeDiff, AV.len, evalUn, Int.reduceLT, Int.reduceLE, Int.reduceEq, Int.reduceNe]
  refine Br_dec (fun h4 => ?_) (fun h4 => ?_)
  · simp only [WS, stepW, evalA, reduceIte, Nat.reduceEqDiff, reduceCtorEq, evalBin, Option.getD, Int.reduceToNat, Nat.reduceMul, Nat.reduceAdd, allocA, rowOf, fillA, partsV, setl, Nat.reduceLeDiff, AV.len, evalUn, Int.reduceLT, Int.reduceLE, Int.reduceEq, Int.reduceNe]
    refine ⟨_, pur_fail _ 8, ?_⟩
    match l, h4 with
    | [], _ | [_], _ | [_, _], _ | [_, _, _], _ => rfl
    | _ :: _ :: _ :: _ :: _, h => simp at h; omega
  · obtain ⟨a, b, c, d, r, rfl⟩ : ∃ a b c d r, l = a :: b :: c :: d :: r := by
      match l, h4 with
      | [], h | [_], h | [_, _], h | [_, _, _], h => exact absurd (by simp) h
      | a :: b :: c :: d :: r, _ => exact ⟨a, b, c, d, r, rfl⟩
    have hlen : (a :: b :: c :: d :: r).length = r.length + 4 := rfl
    have r0 : (0 : Int) ≤ 0 ∧ (0 : Int) < ((r.length + 4 : Nat) : Int) := by omega
    have r1 : (0 : Int) ≤ 1 ∧ (1 : Int) < ((r.length + 4 : Nat) : Int) := by omega
    have r2 : (0 : Int) ≤ 2 ∧ (2 : Int) < ((r.length + 4 : Nat) : Int) := by omega
    have r3 : (0 : Int) ≤ 3 ∧ (3 : Int) < ((r.length + 4 : Nat) : Int) := by omega
    rw [hlen]
    simp only [WS, stepW, evalA, reduceIte, Nat.reduceEqDiff, reduceCtorEq, evalBin, Option.getD, Int.reduceToNat, Nat.reduceMul, Nat.reduceAdd, allocA, rowOf, fillA, partsV, setl, Nat.reduceLeDiff, AV.len, evalUn, Int.reduceLT, Int.reduceLE, Int.reduceEq, Int.reduceNe]
    refine w_dreg0 follow ?_ rfl
    have g0 : (ofU8s (a :: b :: c :: d :: r))[0]? = some (.int .u8 a.toNat) := rfl
    have g1 : (ofU8s (a :: b :: c :: d :: r))[1]? = some (.int .u8 b.toNat) := rfl
    have g2 : (ofU8s (a :: b :: c :: d :: r))[2]? = some (.int .u8 c.toNat) := rfl
    have g3 : (ofU8s (a :: b :: c :: d :: r))[3]? = some (.int .u8 d.toNat) := rfl
    have r4 : (0 : Int) ≤ 4 ∧ (4 : Int) ≤ ((r.length + 4 : Nat) : Int) := by omega
    have hx : ∀ σ, IsB σ (.psl (ofU8s (a :: b :: c :: d :: r)) 4 (r.length + 4 - 4)) r := fun σ => isB_off σ (a :: b :: c :: d :: r) 4 (by simp)
    simp only [WS, stepW, evalA, reduceIte, Nat.reduceEqDiff, reduceCtorEq, evalBin, Option.getD, Int.reduceToNat, Nat.reduceMul, Nat.reduceAdd, allocA, rowOf, fillA, partsV, setl, Nat.reduceLeDiff, AV.len, evalUn, Int.reduceLT, Int.reduceLE, Int.reduceEq, Int.reduceNe, r0, r1, r2, r3, g0, g1, g2, g3, wrapU, e_shl24, e_shl16, e_shl8, e_or, r4, Int.le_refl]
    refine (crcR_ac' (by rw [hlen] at hm; omega) (hx _)).mono ?_
    rintro v s ⟨rfl, rfl⟩
    simp only [WS, stepW, evalA, reduceIte, Nat.reduceEqDiff, reduceCtorEq, evalBin, Option.getD, Int.reduceToNat, Nat.reduceMul, Nat.reduceAdd, allocA, rowOf, fillA, partsV, setl, Nat.reduceLeDiff, AV.len, evalUn, Int.reduceLT, Int.reduceLE, Int.reduceEq, Int.reduceNe, r4, Int.le_refl]
    refine Br_dec (fun hne => ?_) (fun heq => ?_)
    · simp only [WS, stepW, evalA, reduceIte, Nat.reduceEqDiff, reduceCtorEq, evalBin, Option.getD, Int.reduceToNat, Nat.reduceMul, Nat.reduceAdd, allocA, rowOf, fillA, partsV, setl, Nat.reduceLeDiff, AV.len, evalUn, Int.reduceLT, Int.reduceLE, Int.reduceEq, Int.reduceNe]
      have hj := (toNat_inj _ _).1 hne
      refine ⟨_, pur_fail _ 31, ?_⟩
      have hj' : ¬ join4 a b c d = crc r := fun e => hj e.symm
      simp only [unfV, unf, if_neg hj']
    · simp only [WS, stepW, evalA, reduceIte, Nat.reduceEqDiff, reduceCtorEq, evalBin, Option.getD, Int.reduceToNat, Nat.reduceMul, Nat.reduceAdd, allocA, rowOf, fillA, partsV, setl, Nat.reduceLeDiff, AV.len, evalUn, Int.reduceLT, Int.reduceLE, Int.reduceEq, Int.reduceNe, r4, Int.le_refl, Nat.add_sub_cancel]
      have hj : join4 a b c d = crc r := by
        by_cases h : join4 a b c d = crc r
        · exact h
        · exact absurd ((toNat_inj _ _).2 (fun e => h e.symm)) heq
      obtain ⟨b', cap, s', happ, hs'⟩ := app_new (σ := (addSlots 0 23 st0 []).push (.cells [])) (b := (addSlots 0 23 st0 []).n) (x := .psl (ofU8s (a :: b :: c :: d :: r)) 4 r.length) (l := r) (push_cells _ _) rfl
        (firstA_off (l := a :: b :: c :: d :: r) (k := 4) (by simp) _) (by rw [hlen] at hm; omega)
      rw [happ]
      simp only [WS, stepW, evalA, reduceIte, Nat.reduceEqDiff, reduceCtorEq, evalBin, Option.getD, Int.reduceToNat, Nat.reduceMul, Nat.reduceAdd, allocA, rowOf, fillA, partsV, setl, Nat.reduceLeDiff, AV.len, evalUn, Int.reduceLT, Int.reduceLE, Int.reduceEq, Int.reduceNe]
      refine ⟨tupB r 0, ?_, ?_⟩
      · exact .tup _ _ rfl fun i hi hi' => by
          match i, hi with
          | 0, _ => exact pur_sl _ _ _ _ _ hs'
          | 1, _ => exact .flat _ rfl
      · simp only [unfV, unf, if_pos hj]

theorem unframe_ac {l : List UInt8} (hm : l.length ≤ 70000) {σ : AState} {x : AV} (hx : IsB σ x l) : AC Try.prog 9 [x] σ fun v s => s = σ ∧ v = unfV l := AC.pure (.cons hx .nil) (unframe_st0 hm)
theorem unframeR_ac {l : List UInt8} (hm : l.length ≤ 70000) {σ : AState} {x : AV} (hx : IsB σ x l) : AC Try.prog 12 [x] σ fun v s => s = σ ∧ v = unfV l := AC.pure (.cons hx .nil) (unframeR_st0 hm)

/- ------------------------------------------------ what the frames' bytes say -/
theorem join4_nat (a b c d : UInt8) : (join4 a b c d).toNat = a.toNat * 16777216 + b.toNat * 65536 + c.toNat * 256 + d.toNat := by
  have ha := a.toNat_lt; have hb := b.toNat_lt; have hc := c.toNat_lt; have hd := d.toNat_lt
  have u : ∀ x : UInt8, (u32 x).toNat = x.toNat := fun x => by have := x.toNat_lt; simp only [u32, BitVec.toNat_ofNat]; omega
  simp only [join4, BitVec.toNat_or, BitVec.toNat_shiftLeft, u]
  have e1 : a.toNat <<< 24 % 2 ^ 32 = a.toNat <<< 24 := by rw [Nat.shiftLeft_eq]; omega
  have e2 : b.toNat <<< 16 % 2 ^ 32 = b.toNat <<< 16 := by rw [Nat.shiftLeft_eq]; omega
  have e3 : c.toNat <<< 8 % 2 ^ 32 = c.toNat <<< 8 := by rw [Nat.shiftLeft_eq]; omega
  rw [e1, e2, e3]
  have h1 : a.toNat <<< 24 ||| b.toNat <<< 16 = (a.toNat * 256 + b.toNat) <<< 16 := by
    rw [← Nat.shiftLeft_add_eq_or_of_lt (b := b.toNat <<< 16) (i := 24) (by rw [Nat.shiftLeft_eq]; omega)]
    simp only [Nat.shiftLeft_eq]; omega
  have h2 : (a.toNat * 256 + b.toNat) <<< 16 ||| c.toNat <<< 8 = ((a.toNat * 256 + b.toNat) * 256 + c.toNat) <<< 8 := by
    rw [← Nat.shiftLeft_add_eq_or_of_lt (b := c.toNat <<< 8) (i := 16) (by rw [Nat.shiftLeft_eq]; omega)]
    simp only [Nat.shiftLeft_eq]; omega
  rw [h1, h2, ← Nat.shiftLeft_add_eq_or_of_lt (b := d.toNat) (i := 8) (by omega)]
  simp only [Nat.shiftLeft_eq]; omega
theorem join4_inj {a b c d a' b' c' d' : UInt8} (h : join4 a b c d = join4 a' b' c' d') : a = a' ∧ b = b' ∧ c = c' ∧ d = d' := by
  have hn := congrArg BitVec.toNat h
  rw [join4_nat, join4_nat] at hn
  have ha := a.toNat_lt; have hb := b.toNat_lt; have hc := c.toNat_lt; have hd := d.toNat_lt
  have ha' := a'.toNat_lt; have hb' := b'.toNat_lt; have hc' := c'.toNat_lt; have hd' := d'.toNat_lt
  refine ⟨UInt8.toNat.inj ?_, UInt8.toNat.inj ?_, UInt8.toNat.inj ?_, UInt8.toNat.inj ?_⟩ <;> omega
theorem join4_hdr (c : BitVec 32) : join4 (UInt8.ofNat (c >>> 24).toNat) (UInt8.ofNat (c >>> 16).toNat) (UInt8.ofNat (c >>> 8).toNat) (UInt8.ofNat c.toNat) = c := by
  apply BitVec.eq_of_toNat_eq
  rw [join4_nat]
  simp only [UInt8.toNat_ofNat', BitVec.toNat_ushiftRight, Nat.shiftRight_eq_div_pow]
  have := c.isLt
  omega
theorem unf_frame (l : List UInt8) : unf (frame l) = (l, 0) := by
  simp only [frame, hdr, List.cons_append, List.nil_append, unf, join4_hdr, if_true]

theorem T1_zero {z : BitVec 32} (h : T1 z = 0#32) : z = 0#32 := by
  rw [T1_eq] at h
  have hl : z.getLsbD 0 = false := by
    cases hz : z.getLsbD 0 with
    | false => rfl
    | true =>
      rw [hz, if_pos rfl] at h
      have := congrArg (fun x => x.getLsbD 31) h
      simp only [BitVec.getLsbD_xor, BitVec.getLsbD_ushiftRight, BitVec.getLsbD_zero] at this
      rw [BitVec.getLsbD_of_ge z _ (by omega)] at this
      exact absurd this (by decide)
  rw [hl] at h
  simp only [Bool.false_eq_true, if_false, BitVec.xor_zero] at h
  apply BitVec.eq_of_getLsbD_eq
  intro i hi
  cases i with
  | zero => simpa using hl
  | succ i =>
    have := congrArg (fun x => x.getLsbD i) h
    simp only [BitVec.getLsbD_ushiftRight, BitVec.getLsbD_zero] at this
    rw [Nat.add_comm i 1, this, BitVec.getLsbD_zero]
theorem xor_eq_zero {a b : BitVec 32} (h : a ^^^ b = 0#32) : a = b := by
  have : a ^^^ b ^^^ b = 0#32 ^^^ b := by rw [h]
  rwa [BitVec.xor_assoc, BitVec.xor_self, BitVec.xor_zero, BitVec.zero_xor] at this
theorem T1_inj {a b : BitVec 32} (h : T1 a = T1 b) : a = b := xor_eq_zero (T1_zero (by rw [T1_xor, h, BitVec.xor_self]))
theorem Tn_inj : ∀ (n : Nat) {a b : BitVec 32}, Tn n a = Tn n b → a = b := by
  intro n
  induction n with
  | zero => intro a b h; exact h
  | succ n ih => intro a b h; exact ih (T1_inj h)
theorem u32_inj {x y : UInt8} (h : u32 x = u32 y) : x = y := by
  have h1 := u32_toNat x; have h2 := u32_toNat y
  rw [h] at h1
  exact UInt8.toNat.inj (by omega)
theorem xor_left_inj {a b c : BitVec 32} (h : a ^^^ b = a ^^^ c) : b = c := by
  have : a ^^^ (a ^^^ b) = a ^^^ (a ^^^ c) := by rw [h]
  rwa [← BitVec.xor_assoc, ← BitVec.xor_assoc, BitVec.xor_self, BitVec.zero_xor, BitVec.zero_xor] at this
theorem xor_right_inj {a b c : BitVec 32} (h : a ^^^ c = b ^^^ c) : a = b := by
  rw [BitVec.xor_comm a, BitVec.xor_comm b] at h
  exact xor_left_inj h
theorem fold_inj : ∀ (l : List UInt8) {a b : BitVec 32}, l.foldl crcStep a = l.foldl crcStep b → a = b := by
  intro l
  induction l with
  | nil => intro a b h; exact h
  | cons x l ih => intro a b h; exact xor_right_inj (Tn_inj 8 (ih h))
theorem crc_set {l : List UInt8} {k : Nat} {y : UInt8} (hk : k < l.length) (h : crc (l.set k y) = crc l) : l[k] = y := by
  have h1 := xor_left_inj h
  unfold crcFold at h1
  have e1 : l.set k y = l.take k ++ y :: l.drop (k + 1) := by rw [List.set_eq_take_append_cons_drop, if_pos hk]
  have e2 : l = l.take k ++ l[k] :: l.drop (k + 1) := by rw [← List.drop_eq_getElem_cons hk, List.take_append_drop]
  rw [e1] at h1
  conv at h1 => rhs; rw [e2]
  rw [List.foldl_append, List.foldl_append, List.foldl_cons, List.foldl_cons] at h1
  have h2 := Tn_inj 8 (fold_inj _ h1)
  exact (u32_inj (xor_left_inj h2)).symm

theorem xor_ne {a y : UInt8} (hy : y ≠ 0) : a ≠ a ^^^ y := by
  intro h
  apply hy
  have : a ^^^ a = a ^^^ (a ^^^ y) := by rw [← h]
  rw [← UInt8.xor_assoc, UInt8.xor_self, UInt8.zero_xor] at this
  exact this.symm
theorem unf_turned {l : List UInt8} {k : Nat} (hk : k < (frame l).length) {y : UInt8} (hy : y ≠ 0) : unf ((frame l).set k ((frame l)[k] ^^^ y)) = ([], 31) := by
  have hx := xor_ne (a := (frame l)[k]) hy
  have hl : (frame l).length = l.length + 4 := by simp [frame, hdr]
  have hj := join4_hdr (crc l)
  match k, hk with
  | 0, hk =>
    simp only [frame, hdr, List.cons_append, List.nil_append, List.set_cons_zero, List.getElem_cons_zero, unf] at hx ⊢
    rw [if_neg (fun e => hx (join4_inj (hj.trans e.symm)).1)]
  | 1, hk =>
    simp only [frame, hdr, List.cons_append, List.nil_append, List.set_cons_zero, List.set_cons_succ, List.getElem_cons_zero, List.getElem_cons_succ, unf] at hx ⊢
    rw [if_neg (fun e => hx (join4_inj (hj.trans e.symm)).2.1)]
  | 2, hk =>
    simp only [frame, hdr, List.cons_append, List.nil_append, List.set_cons_zero, List.set_cons_succ, List.getElem_cons_zero, List.getElem_cons_succ, unf] at hx ⊢
    rw [if_neg (fun e => hx (join4_inj (hj.trans e.symm)).2.2.1)]
  | 3, hk =>
    simp only [frame, hdr, List.cons_append, List.nil_append, List.set_cons_zero, List.set_cons_succ, List.getElem_cons_zero, List.getElem_cons_succ, unf] at hx ⊢
    rw [if_neg (fun e => hx (join4_inj (hj.trans e.symm)).2.2.2)]
  | k + 4, hk =>
    have hk' : k < l.length := by omega
    simp only [frame, hdr, List.cons_append, List.nil_append, List.set_cons_zero, List.set_cons_succ, List.getElem_cons_zero, List.getElem_cons_succ, unf] at hx ⊢
    rw [hj, if_neg (fun e => hx (crc_set hk' e.symm))]
end Go.Proofs.Ythobpdfchhihnaa.Va
