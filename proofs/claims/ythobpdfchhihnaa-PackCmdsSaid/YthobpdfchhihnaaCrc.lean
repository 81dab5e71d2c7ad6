/- The sum of bytes: what both functions compute. Conditions: none. -/
import Derived.Test.YthobpdfchhihnaaTab
import Derived.Test.YthobpdfchhihnaaVaM
import Derived.KernelRfl
set_option maxRecDepth 100000
set_option maxHeartbeats 4000000
set_option linter.all false
namespace Go.Proofs.Ythobpdfchhihnaa.Va
open Go.Proofs

theorem wrap32 (n : Int) : IntKind.u32.wrap n = n % 4294967296 := by
  simp [IntKind.wrap, IntKind.bits, IntKind.signed]
theorem wrap32_nat (x : BitVec 32) : IntKind.u32.wrap (x.toNat : Int) = x.toNat := by
  rw [wrap32]
  have := x.isLt
  omega
theorem ofInt32 (x : BitVec 32) : BitVec.ofInt 32 (x.toNat : Int) = x := by
  apply BitVec.eq_of_toNat_eq
  simp

theorem e_and (a b : BitVec 32) : evalInt .and .u32 a.toNat b.toNat = some (.int .u32 (a &&& b).toNat) := by
  simp only [evalInt, IntKind.bits, ofInt32, wrap32_nat]
  rfl
theorem e_xor (a b : BitVec 32) : evalInt .xor .u32 a.toNat b.toNat = some (.int .u32 (a ^^^ b).toNat) := by
  simp only [evalInt, IntKind.bits, ofInt32, wrap32_nat]
  rfl
theorem e_or (a b : BitVec 32) : evalInt .or .u32 a.toNat b.toNat = some (.int .u32 (a ||| b).toNat) := by
  simp only [evalInt, IntKind.bits, ofInt32, wrap32_nat]
  rfl
theorem e_shr (a : BitVec 32) (n : Nat) (hn : n ≤ 32) : evalShift .shr .u32 a.toNat n = some (.int .u32 (a >>> n).toNat) := by
  have h1 : ¬ ((n : Int) < 0) := by omega
  simp only [evalShift, h1, if_false, IntKind.bits, Int.toNat_natCast, Nat.min_eq_left hn]
  congr 2
  rw [BitVec.toNat_ushiftRight, Nat.shiftRight_eq_div_pow]
  have : (2 ^ n : Int) = ((2 ^ n : Nat) : Int) := by simp
  rw [this]
  exact (Int.ofNat_fdiv ..).symm
theorem e_shl (a : BitVec 32) (n : Nat) (hn : n ≤ 32) : evalShift .shl .u32 a.toNat n = some (.int .u32 (a <<< n).toNat) := by
  have h1 : ¬ ((n : Int) < 0) := by omega
  simp only [evalShift, h1, if_false, IntKind.bits, Int.toNat_natCast, Nat.min_eq_left hn]
  congr 2
  rw [BitVec.toNat_shiftLeft, Nat.shiftLeft_eq, wrap32]
  have : (2 ^ n : Int) = ((2 ^ n : Nat) : Int) := by simp
  rw [this, ← Int.natCast_mul, show (4294967296 : Int) = ((4294967296 : Nat) : Int) from rfl, ← Int.natCast_emod]

def T1 (c : BitVec 32) : BitVec 32 := if c &&& 1#32 = 1#32 then (c >>> 1) ^^^ 2197175160#32 else c >>> 1
def Tn : Nat → BitVec 32 → BitVec 32
  | 0, c => c
  | n + 1, c => T1 (Tn n c)

theorem e_and1 (a : BitVec 32) : evalInt .and .u32 a.toNat 1 = some (.int .u32 (a &&& 1#32).toNat) := e_and a 1#32
theorem e_xorP (a : BitVec 32) : evalInt .xor .u32 a.toNat 2197175160 = some (.int .u32 (a ^^^ 2197175160#32).toNat) := e_xor a 2197175160#32
theorem e_shr1 (a : BitVec 32) : evalShift .shr .u32 a.toNat 1 = some (.int .u32 (a >>> 1).toNat) := e_shr a 1 (by decide)
theorem e_eql1 (a : BitVec 32) : evalInt .eql .u32 a.toNat 1 = some (.bool (decide (a = 1#32))) := by
  simp only [evalInt]
  congr 2
  rw [Bool.eq_iff_iff]
  simp only [beq_iff_eq, decide_eq_true_eq]
  constructor
  · intro h
    apply BitVec.eq_of_toNat_eq
    have : a.toNat = 1 := by omega
    rw [this]; rfl
  · intro h; rw [h]; rfl
theorem e_not (a : BitVec 32) : evalUn .xor (.int .u32 a.toNat) = some (.int .u32 (4294967295#32 ^^^ a).toNat) := e_xor 4294967295#32 a

theorem turn_ac (c : BitVec 32) (σ : AState) : AC Try.prog 20 [.int .u32 c.toNat] σ fun v s => v = .int .u32 (Tn 8 c).toNat ∧ s = σ := by
  refine ac_of_fun fn20 cf20 cl20 rfl ?_
  show SimA _ _ ab20 _ _ _
  unfold ab20
  refine a_seq (a_reg ?_)
  simp only [wpOpsA, AOper.wants, stepA, evalA, Opd.ev, AExit.then]
  refine a_seq (a_seq (a_reg ?_))
  simp only [wpOpsA, AOper.wants, stepA, evalA, Opd.ev, AExit.then]
  refine a_block (a_loop (fun ρ s => s = σ ∧ ∃ i : Nat, i ≤ 8 ∧ ρ.rd 3 = .int .i64 i ∧ ρ.rd 0 = .int .u32 (Tn i c).toNat) (fun ρ _ => match ρ.rd 3 with | .int _ n => (8 - n).toNat | _ => 0) ?_ ?_)
  · exact ⟨rfl, 0, by omega, by simp [rd_put], by simp [rd_put, rd_args, Tn]⟩
  · rintro ρ s ⟨rfl, i, hi, h3, h0⟩
    refine a_seq (a_reg ?_)
    simp only [wpOpsA, AOper.wants, stepA, evalA, Opd.ev, AExit.then, h3, evalBin, evalInt, if_true, Option.map_some]
    by_cases hlt : i < 8
    · have hd : decide ((i : Int) < 8) = true := by simpa using (by omega : (i : Int) < 8)
      refine a_seq (a_cond (b := true) (by simp only [Opd.ev, rd_put, if_true, hd]) ?_)
      refine a_skip ?_
      simp only [AExit.then]
      refine a_seq (a_block (a_seq (a_reg ?_)))
      simp only [wpOpsA, AOper.wants, stepA, evalA, Opd.ev, AExit.then, AExit.inBlock, rd_put, h0, evalBin, e_and1, e_eql1, if_true, Option.map_some, reduceIte, Nat.reduceEqDiff, reduceCtorEq]
      have hnext : ∀ (ρ' : Env), ρ'.rd 3 = .int .i64 i → ρ'.rd 0 = .int .u32 (Tn (i + 1) c).toNat → wpOpsA Try.prog
          [{ dst := some 13, op := AOp.bin BinOp.add ETag.plain (Opd.tmp 3) (Opd.con (AV.int IntKind.i64 1)), guard := none }, { dst := some 3, op := AOp.mv (Opd.tmp 13), guard := none }]
          (fun ρ' σ' => (σ' = s ∧ ∃ i : Nat, i ≤ 8 ∧ ρ'.rd 3 = AV.int IntKind.i64 ↑i ∧ ρ'.rd 0 = AV.int IntKind.u32 ↑(Tn i c).toNat) ∧ (match ρ'.rd 3 with | AV.int k n => (8 - n).toNat | x => 0) < (8 - (i : Int)).toNat) ρ' s := by
        intro ρ' g3 g0
        have hw : IntKind.i64.wrap ((i : Int) + 1) = ((i + 1 : Nat) : Int) := by rw [wrap64 (by omega) (by omega)]; simp
        simp only [wpOpsA, AOper.wants, stepA, evalA, Opd.ev, rd_put, g3, g0, evalBin, evalInt, if_true, Option.map_some, reduceIte, Nat.reduceEqDiff, hw]
        exact ⟨⟨by trivial, i + 1, by omega, by trivial, by trivial⟩, by show (8 - ((i + 1 : Nat) : Int)).toNat < (8 - (i : Int)).toNat; omega⟩
      by_cases hb : (Tn i c &&& 1#32) = 1#32
      · refine a_cond (b := true) (by simp only [Opd.ev, rd_put, if_true, hb, decide_true]) ?_
        refine a_reg ?_
        simp only [wpOpsA, AOper.wants, stepA, evalA, Opd.ev, AExit.then, AExit.inBlock, rd_put, h0, evalBin, e_shr1, e_xorP, if_true, Option.map_some, reduceIte, Nat.reduceEqDiff, reduceCtorEq]
        refine a_reg (hnext _ ?_ ?_)
        · simp only [rd_put, reduceIte, Nat.reduceEqDiff, h3]
        · simp only [rd_put, reduceIte, Nat.reduceEqDiff, Tn, T1, hb]
      · refine a_cond (b := false) (by simp only [Opd.ev, rd_put, if_true, hb, decide_false]) ?_
        refine a_reg ?_
        simp only [wpOpsA, AOper.wants, stepA, evalA, Opd.ev, AExit.then, AExit.inBlock, rd_put, h0, evalBin, e_shr1, e_xorP, if_true, Option.map_some, reduceIte, Nat.reduceEqDiff, reduceCtorEq]
        refine a_reg (hnext _ ?_ ?_)
        · simp only [rd_put, reduceIte, Nat.reduceEqDiff, h3]
        · simp only [rd_put, reduceIte, Nat.reduceEqDiff, Tn, T1, hb]
    · have h8 : i = 8 := by omega
      subst h8
      refine a_seq (a_cond (b := false) (by simp [Opd.ev, rd_put]) ?_)
      refine a_exit ?_
      simp only [AExit.then, AExit.inBlock, if_true]
      refine a_seq (a_reg ?_)
      simp only [wpOpsA, AOper.wants, stepA, evalA, Opd.ev, AExit.then, rd_put, h0, reduceIte, Nat.reduceEqDiff]
      refine a_ret ⟨(fun i h => nomatch h), _, ?_, rfl, rfl⟩
      simp [retA, ac20, rvs, RV.ev, rd_put, h0]

/- ------------------------------------------------ the sum -/
def u32 (x : UInt8) : BitVec 32 := BitVec.ofNat 32 x.toNat
def crcStep (c : BitVec 32) (x : UInt8) : BitVec 32 := Tn 8 (c ^^^ u32 x)
def crcFold (l : List UInt8) : BitVec 32 := l.foldl crcStep 4294967295#32
def crc (l : List UInt8) : BitVec 32 := 4294967295#32 ^^^ crcFold l

theorem u32_toNat (x : UInt8) : ((u32 x).toNat : Int) = x.toNat := by
  have := x.toNat_lt
  simp only [u32, BitVec.toNat_ofNat]
  omega
theorem ofU8s_get {l : List UInt8} {i : Nat} (h : i < l.length) : (ofU8s l)[i]? = some (.int .u8 (l[i]).toNat) := by
  simp [ofU8s, h]
theorem fold_take {l : List UInt8} {i : Nat} (h : i < l.length) : crcFold (l.take (i + 1)) = Tn 8 (crcFold (l.take i) ^^^ u32 l[i]) := by
  rw [List.take_add_one]
  simp only [crcFold, List.getElem?_eq_getElem h, Option.toList_some, List.foldl_append, List.foldl_cons, List.foldl_nil, crcStep]

theorem crc_short {l : List UInt8} (hl : l.length < 300) (σ : AState) : AC Try.prog 10 [.psl (ofU8s l) 0 l.length] σ fun v s => v = .int .u32 (crc l).toNat ∧ s = σ := by
  refine ac_of_fun fn10 cf10 cl10 rfl ?_
  show SimA _ _ ab10 _ _ _
  unfold ab10
  refine a_seq (a_reg ?_)
  simp only [wpOpsA, AOper.wants, stepA, evalA, Opd.ev, AExit.then, AExit.inBlock, rd_put, rd_none, rd_args, reduceIte, Nat.reduceEqDiff, reduceCtorEq, Option.map_some, evalBin, ei_add, ei_sub, ei_mul, ei_lss, ei_leq, ei_gtr, ei_geq, ei_eql, ei_neq, List.map_cons, List.map_nil, List.getElem?_cons_zero, List.getElem?_cons_succ, Option.getD_some, cond_true, cond_false, asIdx, and_self, and_true, true_and, Int.toNat_natCast, Nat.zero_add, Nat.mul_one]
  refine a_seq (a_reg ?_)
  simp only [wpOpsA, AOper.wants, stepA, evalA, Opd.ev, AExit.then, AExit.inBlock, rd_put, rd_none, rd_args, reduceIte, Nat.reduceEqDiff, reduceCtorEq, Option.map_some, evalBin, ei_add, ei_sub, ei_mul, ei_lss, ei_leq, ei_gtr, ei_geq, ei_eql, ei_neq, List.map_cons, List.map_nil, List.getElem?_cons_zero, List.getElem?_cons_succ, Option.getD_some, cond_true, cond_false, asIdx, and_self, and_true, true_and, Int.toNat_natCast, Nat.zero_add, Nat.mul_one]
  refine a_seq (a_seq (a_reg ?_))
  simp only [wpOpsA, AOper.wants, stepA, evalA, Opd.ev, AExit.then, AExit.inBlock, rd_put, rd_none, rd_args, reduceIte, Nat.reduceEqDiff, reduceCtorEq, Option.map_some, evalBin, ei_add, ei_sub, ei_mul, ei_lss, ei_leq, ei_gtr, ei_geq, ei_eql, ei_neq, List.map_cons, List.map_nil, List.getElem?_cons_zero, List.getElem?_cons_succ, Option.getD_some, cond_true, cond_false, asIdx, and_self, and_true, true_and, Int.toNat_natCast, Nat.zero_add, Nat.mul_one]
  have hd : decide ((l.length : Int) < 300) = true := by simpa using (by omega : (l.length : Int) < 300)
  refine a_cond (b := true) (by simp only [wpOpsA, AOper.wants, stepA, evalA, Opd.ev, AExit.then, AExit.inBlock, rd_put, rd_none, rd_args, reduceIte, Nat.reduceEqDiff, reduceCtorEq, Option.map_some, evalBin, ei_add, ei_sub, ei_mul, ei_lss, ei_leq, ei_gtr, ei_geq, ei_eql, ei_neq, List.map_cons, List.map_nil, List.getElem?_cons_zero, List.getElem?_cons_succ, Option.getD_some, cond_true, cond_false, asIdx, and_self, and_true, true_and, Int.toNat_natCast, Nat.zero_add, Nat.mul_one, hd]) ?_
  rw [hd]
  refine a_seq (a_seq (a_reg ?_))
  simp only [wpOpsA, AOper.wants, stepA, evalA, Opd.ev, AExit.then, AExit.inBlock, rd_put, rd_none, rd_args, reduceIte, Nat.reduceEqDiff, reduceCtorEq, Option.map_some, evalBin, ei_add, ei_sub, ei_mul, ei_lss, ei_leq, ei_gtr, ei_geq, ei_eql, ei_neq, List.map_cons, List.map_nil, List.getElem?_cons_zero, List.getElem?_cons_succ, Option.getD_some, cond_true, cond_false, asIdx, and_self, and_true, true_and, Int.toNat_natCast, Nat.zero_add, Nat.mul_one]
  refine a_count l.length (by omega) (fun i ρ s => s = σ ∧ ρ.rd 15 = .int .i64 i ∧ ρ.rd 14 = .int .i64 l.length ∧ ρ.rd 13 = .psl (ofU8s l) 0 l.length ∧ ρ.rd 3 = .int .u32 (crcFold (l.take i)).toNat) ?_ ?_ ?_ ?_ (by decide)
  · rintro i ρ s _ ⟨_, h1, h2, _⟩
    exact ⟨h1, h2⟩
  · simp only [wpOpsA, AOper.wants, stepA, evalA, Opd.ev, AExit.then, AExit.inBlock, rd_put, rd_none, rd_args, reduceIte, Nat.reduceEqDiff, reduceCtorEq, Option.map_some, evalBin, ei_add, ei_sub, ei_mul, ei_lss, ei_leq, ei_gtr, ei_geq, ei_eql, ei_neq, List.map_cons, List.map_nil, List.getElem?_cons_zero, List.getElem?_cons_succ, Option.getD_some, cond_true, cond_false, asIdx, and_self, and_true, true_and, Int.toNat_natCast, Nat.zero_add, Nat.mul_one]
    exact ⟨rfl, by simp [crcFold]⟩
  · rintro i ρ s hi ⟨rfl, h15, h14, h13, h3⟩
    refine a_seq (a_reg ?_)
    have h0 : (0 : Int) ≤ i ∧ (i : Int) < l.length := by omega
    simp only [wpOpsA, AOper.wants, stepA, evalA, Opd.ev, AExit.then, AExit.inBlock, rd_put, rd_none, rd_args, reduceIte, Nat.reduceEqDiff, reduceCtorEq, Option.map_some, evalBin, ei_add, ei_sub, ei_mul, ei_lss, ei_leq, ei_gtr, ei_geq, ei_eql, ei_neq, List.map_cons, List.map_nil, List.getElem?_cons_zero, List.getElem?_cons_succ, Option.getD_some, cond_true, cond_false, asIdx, and_self, and_true, true_and, Int.toNat_natCast, Nat.zero_add, Nat.mul_one, h15, h14, h13, h3, h0, ofU8s_get hi]
    refine a_reg ?_
    have hw : IntKind.u32.wrap (l[i].toNat : Int) = (u32 l[i]).toNat := by rw [wrap32, u32_toNat]; have := l[i].toNat_lt; omega
    simp only [wpOpsA, AOper.wants, stepA, evalA, Opd.ev, AExit.then, AExit.inBlock, rd_put, rd_none, rd_args, reduceIte, Nat.reduceEqDiff, reduceCtorEq, Option.map_some, evalBin, ei_add, ei_sub, ei_mul, ei_lss, ei_leq, ei_gtr, ei_geq, ei_eql, ei_neq, List.map_cons, List.map_nil, List.getElem?_cons_zero, List.getElem?_cons_succ, Option.getD_some, cond_true, cond_false, asIdx, and_self, and_true, true_and, Int.toNat_natCast, Nat.zero_add, Nat.mul_one, h15, h14, h13, h3, hw, e_xor]
    refine (turn_ac _ _).mono ?_
    rintro v s2 ⟨rfl, rfl⟩
    simp only [wpOpsA, AOper.wants, stepA, evalA, Opd.ev, AExit.then, AExit.inBlock, rd_put, rd_none, rd_args, reduceIte, Nat.reduceEqDiff, reduceCtorEq, Option.map_some, evalBin, ei_add, ei_sub, ei_mul, ei_lss, ei_leq, ei_gtr, ei_geq, ei_eql, ei_neq, List.map_cons, List.map_nil, List.getElem?_cons_zero, List.getElem?_cons_succ, Option.getD_some, cond_true, cond_false, asIdx, and_self, and_true, true_and, Int.toNat_natCast, Nat.zero_add, Nat.mul_one, h15, h14, h13, fold_take hi]
  · rintro ρ s ⟨rfl, h15, h14, h13, h3⟩
    simp only [wpOpsA, AOper.wants, stepA, evalA, Opd.ev, AExit.then, AExit.inBlock, rd_put, rd_none, rd_args, reduceIte, Nat.reduceEqDiff, reduceCtorEq, Option.map_some, evalBin, ei_add, ei_sub, ei_mul, ei_lss, ei_leq, ei_gtr, ei_geq, ei_eql, ei_neq, List.map_cons, List.map_nil, List.getElem?_cons_zero, List.getElem?_cons_succ, Option.getD_some, cond_true, cond_false, asIdx, and_self, and_true, true_and, Int.toNat_natCast, Nat.zero_add, Nat.mul_one]
    refine a_seq (a_reg ?_)
    simp only [wpOpsA, AOper.wants, stepA, evalA, Opd.ev, AExit.then, AExit.inBlock, rd_put, rd_none, rd_args, reduceIte, Nat.reduceEqDiff, reduceCtorEq, Option.map_some, evalBin, ei_add, ei_sub, ei_mul, ei_lss, ei_leq, ei_gtr, ei_geq, ei_eql, ei_neq, List.map_cons, List.map_nil, List.getElem?_cons_zero, List.getElem?_cons_succ, Option.getD_some, cond_true, cond_false, asIdx, and_self, and_true, true_and, Int.toNat_natCast, Nat.zero_add, Nat.mul_one, h3, e_not]
    refine a_ret ⟨(fun i h => nomatch h), _, ?_, rfl, rfl⟩
    simp [retA, ac10, rvs, RV.ev, rd_put, crc]

theorem lsb_iff (a : BitVec 32) : (a &&& 1#32 = 1#32) ↔ a.getLsbD 0 = true := by
  constructor
  · intro h
    have := congrArg (fun x => x.getLsbD 0) h
    simpa using this
  · intro h
    apply BitVec.eq_of_getLsbD_eq
    intro i hi
    by_cases h0 : i = 0
    · subst h0; simpa using h
    · simp [h0]
theorem T1_eq (a : BitVec 32) : T1 a = (a >>> 1) ^^^ (if a.getLsbD 0 then 2197175160#32 else 0#32) := by
  unfold T1
  by_cases h : a.getLsbD 0 = true
  · rw [if_pos ((lsb_iff a).2 h), if_pos h]
  · rw [if_neg (fun h' => h ((lsb_iff a).1 h')), if_neg h]; simp
theorem T1_xor (a b : BitVec 32) : T1 (a ^^^ b) = T1 a ^^^ T1 b := by
  rw [T1_eq, T1_eq, T1_eq, BitVec.ushiftRight_xor_distrib, BitVec.getLsbD_xor]
  generalize a >>> 1 = x
  generalize b >>> 1 = y
  generalize 2197175160#32 = p
  have h : ∀ (u v : Bool), x ^^^ y ^^^ (if (u ^^ v) = true then p else 0#32) = x ^^^ (if u = true then p else 0#32) ^^^ (y ^^^ (if v = true then p else 0#32)) := by
    intro u v
    apply BitVec.eq_of_getLsbD_eq
    intro i hi
    cases u <;> cases v <;> simp only [BitVec.getLsbD_xor, Bool.xor_false, Bool.xor_true, Bool.not_false, Bool.not_true, if_true, if_false, Bool.false_eq_true, BitVec.getLsbD_zero] <;> cases x.getLsbD i <;> cases y.getLsbD i <;> cases p.getLsbD i <;> rfl
  exact h _ _
theorem Tn_xor : ∀ (n : Nat) (a b : BitVec 32), Tn n (a ^^^ b) = Tn n a ^^^ Tn n b := by
  intro n
  induction n with
  | zero => intro a b; rfl
  | succ n ih => intro a b; simp only [Tn, ih, T1_xor]
theorem Tn_low (y : BitVec 32) (h : ∀ i, i < 8 → y.getLsbD i = false) : ∀ n, n ≤ 8 → Tn n y = y >>> n := by
  intro n
  induction n with
  | zero => intro _; simp [Tn]
  | succ n ih =>
    intro hn
    rw [Tn, ih (by omega), T1_eq]
    have : (y >>> n).getLsbD 0 = false := by
      rw [BitVec.getLsbD_ushiftRight]; simpa using h n (by omega)
    rw [this]
    simp [BitVec.shiftRight_add]
/- One step by the table. -/
theorem table_step (c : BitVec 32) (x : BitVec 32) (hx : x.toNat < 256) : Tn 8 (c ^^^ x) = (c >>> 8) ^^^ Tn 8 ((c ^^^ x) &&& 255#32) := by
  have hm : ∀ i, (255#32).getLsbD i = decide (i < 8) := by
    intro i
    rw [BitVec.getLsbD_ofNat]
    by_cases h : i < 32
    · have : ∀ i : Fin 32, (decide (i.val < 32) && Nat.testBit 255 i.val) = decide (i.val < 8) := by decide
      exact this ⟨i, h⟩
    · have : ¬ i < 8 := by omega
      simp [h, this]
  have hxb : ∀ i, 8 ≤ i → x.getLsbD i = false := by
    intro i hi
    rw [BitVec.getLsbD, Nat.testBit_lt_two_pow]
    exact Nat.lt_of_lt_of_le hx (by show 2 ^ 8 ≤ 2 ^ i; exact Nat.pow_le_pow_right (by decide) hi)
  have h1 : c ^^^ x = (c &&& ~~~255#32) ^^^ ((c ^^^ x) &&& 255#32) := by
    apply BitVec.eq_of_getLsbD_eq
    intro i hi
    simp only [BitVec.getLsbD_xor, BitVec.getLsbD_and, BitVec.getLsbD_not, hm, hi, decide_true, Bool.true_and]
    by_cases h : i < 8
    · simp [h]
    · simp [h, hxb i (by omega)]
  have h2 : Tn 8 (c &&& ~~~255#32) = c >>> 8 := by
    rw [Tn_low _ (fun i hi => by simp only [BitVec.getLsbD_and, BitVec.getLsbD_not, hm, hi, decide_true, Bool.not_true, Bool.and_false]) 8 (Nat.le_refl _)]
    apply BitVec.eq_of_getLsbD_eq
    intro i hi
    simp only [BitVec.getLsbD_ushiftRight, BitVec.getLsbD_and, BitVec.getLsbD_not, hm]
    have h8 : ¬ 8 + i < 8 := by omega
    by_cases h : 8 + i < 32
    · simp [h, h8]
    · simp [h, BitVec.getLsbD_of_ge _ _ (by omega : 32 ≤ 8 + i)]
  conv => lhs; rw [h1]
  rw [Tn_xor, h2]

theorem wrap8 (n : Int) : IntKind.u8.wrap n = n % 256 := by
  simp [IntKind.wrap, IntKind.bits, IntKind.signed]
theorem e_xor8 (c : BitVec 32) (x : UInt8) : evalInt .xor .u8 (IntKind.u8.wrap (c.toNat : Int)) x.toNat = some (.int .u8 ((c ^^^ u32 x) &&& 255#32).toNat) := by
  simp only [evalInt]
  congr 2
  have hx := x.toNat_lt
  have h1 : (BitVec.ofInt IntKind.u8.bits (IntKind.u8.wrap (c.toNat : Int))).toNat = c.toNat % 256 := by
    rw [wrap8]
    show (BitVec.ofInt 8 _).toNat = _
    rw [BitVec.toNat_ofInt]
    omega
  have h2 : (BitVec.ofInt IntKind.u8.bits (x.toNat : Int)).toNat = x.toNat := by
    show (BitVec.ofInt 8 _).toNat = _
    rw [BitVec.toNat_ofInt]
    omega
  have h3 : (u32 x).toNat = x.toNat := by simp only [u32, BitVec.toNat_ofNat]; omega
  rw [BitVec.toNat_xor, h1, h2, BitVec.toNat_and, BitVec.toNat_xor, h3, show (255#32).toNat = 2 ^ 8 - 1 from rfl, Nat.and_two_pow_sub_one_eq_mod, Nat.xor_mod_two_pow, Nat.mod_eq_of_lt (show x.toNat < 2 ^ 8 from hx), wrap8]
  have h4 : c.toNat % 256 ^^^ x.toNat < 256 := Nat.xor_lt_two_pow (n := 8) (Nat.mod_lt _ (by decide)) hx
  show ((c.toNat % 256 ^^^ x.toNat : Nat) : Int) % 256 = ((c.toNat % 256 ^^^ x.toNat : Nat) : Int)
  clear h1 h2 h3
  generalize c.toNat % 256 ^^^ x.toNat = y at h4
  omega
theorem e_shr8 (a : BitVec 32) : evalShift .shr .u32 a.toNat 8 = some (.int .u32 (a >>> 8).toNat) := e_shr a 8 (by decide)

def tblE (k : Nat) : AV := .int .u32 (Tn 8 (BitVec.ofNat 32 k)).toNat

theorem crc_long {l : List UInt8} (hl : ¬ l.length < 300) (hm : l.length < 4611686018427387904) : AC Try.prog 10 [.psl (ofU8s l) 0 l.length] st0 fun v _ => v = .int .u32 (crc l).toNat := by
  refine ac_of_fun fn10 cf10 cl10 rfl ?_
  show SimA _ _ ab10 _ _ _
  unfold ab10
  refine a_seq (a_reg ?_)
  simp only [wpOpsA, AOper.wants, stepA, evalA, Opd.ev, AExit.then, AExit.inBlock, rd_put, rd_none, rd_args, reduceIte, Nat.reduceEqDiff, reduceCtorEq, Option.map_some, evalBin, ei_add, ei_sub, ei_mul, ei_lss, ei_leq, ei_gtr, ei_geq, ei_eql, ei_neq, List.map_cons, List.map_nil, List.getElem?_cons_zero, List.getElem?_cons_succ, Option.getD_some, cond_true, cond_false, asIdx, and_self, and_true, true_and, Int.toNat_natCast, Nat.zero_add, Nat.mul_one]
  refine a_seq (a_reg ?_)
  simp only [wpOpsA, AOper.wants, stepA, evalA, Opd.ev, AExit.then, AExit.inBlock, rd_put, rd_none, rd_args, reduceIte, Nat.reduceEqDiff, reduceCtorEq, Option.map_some, evalBin, ei_add, ei_sub, ei_mul, ei_lss, ei_leq, ei_gtr, ei_geq, ei_eql, ei_neq, List.map_cons, List.map_nil, List.getElem?_cons_zero, List.getElem?_cons_succ, Option.getD_some, cond_true, cond_false, asIdx, and_self, and_true, true_and, Int.toNat_natCast, Nat.zero_add, Nat.mul_one]
  refine a_seq (a_seq (a_reg ?_))
  simp only [wpOpsA, AOper.wants, stepA, evalA, Opd.ev, AExit.then, AExit.inBlock, rd_put, rd_none, rd_args, reduceIte, Nat.reduceEqDiff, reduceCtorEq, Option.map_some, evalBin, ei_add, ei_sub, ei_mul, ei_lss, ei_leq, ei_gtr, ei_geq, ei_eql, ei_neq, List.map_cons, List.map_nil, List.getElem?_cons_zero, List.getElem?_cons_succ, Option.getD_some, cond_true, cond_false, asIdx, and_self, and_true, true_and, Int.toNat_natCast, Nat.zero_add, Nat.mul_one]
  have hd : decide ((l.length : Int) < 300) = false := by simp; omega
  refine a_cond (b := false) (by simp only [wpOpsA, AOper.wants, stepA, evalA, Opd.ev, AExit.then, AExit.inBlock, rd_put, rd_none, rd_args, reduceIte, Nat.reduceEqDiff, reduceCtorEq, Option.map_some, evalBin, ei_add, ei_sub, ei_mul, ei_lss, ei_leq, ei_gtr, ei_geq, ei_eql, ei_neq, List.map_cons, List.map_nil, List.getElem?_cons_zero, List.getElem?_cons_succ, Option.getD_some, cond_true, cond_false, asIdx, and_self, and_true, true_and, Int.toNat_natCast, Nat.zero_add, Nat.mul_one, hd]) ?_
  rw [hd]
  refine a_skip ?_
  simp only [wpOpsA, AOper.wants, stepA, evalA, Opd.ev, AExit.then, AExit.inBlock, rd_put, rd_none, rd_args, reduceIte, Nat.reduceEqDiff, reduceCtorEq, Option.map_some, evalBin, ei_add, ei_sub, ei_mul, ei_lss, ei_leq, ei_gtr, ei_geq, ei_eql, ei_neq, List.map_cons, List.map_nil, List.getElem?_cons_zero, List.getElem?_cons_succ, Option.getD_some, cond_true, cond_false, asIdx, and_self, and_true, true_and, Int.toNat_natCast, Nat.zero_add, Nat.mul_one]
  refine a_seq (a_reg ?_)
  have hz : (List.replicate 256 (AV.int IntKind.u32 0)).all AV.one = true := by decide
  simp only [wpOpsA, AOper.wants, stepA, evalA, Opd.ev, AExit.then, AExit.inBlock, rd_put, rd_none, rd_args, reduceIte, Nat.reduceEqDiff, reduceCtorEq, Option.map_some, evalBin, ei_add, ei_sub, ei_mul, ei_lss, ei_leq, ei_gtr, ei_geq, ei_eql, ei_neq, List.map_cons, List.map_nil, List.getElem?_cons_zero, List.getElem?_cons_succ, Option.getD_some, cond_true, cond_false, asIdx, and_self, and_true, true_and, Int.toNat_natCast, Nat.zero_add, Nat.mul_one, allocA, hz]
  refine a_seq (a_seq (a_reg ?_))
  simp only [wpOpsA, AOper.wants, stepA, evalA, Opd.ev, AExit.then, AExit.inBlock, rd_put, rd_none, rd_args, reduceIte, Nat.reduceEqDiff, reduceCtorEq, Option.map_some, evalBin, ei_add, ei_sub, ei_mul, ei_lss, ei_leq, ei_gtr, ei_geq, ei_eql, ei_neq, List.map_cons, List.map_nil, List.getElem?_cons_zero, List.getElem?_cons_succ, Option.getD_some, cond_true, cond_false, asIdx, and_self, and_true, true_and, Int.toNat_natCast, Nat.zero_add, Nat.mul_one]
  refine a_count 256 (by decide) (fun i ρ s => ρ.rd 27 = .int .i64 i ∧ ρ.rd 6 = .ptr 0 0 ∧ ρ.rd 3 = .int .u32 4294967295 ∧ ρ.rd 0 = .psl (ofU8s l) 0 l.length ∧ ∃ cs, s.cells 0 = some cs ∧ cs.length = 256 ∧ ∀ k, k < i → cs[k]? = some (tblE k)) ?_ ?_ ?_ ?_ (by decide)
  · rintro i ρ s _ ⟨h1, h2, _⟩
    exact ⟨h1, rfl⟩
  · simp only [wpOpsA, AOper.wants, stepA, evalA, Opd.ev, AExit.then, AExit.inBlock, rd_put, rd_none, rd_args, reduceIte, Nat.reduceEqDiff, reduceCtorEq, Option.map_some, evalBin, ei_add, ei_sub, ei_mul, ei_lss, ei_leq, ei_gtr, ei_geq, ei_eql, ei_neq, List.map_cons, List.map_nil, List.getElem?_cons_zero, List.getElem?_cons_succ, Option.getD_some, cond_true, cond_false, asIdx, and_self, and_true, true_and, Int.toNat_natCast, Nat.zero_add, Nat.mul_one]
    exact ⟨rfl, rfl, _, push_cells st0 _, List.length_replicate, fun k hk => absurd hk (Nat.not_lt_zero k)⟩
  · rintro i ρ s hi ⟨h27, h6, h3, h0, cs, hcs, hlen, htab⟩
    refine a_seq (a_reg ?_)
    simp only [wpOpsA, AOper.wants, stepA, evalA, Opd.ev, AExit.then, AExit.inBlock, rd_put, rd_none, rd_args, reduceIte, Nat.reduceEqDiff, reduceCtorEq, Option.map_some, evalBin, ei_add, ei_sub, ei_mul, ei_lss, ei_leq, ei_gtr, ei_geq, ei_eql, ei_neq, List.map_cons, List.map_nil, List.getElem?_cons_zero, List.getElem?_cons_succ, Option.getD_some, cond_true, cond_false, asIdx, and_self, and_true, true_and, Int.toNat_natCast, Nat.zero_add, Nat.mul_one, h27]
    refine a_reg ?_
    have hw : IntKind.u32.wrap (i : Int) = ((BitVec.ofNat 32 i).toNat : Nat) := by rw [wrap32, BitVec.toNat_ofNat]; omega
    simp only [wpOpsA, AOper.wants, stepA, evalA, Opd.ev, AExit.then, AExit.inBlock, rd_put, rd_none, rd_args, reduceIte, Nat.reduceEqDiff, reduceCtorEq, Option.map_some, evalBin, ei_add, ei_sub, ei_mul, ei_lss, ei_leq, ei_gtr, ei_geq, ei_eql, ei_neq, List.map_cons, List.map_nil, List.getElem?_cons_zero, List.getElem?_cons_succ, Option.getD_some, cond_true, cond_false, asIdx, and_self, and_true, true_and, Int.toNat_natCast, Nat.zero_add, Nat.mul_one, h27, hw]
    refine (turn_ac _ _).mono ?_
    rintro v s2 ⟨rfl, rfl⟩
    have hr : (0 : Int) ≤ i ∧ (i : Int) < 256 := by omega
    have hr' : (0 : Int) ≤ i ∧ (i : Int) < ((256 : Nat) : Int) := by omega
    have hst := store1 (v := tblE i) hcs (by omega : i < cs.length) rfl
    have hb1 : Nat.beq 1 1 = true := rfl
    simp only [wpOpsA, AOper.wants, stepA, evalA, Opd.ev, AExit.then, AExit.inBlock, rd_put, rd_none, rd_args, reduceIte, Nat.reduceEqDiff, reduceCtorEq, Option.map_some, evalBin, ei_add, ei_sub, ei_mul, ei_lss, ei_leq, ei_gtr, ei_geq, ei_eql, ei_neq, List.map_cons, List.map_nil, List.getElem?_cons_zero, List.getElem?_cons_succ, Option.getD_some, cond_true, cond_false, asIdx, and_self, and_true, true_and, Int.toNat_natCast, Nat.zero_add, Nat.mul_one, h27, h6, h3, h0, hr, hr', AV.cells, List.length_singleton, hb1]
    rw [show AV.int .u32 (Tn 8 (BitVec.ofNat 32 i)).toNat = tblE i from rfl, hst]
    simp only [wpOpsA, AOper.wants, stepA, evalA, Opd.ev, AExit.then, AExit.inBlock, rd_put, rd_none, rd_args, reduceIte, Nat.reduceEqDiff, reduceCtorEq, Option.map_some, evalBin, ei_add, ei_sub, ei_mul, ei_lss, ei_leq, ei_gtr, ei_geq, ei_eql, ei_neq, List.map_cons, List.map_nil, List.getElem?_cons_zero, List.getElem?_cons_succ, Option.getD_some, cond_true, cond_false, asIdx, and_self, and_true, true_and, Int.toNat_natCast, Nat.zero_add, Nat.mul_one, h27, h6, h3, h0]
    refine ⟨_, AState.put_cells _ _ _, ?_, fun k hk => ?_⟩
    · rw [setx_length (by omega)]; omega
    · rw [setx_get (by omega)]
      by_cases hki : k = i
      · rw [if_pos hki, hki]
      · rw [if_neg hki]; exact htab k (by omega)
  · rintro ρ s ⟨h27, h6, h3, h0, cs, hcs, hlen, htab⟩
    simp only [wpOpsA, AOper.wants, stepA, evalA, Opd.ev, AExit.then, AExit.inBlock, rd_put, rd_none, rd_args, reduceIte, Nat.reduceEqDiff, reduceCtorEq, Option.map_some, evalBin, ei_add, ei_sub, ei_mul, ei_lss, ei_leq, ei_gtr, ei_geq, ei_eql, ei_neq, List.map_cons, List.map_nil, List.getElem?_cons_zero, List.getElem?_cons_succ, Option.getD_some, cond_true, cond_false, asIdx, and_self, and_true, true_and, Int.toNat_natCast, Nat.zero_add, Nat.mul_one]
    refine a_seq (a_seq (a_reg ?_))
    simp only [wpOpsA, AOper.wants, stepA, evalA, Opd.ev, AExit.then, AExit.inBlock, rd_put, rd_none, rd_args, reduceIte, Nat.reduceEqDiff, reduceCtorEq, Option.map_some, evalBin, ei_add, ei_sub, ei_mul, ei_lss, ei_leq, ei_gtr, ei_geq, ei_eql, ei_neq, List.map_cons, List.map_nil, List.getElem?_cons_zero, List.getElem?_cons_succ, Option.getD_some, cond_true, cond_false, asIdx, and_self, and_true, true_and, Int.toNat_natCast, Nat.zero_add, Nat.mul_one, h0, h6, h3]
    refine a_count l.length hm (fun i ρ s => ρ.rd 38 = .int .i64 i ∧ ρ.rd 37 = .int .i64 l.length ∧ ρ.rd 36 = .psl (ofU8s l) 0 l.length ∧ ρ.rd 6 = .ptr 0 0 ∧ s.cells 0 = some cs ∧ ρ.rd 3 = .int .u32 (crcFold (l.take i)).toNat) ?_ ?_ ?_ ?_ (by decide)
    · rintro i ρ s _ ⟨h1, h2, _⟩
      exact ⟨h1, h2⟩
    · simp only [wpOpsA, AOper.wants, stepA, evalA, Opd.ev, AExit.then, AExit.inBlock, rd_put, rd_none, rd_args, reduceIte, Nat.reduceEqDiff, reduceCtorEq, Option.map_some, evalBin, ei_add, ei_sub, ei_mul, ei_lss, ei_leq, ei_gtr, ei_geq, ei_eql, ei_neq, List.map_cons, List.map_nil, List.getElem?_cons_zero, List.getElem?_cons_succ, Option.getD_some, cond_true, cond_false, asIdx, and_self, and_true, true_and, Int.toNat_natCast, Nat.zero_add, Nat.mul_one, h6, h3, hcs]
      simp [crcFold]
    · rintro i ρ s hi ⟨h38, h37, h36, h6, hcs, h3⟩
      have hr : (0 : Int) ≤ i ∧ (i : Int) < l.length := by omega
      refine a_seq (a_reg ?_)
      simp only [wpOpsA, AOper.wants, stepA, evalA, Opd.ev, AExit.then, AExit.inBlock, rd_put, rd_none, rd_args, reduceIte, Nat.reduceEqDiff, reduceCtorEq, Option.map_some, evalBin, ei_add, ei_sub, ei_mul, ei_lss, ei_leq, ei_gtr, ei_geq, ei_eql, ei_neq, List.map_cons, List.map_nil, List.getElem?_cons_zero, List.getElem?_cons_succ, Option.getD_some, cond_true, cond_false, asIdx, and_self, and_true, true_and, Int.toNat_natCast, Nat.zero_add, Nat.mul_one, h38, h37, h36, hr, ofU8s_get hi]
      refine a_reg ?_
      have hix : ((crcFold (l.take i) ^^^ u32 l[i]) &&& 255#32).toNat < 256 := by
        rw [BitVec.toNat_and, show (255#32).toNat = 2 ^ 8 - 1 from rfl, Nat.and_two_pow_sub_one_eq_mod]
        exact Nat.mod_lt _ (by decide)
      have hr2 : (0 : Int) ≤ (((crcFold (l.take i) ^^^ u32 l[i]) &&& 255#32).toNat : Int) ∧ (((crcFold (l.take i) ^^^ u32 l[i]) &&& 255#32).toNat : Int) < ((256 : Nat) : Int) := by omega
      have hget := htab _ hix
      have hofn : BitVec.ofNat 32 ((crcFold (l.take i) ^^^ u32 l[i]) &&& 255#32).toNat = (crcFold (l.take i) ^^^ u32 l[i]) &&& 255#32 := by simp
      rw [tblE, hofn] at hget
      have hx : (u32 l[i]).toNat < 256 := by have := u32_toNat l[i]; have := l[i].toNat_lt; omega
      simp only [wpOpsA, AOper.wants, stepA, evalA, Opd.ev, AExit.then, AExit.inBlock, rd_put, rd_none, rd_args, reduceIte, Nat.reduceEqDiff, reduceCtorEq, Option.map_some, evalBin, ei_add, ei_sub, ei_mul, ei_lss, ei_leq, ei_gtr, ei_geq, ei_eql, ei_neq, List.map_cons, List.map_nil, List.getElem?_cons_zero, List.getElem?_cons_succ, Option.getD_some, cond_true, cond_false, asIdx, and_self, and_true, true_and, Int.toNat_natCast, Nat.zero_add, Nat.mul_one, h3, h6, e_shr8, e_xor8, hr2, hcs, hget, e_xor, h38, h37, h36, fold_take hi, table_step _ _ hx]
    · rintro ρ s ⟨h38, h37, h36, h6, hcs, h3⟩
      simp only [wpOpsA, AOper.wants, stepA, evalA, Opd.ev, AExit.then, AExit.inBlock, rd_put, rd_none, rd_args, reduceIte, Nat.reduceEqDiff, reduceCtorEq, Option.map_some, evalBin, ei_add, ei_sub, ei_mul, ei_lss, ei_leq, ei_gtr, ei_geq, ei_eql, ei_neq, List.map_cons, List.map_nil, List.getElem?_cons_zero, List.getElem?_cons_succ, Option.getD_some, cond_true, cond_false, asIdx, and_self, and_true, true_and, Int.toNat_natCast, Nat.zero_add, Nat.mul_one]
      refine a_seq (a_reg ?_)
      simp only [wpOpsA, AOper.wants, stepA, evalA, Opd.ev, AExit.then, AExit.inBlock, rd_put, rd_none, rd_args, reduceIte, Nat.reduceEqDiff, reduceCtorEq, Option.map_some, evalBin, ei_add, ei_sub, ei_mul, ei_lss, ei_leq, ei_gtr, ei_geq, ei_eql, ei_neq, List.map_cons, List.map_nil, List.getElem?_cons_zero, List.getElem?_cons_succ, Option.getD_some, cond_true, cond_false, asIdx, and_self, and_true, true_and, Int.toNat_natCast, Nat.zero_add, Nat.mul_one, h3, e_not]
      refine a_ret ⟨(fun i h => nomatch h), _, ?_, rfl⟩
      simp [retA, ac10, rvs, RV.ev, rd_put, crc]
end Go.Proofs.Ythobpdfchhihnaa.Va
