/- Texts Rm1 to Rm9 of this claim, in one. Conditions: none. -/
import Derived.Test.YthojhpjjkfjeiaaM9
set_option maxRecDepth 100000
set_option maxHeartbeats 1000000
set_option linter.all false
namespace Go.Proofs.Ythojhpjjkfjeiaa.Va
open Go.Proofs
/- How many of so many numbers stand in just one of two rows. -/
def diffN (a b : List Int) : Nat → Nat
  | 0 => 0
  | k + 1 => if decide ((k : Int) ∈ a) = decide ((k : Int) ∈ b) then diffN a b k else diffN a b k + 1
theorem diffN_le (a b : List Int) : ∀ k, diffN a b k ≤ k := by
  intro k
  induction k with
  | zero => exact Nat.le_refl _
  | succ k ih => unfold diffN; split <;> omega
def oneOff (a b : List Int) : Bool := decide (diffN a b 7 = 1)
theorem stepM_st0 {a b : List Int} (ha : a.length ≤ 1000) (hb : b.length ≤ 1000) : callD Try.prog 38 [intsP a, intsP b] st0 fun v _ => v = .bool (oneOff a b) := by
  have hC := fun (l : List Int) (hl : l.length ≤ 1000) (x : Int) (σ : AState) => contains_ac (l := l) (x := x) (σ := σ) (by omega) (intsP_pur l)
  refine cd_wp fn38 cf38 cl38 rfl ?_
  simp only [ac38]
  unfold ab38
  simp only [wpX_seq, wpX_skip, wpXK_normal]
  refine x_mid (fun ρ s => ρ.rd 0 = intsP a ∧ ρ.rd 1 = intsP b) ?_ ?_
  · simp only [XU, seval]
  rintro ρ s ⟨h0, h1⟩
  rw [wpX_seq]
  refine x_mid (fun ρ s => ρ.rd 0 = intsP a ∧ ρ.rd 1 = intsP b ∧ ρ.rd 5 = .int .i64 0) ?_ ?_
  · simp only [XU, seval, h0, h1]
  clear h0 h1
  rintro ρ s ⟨h0, h1, h5⟩
  rw [wpX_seq]
  refine x_mid (fun ρ s => ρ.rd 5 = .int .i64 (diffN a b 7 : Int)) ?_ ?_
  · simp only [XU, seval, h0, h1, h5]
    refine x_for (fun i ρ s => ρ.rd 0 = intsP a ∧ ρ.rd 1 = intsP b ∧ ρ.rd 7 = .int .i64 (i : Int) ∧ ρ.rd 5 = .int .i64 (diffN a b i : Int)) 7 ?_ ?_
    · simp only [XU, seval, h0, h1, h5]
      rfl
    clear h0 h1 h5
    rintro i ρ s hi ⟨h0, h1, h7, h5⟩
    by_cases hlt : i < 7
    rotate_left
    · have e : i = 7 := by omega
      subst e
      have hge : ¬ ((7 : Nat) : Int) < 7 := by omega
      simp only [XU, seval, h0, h1, h7, h5, hge]
    have gi : (i : Int) < 7 := by omega
    have wi : IntKind.i64.wrap ((i : Int) + 1) = ((i + 1 : Nat) : Int) := wrapSucc (by omega)
    have hd := diffN_le a b i
    have wd : IntKind.i64.wrap ((diffN a b i : Int) + 1) = ((diffN a b i + 1 : Nat) : Int) := wrapSucc (by omega)
    have hn : diffN a b (i + 1) = if decide ((i : Int) ∈ a) = decide ((i : Int) ∈ b) then diffN a b i else diffN a b i + 1 := rfl
    rw [hn]
    have h1' := hC a ha (i : Int)
    have h2' := hC b hb (i : Int)
    generalize decide ((i : Int) ∈ a) = x at *
    generalize decide ((i : Int) ∈ b) = y at *
    generalize diffN a b i = d at *
    simp only [XU, seval, h0, h1, h7, h5, gi]
    refine (h1' _).use ?_
    simp only [XU, seval, h0, h1, h7, h5]
    refine (h2' _).use ?_
    have q1 : evalEq .bool (.bool true) (.bool true) = some true := rfl
    have q2 : evalEq .bool (.bool true) (.bool false) = some false := rfl
    have q3 : evalEq .bool (.bool false) (.bool true) = some false := rfl
    have q4 : evalEq .bool (.bool false) (.bool false) = some true := rfl
    have hb2 : ∀ z : Bool, z = true ∨ z = false := fun z => by cases z <;> simp
    rcases hb2 x with e1 | e1 <;> rcases hb2 y with e2 | e2 <;> rw [e1, e2]
    · simp only [XU, seval, h0, h1, h7, h5, wi, q1]
      exact hlt
    · simp only [XU, seval, h0, h1, h7, h5, wi, wd, q2]
      exact hlt
    · simp only [XU, seval, h0, h1, h7, h5, wi, wd, q3]
      exact hlt
    · simp only [XU, seval, h0, h1, h7, h5, wi, q4]
      exact hlt
  rintro ρ s h5
  have e : decide ((diffN a b 7 : Int) = 1) = oneOff a b := decide_eq_decide.2 (by omega)
  simp only [XU, seval, h5, e]
theorem stepM_ac {a b : List Int} (ha : a.length ≤ 1000) (hb : b.length ≤ 1000) {σ : AState} : callD Try.prog 38 [intsP a, intsP b] σ fun v s => s = σ ∧ v = .bool (oneOff a b) :=
  callD.share (R := fun v => v = .bool (oneOff a b)) (.cons (intsP_fxd a) (.cons (intsP_fxd b) .nil)) ((stepM_st0 ha hb).mono fun v s h => ⟨.bool (oneOff a b), by rw [h]; exact .flat _ rfl, rfl⟩)
end Go.Proofs.Ythojhpjjkfjeiaa.Va
set_option maxRecDepth 100000
set_option maxHeartbeats 1000000
set_option linter.all false
namespace Go.Proofs.Ythojhpjjkfjeiaa.Va
open Go.Proofs
def Core.may (c : Core) (l : List Int) : Bool := validS l && oneOff (c.counted c.last).1 l
def Core.busy (c : Core) : Bool := decide (c.commit < (c.counted c.last).2) || decide (c.termAt c.commit ≠ c.term)
theorem memS_range_of {l : List Int} (h : validS l = true) : mems l := by
  have hf := valid_few h
  refine ⟨hf.2, fun x hx => ?_⟩
  unfold validS at h
  rw [Bool.and_eq_true] at h
  obtain ⟨k, hk, e⟩ := List.getElem_of_mem hx
  have hu : okUp l (k + 1) = true := by
    cases hc : okUp l (k + 1) with
    | true => rfl
    | false => have := okUp_le hc (k := l.length) (by omega); rw [this] at h; cases h.1
  rw [okUp, Bool.and_eq_true] at hu
  have h2 := hu.2
  unfold okAt at h2
  simp only [Bool.and_eq_true, decide_eq_true_eq] at h2
  have e' : mAt l k = x := by unfold mAt; simp [hk, ← e]
  rw [e'] at h2
  exact ⟨h2.1, h2.2.1⟩
section
variable {σ : AState} {own : Nat → Nat} {t b : Nat} {c : Core} {R : Rws} {n : Nat}
/- The outcome, and the core then. -/
def Core.change (c : Core) (l : List Int) : (Nat × Nat) × Core :=
  if c.may l = false then ((0, 1), c) else if c.busy = true then ((0, 20), c) else if 56 ≤ c.l.length then ((0, 33), c) else ((c.last + 1, 0), c.lay ⟨0, 2, [], l⟩)
theorem change_ac (h : CoreAt σ own t b c R) (ht : 10 ≤ t) (hk : c.Ok (n + 14)) (hr : c.role = 2) {l : List Int} (hl : l.length ≤ 1000) :
    callD Try.prog 18 [.ptr b 0, intsP l] σ fun v s => v = .tup [.int .i64 ((c.change l).1.1 : Int), .int .i64 ((c.change l).1.2 : Int)] ∧ ∃ own' R', Now σ own t b own' (c.change l).2 R' s := by
  have n0 := Now.start h
  have hfit := hk.fit
  have hX := hk.counted c.last
  have hV := fun σ => valid_d (σ := σ) hl
  have hS := fun σ => stepM_ac (a := (c.counted c.last).1) (b := l) (by have := hX.1; omega) hl (σ := σ)
  unfold Core.change Core.may Core.busy
  refine cd_wp fn18 cf18 cl18 rfl ?_
  simp only [ac18]
  unfold ab18
  simp only [wpX_seq, wpX_skip, wpXK_normal]
  refine x_mid (fun ρ s => s = σ ∧ ρ.rd 0 = .ptr b 0 ∧ ρ.rd 1 = intsP l) ?_ ?_
  · simp only [XU, seval]
  rintro ρ s ⟨hs, h0, h1⟩
  rw [hs]
  clear hs
  rw [wpX_seq]
  refine x_mid (fun ρ s => ρ.rd 0 = .ptr b 0 ∧ ρ.rd 1 = intsP l ∧ ρ.rd 6 = intsP (c.counted c.last).1 ∧ ρ.rd 7 = .int .i64 ((c.counted c.last).2 : Int) ∧ Now σ own t b (loc own σ.n) c R s) ?_ ?_
  · simp only [XU, seval]
    refine d_dreg follow [] rfl ?_
    have n1 := n0.slots 13 []
    generalize addSlots σ.n 13 σ [] = s1 at *
    simp only [XU, seval, DU, h0, h1]
    refine (last_o n1.co hfit).use ?_
    simp only [XU, seval, DU, h0, h1]
    refine (counted_o n1.co hfit).kept fun s2 k2 => ?_
    generalize c.counted c.last = X at *
    unfold cntP
    simp only [XU, seval, DU]
    refine ⟨⟨?_, ?_⟩, ?_⟩
    · intro l hl; simp at hl
    · intro sl hsl; simp at hsl
    simp only [XU, seval, h0, h1]
    exact n1.keeps k2
  clear h0 h1 n0
  rintro ρ s ⟨h0, h1, h6, h7, n0⟩
  generalize c.counted c.last = X at *
  have g2 : (c.role : Int) = 2 := by omega
  have kb := n0.co.cb
  have hB : ∀ z : Bool, z = true ∨ z = false := fun z => by cases z <;> simp
  have hT := termAt_o n0.co (i := c.commit) hfit
  have hF := full_ac n0.co
  rcases hB (validS l) with hv | hv
  rotate_left
  · rw [hv]
    simp only [Bool.false_and, if_true]
    rw [hv] at hV
    simp only [XU, seval, h0, h1, h6, h7]
    refine (hV _).use ?_
    simp only [XU, seval, h0, h1, h6, h7]
    exact ⟨_, _, n0⟩
  rw [hv] at hV ⊢
  simp only [Bool.true_and]
  rcases hB (oneOff X.1 l) with ho | ho
  rotate_left
  · rw [ho]
    simp only [if_true]
    rw [ho] at hS
    simp only [XU, seval, h0, h1, h6, h7]
    refine (hV _).use ?_
    simp only [XU, seval, h0, h1, h6, h7]
    refine (hS _).use ?_
    simp only [XU, seval, h0, h1, h6, h7]
    exact ⟨_, _, n0⟩
  rw [ho] at hS ⊢
  rw [if_neg (by decide)]
  have hmem := memS_range_of hv
  rw [wpX_seq]
  by_cases hb1 : c.commit < X.2
  · have hb1' : (c.commit : Int) < (X.2 : Int) := by omega
    rw [decide_eq_true hb1, Bool.true_or, if_pos rfl]
    simp only [XU, seval, h0, h1, h6, h7]
    refine (hV _).use ?_
    simp only [XU, seval, h0, h1, h6, h7]
    refine (hS _).use ?_
    simp only [XU, seval, h0, h1, h6, h7, kb, CS, g2]
    refine d_dreg follow [] rfl ?_
    have n1 := n0.slots 22 []
    generalize addSlots s.n 22 s [] = s1 at *
    have kb1 := n1.co.cb
    simp only [XU, seval, DU, h0, h7, kb1, CS, hb1']
    refine ⟨⟨?_, ?_⟩, ?_⟩
    · intro l hl c hc hf
      simp only [List.mem_cons, List.mem_nil_iff, List.not_mem_nil, or_false] at hl hc
      (repeat' (first | (rcases hl with rfl | hl) | (rcases hl with rfl))) <;> (repeat' (first | (rcases hc with rfl | hc) | (rcases hc with rfl))) <;> dsimp only at hf ⊢ <;> first
        | (exact absurd hf (by decide +kernel))
        | (simp only [XU, seval, h0, h7, kb1, CS, hb1']; done)
    · intro sl hsl; simp at hsl
    exact ⟨_, _, n1⟩
  have hb1' : ¬ (c.commit : Int) < (X.2 : Int) := by omega
  rw [decide_eq_false hb1, Bool.false_or]
  by_cases hb2 : c.termAt c.commit = c.term
  rotate_left
  · have hb2' : ¬ (c.termAt c.commit : Int) = (c.term : Int) := by omega
    rw [decide_eq_true hb2, if_pos rfl]
    simp only [XU, seval, h0, h1, h6, h7]
    refine (hV _).use ?_
    simp only [XU, seval, h0, h1, h6, h7]
    refine (hS _).use ?_
    simp only [XU, seval, h0, h1, h6, h7, kb, CS, g2]
    refine d_dreg follow [] rfl ?_
    have n1 := n0.slots 22 []
    generalize addSlots s.n 22 s [] = s1 at *
    have kb1 := n1.co.cb
    have hT1 := termAt_o n1.co (i := c.commit) hfit
    simp only [XU, seval, DU, h0, h7, kb1, CS, hb1']
    refine hT1.use ?_
    simp only [XU, seval, DU, h0, h7, kb1, CS, hb1', hb2']
    refine ⟨⟨?_, ?_⟩, ?_⟩
    · intro l hl c hc hf
      simp only [List.mem_cons, List.mem_nil_iff, List.not_mem_nil, or_false] at hl hc
      (repeat' (first | (rcases hl with rfl | hl) | (rcases hl with rfl))) <;> (repeat' (first | (rcases hc with rfl | hc) | (rcases hc with rfl))) <;> dsimp only at hf ⊢ <;> first
        | (exact absurd hf (by decide +kernel))
        | (simp only [XU, seval, h0, h7, kb1, CS, hb1', hb2']; done)
    · intro sl hsl; simp at hsl
    exact ⟨_, _, n1⟩
  have hb2' : (c.termAt c.commit : Int) = (c.term : Int) := by omega
  rw [decide_eq_false (fun e => e hb2), if_neg (by decide)]
  refine x_mid (fun ρ s => ρ.rd 0 = .ptr b 0 ∧ ρ.rd 1 = intsP l ∧ c.l.length < 56 ∧ Now σ own t b (loc own σ.n) c R s) ?_ ?_
  · simp only [XU, seval, h0, h1, h6, h7]
    refine (hV _).use ?_
    simp only [XU, seval, h0, h1, h6, h7]
    refine (hS _).use ?_
    simp only [XU, seval, h0, h1, h6, h7, kb, CS, g2]
    refine d_mid (fun ρ s => ρ.rd 0 = .ptr b 0 ∧ ρ.rd 1 = intsP l ∧ ρ.rd 35 = .bool false ∧ Now σ own t b (loc own σ.n) c R s) ?_ ?_
    · refine d_dreg follow [] rfl ?_
      have n1 := n0.slots 22 []
      generalize addSlots s.n 22 s [] = s1 at *
      have kb1 := n1.co.cb
      have hT1 := termAt_o n1.co (i := c.commit) hfit
      simp only [XU, seval, DU, h0, h7, kb1, CS, hb1']
      refine hT1.use ?_
      simp only [XU, seval, DU, h0, h7, kb1, CS, hb1', hb2']
      refine ⟨⟨?_, ?_⟩, ?_⟩
      · intro l hl c hc hf
        simp only [List.mem_cons, List.mem_nil_iff, List.not_mem_nil, or_false] at hl hc
        (repeat' (first | (rcases hl with rfl | hl) | (rcases hl with rfl))) <;> (repeat' (first | (rcases hc with rfl | hc) | (rcases hc with rfl))) <;> dsimp only at hf ⊢ <;> first
          | (exact absurd hf (by decide +kernel))
          | (simp only [XU, seval, h0, h7, kb1, CS, hb1', hb2']; done)
      · intro sl hsl; simp at hsl
      simp only [XU, seval, h0, h1]
      exact n1
    clear h0 h1 h6 h7 n0 kb hT hF
    rintro ρ s ⟨h0, h1, h35, n0⟩
    have hF := full_ac n0.co
    by_cases hf : 56 ≤ c.l.length
    · rw [if_pos hf]
      rw [decide_eq_true hf] at hF
      simp only [XU, seval, h0, h1, h35]
      refine hF.use ?_
      simp only [XU, seval, h0, h1, h35]
      exact ⟨_, _, n0⟩
    · rw [decide_eq_false hf] at hF
      simp only [XU, seval, h0, h1, h35]
      refine hF.use ?_
      simp only [XU, seval, h0, h1, h35]
      exact ⟨by omega, n0⟩
  clear h0 h1 h6 h7 n0 kb hT hF
  rintro ρ s ⟨h0, h1, hf, n0⟩
  rw [if_neg (by omega)]
  have hL : callD Try.prog 41 ([.ptr b 0] ++ [.agg [.int .i64 0, .int .i64 2, .nils, intsP l]]) s fun v s' => v = .int .i64 ((c.last + 1 : Nat) : Int) ∧ ∃ own' R', Now s (loc own σ.n) t b own' (c.lay ⟨0, 2, [], l⟩) R' s' := by
    refine callD.weak (pre := [.ptr b 0]) (lay_ac n0.co ht hk (by omega) hr (e := ⟨0, 2, [], l⟩) ⟨Nat.zero_le _, hmem⟩) fun K x => wk_agg rfl fun i hi hi' => ?_
    match i, hi with
    | 0, _ => exact .inl rfl
    | 1, _ => exact .inl rfl
    | 2, _ => exact .inr ⟨rfl, _, _, rfl⟩
    | 3, _ => exact .inl rfl
  unfold intsP at hL h1
  simp only [XU, seval, h0, h1, PS, fillA]
  refine hL.now fun s2 own2 R2 n2 => ?_
  simp only [XU, seval]
  exact ⟨_, _, n0.call n2⟩
end
end Go.Proofs.Ythojhpjjkfjeiaa.Va
set_option maxRecDepth 100000
set_option maxHeartbeats 1000000
set_option linter.all false
namespace Go.Proofs.Ythojhpjjkfjeiaa.Va
open Go.Proofs
/- A row that a call gives, and nobody else has, is fixed data. -/
theorem callD.frz {P : Program} {f : FuncId} {args : List AV} {σ : AState} {k : AV → AState → Prop}
    (h : callD P f args σ fun v s => ∃ b off n cap sz cs, v = .sl b off n cap sz ∧ s.cells b = some cs ∧ off + n * sz ≤ cs.length ∧ k (.psl (seg cs off (n * sz)) 0 n) (s.kill b)) : callD P f args σ k := by
  obtain ⟨v, s, h1, b, off, n, cap, sz, cs, rfl, hb, hl, hk⟩ := h
  refine ⟨_, _, ⟨h1.1, fun K w vs hr hv => (h1.2 K w vs hr hv).mono fun e w' hx => ?_⟩, hk⟩
  obtain ⟨v', vc, σ', K', he, ⟨rfl, rfl⟩, hle, hr', hv'⟩ := hx
  obtain ⟨K'', hle', hr'', hv''⟩ := freeze hr' hb
  exact ⟨_, vc, _, K'', he, ⟨rfl, rfl⟩, hle.trans hle', hr'', hv'' off n cap sz _ hl (hv'.mono hle')⟩
def dataM (k : Nat) : Byts := [100, b8 (k : Int), b8 ((k : Int) / 256)]
theorem NowG.kill_ {σ s : AState} {own own' : Nat → Nat} {bg : Nat} {g : Grp} {A : GR} {bs : Nat → Nat} {Rs : Nat → Rws} (h : NowG σ own bg own' g A bs Rs s) {b : Nat} (hb : σ.n ≤ b) (h0 : own' b = 0) : NowG σ own bg own' g A bs Rs (s.kill b) :=
  ⟨⟨h.tr.n, h.tr.ow, fun k hk hm => (by
      have hne : k ≠ b := by omega
      have : (s.kill b).h.get k = s.h.get k := by simp only [AState.kill, Tr.get_set, hne, if_false]
      exact this.trans (h.tr.keep k hk hm))⟩, h.co.keep (Nat.le_refl _) fun k hk hm => by
    have hne : k ≠ b := fun e => by subst e; unfold MineG at hm; omega
    rw [kill_get, if_neg hne]⟩
section
variable {σ : AState} {own : Nat → Nat} {bg : Nat} {g : Grp} {A : GR} {bs : Nat → Nat} {Rs : Nat → Rws}
theorem data_ac (h : GrpAt σ own bg g A bs Rs) (hm : g.made ≤ 100000) : callD Try.prog 17 [.ptr bg 0] σ fun v s => v = bytesP (dataM (g.made + 1)) ∧ ∃ own', NowG σ own bg own' { g with made := g.made + 1 } A bs Rs s := by
  have n0 := NowG.start h
  have wm : IntKind.i64.wrap ((g.made : Int) + 1) = ((g.made + 1 : Nat) : Int) := wrapSucc (by omega)
  clear h
  refine callD.frz ?_
  refine cd_wp fn17 cf17 cl17 rfl ?_
  simp only [ac17]
  unfold ab17
  simp only [wpX_seq, wpX_skip, wpXK_normal]
  refine x_mid (fun ρ s => s = σ ∧ ρ.rd 0 = .ptr bg 0) ?_ ?_
  · simp only [XU, seval]
  rintro ρ s ⟨hs, h0⟩
  rw [hs]
  clear hs
  rw [wpX_seq]
  refine x_mid (fun ρ s => ρ.rd 0 = .ptr bg 0 ∧ NowG σ own bg (loc own σ.n) { g with made := g.made + 1 } A bs Rs s) ?_ ?_
  · have cb := n0.co.cb
    have hll := n0.co.ll
    have g8 := gg408 (A := A) hll
    have s8 := gs408 (A := A) hll (g.made + 1)
    have hle : decide (408 + 1 ≤ (grpC g A).length) = true := by rw [grpC_len hll]; decide
    simp only [XU, seval, h0, cb, g8, wm, storeA, sets1, hle, s8]
    exact n0.upd rfl rfl rfl rfl rfl rfl hll
  clear h0 n0
  rintro ρ s ⟨h0, n0⟩
  generalize hG : ({ g with made := g.made + 1 } : Grp) = G at *
  have hGm : G.made = g.made + 1 := by rw [← hG]
  rw [← hGm]
  simp only [XU, seval]
  refine d_dreg follow [] rfl ?_
  have n1 := n0.loc_.slots 13 []
  have hσ := n0.tr.n
  have hsn : (addSlots s.n 13 s []).n = s.n + 13 := rfl
  generalize addSlots s.n 13 s [] = s1 at *
  have cb := n1.co.cb
  have lb := n1.co.bn
  have g8 := gg408 (A := A) n1.co.ll
  have nb : ¬ bg = s1.n := by omega
  have h8 := e_sh8 (G.made : Int)
  have n2 := n1.loc_.push [.int .u8 100, .int .u8 ((b8 (G.made : Int)).toNat : Int), .int .u8 ((b8 ((G.made : Int) / 256)).toNat : Int)]
  simp only [XU, seval, DU, h0, cb, g8, h8, b8_eq, fillA]
  refine ⟨⟨?_, ?_⟩, ?_⟩
  · intro l hl c hc hf
    simp only [List.mem_cons, List.mem_nil_iff, List.not_mem_nil, or_false] at hl hc
    (repeat' (first | (rcases hl with rfl | hl) | (rcases hl with rfl))) <;> (repeat' (first | (rcases hc with rfl | hc) | (rcases hc with rfl))) <;> dsimp only at hf ⊢ <;> first
      | (exact absurd hf (by decide +kernel))
      | (simp only [XU, seval, h0, cb, g8, nb]; done)
  · intro sl hsl; simp at hsl
  have hk := n2.kill_ (b := s1.n) (by omega) (loc_ge (Nat.le_refl _))
  exact ⟨s1.n, 0, 3, some 3, 1, _, rfl, if_pos rfl, Nat.le_refl _, rfl, _, hk⟩
end
end Go.Proofs.Ythojhpjjkfjeiaa.Va
set_option maxRecDepth 100000
set_option maxHeartbeats 1000000
set_option linter.all false
namespace Go.Proofs.Ythojhpjjkfjeiaa.Va
open Go.Proofs
/- A tick, its heartbeat foretold. -/
def Core.tickA (a : Bool) (c : Core) (d : Int) : Core :=
  if c.role = 2 then (if a = true then (c.tickL d).tell else c.tickL d)
  else (if c.left - 1 ≤ 0 then ((c.tickF d).wait d).stand else c.tickF d)
theorem tickA_eq {a : Bool} {c : Core} {d : Int} (h : c.role = 2 → decide ((c.beat + 1) % 3 = 0) = a) : c.tickA a d = c.tick d := by
  unfold Core.tickA Core.tick
  by_cases hr : c.role = 2
  · rw [if_pos hr, if_pos hr, ← h hr]
    by_cases e : (c.beat + 1) % 3 = 0
    · rw [if_pos e, if_pos (decide_eq_true e)]
    · rw [if_neg e, if_neg (by rw [decide_eq_false e]; decide)]
  · rw [if_neg hr, if_neg hr]
def Grp.tickA1 (a : Bool) (g : Grp) (i : Nat) : Grp := g.setc i ((g.core i).tickA a ((7 * i % 10 : Nat) : Int))
def Grp.ticksA (a : Bool) (g : Grp) : Nat → Grp
  | 0 => g
  | i + 1 => ((g.ticksA a i).tickA1 a i).told i
def Core.tickB' (c : Core) : Bool := c.okB 22 && decide (-1000 ≤ c.left) && decide (c.left ≤ 1000)
def Grp.ticksAB (a : Bool) (g : Grp) : Nat → Bool
  | 0 => true
  | i + 1 => g.ticksAB a i && (((g.ticksA a i).core i).tickB' && ((g.ticksA a i).tickA1 a i).toldB i)
def Grp.ticksAP (a : Bool) (g : Grp) : Nat → List (Ent × Ent)
  | 0 => []
  | i + 1 => g.ticksAP a i ++ ((g.ticksA a i).tickA1 a i).toldP i
def Grp.quietA (a : Bool) (g : Grp) : Grp := (Grp.runG 2000 (g.ticksA a g.n)).hush
def Grp.quietAB (a : Bool) (g : Grp) : Bool := decide (g.n ≤ 5) && g.ticksAB a g.n && Grp.runB 2000 (g.ticksA a g.n) && (g.quietA a).lastB
def Grp.quietAP (a : Bool) (g : Grp) : List (Ent × Ent) := g.ticksAP a g.n ++ Grp.runP 2000 (g.ticksA a g.n)
theorem core_setc_ne {g : Grp} {i j : Nat} {c : Core} (h : j ≠ i) : (g.setc i c).core j = g.core j := by
  unfold Grp.setc Grp.core
  simp only [List.getD_eq_getElem?_getD, List.getElem?_set]
  rw [if_neg fun e => h e.symm]
theorem ticks_core {g : Grp} : ∀ k j, k ≤ j → (g.ticksG k).core j = g.core j := by
  intro k
  induction k with
  | zero => intro j _; rfl
  | succ k ih =>
    intro j hj
    have h1 : (g.ticksG (k + 1)).core j = (((g.ticksG k).tick1 k).setc k (((g.ticksG k).tick1 k).core k).mute).core j := rfl
    rw [h1, core_setc_ne (by omega)]
    unfold Grp.tick1
    rw [core_setc_ne (by omega)]
    exact ih j (by omega)
theorem ticksA_eq {a : Bool} {g : Grp} (h : ∀ i, (g.core i).role = 2 → decide (((g.core i).beat + 1) % 3 = 0) = a) : ∀ k, g.ticksA a k = g.ticksG k := by
  intro k
  induction k with
  | zero => rfl
  | succ k ih =>
    have h1 : g.ticksA a (k + 1) = ((g.ticksA a k).tickA1 a k).told k := rfl
    have h2 : g.ticksG (k + 1) = ((g.ticksG k).tick1 k).told k := rfl
    rw [h1, h2, ih]
    unfold Grp.tickA1 Grp.tick1
    rw [tickA_eq (by rw [ticks_core k k (Nat.le_refl _)]; exact h k)]
theorem tickA1_eq {a : Bool} {g : Grp} (h : ∀ i, (g.core i).role = 2 → decide (((g.core i).beat + 1) % 3 = 0) = a) (k : Nat) : (g.ticksA a k).tickA1 a k = (g.ticksG k).tick1 k := by
  rw [ticksA_eq h]
  unfold Grp.tickA1 Grp.tick1
  rw [tickA_eq (by rw [ticks_core k k (Nat.le_refl _)]; exact h k)]
theorem quietA_eq {a : Bool} {g : Grp} (h : ∀ i, (g.core i).role = 2 → decide (((g.core i).beat + 1) % 3 = 0) = a) (hbt : ∀ i, (g.core i).beat < 2305843009213693952) : g.quiet = g.quietA a ∧ (g.quietAB a = true → g.quietB = true) ∧ g.quietP = g.quietAP a := by
  have e1 := ticksA_eq h
  have hB : ∀ k, g.ticksAB a k = g.ticksB k := by
    intro k
    induction k with
    | zero => rfl
    | succ k ih =>
      unfold Grp.ticksAB Grp.ticksB
      rw [ih, tickA1_eq h, e1]
      have : ((g.ticksG k).core k).tickB' = ((g.ticksG k).core k).tickB := by
        unfold Core.tickB' Core.tickB
        rw [ticks_core k k (Nat.le_refl _), decide_eq_true (hbt k), Bool.and_true]
      rw [this]
  have hP : ∀ k, g.ticksAP a k = g.ticksP k := by
    intro k
    induction k with
    | zero => rfl
    | succ k ih =>
      unfold Grp.ticksAP Grp.ticksP
      rw [ih, tickA1_eq h]
  have hq : g.quiet = g.quietA a := by unfold Grp.quiet Grp.quietA; rw [e1]
  refine ⟨hq, fun hb => ?_, ?_⟩
  · unfold Grp.quietAB at hb
    unfold Grp.quietB
    rw [hq, ← hB, ← e1]
    exact hb
  · unfold Grp.quietP Grp.quietAP
    rw [hP, e1]
def sameP (l : List (Ent × Ent)) : Prop := l.map (·.1) = l.map (·.2)
theorem sameP_ok {l : List (Ent × Ent)} (h : sameP l) : ∀ p ∈ l, p.1 = p.2 := by
  induction l with
  | nil => intro p hp; cases hp
  | cons a l ih =>
    unfold sameP at h
    simp only [List.map_cons, List.cons.injEq] at h
    intro p hp
    rcases List.mem_cons.1 hp with e | e
    · rw [e]; exact h.1
    · exact ih h.2 p e
end Go.Proofs.Ythojhpjjkfjeiaa.Va
set_option maxRecDepth 100000
set_option maxHeartbeats 1000000
set_option linter.all false
namespace Go.Proofs.Ythojhpjjkfjeiaa.Va
open Go.Proofs
def idx : Nat → List Ent → List (Nat × Ent)
  | _, [] => []
  | k, e :: es => (k + 1, e) :: idx (k + 1) es
def mPeer (a j : Nat) : Peer := if 1 ≤ j ∧ j < 5 then ⟨a + 1, a, 0, true, 0⟩ else ⟨1, 0, 0, false, 0⟩
def mLead (l : List Ent) (a b : Nat) : Core := ⟨⟨0, 0, [0, 1, 2], []⟩, l, 0, 2, 0, a, 2, [0, 1], (List.range 7).map (mPeer a), 0, [], [], 10, 0, b, []⟩
def mCore (l : List Ent) (a r i : Nat) : Core := ⟨⟨0, 0, [0, 1, 2], []⟩, l, i, 2, if i < 3 then 0 else -1, a, 0, if i < 3 then [(i : Int)] else [], List.replicate 7 peer0, 0, [], [], 10 + ((7 * i % 10 : Nat) : Int) - (r : Int), ((7 * i % 10 : Nat) : Int), 0, []⟩
/- l: the log of each; a: its length; b: how often the leader's clock has beaten; r: what is left of it by three. -/
def mst (l : List Ent) (a b r made : Nat) : Grp :=
  ⟨5, mLead l a b :: (List.range 4).map (fun i => mCore l a r (i + 1)), [], idx 0 l, List.replicate 5 2, List.replicate 5 a, (List.replicate 400 0).set 2 1, made, 0⟩
/- A log of which nothing is known. -/
def lo (E : Nat → Ent) (a : Nat) : List Ent := (List.range a).map fun j => ⟨2, (E j).kind, (E j).data, (E j).mem⟩
def ldat (D : Nat → Byts) (d : Nat) : List Ent := (List.range d).map fun j => ⟨2, 1, D j, []⟩
/- A log whose last change stands behind p entries; d entries of data are behind it. -/
def lp (E : Nat → Ent) (D : Nat → Byts) (p : Nat) (h : Ent) (d : Nat) : List Ent := lo E p ++ h :: ldat D d
def Grp.dat (g : Grp) : Grp := { g with made := g.made + 1 }
def Grp.prM (g : Grp) (D : Nat → Byts) : Nat → Grp
  | 0 => g
  | i + 1 => (g.prM D i).dat.propG 0 (D i)
def Grp.prMB (g : Grp) (D : Nat → Byts) : Nat → Bool
  | 0 => true
  | i + 1 => Grp.prMB g D i && (g.prM D i).dat.propB (D i)
def Grp.prMP (g : Grp) (D : Nat → Byts) : Nat → List (Ent × Ent)
  | 0 => []
  | i + 1 => Grp.prMP g D i ++ (g.prM D i).dat.propP (D i)
abbrev Res := Grp × Bool × List Ent
/- A quiet round. -/
def sL (E : Nat → Ent) (a b r made : Nat) (hb : Bool) : Res := ((mst (lo E a) a b r made).quietA hb, (mst (lo E a) a b r made).quietAB hb, ((mst (lo E a) a b r made).quietAP hb).map (·.1))
def sR (E : Nat → Ent) (a b r made : Nat) (hb : Bool) (r2 : Nat) : Res := (mst (lo E a) a (b + 1) r2 made, true, ((mst (lo E a) a b r made).quietAP hb).map (·.2))
/- Proposals, and three rounds. -/
def pG (E : Nat → Ent) (D : Nat → Byts) (p : Nat) (h : Ent) (d c b r made : Nat) : Grp := mst (lp E D p h d) (p + 1 + d) b r made
def pL (E : Nat → Ent) (D : Nat → Byts) (made p : Nat) (h : Ent) (d c b r : Nat) : Res :=
  (((pG E D p h d c b r made).prM (fun j => D (d + j)) c).rounds 3, (pG E D p h d c b r made).prMB (fun j => D (d + j)) c && ((pG E D p h d c b r made).prM (fun j => D (d + j)) c).roundsB 3,
   ((pG E D p h d c b r made).prMP (fun j => D (d + j)) c ++ ((pG E D p h d c b r made).prM (fun j => D (d + j)) c).roundsP 3).map (·.1))
def pR (E : Nat → Ent) (D : Nat → Byts) (made p : Nat) (h : Ent) (d c b r : Nat) : Res :=
  (mst (lp E D p h (d + c)) (p + 1 + d + c) (b + 3) ((b + 3) % 3) (made + c), true,
   ((pG E D p h d c b r made).prMP (fun j => D (d + j)) c ++ ((pG E D p h d c b r made).prM (fun j => D (d + j)) c).roundsP 3).map (·.2))
/- A change, and three rounds. -/
def cG (E : Nat → Ent) (a b r made : Nat) (l : List Int) : Grp := (mst (lo E a) a b r made).setc 0 (((mst (lo E a) a b r made).core 0).lay ⟨0, 2, [], l⟩)
def Grp.chB (g : Grp) (l : List Int) : Bool := g.toldB 0 && (g.core 0).okB 14 && decide ((g.core 0).role = 2) && (decide (l.length = 1) || (g.core 0).busy)
def cL (E : Nat → Ent) (made a b r : Nat) (l : List Int) : Res :=
  (((cG E a b r made l).told 0).rounds 3, (cG E a b r made l).chB l && ((cG E a b r made l).told 0).roundsB 3, ((cG E a b r made l).toldP 0 ++ ((cG E a b r made l).told 0).roundsP 3).map (·.1))
def cR (E : Nat → Ent) (made a b r : Nat) (l : List Int) : Res :=
  (mst (lo E a ++ [⟨2, 2, [], l⟩]) (a + 1) (b + 3) ((b + 3) % 3) made, true, ((cG E a b r made l).toldP 0 ++ ((cG E a b r made l).told 0).roundsP 3).map (·.2))
end Go.Proofs.Ythojhpjjkfjeiaa.Va
set_option maxRecDepth 100000
set_option maxHeartbeats 1000000
set_option linter.all false
namespace Go.Proofs.Ythojhpjjkfjeiaa.Va
open Go.Proofs
/- The members with one turned: those below k. -/
def togN (now : List Int) (x k : Nat) : List Int := ((List.range k).filter fun j : Nat => decide ((j : Int) ∈ now) != decide (j = x)).map Int.ofNat
def tog (now : List Int) (x : Nat) : List Int := togN now x 5
def grpM : Grp := grpNew 5 [0, 1, 2]
def datM (made j : Nat) : Byts := dataM (made + j + 1)
def Grp.rdM (g : Grp) (c : Nat) : Grp := g.prM (datM g.made) c
def Grp.chM (g : Grp) (l : List Int) : Grp := g.setc 0 ((g.core 0).lay ⟨0, 2, [], l⟩)
structure PropOk (c : Nat) (g : Grp) : Prop where
  n5 : g.n = 5
  ld : ∀ i, i < 5 → ((g.core i).role = 2 ↔ i = 0)
  md : g.made ≤ 1000
  pb : ∀ j, j < c → (g.prM (datM g.made) j).dat.propB (datM g.made j) = true
  pp : ∀ j, j < c → ∀ p ∈ (g.prM (datM g.made) j).dat.propP (datM g.made j), p.1 = p.2
  r2 : (g.rdM c).roundsB 10 = true
  p2 : ∀ p ∈ (g.rdM c).roundsP 10, p.1 = p.2
structure ChOk (g : Grp) (l : List Int) : Prop where
  n5 : g.n = 5
  ml : mems l
  rl : (g.core 0).role = 2
  ok : (g.core 0).okB 14 = true
  ch : (g.core 0).change l = (((g.core 0).last + 1, 0), (g.core 0).lay ⟨0, 2, [], l⟩)
  rl1 : ((g.chM l).core 0).role = 2
  ok1 : ((g.chM l).core 0).okB 14 = true
  by1 : 1 < l.length → ((g.chM l).core 0).busy = true
  tb : (g.chM l).toldB 0 = true
  tp : ∀ p ∈ (g.chM l).toldP 0, p.1 = p.2
  r3 : ((g.chM l).told 0).roundsB 100 = true
  p3 : ∀ p ∈ ((g.chM l).told 0).roundsP 100, p.1 = p.2
  ld : ∀ i, i < 5 → (((((g.chM l).told 0).rounds 100).core i).role = 2 ↔ i = 0)
  cm : ∀ i, i < 5 → ((((g.chM l).told 0).rounds 100).core i).commit = ((((g.chM l).told 0).rounds 100).core 0).commit
  ok4 : ∀ i, i < 5 → ((((g.chM l).told 0).rounds 100).core i).okB 14 = true
  mm : ∀ i, i < 5 → (((((g.chM l).told 0).rounds 100).core i).counted ((((g.chM l).told 0).rounds 100).core i).last).1 = l
structure MemOk (c : Nat) (S : Nat → Grp → List Int → Prop) : Prop where
  r1 : grpM.roundsB 100 = true
  p1 : ∀ p ∈ grpM.roundsP 100, p.1 = p.2
  s0 : S 0 (grpM.rounds 100) [0, 1, 2]
  sp : ∀ i g now, i < 4 → S i g now → PropOk c g
  sm : ∀ i g now, i < 4 → S i g now → now.length ≤ 5 ∧ (0 : Int) ∈ now ∧ ∀ x, 1 ≤ x → x < 5 → tog now x ≠ []
  sc : ∀ i g now, i < 4 → S i g now → S (i + 1) ((g.rdM c).rounds 10) now
  st : ∀ i g now x, i < 4 → S i g now → 1 ≤ x → x < 5 → ChOk ((g.rdM c).rounds 10) (tog now x) ∧ S (i + 1) (((((g.rdM c).rounds 10).chM (tog now x)).told 0).rounds 100) (tog now x)
end Go.Proofs.Ythojhpjjkfjeiaa.Va
set_option maxRecDepth 100000
set_option maxHeartbeats 1000000
set_option linter.all false
namespace Go.Proofs.Ythojhpjjkfjeiaa.Va
open Go.Proofs
/- A row of one's own that is handed on, and never seen again, is fixed data from there on. -/
theorem callD.fza {P : Program} {f : FuncId} {pre : List AV} {σ : AState} {k : AV → AState → Prop} {b off n sz : Nat} {cap : Option Nat} {cs : List AV} (hb : σ.cells b = some cs) (hl : off + n * sz ≤ cs.length)
    (h : callD P f (pre ++ [.psl (seg cs off (n * sz)) 0 n]) (σ.kill b) k) : callD P f (pre ++ [.sl b off n cap sz]) σ k := by
  obtain ⟨v, s, h1, h2⟩ := h
  refine ⟨v, s, ⟨h1.1, fun K w vs hr hv => ?_⟩, h2⟩
  obtain ⟨K', hle, hr', hf⟩ := freeze hr hb
  have hpre := hv.take pre.length
  have hpost := hv.drop pre.length
  rw [List.take_left' rfl] at hpre
  rw [List.drop_left' rfl] at hpost
  have hvs : vs = vs.take pre.length ++ vs.drop pre.length := (List.take_append_drop _ _).symm
  obtain ⟨v', vs', hd, hv1, hv2⟩ := hpost.of_cons
  rw [hvs, hd]
  refine (h1.2 K' w _ hr' ((hpre.mono hle).append (.cons (hf off n cap sz v' hl (hv1.mono hle)) (hv2.mono hle)))).mono fun e w' hx => ?_
  obtain ⟨v2, vc, σ2, K2, he, hq, hle2, hr2, hv2⟩ := hx
  exact ⟨v2, vc, σ2, K2, he, hq, hle.trans hle2, hr2, hv2⟩
theorem NowG.but3 {σ s s' : AState} {own own' own'' : Nat → Nat} {bg : Nat} {g : Grp} {A : GR} {bs : Nat → Nat} {Rs : Nat → Rws} (h : NowG σ own bg own' g A bs Rs s) (ho : ∀ k, k < s.n → own'' k = own' k) (hn : s.n ≤ s'.n) (hk : ∀ k, k < s.n → (k < σ.n ∨ 10 ≤ own' k) → s'.h.get k = s.h.get k) : NowG σ own bg own'' g A bs Rs s' :=
  ⟨⟨Nat.le_trans h.tr.n hn, fun k hk' => (ho k (Nat.lt_of_lt_of_le hk' h.tr.n)).trans (h.tr.ow k hk'), fun k hk' hm => (hk k (Nat.lt_of_lt_of_le hk' h.tr.n) (.inl hk')).trans (h.tr.keep k hk' hm)⟩,
   (h.co.own_ ho).keep hn fun k hk' hm => get_cells (hk k hk' (.inr (by unfold MineG at hm; rw [ho k hk'] at hm; omega)))⟩
theorem NowG.lapp8 {σ s : AState} {own own' : Nat → Nat} {bg : Nat} {g : Grp} {A : GR} {bs : Nat → Nat} {Rs : Nat → Rws} (h : NowG σ own bg own' g A bs Rs s) {x w : AV} {c : List AV} {n : Nat} (hx : RowP (fun k => σ.n ≤ k ∧ own' k = 1) s x c n 1) (hw : w.one = true) (hn : n ≤ 1000) :
    ∃ b9 cap9 s9, appendA (s.push (.cells [w])) 1 8 x (.sl s.n 0 1 (some 1) 1) = some (.sl b9 0 (n + 1) cap9 1, s9) ∧ ∃ own9, RowP (fun k => σ.n ≤ k ∧ own9 k = 1) s9 (.sl b9 0 (n + 1) cap9 1) (c ++ [w]) (n + 1) 1 ∧ NowG σ own bg own9 g A bs Rs s9 := by
  have hx' : RowP (fun k => σ.n ≤ k ∧ tag own' s.n 1 k = 1) s x c n 1 := hx.mono fun k hk hn => ⟨hk.1, by rw [tag_lt hn]; exact hk.2⟩
  have hσ := h.tr.n
  obtain ⟨b9, cap9, s9, happ, hrow, hn9, hk9⟩ := app_lit (bytes := 8) hx' (fun k hk => ⟨by omega, tag_ge hk⟩) (new := [w]) (k := 1) (by simp [hw]) rfl (by omega) (by omega)
  refine ⟨b9, cap9, s9, happ, loc (tag own' s.n 1) s9.n, hrow.mono fun k hk hn => ⟨hk.1, by rw [loc_lt hn]; exact hk.2⟩, h.but3 (fun k hk => by rw [loc_lt (by omega), tag_lt hk]) (Nat.le_of_lt hn9) fun k hk hk' => hk9 k hk fun e => ?_⟩
  have := e.2
  rw [tag_lt hk] at this
  omega
theorem NowG.killr {σ s : AState} {own own' : Nat → Nat} {bg : Nat} {g : Grp} {A : GR} {bs : Nat → Nat} {Rs : Nat → Rws} (h : NowG σ own bg own' g A bs Rs s) {b : Nat} (hb : σ.n ≤ b) (h0 : own' b < 20) : NowG σ own bg own' g A bs Rs (s.kill b) :=
  ⟨⟨h.tr.n, h.tr.ow, fun k hk hm => (by
      have hne : k ≠ b := by omega
      have : (s.kill b).h.get k = s.h.get k := by simp only [AState.kill, Tr.get_set, hne, if_false]
      exact this.trans (h.tr.keep k hk hm))⟩, h.co.keep (Nat.le_refl _) fun k hk hm => by
    have hne : k ≠ b := fun e => by subst e; unfold MineG at hm; omega
    rw [kill_get, if_neg hne]⟩
theorem setc_same {g : Grp} {i : Nat} (h : i < g.cores.length) : g.setc i (g.core i) = g := by
  have : g.cores.set i (g.core i) = g.cores := by
    unfold Grp.core
    rw [List.getD_eq_getElem?_getD, List.getElem?_eq_getElem h]
    exact List.set_getElem_self h
  unfold Grp.setc
  rw [this]
theorem core_setc0 {g : Grp} {i : Nat} {c : Core} (h : i < g.cores.length) : (g.setc i c).core i = c := by
  unfold Grp.setc Grp.core
  rw [List.getD_eq_getElem?_getD, List.getElem?_set, if_pos rfl, if_pos h]
  rfl
theorem Grp.Sm.dat {g : Grp} (h : g.Sm) : g.dat.Sm := ⟨h.c, h.n⟩
theorem Grp.Sm.prM {g : Grp} (h : g.Sm) {D : Nat → Byts} (hD : ∀ i, (D i).length ≤ 700) : ∀ i, (g.prM D i).Sm := by
  intro i
  induction i with
  | zero => exact h
  | succ i ih => exact Grp.Sm.propG (g := (g.prM D i).dat) ih.dat (hD i)
theorem Grp.Sm.chM {g : Grp} (h : g.Sm) {l : List Int} (hl : mems l) : (g.chM l).Sm := h.setc ((h.c 0).lay (e := ⟨0, 2, [], l⟩) ⟨Nat.zero_le _, hl⟩)
theorem datM_len (m j : Nat) : (datM m j).length = 3 := rfl
theorem prM_n (g : Grp) (D : Nat → Byts) : ∀ i, (g.prM D i).n = g.n := by
  intro i
  induction i with
  | zero => rfl
  | succ i ih => exact ih
theorem prM_made (g : Grp) (D : Nat → Byts) : ∀ i, (g.prM D i).made = g.made + i := by
  intro i
  induction i with
  | zero => rfl
  | succ i ih => show (g.prM D i).made + 1 = _; omega
theorem rounds_n (g : Grp) : ∀ k, (g.rounds k).n = g.n := by
  intro k
  induction k with
  | zero => rfl
  | succ k ih => exact (runG_n 2000 _).trans ((ticksG_n _ _).trans ih)
/- A change of one that is busy: nothing of it is done. -/
theorem busy_change {c : Core} (h : c.busy = true) (l : List Int) : (c.change l).2 = c ∧ (c.change l).1.2 ≠ 0 := by
  unfold Core.change
  rw [if_pos h]
  split
  · exact ⟨rfl, Nat.succ_ne_zero 0⟩
  · exact ⟨rfl, Nat.succ_ne_zero 19⟩
theorem togN_succ (now : List Int) (x k : Nat) : togN now x (k + 1) = if (decide ((k : Int) ∈ now) != decide (k = x)) = true then togN now x k ++ [(k : Int)] else togN now x k := by
  unfold togN
  rw [List.range_succ, List.filter_append, List.map_append]
  split
  · rename_i h
    rw [List.filter_cons]
    simp only [h, if_true]
    rfl
  · rename_i h
    rw [List.filter_cons]
    simp only [h]
    simp
theorem togN_len (now : List Int) (x k : Nat) : (togN now x k).length ≤ k := by
  unfold togN
  rw [List.length_map]
  exact Nat.le_trans (List.length_filter_le _ _) (by simp)
section
variable {σ : AState} {own : Nat → Nat} {bg : Nat} {g : Grp} {A : GR} {bs : Nat → Nat} {Rs : Nat → Rws}
/- Change, of the one that leads. -/
theorem changeG_ac (h : GrpAt σ own bg g A bs Rs) (hn : 0 < g.n) (hs : g.Sm) (hk : (g.core 0).okB 14 = true) (hr : (g.core 0).role = 2) {l : List Int} (hl : l.length ≤ 1000) :
    callD Try.prog 18 [.ptr (bs 0) 0, intsP l] σ fun v s => v = .tup [.int .i64 (((g.core 0).change l).1.1 : Int), .int .i64 (((g.core 0).change l).1.2 : Int)] ∧ ∃ own' A' Rs', NowG σ own bg own' (g.setc 0 ((g.core 0).change l).2) A' bs Rs' s := by
  have h1 := change_ac (n := 0) (h.cs 0 hn) (by omega) (Core.okB_ok (hs.c 0) hk).1 hr hl
  refine h1.mono fun v s e => ⟨e.1, ?_⟩
  obtain ⟨own', R', n1⟩ := e.2
  have n0 := NowG.start h
  exact ⟨own', A, _, ⟨⟨n1.tr.n, n1.tr.ow, fun k hk' hm => n1.tr.keep k hk' fun e => hm (by unfold Mine at e; unfold MineG; omega)⟩, h.core_ hn n1⟩⟩
theorem changeB_ac (h : GrpAt σ own bg g A bs Rs) (hn : 0 < g.n) (hs : g.Sm) (hk : (g.core 0).okB 14 = true) (hr : (g.core 0).role = 2) (hb : (g.core 0).busy = true) {l : List Int} (hl : l.length ≤ 1000) :
    callD Try.prog 18 [.ptr (bs 0) 0, intsP l] σ fun v s => ∃ x y : Nat, v = .tup [.int .i64 (x : Int), .int .i64 (y : Int)] ∧ y ≠ 0 ∧ ∃ own' A' Rs', NowG σ own bg own' g A' bs Rs' s := by
  refine (changeG_ac h hn hs hk hr hl).mono fun v s e => ?_
  obtain ⟨e1, e2⟩ := busy_change hb l
  obtain ⟨e3, own', A', Rs', n1⟩ := e
  rw [e1, setc_same (by rw [h.cl]; exact hn)] at n1
  exact ⟨_, _, e3, e2, _, _, _, n1⟩
end
end Go.Proofs.Ythojhpjjkfjeiaa.Va
