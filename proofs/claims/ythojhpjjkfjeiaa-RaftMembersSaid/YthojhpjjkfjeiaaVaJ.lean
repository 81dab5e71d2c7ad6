/- Words for walks over symbolic data: loops that count, slots, bytes. Conditions: none. -/
import Derived.Test.YthojhpjjkfjeiaaVaH
set_option linter.unusedSimpArgs false
set_option linter.unusedVariables false
namespace Go.Proofs.Ythojhpjjkfjeiaa.Va
variable {P : Program} {N : Nat} {Q : AExit → Env → AState → Prop} {ρ : Env} {σ : AState}

theorem rd_put (ρ : Env) (t : Nat) (v : AV) (k : Nat) : (Env.put ρ (some t) v).rd k = if k = t then v else ρ.rd k := by
  simp only [Env.put, Env.rd, Tr.get_set]
  split <;> rfl
theorem rd_none (ρ : Env) (v : AV) : Env.put ρ none v = ρ := Eq.trans rfl rfl
theorem ev_tmp (ρ : Env) (t : Nat) : (Opd.tmp t).ev ρ = ρ.rd t := Eq.trans rfl rfl
theorem ev_con (ρ : Env) (v : AV) : (Opd.con v).ev ρ = v := Eq.trans rfl rfl
theorem rd_args (l : List AV) (t : Nat) : (Env.ofArgs l 0).rd t = (l[t]?).getD .undef := by
  simp [Env.rd, ofArgs_get]
theorem wrap64 {n : Int} (h0 : 0 ≤ n) (h1 : n < 9223372036854775808) : IntKind.i64.wrap n = n := by
  have h : IntKind.i64.wrap n = if n % 18446744073709551616 ≥ 9223372036854775808 then n % 18446744073709551616 - 18446744073709551616 else n % 18446744073709551616 := by
    simp [IntKind.wrap, IntKind.bits, IntKind.signed]
  rw [h]
  split <;> omega

/- A loop of at most n rounds. -/
theorem rounds_for {x : ACode} (J : Nat → Env → AState → Prop) (n : Nat) (round : ∀ i ρ σ, i ≤ n → J i ρ σ → SimA P N x (AExit.then (fun ρ' σ' => i < n ∧ J (i + 1) ρ' σ') Q) ρ σ) :
    ∀ d i ρ σ, i + d = n → J i ρ σ → aRounds P N x Q (d + 1) ρ σ := by
  intro d
  induction d with
  | zero =>
    intro i ρ σ hi h
    refine (round i ρ σ (by omega) h).mono fun e ρ' σ' hq => ?_
    cases e with
    | normal => exact absurd hq.1 (by omega)
    | _ => exact hq
  | succ d ih =>
    intro i ρ σ hi h
    refine (round i ρ σ (by omega) h).mono fun e ρ' σ' hq => ?_
    cases e with
    | normal => exact ih (i + 1) ρ' σ' (by omega) hq.2
    | _ => exact hq
theorem a_for {x : ACode} (J : Nat → Env → AState → Prop) (n : Nat) (h0 : J 0 ρ σ) (round : ∀ i ρ σ, i ≤ n → J i ρ σ → SimA P N x (AExit.then (fun ρ' σ' => i < n ∧ J (i + 1) ρ' σ') Q) ρ σ) :
    SimA P N (.loop x) Q ρ σ := a_rounds (n + 1) (rounds_for J n round n 0 ρ σ (by omega) h0)

/- 'for i := range n': the translator's own form. -/
theorem a_count {it ct jt k k' : Nat} {lim : Opd} {body : ACode} (n : Nat) (hn : n < 4611686018427387904) (J : Nat → Env → AState → Prop)
    (hJ : ∀ i ρ σ, i ≤ n → J i ρ σ → ρ.rd it = .int .i64 i ∧ lim.ev ρ = .int .i64 n) (h0 : J 0 ρ σ)
    (hb : ∀ i ρ σ, i < n → J i ρ σ → SimA P N body (AExit.inBlock k' fun e ρ' σ' => match e with
      | .normal => ρ'.rd it = .int .i64 i ∧ J (i + 1) ((ρ'.put (some jt) (.int .i64 (i + 1 : Nat))).put (some it) (.int .i64 (i + 1 : Nat))) σ'
      | e => AExit.inBlock k Q e ρ' σ') (ρ.put (some ct) (.bool true)) σ)
    (hq : ∀ ρ σ, J n ρ σ → Q .normal (ρ.put (some ct) (.bool false)) σ) (hct : ct ≠ it) :
    SimA P N (.block k (.loop (.seq (.reg [⟨some ct, .bin .lss .plain (.tmp it) lim, none⟩]) (.seq (.cond (.tmp ct) .skip (.exit k)) (.seq (.block k' body) (.reg [⟨some jt, .bin .add .plain (.tmp it) (.con (.int .i64 1)), none⟩, ⟨some it, .mv (.tmp jt), none⟩])))))) Q ρ σ := by
  refine a_block (a_for J n h0 fun i ρ σ hi h => ?_)
  obtain ⟨h1, h2⟩ := hJ i ρ σ hi h
  refine a_seq (a_reg ?_)
  have hev : (Opd.tmp it).ev ρ = .int .i64 i := h1
  simp only [wpOpsA, AOper.wants, stepA, evalA, hev, h2, evalBin, evalInt, if_true, Option.map_some, AExit.then]
  by_cases hlt : i < n
  · have hd : decide ((i : Int) < n) = true := by simpa using hlt
    refine a_seq (a_cond (b := true) (by simp only [Opd.ev, rd_put, if_true, hd]) (a_skip ?_))
    simp only [AExit.then]
    rw [hd]
    refine a_seq (a_block ((hb i ρ σ hlt h).mono fun e ρ' σ' hq => ?_))
    have fin : ∀ ρ' σ', (ρ'.rd it = .int .i64 i ∧ J (i + 1) ((ρ'.put (some jt) (.int .i64 (i + 1 : Nat))).put (some it) (.int .i64 (i + 1 : Nat))) σ') →
        SimA P N (.reg [⟨some jt, .bin .add .plain (.tmp it) (.con (.int .i64 1)), none⟩, ⟨some it, .mv (.tmp jt), none⟩]) (AExit.then (fun ρ' σ' => i < n ∧ J (i + 1) ρ' σ') (AExit.inBlock k Q)) ρ' σ' := by
      rintro ρ' σ' ⟨g1, g2⟩
      refine a_reg ?_
      have hw : IntKind.i64.wrap ((i : Int) + 1) = ((i + 1 : Nat) : Int) := by rw [wrap64 (by omega) (by omega)]; simp
      simp only [wpOpsA, AOper.wants, stepA, evalA, Opd.ev, g1, evalBin, evalInt, if_true, Option.map_some, rd_put, hw, AExit.then]
      exact ⟨hlt, g2⟩
    cases e with
    | normal => exact fin _ _ hq
    | ret => simpa [AExit.inBlock, AExit.then] using hq
    | exit j =>
      simp only [AExit.inBlock] at hq ⊢
      by_cases hj : j = k'
      · simp only [hj, if_true, AExit.then] at hq ⊢; exact fin _ _ hq
      · simp only [hj, if_false, AExit.then] at hq ⊢; exact hq
  · have : i = n := by omega
    subst this
    have hd : decide ((i : Int) < i) = false := by simp
    refine a_seq (a_cond (b := false) (by simp only [Opd.ev, rd_put, if_true, hd]) (a_exit ?_))
    simp only [AExit.then, AExit.inBlock, if_true]
    rw [hd]
    exact hq ρ σ h

theorem ei_add (k : IntKind) (a b : Int) : evalInt .add k a b = some (.int k (k.wrap (a + b))) := Eq.trans rfl rfl
theorem ei_sub (k : IntKind) (a b : Int) : evalInt .sub k a b = some (.int k (k.wrap (a - b))) := Eq.trans rfl rfl
theorem ei_mul (k : IntKind) (a b : Int) : evalInt .mul k a b = some (.int k (k.wrap (a * b))) := Eq.trans rfl rfl
theorem ei_lss (k : IntKind) (a b : Int) : evalInt .lss k a b = some (.bool (decide (a < b))) := Eq.trans rfl rfl
theorem ei_leq (k : IntKind) (a b : Int) : evalInt .leq k a b = some (.bool (decide (a ≤ b))) := Eq.trans rfl rfl
theorem ei_gtr (k : IntKind) (a b : Int) : evalInt .gtr k a b = some (.bool (decide (b < a))) := Eq.trans rfl rfl
theorem ei_geq (k : IntKind) (a b : Int) : evalInt .geq k a b = some (.bool (decide (b ≤ a))) := Eq.trans rfl rfl
theorem ei_eql (k : IntKind) (a b : Int) : evalInt .eql k a b = some (.bool (decide (a = b))) := Eq.trans rfl rfl
theorem ei_neq (k : IntKind) (a b : Int) : evalInt .neq k a b = some (.bool (decide (a ≠ b))) := by
  simp only [evalInt]
  congr 2
  by_cases h : a = b <;> simp [h, bne]

theorem store1 {s : AState} {b off : Nat} {cs : List AV} {v : AV} (hc : s.cells b = some cs) (h : off < cs.length) (hv : v.one = true) : storeA s (.ptr b off) [v] = some (s.put b (setx cs off v)) := by
  have hb : Nat.ble (off + 1) cs.length = true := by simp; omega
  simp only [storeA, hc, List.length_singleton, hb, List.all_cons, List.all_nil, hv, Bool.and_true, cond_true, sets]
theorem push_cells (s : AState) (cs : List AV) : (s.push (.cells cs)).cells s.n = some cs := by simp [AState.cells, AState.push]
end Go.Proofs.Ythojhpjjkfjeiaa.Va
set_option linter.unusedSimpArgs false
set_option linter.unusedVariables false
namespace Go.Proofs.Ythojhpjjkfjeiaa.Va
variable {P : Program} {N : Nat} {Q : AExit → Env → AState → Prop} {ρ : Env} {σ : AState}

/- A condition that is not yet decided. The ways on are functions of the memory that is still to come: so 'simp' does not walk them. -/
def Br (b : Bool) (f g : AState → Prop) (σ : AState) : Prop := if b = true then f σ else g σ
theorem Br_true (f g : AState → Prop) (σ : AState) : Br true f g σ = f σ := by simp [Br]
theorem Br_false (f g : AState → Prop) (σ : AState) : Br false f g σ = g σ := by simp [Br]
theorem Br_intro {b : Bool} {f g : AState → Prop} {σ : AState} (h1 : b = true → f σ) (h2 : b = false → g σ) : Br b f g σ := by
  cases b with
  | true => rw [Br_true]; exact h1 rfl
  | false => rw [Br_false]; exact h2 rfl
theorem Br_dec {p : Prop} [Decidable p] {f g : AState → Prop} {σ : AState} (h1 : p → f σ) (h2 : ¬ p → g σ) : Br (decide p) f g σ :=
  Br_intro (fun h => h1 (of_decide_eq_true h)) (fun h => h2 (of_decide_eq_false h))

def onB (v : AV) (f g : AState → Prop) (σ : AState) : Prop := match v with | .bool b => Br b f g σ | _ => False
theorem onB_bool (b : Bool) (f g : AState → Prop) (σ : AState) : onB (.bool b) f g σ = Br b f g σ := propext ⟨fun h => h, fun h => h⟩

/- The rest behind a step of an operation. -/
def andK (r : Option (AV × AState)) (k : AV → AState → Prop) : Prop := match r with | some (v, s) => k v s | none => False
theorem andK_some (v : AV) (s : AState) (k : AV → AState → Prop) : andK (some (v, s)) k = k v s := propext ⟨fun h => h, fun h => h⟩

def stepW (P : Program) (o : AOp) (ρ : Env) (σ : AState) (k : AV → AState → Prop) : Prop :=
  match o with
  | .call f args => AC P f (args.map (·.ev ρ)) σ k
  | .callv f args => match f.ev ρ with
    | .fn g cap => AC P g (args.map (·.ev ρ) ++ cap) σ k
    | _ => False
  | o => andK (evalA o ρ σ) k
theorem stepW_ok {o : AOp} {k : AV → AState → Prop} (h : stepW P o ρ σ k) : stepA P o ρ σ k := by
  cases o <;> first | exact h | skip
  all_goals
    simp only [stepW, andK] at h
    simp only [stepA]
    exact h

/- A guard. -/
def onG (r : Option Bool) (A B : Prop) : Prop := match r with | some true => A | some false => B | none => False
theorem onG_true (A B : Prop) : onG (some true) A B = A := propext ⟨fun h => h, fun h => h⟩
theorem onG_false (A B : Prop) : onG (some false) A B = B := propext ⟨fun h => h, fun h => h⟩

def stepV (P : Program) (o : AOp) (ρ : Env) (k : AV → AState → Prop) (σ : AState) : Prop := stepW P o ρ σ k
theorem stepV_eq (o : AOp) (ρ : Env) (k : AV → AState → Prop) (σ : AState) : stepV P o ρ k σ = stepW P o ρ σ k := propext ⟨fun h => h, fun h => h⟩
/- A guard's truth. -/
def onV (v : AV) (w : Bool) (f g : AState → Prop) (σ : AState) : Prop := match v with | .bool b => Br (b == w) f g σ | .tup [] => g σ | _ => False
theorem onV_unit (w : Bool) (f g : AState → Prop) (σ : AState) : onV (.tup []) w f g σ = g σ := propext ⟨fun h => h, fun h => h⟩
theorem onV_true (b : Bool) (f g : AState → Prop) (σ : AState) : onV (.bool b) true f g σ = Br b f g σ := by cases b <;> rfl
theorem onV_false (b : Bool) (f g : AState → Prop) (σ : AState) : onV (.bool b) false f g σ = Br b g f σ := by cases b <;> rfl

def wpW (P : Program) : List AOper → (Env → AState → Prop) → Env → AState → Prop
  | [], Q, ρ, σ => Q ρ σ
  | o :: r, Q, ρ, σ => onG (o.wants ρ) (stepW P o.op ρ σ fun v σ' => wpW P r Q (ρ.put o.dst v) σ') (wpW P r Q (ρ.put o.dst (.tup [])) σ)
/- The rest of a region, behind what the operation gave (a word of its own: 'simp' does not look into it). -/
def wpK (P : Program) (r : List AOper) (Q : Env → AState → Prop) (ρ : Env) (d : Option Nat) (v : AV) (σ : AState) : Prop := wpW P r Q (ρ.put d v) σ
theorem wpK_eq (r : List AOper) (Q : Env → AState → Prop) (ρ : Env) (d : Option Nat) (v : AV) (σ : AState) : wpK P r Q ρ d v σ = wpW P r Q (ρ.put d v) σ := propext ⟨fun h => h, fun h => h⟩
theorem wpW_nil (Q : Env → AState → Prop) (ρ : Env) (σ : AState) : wpW P [] Q ρ σ = Q ρ σ := propext ⟨fun h => h, fun h => h⟩
theorem wpW_cons (d : Option Nat) (op : AOp) (g : Option (Nat × Bool)) (r : List AOper) (Q : Env → AState → Prop) (ρ : Env) (σ : AState) :
    wpW P (⟨d, op, g⟩ :: r) Q ρ σ = onG ((AOper.mk d op g).wants ρ) (stepW P op ρ σ (wpK P r Q ρ d)) (wpK P r Q ρ d (.tup []) σ) := propext ⟨fun h => h, fun h => h⟩
theorem wpW_plain (d : Option Nat) (op : AOp) (r : List AOper) (Q : Env → AState → Prop) (ρ : Env) (σ : AState) :
    wpW P (⟨d, op, none⟩ :: r) Q ρ σ = stepW P op ρ σ (wpK P r Q ρ d) := propext ⟨fun h => h, fun h => h⟩
theorem wpW_guard (d : Option Nat) (op : AOp) (t : Nat) (w : Bool) (r : List AOper) (Q : Env → AState → Prop) (ρ : Env) (σ : AState) :
    wpW P (⟨d, op, some (t, w)⟩ :: r) Q ρ σ = onV (ρ.rd t) w (stepV P op ρ (wpK P r Q ρ d)) (wpK P r Q ρ d (.tup [])) σ := by
  simp only [wpW, AOper.wants, onV, onG]
  generalize ρ.rd t = v
  cases v <;> first | rfl | skip
  · rename_i b
    cases b <;> cases w <;> rfl
  · rename_i vs
    cases vs <;> rfl
theorem wpW_ok : ∀ (l : List AOper) (Q : Env → AState → Prop) (ρ : Env) (σ : AState), wpW P l Q ρ σ → wpOpsA P l Q ρ σ := by
  intro l
  induction l with
  | nil => intro Q ρ σ h; exact h
  | cons o r ih =>
    intro Q ρ σ h
    simp only [wpW, onG] at h
    simp only [wpOpsA]
    split at h
    · rename_i e; rw [e]; exact stepA_mono (stepW_ok h) fun v s h => ih _ _ _ h
    · rename_i e; rw [e]; exact ih _ _ _ h
    · exact h.elim

def wpC (P : Program) (N : Nat) : ACode → (AExit → Env → AState → Prop) → Env → AState → Prop
  | .skip, Q, ρ, σ => Q .normal ρ σ
  | .reg ops, Q, ρ, σ => wpW P ops (Q .normal) ρ σ
  | .seq a b, Q, ρ, σ => wpC P N a (fun e ρ σ => match e with | .normal => wpC P N b Q ρ σ | .exit i => Q (.exit i) ρ σ | .ret => Q .ret ρ σ) ρ σ
  | .cond o a b, Q, ρ, σ => onB (o.ev ρ) (fun σ => wpC P N a Q ρ σ) (fun σ => wpC P N b Q ρ σ) σ
  | .block id c, Q, ρ, σ => wpC P N c (AExit.inBlock id Q) ρ σ
  | .loop c, Q, ρ, σ => SimA P N (.loop c) Q ρ σ
  | .exit id, Q, ρ, σ => Q (.exit id) ρ σ
  | .ret, Q, ρ, σ => Q .ret ρ σ
  | .dreg ops acts B sl, Q, ρ, σ => SimA P N (.dreg ops acts B sl) Q ρ σ
  | .bad, _, _, _ => False
/- The rest behind a piece of code (a word of its own: 'simp' does not look into it). -/
def wpCK (P : Program) (N : Nat) (c : ACode) (Q : AExit → Env → AState → Prop) (e : AExit) (ρ : Env) (σ : AState) : Prop :=
  match e with | .normal => wpC P N c Q ρ σ | .exit i => Q (.exit i) ρ σ | .ret => Q .ret ρ σ
section
variable (a b : ACode) (Q : AExit → Env → AState → Prop) (ρ : Env) (σ : AState)
theorem wpCK_normal : wpCK P N a Q .normal ρ σ = wpC P N a Q ρ σ := propext ⟨fun h => h, fun h => h⟩
theorem wpCK_exit (i : Nat) : wpCK P N a Q (.exit i) ρ σ = Q (.exit i) ρ σ := propext ⟨fun h => h, fun h => h⟩
theorem wpCK_ret : wpCK P N a Q .ret ρ σ = Q .ret ρ σ := propext ⟨fun h => h, fun h => h⟩
theorem wpC_skip : wpC P N .skip Q ρ σ = Q .normal ρ σ := propext ⟨fun h => h, fun h => h⟩
theorem wpC_reg (ops : List AOper) : wpC P N (.reg ops) Q ρ σ = wpW P ops (Q .normal) ρ σ := propext ⟨fun h => h, fun h => h⟩
theorem wpC_seq : wpC P N (.seq a b) Q ρ σ = wpC P N a (wpCK P N b Q) ρ σ := propext ⟨fun h => h, fun h => h⟩
theorem wpC_cond (o : Opd) : wpC P N (.cond o a b) Q ρ σ = onB (o.ev ρ) (wpC P N a Q ρ) (wpC P N b Q ρ) σ := propext ⟨fun h => h, fun h => h⟩
theorem wpC_block (id : Nat) : wpC P N (.block id a) Q ρ σ = wpC P N a (AExit.inBlock id Q) ρ σ := propext ⟨fun h => h, fun h => h⟩
theorem wpC_loop : wpC P N (.loop a) Q ρ σ = SimA P N (.loop a) Q ρ σ := propext ⟨fun h => h, fun h => h⟩
theorem wpC_exit (id : Nat) : wpC P N (.exit id) Q ρ σ = Q (.exit id) ρ σ := propext ⟨fun h => h, fun h => h⟩
theorem wpC_ret : wpC P N .ret Q ρ σ = Q .ret ρ σ := propext ⟨fun h => h, fun h => h⟩
theorem wpC_dreg (ops : List AOper) (acts B sl : List Nat) : wpC P N (.dreg ops acts B sl) Q ρ σ = SimA P N (.dreg ops acts B sl) Q ρ σ := propext ⟨fun h => h, fun h => h⟩
end
theorem wpC_ok : ∀ (c : ACode) (Q : AExit → Env → AState → Prop) (ρ : Env) (σ : AState), wpC P N c Q ρ σ → SimA P N c Q ρ σ := by
  intro c
  induction c with
  | skip => intro Q ρ σ h; exact a_skip h
  | reg ops => intro Q ρ σ h; exact a_reg (wpW_ok _ _ _ _ h)
  | seq a b iha ihb =>
    intro Q ρ σ h
    refine a_seq ((iha _ _ _ h).mono fun e ρ' σ' hq => ?_)
    cases e with
    | normal => exact ihb _ _ _ hq
    | _ => exact hq
  | cond o a b iha ihb =>
    intro Q ρ σ h
    simp only [wpC, onB] at h
    split at h
    · rename_i b e
      refine a_cond e ?_
      cases b with
      | true => rw [Br_true] at h; exact iha _ _ _ h
      | false => rw [Br_false] at h; exact ihb _ _ _ h
    · exact h.elim
  | block id c ih => intro Q ρ σ h; exact a_block (ih _ _ _ h)
  | loop c ih => intro Q ρ σ h; exact h
  | exit id => intro Q ρ σ h; exact a_exit h
  | ret => intro Q ρ σ h; exact a_ret h
  | dreg ops acts B sl => intro Q ρ σ h; exact h
  | bad => intro Q ρ σ h; exact h.elim

theorem then_normal (k : Env → AState → Prop) (ρ : Env) (σ : AState) : AExit.then k Q .normal ρ σ = k ρ σ := propext ⟨fun h => h, fun h => h⟩
theorem then_exit (k : Env → AState → Prop) (i : Nat) (ρ : Env) (σ : AState) : AExit.then k Q (.exit i) ρ σ = Q (.exit i) ρ σ := propext ⟨fun h => h, fun h => h⟩
theorem then_ret (k : Env → AState → Prop) (ρ : Env) (σ : AState) : AExit.then k Q .ret ρ σ = Q .ret ρ σ := propext ⟨fun h => h, fun h => h⟩
theorem in_normal (id : Nat) (ρ : Env) (σ : AState) : AExit.inBlock id Q .normal ρ σ = Q .normal ρ σ := propext ⟨fun h => h, fun h => h⟩
theorem in_ret (id : Nat) (ρ : Env) (σ : AState) : AExit.inBlock id Q .ret ρ σ = Q .ret ρ σ := propext ⟨fun h => h, fun h => h⟩
theorem in_exit (id i : Nat) (ρ : Env) (σ : AState) : AExit.inBlock id Q (.exit i) ρ σ = if i = id then Q .normal ρ σ else Q (.exit i) ρ σ := propext ⟨fun h => h, fun h => h⟩

/- What stands at a function's end. -/
def endF (rets : List RV) (R : AV → AState → Prop) (e : AExit) (ρ : Env) (σ : AState) : Prop := (∀ i, e ≠ .exit i) ∧ ∃ v, retA ρ σ rets = some v ∧ R v σ
theorem endF_ret {rets : List RV} {R : AV → AState → Prop} {v : AV} (h : retA ρ σ rets = some v) (hr : R v σ) : endF rets R .ret ρ σ := ⟨(fun i h => nomatch h), v, h, hr⟩
theorem endF_normal {rets : List RV} {R : AV → AState → Prop} {v : AV} (h : retA ρ σ rets = some v) (hr : R v σ) : endF rets R .normal ρ σ := ⟨(fun i h => nomatch h), v, h, hr⟩
def andR (r : Option AV) (k : AV → Prop) : Prop := match r with | some v => k v | none => False
theorem andR_some (v : AV) (k : AV → Prop) : andR (some v) k = k v := propext ⟨fun h => h, fun h => h⟩
theorem endF_ret_iff (rets : List RV) (R : AV → AState → Prop) (ρ : Env) (σ : AState) : endF rets R .ret ρ σ = andR (retA ρ σ rets) (fun v => R v σ) := by
  simp only [endF, andR]
  cases retA ρ σ rets with
  | none => simp
  | some v => simp
theorem endF_normal_iff (rets : List RV) (R : AV → AState → Prop) (ρ : Env) (σ : AState) : endF rets R .normal ρ σ = andR (retA ρ σ rets) (fun v => R v σ) := by
  simp only [endF, andR]
  cases retA ρ σ rets with
  | none => simp
  | some v => simp

theorem rvs_nil (ρ : Env) (σ : AState) : rvs ρ σ [] = some [] := Eq.trans rfl rfl
def rvsK (r : Option AV) (l : Option (List AV)) : Option (List AV) := match r, l with | some v, some vs => some (v :: vs) | _, _ => none
theorem rvsK_some (v : AV) (vs : List AV) : rvsK (some v) (some vs) = some (v :: vs) := Eq.trans rfl rfl
theorem rvs_tmp (ρ : Env) (σ : AState) (t : Nat) (l : List RV) : rvs ρ σ (.tmp t :: l) = rvsK (some (ρ.rd t)) (rvs ρ σ l) := by
  simp only [rvs, RV.ev, rvsK]
  cases rvs ρ σ l <;> rfl
def cellR (σ : AState) (v : AV) (agg : Bool) (n : Nat) : Option AV := match v with
  | .ptr b off => match σ.cells b with
    | some cs => bif agg then (bif Nat.ble (off + n) cs.length then some (.agg (seg cs off n)) else none) else cs[off]?
    | none => none
  | _ => none
theorem cellR_ptr (σ : AState) (b off : Nat) (agg : Bool) (n : Nat) : cellR σ (.ptr b off) agg n = (match σ.cells b with
    | some cs => bif agg then (bif Nat.ble (off + n) cs.length then some (.agg (seg cs off n)) else none) else cs[off]?
    | none => none) := by simp only [cellR]
theorem rvs_cell (ρ : Env) (σ : AState) (t : Nat) (agg : Bool) (n : Nat) (l : List RV) : rvs ρ σ (.cell t agg n :: l) = rvsK (cellR σ (ρ.rd t) agg n) (rvs ρ σ l) := by
  have : (RV.cell t agg n).ev ρ σ = cellR σ (ρ.rd t) agg n := by
    simp only [RV.ev, cellR]
    generalize ρ.rd t = v
    cases v <;> first | rfl | (rename_i b _; simp only [base]; cases σ.cells b <;> rfl) | (rename_i b _ _ _ _; simp only [base]; cases σ.cells b <;> rfl)
  simp only [rvs, rvsK, this]
  cases cellR σ (ρ.rd t) agg n <;> cases rvs ρ σ l <;> rfl
def oneR (l : Option (List AV)) : Option AV := match l with | some [v] => some v | some vs => some (.tup vs) | none => none
theorem oneR_one (v : AV) : oneR (some [v]) = some v := Eq.trans rfl rfl
theorem oneR_nil : oneR (some []) = some (.tup []) := Eq.trans rfl rfl
theorem oneR_two (a b : AV) (l : List AV) : oneR (some (a :: b :: l)) = some (.tup (a :: b :: l)) := Eq.trans rfl rfl
theorem retA_eq (ρ : Env) (σ : AState) (l : List RV) : retA ρ σ l = oneR (rvs ρ σ l) := by
  unfold retA oneR
  cases rvs ρ σ l with
  | none => rfl
  | some vs => match vs with
    | [] => rfl
    | [_] => rfl
    | _ :: _ :: _ => rfl
theorem optIdx_none (ρ : Env) (d : Int) : optIdx ρ d none = some d := by simp only [optIdx]
theorem optIdx_some (ρ : Env) (d : Int) (x : Opd) : optIdx ρ d (some x) = asIdx (x.ev ρ) := by simp only [optIdx]
theorem asIdx_int (k : IntKind) (n : Int) : asIdx (.int k n) = some n := by simp only [asIdx]
theorem ac_wp {f : FuncId} {fn : Func} {af : AFun} {args : List AV} {σ : AState} {R : AV → AState → Prop} (hf : P.funcs[f]? = some fn) (hc : compF P fn = some af) (hca : callable P f = true) (hn : args.length = af.n)
    (h : wpC P af.size af.body (endF af.rets R) (Env.ofArgs args 0) σ) : AC P f args σ R :=
  ac_of_fun hf hc hca hn (wpC_ok _ _ _ _ h)

/- A loop of at most n rounds. -/
theorem w_for {x : ACode} (J : Nat → Env → AState → Prop) (n : Nat) (h0 : J 0 ρ σ) (round : ∀ i ρ σ, i ≤ n → J i ρ σ → wpC P N x (AExit.then (fun ρ' σ' => i < n ∧ J (i + 1) ρ' σ') Q) ρ σ) :
    SimA P N (.loop x) Q ρ σ := a_for J n h0 fun i ρ σ hi h => wpC_ok _ _ _ _ (round i ρ σ hi h)
theorem w_loop {x : ACode} (I : Env → AState → Prop) (m : Env → AState → Nat) (h0 : I ρ σ) (round : ∀ ρ σ, I ρ σ → wpC P N x (AExit.then (fun ρ' σ' => I ρ' σ' ∧ m ρ' σ' < m ρ σ) Q) ρ σ) :
    SimA P N (.loop x) Q ρ σ := a_loop I m h0 fun ρ σ h => wpC_ok _ _ _ _ (round ρ σ h)

/- Places of a row. -/
theorem lt_idx {i n : Nat} (h : i < n) : (0 : Int) ≤ i ∧ (i : Int) < (n : Int) := by omega
theorem dec_lt {i n : Nat} (h : i < n) : decide ((i : Int) < (n : Int)) = true := by simpa using h
theorem dec_ge {n : Nat} : decide ((n : Int) < (n : Int)) = false := by simp
theorem wrap_succ {i : Nat} (h : i < 9223372036854775807) : IntKind.i64.wrap ((i : Int) + 1) = ((i + 1 : Nat) : Int) := by
  rw [wrap64 (by omega) (by omega)]; simp

/- Small facts that a walk's set holds. -/
theorem cells_int (k : IntKind) (n : Int) : (AV.int k n).cells = [.int k n] := Eq.trans rfl rfl
theorem cells_bool (b : Bool) : (AV.bool b).cells = [.bool b] := Eq.trans rfl rfl
theorem cells_str (l : List UInt8) : (AV.str l).cells = [.str l] := Eq.trans rfl rfl
theorem cells_agg (cs : List AV) : (AV.agg cs).cells = cs := Eq.trans rfl rfl
theorem cells_nils : AV.nils.cells = [.nils] := Eq.trans rfl rfl
theorem cells_nilp : AV.nilp.cells = [.nilp] := Eq.trans rfl rfl
theorem cells_ptr (a b : Nat) : (AV.ptr a b).cells = [.ptr a b] := Eq.trans rfl rfl
theorem cells_pptr (a : List AV) (b : Nat) : (AV.pptr a b).cells = [.pptr a b] := Eq.trans rfl rfl
theorem cells_sl (a b c : Nat) (d : Option Nat) (e : Nat) : (AV.sl a b c d e).cells = [.sl a b c d e] := Eq.trans rfl rfl
theorem cells_psl (a : List AV) (b c : Nat) : (AV.psl a b c).cells = [.psl a b c] := Eq.trans rfl rfl
theorem cells_fn (f : FuncId) (c : List AV) : (AV.fn f c).cells = [.fn f c] := Eq.trans rfl rfl
theorem ble_dec (a b : Nat) : Nat.ble a b = decide (a ≤ b) := by
  cases h : Nat.ble a b with
  | true => have := Nat.le_of_ble_eq_true h; simp [this]
  | false => have : ¬ a ≤ b := fun e => by rw [Nat.ble_eq_true_of_le e] at h; cases h
             simp [this]
theorem beq_dec (a b : Nat) : Nat.beq a b = decide (a = b) := by
  cases h : Nat.beq a b with
  | true => have := Nat.eq_of_beq_eq_true h; simp [this]
  | false => have : ¬ a = b := fun e => by rw [e] at h; simp at h
             simp [this]
theorem put_get (s : AState) (b b' : Nat) (cs : List AV) : (s.put b cs).cells b' = if b' = b then some cs else s.cells b' := by
  simp only [AState.cells, AState.put, Tr.get_set]
  by_cases h : b' = b <;> simp [h]
theorem push_get (s : AState) (b' : Nat) (cs : List AV) : (s.push (.cells cs)).cells b' = if b' = s.n then some cs else s.cells b' := by
  simp only [AState.cells, AState.push, Tr.get_set]
  by_cases h : b' = s.n <;> simp [h]
theorem kill_get (s : AState) (b b' : Nat) : (s.kill b).cells b' = if b' = b then none else s.cells b' := by
  simp only [AState.cells, AState.kill, Tr.get_set]
  by_cases h : b' = b <;> simp [h]
theorem put_n (s : AState) (b : Nat) (cs : List AV) : (s.put b cs).n = s.n := Eq.trans rfl rfl
theorem push_n (s : AState) (o : ABlk) : (s.push o).n = s.n + 1 := Eq.trans rfl rfl
theorem kill_n (s : AState) (b : Nat) : (s.kill b).n = s.n := Eq.trans rfl rfl
theorem st0_n : st0.n = 0 := Eq.trans rfl rfl
end Go.Proofs.Ythojhpjjkfjeiaa.Va
