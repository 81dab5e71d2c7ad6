/- Walks with one definite answer: a contract of such a walk may tell little, and yet serves in a region whose order is drawn. Conditions: none. -/
import Derived.Test.YthojhpjjkfjeiaaVaM
set_option maxRecDepth 100000
set_option maxHeartbeats 4000000
set_option linter.all false
namespace Go.Proofs.Ythojhpjjkfjeiaa.Va
open Go.Proofs
section
variable {P : Program} {N : Nat} {Q : AExit → Env → AState → Prop} {ρ : Env} {σ : AState}
theorem callD.mono {f : FuncId} {args : List AV} {k k' : AV → AState → Prop} (h : callD P f args σ k) (hk : ∀ v s, k v s → k' v s) : callD P f args σ k' := by
  obtain ⟨v, s, h1, h2⟩ := h
  exact ⟨v, s, h1, hk v s h2⟩
theorem callD.ac {f : FuncId} {args : List AV} {k : AV → AState → Prop} (h : callD P f args σ k) : AC P f args σ k := by
  obtain ⟨v, s, h1, h2⟩ := h
  exact h1.mono fun v' s' e => by rw [e.1, e.2]; exact h2
theorem callD.use {f : FuncId} {args : List AV} {σ' : AState} {a : AV} {k : AV → AState → Prop} (h : callD P f args σ fun v s => s = σ' ∧ v = a) (hk : k a σ') : callD P f args σ k :=
  h.mono fun v s e => by rw [e.1, e.2]; exact hk
theorem callD.of {f : FuncId} {args : List AV} {a : AV} {σ' : AState} (h : AC P f args σ fun v s => s = σ' ∧ v = a) : callD P f args σ fun v s => s = σ' ∧ v = a := ⟨a, σ', h.mono fun v s e => ⟨e.2, e.1⟩, rfl, rfl⟩
theorem callD.of' {f : FuncId} {args : List AV} {a : AV} {σ' : AState} (h : AC P f args σ fun v s => v = a ∧ s = σ') : callD P f args σ fun v s => v = a ∧ s = σ' := ⟨a, σ', h, rfl, rfl⟩

/- A piece of code comes to one end. -/
def DSim (P : Program) (N : Nat) (a : ACode) (Q : AExit → Env → AState → Prop) (ρ : Env) (σ : AState) : Prop :=
  ∃ e r s, SimA P N a (fun e1 r1 s1 => e1 = e ∧ r1 = r ∧ s1 = s) ρ σ ∧ Q e r s
theorem DSim.mono {a : ACode} {Q' : AExit → Env → AState → Prop} (h : DSim P N a Q ρ σ) (hq : ∀ e r s, Q e r s → Q' e r s) : DSim P N a Q' ρ σ := by
  obtain ⟨e, r, s, h1, h2⟩ := h
  exact ⟨e, r, s, h1, hq e r s h2⟩
theorem DSim.sim {a : ACode} (h : DSim P N a Q ρ σ) : SimA P N a Q ρ σ := by
  obtain ⟨e, r, s, h1, h2⟩ := h
  exact h1.mono fun e1 r1 s1 e => by rw [e.1, e.2.1, e.2.2]; exact h2
theorem d_skip (h : Q .normal ρ σ) : DSim P N .skip Q ρ σ := ⟨_, _, _, a_skip ⟨rfl, rfl, rfl⟩, h⟩
theorem d_exit {id : Nat} (h : Q (.exit id) ρ σ) : DSim P N (.exit id) Q ρ σ := ⟨_, _, _, a_exit ⟨rfl, rfl, rfl⟩, h⟩
theorem d_ret (h : Q .ret ρ σ) : DSim P N .ret Q ρ σ := ⟨_, _, _, a_ret ⟨rfl, rfl, rfl⟩, h⟩
theorem d_seq {x y : ACode} (h : DSim P N x (fun e r s => match e with | .normal => DSim P N y Q r s | .exit i => Q (.exit i) r s | .ret => Q .ret r s) ρ σ) : DSim P N (.seq x y) Q ρ σ := by
  obtain ⟨e, r, s, h1, h2⟩ := h
  cases e with
  | normal =>
    obtain ⟨e2, r2, s2, g1, g2⟩ := h2
    refine ⟨e2, r2, s2, a_seq (h1.mono ?_), g2⟩
    rintro e1 r1 s1 ⟨rfl, rfl, rfl⟩
    exact g1
  | exit i =>
    refine ⟨_, r, s, a_seq (h1.mono ?_), h2⟩
    rintro e1 r1 s1 ⟨rfl, rfl, rfl⟩
    exact ⟨rfl, rfl, rfl⟩
  | ret =>
    refine ⟨_, r, s, a_seq (h1.mono ?_), h2⟩
    rintro e1 r1 s1 ⟨rfl, rfl, rfl⟩
    exact ⟨rfl, rfl, rfl⟩
theorem d_cond {o : Opd} {x y : ACode} {b : Bool} (ho : o.ev ρ = .bool b) (h : DSim P N (if b then x else y) Q ρ σ) : DSim P N (.cond o x y) Q ρ σ := by
  obtain ⟨e, r, s, h1, h2⟩ := h
  exact ⟨e, r, s, a_cond ho h1, h2⟩
theorem d_block {id : Nat} {x : ACode} (h : DSim P N x (AExit.inBlock id Q) ρ σ) : DSim P N (.block id x) Q ρ σ := by
  obtain ⟨e, r, s, h1, h2⟩ := h
  cases e with
  | normal =>
    refine ⟨.normal, r, s, a_block (h1.mono ?_), h2⟩
    rintro e1 r1 s1 ⟨rfl, rfl, rfl⟩
    exact ⟨rfl, rfl, rfl⟩
  | ret =>
    refine ⟨.ret, r, s, a_block (h1.mono ?_), h2⟩
    rintro e1 r1 s1 ⟨rfl, rfl, rfl⟩
    exact ⟨rfl, rfl, rfl⟩
  | exit i =>
    by_cases hi : i = id
    · simp only [AExit.inBlock, hi, if_true] at h2
      refine ⟨.normal, r, s, a_block (h1.mono ?_), h2⟩
      rintro e1 r1 s1 ⟨rfl, rfl, rfl⟩
      simp only [AExit.inBlock, hi, if_true, and_self]
    · simp only [AExit.inBlock, hi, if_false] at h2
      refine ⟨.exit i, r, s, a_block (h1.mono ?_), h2⟩
      rintro e1 r1 s1 ⟨rfl, rfl, rfl⟩
      simp only [AExit.inBlock, hi, if_false, and_self]
/- A loop of at most n rounds. -/
theorem d_rounds {x : ACode} (J : Nat → Env → AState → Prop) (n : Nat) (round : ∀ i ρ σ, i ≤ n → J i ρ σ → DSim P N x (AExit.then (fun ρ' σ' => i < n ∧ J (i + 1) ρ' σ') Q) ρ σ) :
    ∀ d i ρ σ, i + d = n → J i ρ σ → ∃ e r s, aRounds P N x (fun e1 r1 s1 => e1 = e ∧ r1 = r ∧ s1 = s) (d + 1) ρ σ ∧ Q e r s := by
  intro d
  induction d with
  | zero =>
    intro i ρ σ hi h
    obtain ⟨e, r, s, h1, h2⟩ := round i ρ σ (by omega) h
    cases e with
    | normal => exact absurd h2.1 (by omega)
    | exit k =>
      refine ⟨_, r, s, h1.mono ?_, h2⟩
      rintro e1 r1 s1 ⟨rfl, rfl, rfl⟩
      exact ⟨rfl, rfl, rfl⟩
    | ret =>
      refine ⟨_, r, s, h1.mono ?_, h2⟩
      rintro e1 r1 s1 ⟨rfl, rfl, rfl⟩
      exact ⟨rfl, rfl, rfl⟩
  | succ d ih =>
    intro i ρ σ hi h
    obtain ⟨e, r, s, h1, h2⟩ := round i ρ σ (by omega) h
    cases e with
    | normal =>
      obtain ⟨e2, r2, s2, g1, g2⟩ := ih (i + 1) r s (by omega) h2.2
      refine ⟨e2, r2, s2, h1.mono ?_, g2⟩
      rintro e1 r1 s1 ⟨rfl, rfl, rfl⟩
      exact g1
    | exit k =>
      refine ⟨_, r, s, h1.mono ?_, h2⟩
      rintro e1 r1 s1 ⟨rfl, rfl, rfl⟩
      exact ⟨rfl, rfl, rfl⟩
    | ret =>
      refine ⟨_, r, s, h1.mono ?_, h2⟩
      rintro e1 r1 s1 ⟨rfl, rfl, rfl⟩
      exact ⟨rfl, rfl, rfl⟩
theorem d_for {x : ACode} (J : Nat → Env → AState → Prop) (n : Nat) (h0 : J 0 ρ σ) (round : ∀ i ρ σ, i ≤ n → J i ρ σ → DSim P N x (AExit.then (fun ρ' σ' => i < n ∧ J (i + 1) ρ' σ') Q) ρ σ) : DSim P N (.loop x) Q ρ σ := by
  obtain ⟨e, r, s, h1, h2⟩ := d_rounds J n round n 0 ρ σ (by omega) h0
  exact ⟨e, r, s, a_rounds (n + 1) h1, h2⟩
theorem d_dreg {as : List AOper} {acts B sl : List Nat} (hfollow : P.follows .mixedOrders = true) (slots : List (Nat × List AV)) (hsl : slots.map (·.1) = sl)
    (h : wpD P σ.n slots (finD acts B σ.n slots) as 0 ρ (addSlots σ.n as.length σ slots) [(0, addSlots σ.n as.length σ slots)] [] (Q .normal)) : DSim P N (.dreg as acts B sl) Q ρ σ := by
  have key : ∀ (base : Nat) (slots : List (Nat × List AV)) (fin : List (Nat × AState) → List (Nat × AOp × Env × AV) → Prop) (l : List AOper) (i : Nat) (ρ : Env) (σ : AState) (cuts : List (Nat × AState)) (loads : List (Nat × AOp × Env × AV)) (k : Env → AState → Prop),
      wpD P base slots fin l i ρ σ cuts loads k → ∃ r s, wpD P base slots fin l i ρ σ cuts loads (fun r1 s1 => r1 = r ∧ s1 = s) ∧ k r s := by
    intro base slots fin l
    induction l with
    | nil => intro i ρ σ cuts loads k h; exact ⟨ρ, σ, ⟨h.1, rfl, rfl⟩, h.2⟩
    | cons o l ih =>
      intro i ρ σ cuts loads k h
      simp only [wpD] at h ⊢
      unfold onG at h ⊢
      split at h
      · unfold onO at h ⊢
        split at h
        · unfold andA at h ⊢
          split at h
          · obtain ⟨h1, h2⟩ := h
            obtain ⟨r, s, g1, g2⟩ := ih _ _ _ _ _ _ h2
            exact ⟨r, s, ⟨h1, g1⟩, g2⟩
          · exact h.elim
        · unfold onP at h ⊢
          split at h
          · unfold andK at h ⊢
            split at h
            · rename_i e
              obtain ⟨r, s, g1, g2⟩ := ih _ _ _ _ _ _ h
              exact ⟨r, s, by simp only [e]; exact g1, g2⟩
            · exact h.elim
          · unfold andK at h ⊢
            split at h
            · rename_i e
              obtain ⟨r, s, g1, g2⟩ := ih _ _ _ _ _ _ h
              exact ⟨r, s, by simp only [e]; exact g1, g2⟩
            · exact h.elim
          · unfold stepD at h ⊢
            split at h
            · obtain ⟨v, s', h1, h2⟩ := h
              obtain ⟨r, s, g1, g2⟩ := ih _ _ _ _ _ _ h2
              exact ⟨r, s, ⟨v, s', h1, g1⟩, g2⟩
            · split at h
              · obtain ⟨v, s', h1, h2⟩ := h
                obtain ⟨r, s, g1, g2⟩ := ih _ _ _ _ _ _ h2
                exact ⟨r, s, ⟨v, s', h1, g1⟩, g2⟩
              · exact h.elim
            · unfold andK at h ⊢
              split at h
              · rename_i e
                obtain ⟨r, s, g1, g2⟩ := ih _ _ _ _ _ _ h
                exact ⟨r, s, by simp only [e]; exact g1, g2⟩
              · exact h.elim
      · exact ih _ _ _ _ _ _ h
      · exact h.elim
  obtain ⟨r, s, h1, h2⟩ := key _ _ _ _ _ _ _ _ _ _ h
  exact ⟨.normal, r, s, w_dreg hfollow slots hsl (by simpa only [true_and] using h1), h2⟩
theorem DSim.frz {c : ACode} (h : DSim P N c (fun e ρ σ => Frz N (Q e) ρ σ) ρ σ) : DSim P N c Q ρ σ := by
  obtain ⟨e, r, s, h1, ρ', σ', hq, hf⟩ := h
  refine ⟨e, ρ', σ', SimA.frz (h1.mono ?_), hq⟩
  rintro e1 r1 s1 ⟨rfl, rfl, rfl⟩
  exact ⟨ρ', σ', ⟨rfl, rfl, rfl⟩, hf⟩

/- ------------------------------------------------ what is to be shown, as a function of the code -/
def stepY (P : Program) (o : AOp) (ρ : Env) (σ : AState) (k : AV → AState → Prop) : Prop :=
  match o with
  | .call f args => callD P f (args.map (·.ev ρ)) σ k
  | .callv f args => match f.ev ρ with
    | .fn g cap => callD P g (args.map (·.ev ρ) ++ cap) σ k
    | _ => False
  | o => andK (evalA o ρ σ) k
theorem stepY_ok {o : AOp} {k : AV → AState → Prop} (h : stepY P o ρ σ k) : ∃ v s, stepW P o ρ σ (fun v' s' => v' = v ∧ s' = s) ∧ k v s := by
  cases o
  case call f args => exact h
  case callv f args =>
    simp only [stepY] at h
    split at h
    · rename_i g cap e
      obtain ⟨v, s, h1, h2⟩ := h
      exact ⟨v, s, by simp only [stepW, e]; exact h1, h2⟩
    · exact h.elim
  all_goals
    simp only [stepY, andK] at h
    split at h
    · rename_i v s e
      exact ⟨v, s, by simp only [stepW, e, andK_some, and_self], h⟩
    · exact h.elim
def stepZ (P : Program) (o : AOp) (ρ : Env) (k : AV → AState → Prop) (σ : AState) : Prop := stepY P o ρ σ k
theorem stepZ_eq (o : AOp) (ρ : Env) (k : AV → AState → Prop) (σ : AState) : stepZ P o ρ k σ = stepY P o ρ σ k := propext ⟨fun h => h, fun h => h⟩
def wpY (P : Program) : List AOper → (Env → AState → Prop) → Env → AState → Prop
  | [], Q, ρ, σ => Q ρ σ
  | o :: r, Q, ρ, σ => onG (o.wants ρ) (stepY P o.op ρ σ fun v σ' => wpY P r Q (ρ.put o.dst v) σ') (wpY P r Q (ρ.put o.dst (.tup [])) σ)
def wpYK (P : Program) (r : List AOper) (Q : Env → AState → Prop) (ρ : Env) (d : Option Nat) (v : AV) (σ : AState) : Prop := wpY P r Q (ρ.put d v) σ
theorem wpYK_eq (r : List AOper) (Q : Env → AState → Prop) (ρ : Env) (d : Option Nat) (v : AV) (σ : AState) : wpYK P r Q ρ d v σ = wpY P r Q (ρ.put d v) σ := propext ⟨fun h => h, fun h => h⟩
theorem wpY_nil (Q : Env → AState → Prop) (ρ : Env) (σ : AState) : wpY P [] Q ρ σ = Q ρ σ := propext ⟨fun h => h, fun h => h⟩
theorem wpY_plain (d : Option Nat) (op : AOp) (r : List AOper) (Q : Env → AState → Prop) (ρ : Env) (σ : AState) :
    wpY P (⟨d, op, none⟩ :: r) Q ρ σ = stepY P op ρ σ (wpYK P r Q ρ d) := propext ⟨fun h => h, fun h => h⟩
theorem wpY_guard (d : Option Nat) (op : AOp) (t : Nat) (w : Bool) (r : List AOper) (Q : Env → AState → Prop) (ρ : Env) (σ : AState) :
    wpY P (⟨d, op, some (t, w)⟩ :: r) Q ρ σ = onV (ρ.rd t) w (stepZ P op ρ (wpYK P r Q ρ d)) (wpYK P r Q ρ d (.tup [])) σ := by
  simp only [wpY, AOper.wants, onV, onG]
  generalize ρ.rd t = v
  cases v <;> first | rfl | skip
  · rename_i b
    cases b <;> cases w <;> rfl
  · rename_i vs
    cases vs <;> rfl
theorem wpY_ok : ∀ (l : List AOper) (Q : Env → AState → Prop) (ρ : Env) (σ : AState), wpY P l Q ρ σ → ∃ r s, wpW P l (fun r1 s1 => r1 = r ∧ s1 = s) ρ σ ∧ Q r s := by
  intro l
  induction l with
  | nil => intro Q ρ σ h; exact ⟨ρ, σ, ⟨rfl, rfl⟩, h⟩
  | cons o l ih =>
    intro Q ρ σ h
    simp only [wpY, onG] at h
    simp only [wpW, onG]
    split at h
    · rename_i e
      obtain ⟨v, s', h1, h2⟩ := stepY_ok h
      obtain ⟨r, s, g1, g2⟩ := ih _ _ _ h2
      refine ⟨r, s, stepW_mono h1 ?_, g2⟩
      rintro v1 s1 ⟨rfl, rfl⟩
      exact g1
    · rename_i e
      exact ih _ _ _ h
    · exact h.elim
def wpX (P : Program) (N : Nat) : ACode → (AExit → Env → AState → Prop) → Env → AState → Prop
  | .skip, Q, ρ, σ => Q .normal ρ σ
  | .reg ops, Q, ρ, σ => wpY P ops (Q .normal) ρ σ
  | .seq a b, Q, ρ, σ => wpX P N a (fun e ρ σ => match e with | .normal => wpX P N b Q ρ σ | .exit i => Q (.exit i) ρ σ | .ret => Q .ret ρ σ) ρ σ
  | .cond o a b, Q, ρ, σ => onB (o.ev ρ) (fun σ => wpX P N a Q ρ σ) (fun σ => wpX P N b Q ρ σ) σ
  | .block id c, Q, ρ, σ => wpX P N c (AExit.inBlock id Q) ρ σ
  | .loop c, Q, ρ, σ => DSim P N (.loop c) Q ρ σ
  | .exit id, Q, ρ, σ => Q (.exit id) ρ σ
  | .ret, Q, ρ, σ => Q .ret ρ σ
  | .dreg ops acts B sl, Q, ρ, σ => DSim P N (.dreg ops acts B sl) Q ρ σ
  | .bad, _, _, _ => False
def wpXK (P : Program) (N : Nat) (c : ACode) (Q : AExit → Env → AState → Prop) (e : AExit) (ρ : Env) (σ : AState) : Prop :=
  match e with | .normal => wpX P N c Q ρ σ | .exit i => Q (.exit i) ρ σ | .ret => Q .ret ρ σ
end
section
variable {P : Program} {N : Nat}
variable (a b : ACode) (Q : AExit → Env → AState → Prop) (ρ : Env) (σ : AState)
theorem wpXK_normal : wpXK P N a Q .normal ρ σ = wpX P N a Q ρ σ := propext ⟨fun h => h, fun h => h⟩
theorem wpXK_exit (i : Nat) : wpXK P N a Q (.exit i) ρ σ = Q (.exit i) ρ σ := propext ⟨fun h => h, fun h => h⟩
theorem wpXK_ret : wpXK P N a Q .ret ρ σ = Q .ret ρ σ := propext ⟨fun h => h, fun h => h⟩
theorem wpX_skip : wpX P N .skip Q ρ σ = Q .normal ρ σ := propext ⟨fun h => h, fun h => h⟩
theorem wpX_reg (ops : List AOper) : wpX P N (.reg ops) Q ρ σ = wpY P ops (Q .normal) ρ σ := propext ⟨fun h => h, fun h => h⟩
theorem wpX_seq : wpX P N (.seq a b) Q ρ σ = wpX P N a (wpXK P N b Q) ρ σ := propext ⟨fun h => h, fun h => h⟩
theorem wpX_cond (o : Opd) : wpX P N (.cond o a b) Q ρ σ = onB (o.ev ρ) (wpX P N a Q ρ) (wpX P N b Q ρ) σ := propext ⟨fun h => h, fun h => h⟩
theorem wpX_block (id : Nat) : wpX P N (.block id a) Q ρ σ = wpX P N a (AExit.inBlock id Q) ρ σ := propext ⟨fun h => h, fun h => h⟩
theorem wpX_loop : wpX P N (.loop a) Q ρ σ = DSim P N (.loop a) Q ρ σ := propext ⟨fun h => h, fun h => h⟩
theorem wpX_exit (id : Nat) : wpX P N (.exit id) Q ρ σ = Q (.exit id) ρ σ := propext ⟨fun h => h, fun h => h⟩
theorem wpX_ret : wpX P N .ret Q ρ σ = Q .ret ρ σ := propext ⟨fun h => h, fun h => h⟩
theorem wpX_dreg (ops : List AOper) (acts B sl : List Nat) : wpX P N (.dreg ops acts B sl) Q ρ σ = DSim P N (.dreg ops acts B sl) Q ρ σ := propext ⟨fun h => h, fun h => h⟩
end
section
variable {P : Program} {N : Nat} {Q : AExit → Env → AState → Prop} {ρ : Env} {σ : AState}
theorem wpX_ok : ∀ (c : ACode) (Q : AExit → Env → AState → Prop) (ρ : Env) (σ : AState), wpX P N c Q ρ σ → DSim P N c Q ρ σ := by
  intro c
  induction c with
  | skip => intro Q ρ σ h; exact d_skip h
  | reg ops =>
    intro Q ρ σ h
    obtain ⟨r, s, h1, h2⟩ := wpY_ok _ _ _ _ h
    exact ⟨.normal, r, s, (a_reg (wpW_ok _ _ _ _ (wpW_mono _ _ _ _ _ (fun r1 s1 e => ⟨rfl, e.1, e.2⟩) h1))), h2⟩
  | seq a b iha ihb =>
    intro Q ρ σ h
    refine d_seq ((iha _ _ _ h).mono fun e ρ' σ' hq => ?_)
    cases e with
    | normal => exact ihb _ _ _ hq
    | _ => exact hq
  | cond o a b iha ihb =>
    intro Q ρ σ h
    simp only [wpX, onB] at h
    split at h
    · rename_i b e
      refine d_cond e ?_
      cases b with
      | true => rw [Br_true] at h; exact iha _ _ _ h
      | false => rw [Br_false] at h; exact ihb _ _ _ h
    · exact h.elim
  | block id c ih => intro Q ρ σ h; exact d_block (ih _ _ _ h)
  | loop c ih => intro Q ρ σ h; exact h
  | exit id => intro Q ρ σ h; exact d_exit h
  | ret => intro Q ρ σ h; exact d_ret h
  | dreg ops acts B sl => intro Q ρ σ h; exact h
  | bad => intro Q ρ σ h; exact h.elim
/- A function. -/
theorem cd_s {f : FuncId} {fn : Func} {af : AFun} {args : List AV} {R : AV → AState → Prop} (hf : P.funcs[f]? = some fn) (hc : compF P fn = some af) (hca : callable P f = true) (hn : args.length = af.n)
    (h : DSim P af.size af.body (endF af.rets R) (Env.ofArgs args 0) σ) : callD P f args σ R := by
  obtain ⟨e, r, s, h1, h2, v, h3, h4⟩ := h
  refine ⟨v, s, ac_of_fun hf hc hca hn (h1.mono ?_), h4⟩
  rintro e1 r1 s1 ⟨rfl, rfl, rfl⟩
  exact ⟨h2, v, h3, rfl, rfl⟩
theorem cd_wp {f : FuncId} {fn : Func} {af : AFun} {args : List AV} {R : AV → AState → Prop} (hf : P.funcs[f]? = some fn) (hc : compF P fn = some af) (hca : callable P f = true) (hn : args.length = af.n)
    (h : wpX P af.size af.body (endF af.rets R) (Env.ofArgs args 0) σ) : callD P f args σ R := cd_s hf hc hca hn (wpX_ok _ _ _ _ h)
/- Loops, regions. -/
theorem x_for {x : ACode} (J : Nat → Env → AState → Prop) (n : Nat) (h0 : J 0 ρ σ) (round : ∀ i ρ σ, i ≤ n → J i ρ σ → wpX P N x (AExit.then (fun ρ' σ' => i < n ∧ J (i + 1) ρ' σ') Q) ρ σ) : DSim P N (.loop x) Q ρ σ :=
  d_for J n h0 fun i ρ σ hi h => wpX_ok _ _ _ _ (round i ρ σ hi h)
theorem x_dreg0 {as : List AOper} {B : List Nat} (hfollow : P.follows .mixedOrders = true) (h : wpY P as (Q .normal) ρ (addSlots σ.n as.length σ [])) (hq : as.all (fun o => o.op.quiet) = true) : DSim P N (.dreg as [] B []) Q ρ σ := by
  obtain ⟨r, s, h1, h2⟩ := wpY_ok _ _ _ _ h
  exact ⟨.normal, r, s, w_dreg0 hfollow (by simpa only [true_and] using h1) hq, h2⟩
/- A halt between two pieces of code. -/
theorem wpX_mono : ∀ (c : ACode) (Q Q' : AExit → Env → AState → Prop) (ρ : Env) (σ : AState), (∀ e ρ σ, Q e ρ σ → Q' e ρ σ) → wpX P N c Q ρ σ → wpX P N c Q' ρ σ := by
  have regs : ∀ (l : List AOper) (Q Q' : Env → AState → Prop) (ρ : Env) (σ : AState), (∀ r s, Q r s → Q' r s) → wpY P l Q ρ σ → wpY P l Q' ρ σ := by
    intro l
    induction l with
    | nil => intro Q Q' ρ σ hq h; exact hq _ _ h
    | cons o l ih =>
      intro Q Q' ρ σ hq h
      simp only [wpY, onG] at h ⊢
      split at h
      · cases o with
        | mk d op g =>
          cases op
          case call f args => exact callD.mono h fun v s h => ih _ _ _ _ hq h
          case callv f args =>
            simp only [stepY] at h ⊢
            split at h
            · exact callD.mono h fun v s h => ih _ _ _ _ hq h
            · exact h.elim
          all_goals
            simp only [stepY, andK] at h ⊢
            split at h
            · exact ih _ _ _ _ hq h
            · exact h.elim
      · exact ih _ _ _ _ hq h
      · exact h.elim
  intro c
  induction c with
  | skip => intro Q Q' ρ σ hq h; exact hq _ _ _ h
  | reg ops => intro Q Q' ρ σ hq h; exact regs _ _ _ _ _ (hq _) h
  | seq a b iha ihb =>
    intro Q Q' ρ σ hq h
    refine iha _ _ _ _ (fun e ρ σ h => ?_) h
    cases e with
    | normal => exact ihb _ _ _ _ hq h
    | exit i => exact hq _ _ _ h
    | ret => exact hq _ _ _ h
  | cond o a b iha ihb =>
    intro Q Q' ρ σ hq h
    simp only [wpX, onB] at h ⊢
    split at h
    · rename_i t e
      cases t with
      | true => rw [Br_true] at h ⊢; exact iha _ _ _ _ hq h
      | false => rw [Br_false] at h ⊢; exact ihb _ _ _ _ hq h
    · exact h.elim
  | block id c ih =>
    intro Q Q' ρ σ hq h
    refine ih _ _ _ _ (fun e ρ σ h => ?_) h
    cases e with
    | normal => exact hq _ _ _ h
    | ret => exact hq _ _ _ h
    | exit i =>
      simp only [AExit.inBlock] at h ⊢
      by_cases hi : i = id
      · rw [if_pos hi] at h ⊢; exact hq _ _ _ h
      · rw [if_neg hi] at h ⊢; exact hq _ _ _ h
  | loop c ih => intro Q Q' ρ σ hq h; exact DSim.mono h hq
  | exit id => intro Q Q' ρ σ hq h; exact hq _ _ _ h
  | ret => intro Q Q' ρ σ hq h; exact hq _ _ _ h
  | dreg ops acts B sl => intro Q Q' ρ σ hq h; exact DSim.mono h hq
  | bad => intro Q Q' ρ σ hq h; exact h.elim
theorem x_mid {a b : ACode} (M : Env → AState → Prop) (h1 : wpX P N a (midQ M Q) ρ σ) (h2 : ∀ ρ σ, M ρ σ → wpX P N b Q ρ σ) : wpX P N a (wpXK P N b Q) ρ σ := by
  refine wpX_mono _ _ _ _ _ (fun e ρ σ h => ?_) h1
  cases e with
  | normal => exact h2 _ _ h
  | exit i => exact h
  | ret => exact h
theorem z_mid {a b : ACode} (M : Env → AState → Prop) (h1 : wpX P N a (midQ M Q) ρ σ) (h2 : ∀ ρ σ, M ρ σ → DSim P N b Q ρ σ) : DSim P N (.seq a b) Q ρ σ := by
  refine d_seq ((wpX_ok _ _ _ _ h1).mono fun e ρ σ h => ?_)
  cases e with
  | normal => exact h2 _ _ h
  | exit i => exact h
  | ret => exact h
theorem z_frz {a b : ACode} (M : Env → AState → Prop) (h1 : wpX P N a (frzQ N M Q) ρ σ) (h2 : ∀ ρ σ, M ρ σ → DSim P N b Q ρ σ) : DSim P N (.seq a b) Q ρ σ := by
  refine d_seq (DSim.frz ((wpX_ok _ _ _ _ h1).mono fun e ρ σ h => ?_))
  cases e with
  | normal =>
    obtain ⟨ρ', σ', hm, hf⟩ := h
    exact ⟨ρ', σ', h2 _ _ hm, hf⟩
  | exit i => exact Frz.now h
  | ret => exact Frz.now h
theorem z_wp {c : ACode} (h : wpX P N c Q ρ σ) : DSim P N c Q ρ σ := wpX_ok _ _ _ _ h
/- What is told of fixed data serves in every state. -/
theorem callD.share {f : FuncId} {args : List AV} {R : AV → Prop} (hp : FxdL args) (h : callD P f args st0 fun v s => ∃ a, Pur s true v a ∧ R a) : callD P f args σ fun v s => s = σ ∧ R v := by
  obtain ⟨v, s, h1, a, h2, h3⟩ := h
  exact ⟨a, σ, (AC.share (R := fun x => x = a) hp (h1.mono fun v' s' e => ⟨a, by rw [e.1, e.2]; exact h2, rfl⟩)).mono fun v' s' e => ⟨e.2, e.1⟩, rfl, h3⟩
theorem callD.pure {f : FuncId} {args args' : List AV} {R : AV → Prop} (hp : PurL σ true args args') (h : callD P f args' st0 fun v s => ∃ a, Pur s false v a ∧ R a) : callD P f args σ fun v s => s = σ ∧ R v := by
  obtain ⟨v, s, h1, a, h2, h3⟩ := h
  exact ⟨a, σ, (AC.pure (R := fun x => x = a) hp (h1.mono fun v' s' e => ⟨a, by rw [e.1, e.2]; exact h2, rfl⟩)).mono fun v' s' e => ⟨e.2, e.1⟩, rfl, h3⟩
end
/- The words of such a walk, as one. -/
def XU := (And.intro (And.intro (And.intro (And.intro (And.intro (And.intro (And.intro @wpX_skip (And.intro @wpX_reg @wpX_seq)) (And.intro @wpX_cond (And.intro @wpX_block @wpX_loop))) (And.intro (And.intro @wpX_exit (And.intro @wpX_ret @wpX_dreg)) (And.intro (And.intro @wpXK_normal @wpXK_exit) (And.intro @wpXK_ret @wpY_nil)))) (And.intro (And.intro (And.intro @wpY_plain (And.intro @wpY_guard @wpYK_eq)) (And.intro (And.intro @stepZ_eq @onV_unit) (And.intro @onV_true @onV_false))) (And.intro (And.intro @Bool.not_true (And.intro @Bool.not_false @andK_some)) (And.intro (And.intro @ev_tmp @ev_con) (And.intro @then_normal @then_exit))))) (And.intro (And.intro (And.intro (And.intro @then_ret (And.intro @in_normal @in_exit)) (And.intro @in_ret (And.intro @onB_bool @Br_true))) (And.intro (And.intro @Br_false (And.intro @rd_put @rd_none)) (And.intro (And.intro @rd_args @Option.map_some.{0,0}) (And.intro @ei_add @ei_sub)))) (And.intro (And.intro (And.intro @ei_mul (And.intro @ei_lss @ei_leq)) (And.intro (And.intro @ei_gtr @ei_geq) (And.intro @ei_eql @ei_neq))) (And.intro (And.intro @List.map_cons.{0,0} (And.intro @List.map_nil.{0,0} @List.getElem?_cons_zero.{0})) (And.intro (And.intro @List.getElem?_cons_succ.{0} @List.getElem?_nil.{0}) (And.intro @Option.getD_some.{0} @Option.getD_none.{0})))))) (And.intro (And.intro (And.intro (And.intro (And.intro @cond_true.{1} (And.intro @cond_false.{1} @and_self)) (And.intro @and_true (And.intro @true_and @Int.toNat_natCast))) (And.intro (And.intro @Nat.zero_add (And.intro @Nat.mul_one @endF_ret_iff)) (And.intro (And.intro @endF_normal_iff @retA_eq) (And.intro @oneR_one @oneR_nil)))) (And.intro (And.intro (And.intro @oneR_two (And.intro @rvs_nil @rvs_tmp)) (And.intro (And.intro @rvs_cell @rvsK_some) (And.intro @cellR_ptr @andR_some))) (And.intro (And.intro @optIdx_none (And.intro @optIdx_some @asIdx_int)) (And.intro (And.intro @Option.map_none.{0,0} @List.cons_append.{0}) (And.intro @List.nil_append.{0} @List.append_nil.{0}))))) (And.intro (And.intro (And.intro (And.intro @Nat.add_zero (And.intro @Int.toNat_zero @cells_int)) (And.intro @cells_bool (And.intro @cells_str @cells_agg))) (And.intro (And.intro @cells_nils (And.intro @cells_nilp @cells_ptr)) (And.intro (And.intro @cells_pptr @cells_sl) (And.intro @cells_psl @cells_fn)))) (And.intro (And.intro (And.intro @List.set_cons_zero.{0} (And.intro @List.set_cons_succ.{0} @List.length_cons.{0})) (And.intro (And.intro @List.length_nil.{0} @ble_dec) (And.intro @beq_dec @Nat.le_refl))) (And.intro (And.intro @decide_true (And.intro @decide_false @Bool.and_true)) (And.intro (And.intro @Bool.true_and @Bool.and_self) (And.intro @List.all_cons.{0} @List.all_nil.{0}))))))) (And.intro (And.intro (And.intro (And.intro (And.intro (And.intro @one_str (And.intro @one_int @one_bool)) (And.intro @one_psl (And.intro @one_pptr @one_ptr))) (And.intro (And.intro @one_sl (And.intro @one_nils @one_nilp)) (And.intro (And.intro @one_fn @put_n) (And.intro @push_n @kill_n)))) (And.intro (And.intro (And.intro @st0_n (And.intro @es_eql @es_neq)) (And.intro (And.intro @es_leq @es_lss) (And.intro @push_get @put_get))) (And.intro (And.intro @ne_eq.{1} (And.intro @not_true_eq_false @not_false_eq_true)) (And.intro (And.intro @midQ_normal @midQ_exit) (And.intro @midQ_ret @slc_eq))))) (And.intro (And.intro (And.intro (And.intro @st0_cells (And.intro @pick_bool @cond_t)) (And.intro @cond_f (And.intro @stepY.eq_1 @stepY.eq_2))) (And.intro (And.intro @stepY.eq_3 (And.intro @evalA.eq_1 @evalA.eq_2)) (And.intro (And.intro @evalA.eq_3 @evalA.eq_4) (And.intro @evalA.eq_5 @evalA.eq_6)))) (And.intro (And.intro (And.intro @evalA.eq_7 (And.intro @evalA.eq_8 @evalA.eq_9)) (And.intro (And.intro @evalA.eq_10 @evalA.eq_11) (And.intro @evalA.eq_12 @evalA.eq_13))) (And.intro (And.intro @evalA.eq_14 (And.intro @evalA.eq_15 @evalA.eq_16)) (And.intro (And.intro @evalA.eq_17 @evalA.eq_18) (And.intro @evalA.eq_19 @evalA.eq_20)))))) (And.intro (And.intro (And.intro (And.intro (And.intro @evalA.eq_21 (And.intro @evalA.eq_22 @evalA.eq_23)) (And.intro @evalA.eq_24 (And.intro @evalA.eq_25 @evalA.eq_26))) (And.intro (And.intro @evalA.eq_27 (And.intro @evalA.eq_28 @evalA.eq_29)) (And.intro (And.intro @evalA.eq_30 @evalA.eq_31) (And.intro @evalA.eq_32 @evalA.eq_33)))) (And.intro (And.intro (And.intro @evalA.eq_34 (And.intro @evalA.eq_35 @evalA.eq_36)) (And.intro (And.intro @evalA.eq_37 @evalA.eq_38) (And.intro @evalA.eq_39 @evalA.eq_40))) (And.intro (And.intro @evalA.eq_41 (And.intro @evalBin.eq_1 @evalBin.eq_2)) (And.intro (And.intro @evalBin.eq_3 @evalBin.eq_4) (And.intro @evalBin.eq_5 @evalBin.eq_6))))) (And.intro (And.intro (And.intro (And.intro @evalBin.eq_7 (And.intro @Option.getD.eq_1.{0} @Option.getD.eq_2.{0})) (And.intro (And.intro @allocA.eq_1 @allocA.eq_2) (And.intro @allocA.eq_3 @allocA.eq_4))) (And.intro (And.intro @rowOf.eq_1 (And.intro @rowOf.eq_2 @fillA.eq_1)) (And.intro (And.intro @fillA.eq_2 @fillA.eq_3) (And.intro @partsV.eq_1 @setl.eq_1)))) (And.intro (And.intro (And.intro @setl.eq_2 (And.intro @AV.len.eq_1 @AV.len.eq_2)) (And.intro (And.intro @AV.len.eq_3 @AV.len.eq_4) (And.intro @AV.len.eq_5 @AV.len.eq_6))) (And.intro (And.intro @evalUn.eq_1 (And.intro @evalUn.eq_2 @evalUn.eq_3)) (And.intro (And.intro @evalUn.eq_4 @frzQ_normal) (And.intro @frzQ_exit @frzQ_ret))))))))
end Go.Proofs.Ythojhpjjkfjeiaa.Va
