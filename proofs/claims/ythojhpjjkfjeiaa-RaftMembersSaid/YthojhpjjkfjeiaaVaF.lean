/- Code whose types are resolved; a run of it, by a Lean function; that it is sound. Conditions: none. -/
import Derived.Test.YthojhpjjkfjeiaaVaE
set_option linter.unusedSimpArgs false
set_option linter.unusedVariables false
namespace Go.Proofs.Ythojhpjjkfjeiaa.Va
variable {P : Program}

mutual
def AV.beq : AV → AV → Bool
  | .undef, .undef => true
  | .bool a, .bool b => a == b
  | .int k a, .int k' b => decide (k = k') && a == b
  | .str a, .str b => a == b
  | .nilp, .nilp => true
  | .ptr a b, .ptr c d => Nat.beq a c && Nat.beq b d
  | .pptr a b, .pptr c d => AV.beqL a c && Nat.beq b d
  | .nils, .nils => true
  | .pse, .pse => true
  | .sl a b c d e, .sl a' b' c' d' e' => Nat.beq a a' && Nat.beq b b' && Nat.beq c c' && d == d' && Nat.beq e e'
  | .psl a b c, .psl a' b' c' => AV.beqL a a' && Nat.beq b b' && Nat.beq c c'
  | .fn a b, .fn a' b' => Nat.beq a a' && AV.beqL b b'
  | .nilf, .nilf => true
  | .agg a, .agg b => AV.beqL a b
  | .tup a, .tup b => AV.beqL a b
  | .nili, .nili => true
  | _, _ => false
def AV.beqL : List AV → List AV → Bool
  | [], [] => true
  | a :: x, b :: y => AV.beq a b && AV.beqL x y
  | _, _ => false
end
mutual
theorem AV.beq_eq : ∀ (a b : AV), AV.beq a b = true → a = b
  | a, b, h => by
    cases a <;> cases b <;> simp only [AV.beq, Bool.and_eq_true, beq_iff_eq, decide_eq_true_eq] at h <;> first | (cases h; done) | rfl | skip
    all_goals first
      | (subst h; rfl)
      | (obtain ⟨h1, h2⟩ := h; subst h1; subst h2; rfl)
      | (obtain ⟨h1, h2⟩ := h; rw [Nat.eq_of_beq_eq_true h1, Nat.eq_of_beq_eq_true h2])
      | (obtain ⟨h1, h2⟩ := h; rw [AV.beqL_eq _ _ h1, Nat.eq_of_beq_eq_true h2])
      | (obtain ⟨⟨⟨⟨h1, h2⟩, h3⟩, h4⟩, h5⟩ := h; rw [Nat.eq_of_beq_eq_true h1, Nat.eq_of_beq_eq_true h2, Nat.eq_of_beq_eq_true h3, h4, Nat.eq_of_beq_eq_true h5])
      | (obtain ⟨⟨h1, h2⟩, h3⟩ := h; rw [AV.beqL_eq _ _ h1, Nat.eq_of_beq_eq_true h2, Nat.eq_of_beq_eq_true h3])
      | (obtain ⟨h1, h2⟩ := h; rw [Nat.eq_of_beq_eq_true h1, AV.beqL_eq _ _ h2])
      | (rw [AV.beqL_eq _ _ h])
theorem AV.beqL_eq : ∀ (a b : List AV), AV.beqL a b = true → a = b
  | [], [], _ => rfl
  | a :: x, b :: y, h => by
    simp only [AV.beqL, Bool.and_eq_true] at h
    rw [AV.beq_eq _ _ h.1, AV.beqL_eq _ _ h.2]
  | [], _ :: _, h => by simp [AV.beqL] at h
  | _ :: _, [], h => by simp [AV.beqL] at h
end

/- ------------------------------------------------ the code with its types resolved -/
def isAllocOp : AOp → Bool
  | .alloc _ | .box _ | .bslice _ _ _ _ | .mkslice _ _ _ _ _ | .cvSB _ => true
  | _ => false
/- New blocks that stand in no order to another operation that may turn memory. -/
def slotsOf (B : List Nat) (as : List AOper) : List Nat :=
  let loud := actsOf [] as 0
  loud.filter fun i => (match as[i]? with | some o => isAllocOp o.op | none => false) && loud.any fun j => !(Nat.beq i j) && !(bit B i j) && !(bit B j i)

def compC (P : Program) (N : Nat) : Code → Option ACode
  | .skip => some .skip
  | .region _ ops false => (compOps P N ops.toList ops.toList).map .reg
  | .region _ ops true =>
    match compOps P N ops.toList ops.toList with
    | some as =>
      let E := ops.toList.map preds
      let B := befGo E []
      let sl := slotsOf B as
      let acts := actsOf sl as 0
      if dOk E B as acts sl = true then some (.dreg as acts B sl) else none
    | none => none
  | .seq a b => match compC P N a, compC P N b with | some x, some y => some (.seq x y) | _, _ => none
  | .cond c a b => match compC P N a, compC P N b with | some x, some y => some (.cond (.of c) x y) | _, _ => none
  | .block id c => (compC P N c).map (.block id)
  | .loop c => (compC P N c).map .loop
  | .exit id => some (.exit id)
  | .ret => some .ret
  | _ => none

structure AFun where
  n : Nat            -- how many parameters
  size : Nat         -- how many temporaries
  body : ACode
  rets : List RV

def compF (P : Program) (fn : Func) : Option AFun :=
  match fn.body, compRV P fn.results.toList with
  | some c, some r => if fn.params.size + fn.nfree ≤ fn.ntmps then (compC P fn.ntmps c).map fun b => ⟨fn.params.size + fn.nfree, fn.ntmps, b, r⟩ else none
  | _, _ => none

/- What is shown of resolved code holds of the code. -/
def SimA (P : Program) (N : Nat) (a : ACode) (Q : AExit → Env → AState → Prop) (ρ : Env) (σ : AState) : Prop :=
  ∀ c, compC P N c = some a → SimC P N c Q ρ σ

section
variable {N : Nat} {Q : AExit → Env → AState → Prop} {ρ : Env} {σ : AState}

theorem SimA.mono {c : ACode} {Q' : AExit → Env → AState → Prop} (h : SimA P N c Q ρ σ) (hq : ∀ e ρ σ, Q e ρ σ → Q' e ρ σ) : SimA P N c Q' ρ σ := fun c hc => (h c hc).mono hq

theorem compC_inv {c : Code} {a : ACode} (h : compC P N c = some a) : match a with
    | .skip => c = .skip
    | .reg as => ∃ id ops, c = .region id ops false ∧ compOps P N ops.toList ops.toList = some as
    | .dreg as acts B sl => ∃ id ops, c = .region id ops true ∧ compOps P N ops.toList ops.toList = some as ∧ befGo (ops.toList.map preds) [] = B ∧ actsOf sl as 0 = acts ∧ dOk (ops.toList.map preds) B as acts sl = true
    | .seq x y => ∃ cx cy, c = .seq cx cy ∧ compC P N cx = some x ∧ compC P N cy = some y
    | .cond o x y => ∃ co cx cy, c = .cond co cx cy ∧ o = .of co ∧ compC P N cx = some x ∧ compC P N cy = some y
    | .block id x => ∃ cx, c = .block id cx ∧ compC P N cx = some x
    | .loop x => ∃ cx, c = .loop cx ∧ compC P N cx = some x
    | .exit id => c = .exit id
    | .ret => c = .ret
    | .bad => False := by
  cases c with
  | skip => simp only [compC, Option.some.injEq] at h; subst h; rfl
  | region id ops d =>
    cases d with
    | false =>
      simp only [compC, Option.map_eq_some_iff] at h
      obtain ⟨as, h1, rfl⟩ := h
      exact ⟨id, ops, rfl, h1⟩
    | true =>
      simp only [compC] at h
      split at h
      · rename_i as h1
        split at h
        · rename_i h2
          injection h with h; subst h
          exact ⟨id, ops, rfl, h1, rfl, rfl, h2⟩
        · cases h
      · cases h
  | seq x y =>
    simp only [compC] at h
    split at h
    · rename_i a b h1 h2; injection h with h; subst h; exact ⟨x, y, rfl, h1, h2⟩
    · cases h
  | cond c x y =>
    simp only [compC] at h
    split at h
    · rename_i a b h1 h2; injection h with h; subst h; exact ⟨c, x, y, rfl, rfl, h1, h2⟩
    · cases h
  | block id x => simp only [compC, Option.map_eq_some_iff] at h; obtain ⟨b, h1, rfl⟩ := h; exact ⟨x, rfl, h1⟩
  | loop x => simp only [compC, Option.map_eq_some_iff] at h; obtain ⟨b, h1, rfl⟩ := h; exact ⟨x, rfl, h1⟩
  | exit id => simp only [compC, Option.some.injEq] at h; subst h; rfl
  | ret => simp only [compC, Option.some.injEq] at h; subst h; rfl
  | _ => simp [compC] at h

theorem a_skip (h : Q .normal ρ σ) : SimA P N .skip Q ρ σ := fun c hc => by
  have h1 : c = .skip := compC_inv hc
  subst h1; exact sim_skip h
theorem a_exit {id : Nat} (h : Q (.exit id) ρ σ) : SimA P N (.exit id) Q ρ σ := fun c hc => by
  have h1 : c = .exit id := compC_inv hc
  subst h1; exact sim_exit h
theorem a_ret (h : Q .ret ρ σ) : SimA P N .ret Q ρ σ := fun c hc => by
  have h1 : c = .ret := compC_inv hc
  subst h1; exact sim_ret h
theorem a_seq {x y : ACode} (h : SimA P N x (AExit.then (SimA P N y Q) Q) ρ σ) : SimA P N (.seq x y) Q ρ σ := fun c hc => by
  obtain ⟨cx, cy, rfl, h1, h2⟩ := compC_inv hc
  refine sim_seq ((h cx h1).mono fun e ρ σ hq => ?_)
  cases e with
  | normal => exact hq cy h2
  | _ => exact hq
theorem a_cond {o : Opd} {x y : ACode} {b : Bool} (ho : o.ev ρ = .bool b) (h : SimA P N (if b then x else y) Q ρ σ) : SimA P N (.cond o x y) Q ρ σ := fun c hc => by
  obtain ⟨co, cx, cy, rfl, rfl, h1, h2⟩ := compC_inv hc
  refine sim_cond ho ?_
  cases b with
  | true => exact h cx h1
  | false => exact h cy h2
theorem a_block {id : Nat} {x : ACode} (h : SimA P N x (AExit.inBlock id Q) ρ σ) : SimA P N (.block id x) Q ρ σ := fun c hc => by
  obtain ⟨cx, rfl, h1⟩ := compC_inv hc
  exact sim_block (h cx h1)
theorem a_loop {x : ACode} (I : Env → AState → Prop) (m : Env → AState → Nat) (h0 : I ρ σ) (round : ∀ ρ σ, I ρ σ → SimA P N x (AExit.then (fun ρ' σ' => I ρ' σ' ∧ m ρ' σ' < m ρ σ) Q) ρ σ) : SimA P N (.loop x) Q ρ σ := fun c hc => by
  obtain ⟨cx, rfl, h1⟩ := compC_inv hc
  exact sim_loop I m h0 fun ρ σ hI => round ρ σ hI cx h1
def aRounds (P : Program) (N : Nat) (c : ACode) (Q : AExit → Env → AState → Prop) : Nat → Env → AState → Prop
  | 0, _, _ => False
  | n + 1, ρ, σ => SimA P N c (AExit.then (aRounds P N c Q n) Q) ρ σ
theorem a_rounds {x : ACode} (n : Nat) (h : aRounds P N x Q n ρ σ) : SimA P N (.loop x) Q ρ σ := fun c hc => by
  obtain ⟨cx, rfl, h1⟩ := compC_inv hc
  refine sim_rounds n ?_
  have key : ∀ (n : Nat) (ρ : Env) (σ : AState), aRounds P N x Q n ρ σ → roundsA P N cx Q n ρ σ := by
    intro n
    induction n with
    | zero => intro ρ σ h; exact h
    | succ n ih =>
      intro ρ σ h
      refine (h cx h1).mono fun e ρ' σ' hq => ?_
      cases e with
      | normal => exact ih ρ' σ' hq
      | _ => exact hq
  exact key n ρ σ h
theorem a_reg {as : List AOper} (h : wpOpsA P as (Q .normal) ρ σ) : SimA P N (.reg as) Q ρ σ := fun c hc => by
  obtain ⟨id, ops, rfl, h1⟩ := compC_inv hc
  exact sim_region h1 h
theorem a_dreg {as : List AOper} {acts B sl : List Nat} (hfollow : P.follows .mixedOrders = true) (slots : List (Nat × List AV)) (hsl : slots.map (·.1) = sl)
    (h : dgo P σ.n slots as 0 ρ (addSlots σ.n as.length σ slots) [(0, addSlots σ.n as.length σ slots)] [] fun ρ' σ' cuts loads => dchk acts B σ.n slots cuts loads ∧ Q .normal ρ' σ') : SimA P N (.dreg as acts B sl) Q ρ σ := fun c hc => by
  obtain ⟨id, ops, rfl, h1, h2, h3, h4⟩ := compC_inv hc
  subst hsl
  exact sim_drawn slots acts _ B hfollow h1 rfl h2 h3 h4 h
end

theorem ac_of_fun {f : FuncId} {fn : Func} {af : AFun} {args : List AV} {σ : AState} {Q : AV → AState → Prop} (hf : P.funcs[f]? = some fn) (hc : compF P fn = some af) (hca : callable P f = true) (hn : args.length = af.n)
    (h : SimA P af.size af.body (fun e ρ σ' => (∀ i, e ≠ .exit i) ∧ ∃ v, retA ρ σ' af.rets = some v ∧ Q v σ') (Env.ofArgs args 0) σ) : AC P f args σ Q := by
  unfold compF at hc
  split at hc
  · rename_i c r hb hr
    split at hc
    · rename_i hle
      simp only [Option.map_eq_some_iff] at hc
      obtain ⟨b, h1, rfl⟩ := hc
      refine ac_of_body hf hb hca hr ?_
      simp only at hn
      have hN : args.length + (fn.ntmps - args.length) = fn.ntmps := by omega
      rw [hN]
      exact (h c h1).mono fun e ρ σ' ⟨q1, v, q2, q3⟩ => ⟨q1 0, q1, v, q2, q3⟩
    · cases hc
  · cases hc

/- ------------------------------------------------ a run -/
abbrev Caller := FuncId → List AV → AState → Option (AV × AState)

def runOp (call : Caller) (o : AOp) (ρ : Env) (σ : AState) : Option (AV × AState) :=
  match o with
  | .call f args => call f (args.map (·.ev ρ)) σ
  | .callv f args => match f.ev ρ with
    | .fn g cap => call g (args.map (·.ev ρ) ++ cap) σ
    | _ => none
  | o => evalA o ρ σ

def runOps (call : Caller) : List AOper → Env → AState → Option (Env × AState)
  | [], ρ, σ => some (ρ, σ)
  | o :: r, ρ, σ => match o.wants ρ with
    | some true => match runOp call o.op ρ σ with
      | some (v, σ') => runOps call r (ρ.put o.dst v) σ'
      | none => none
    | some false => runOps call r (ρ.put o.dst (.tup [])) σ
    | none => none

/- What the new blocks that stand in no order hold. -/
def findSlots (base : Nat) (sl : List Nat) (σ : AState) : List AOper → Nat → Env → List (Nat × List AV)
  | [], _, _ => []
  | o :: r, i, ρ =>
    let e := envOf ρ o.tmps
    match o.wants e with
    | some false => bif sl.contains i then (i, []) :: findSlots base sl σ r (i + 1) (ρ.put o.dst (.tup [])) else findSlots base sl σ r (i + 1) (ρ.put o.dst (.tup []))
    | none => bif sl.contains i then (i, []) :: findSlots base sl σ r (i + 1) (ρ.put o.dst .undef) else findSlots base sl σ r (i + 1) (ρ.put o.dst .undef)
    | some true =>
      bif sl.contains i then
        match allocD o.op e with
        | some (cs, f) => (i, cs) :: findSlots base sl σ r (i + 1) (ρ.put o.dst (f (base + i)))
        | none => (i, []) :: findSlots base sl σ r (i + 1) (ρ.put o.dst .undef)
      else bif o.op.quiet then
        match evalA o.op e σ with
        | some (v, _) => findSlots base sl σ r (i + 1) (ρ.put o.dst v)
        | none => findSlots base sl σ r (i + 1) (ρ.put o.dst .undef)
      else findSlots base sl σ r (i + 1) (ρ.put o.dst .undef)

def runD (call : Caller) (base : Nat) (slots : List (Nat × List AV)) : List AOper → Nat → Env → AState → List (Nat × AState) → List (Nat × AOp × Env × AV) →
    Option (Env × AState × List (Nat × AState) × List (Nat × AOp × Env × AV))
  | [], _, ρ, σ, cuts, loads => some (ρ, σ, cuts, loads)
  | o :: r, i, ρ, σ, cuts, loads =>
    match o.wants (envOf ρ o.tmps) with
    | none => none
    | some false => runD call base slots r (i + 1) (ρ.put o.dst (.tup [])) σ (bif o.op.quiet || isSlot slots i then cuts else (i + 1, σ) :: cuts) loads
    | some true =>
      match slotOf slots i with
      | some cs => match allocD o.op (envOf ρ o.tmps) with
        | some (cs', f) => bif AV.beqL cs' cs then runD call base slots r (i + 1) (ρ.put o.dst (f (base + i))) σ cuts loads else none
        | none => none
      | none =>
        bif o.op.pure then (match evalP o.op (envOf ρ o.tmps) with
          | some v => runD call base slots r (i + 1) (ρ.put o.dst v) σ cuts loads
          | none => none)
        else bif o.op.reader then (match evalA o.op (envOf ρ o.tmps) σ with
          | some (v, _) => runD call base slots r (i + 1) (ρ.put o.dst v) σ cuts ((i, o.op, envOf ρ o.tmps, v) :: loads)
          | none => none)
        else match runOp call o.op (envOf ρ o.tmps) σ with
          | some (v, σ') => runD call base slots r (i + 1) (ρ.put o.dst v) σ' ((i + 1, σ') :: cuts) loads
          | none => none

def chkD (acts B : List Nat) (base : Nat) (slots : List (Nat × List AV)) (cuts : List (Nat × AState)) (loads : List (Nat × AOp × Env × AV)) : Bool :=
  (loads.all fun l => cuts.all fun c => !(feas acts B l.1 c.1) || (match evalA l.2.1 l.2.2.1 c.2 with | some (v, _) => AV.beq v l.2.2.2 | none => false)) &&
  (slots.all fun s => cuts.all fun c => !(feas acts B s.1 c.1) || (Nat.blt (base + s.1) c.2.n && (match c.2.h.get (base + s.1) with | some (.cells cs) => AV.beqL cs s.2 | _ => false)))

def runC (call : Caller) : Nat → ACode → Env → AState → Option (AExit × Env × AState)
  | 0, _, _, _ => none
  | n + 1, c, ρ, σ =>
    match c with
    | .skip => some (.normal, ρ, σ)
    | .reg ops => match runOps call ops ρ σ with
      | some (ρ', σ') => some (.normal, ρ', σ')
      | none => none
    | .dreg ops acts B sl =>
      let slots := findSlots σ.n sl σ ops 0 ρ
      bif slots.map (·.1) == sl then
        match runD call σ.n slots ops 0 ρ (addSlots σ.n ops.length σ slots) [(0, addSlots σ.n ops.length σ slots)] [] with
        | some (ρ', σ', cuts, loads) => bif chkD acts B σ.n slots cuts loads then some (.normal, ρ', σ') else none
        | none => none
      else none
    | .seq a b => match runC call n a ρ σ with
      | some (.normal, ρ', σ') => runC call n b ρ' σ'
      | r => r
    | .cond o a b => match o.ev ρ with
      | .bool t => bif t then runC call n a ρ σ else runC call n b ρ σ
      | _ => none
    | .block id a => match runC call n a ρ σ with
      | some (.exit i, ρ', σ') => bif Nat.beq i id then some (.normal, ρ', σ') else some (.exit i, ρ', σ')
      | r => r
    | .loop a => match runC call n a ρ σ with
      | some (.normal, ρ', σ') => runC call n (.loop a) ρ' σ'
      | r => r
    | .exit id => some (.exit id, ρ, σ)
    | .ret => some (.ret, ρ, σ)
    | .bad => none

def runF (tab : FuncId → Option AFun) : Nat → Caller
  | 0, _, _, _ => none
  | n + 1, f, args, σ =>
    match tab f with
    | some af => bif Nat.beq args.length af.n then
        match runC (runF tab n) n af.body (Env.ofArgs args 0) σ with
        | some (.exit _, _, _) => none
        | some (_, ρ, σ') => (retA ρ σ' af.rets).map (·, σ')
        | none => none
      else none
    | none => none

/- ------------------------------------------------ .. is sound -/
def CallOk (P : Program) (call : Caller) : Prop := ∀ f args σ v σ', call f args σ = some (v, σ') → AC P f args σ fun v' s' => v' = v ∧ s' = σ'

theorem runOp_ok {call : Caller} (hc : CallOk P call) {o : AOp} {ρ : Env} {σ σ' : AState} {v : AV} (h : runOp call o ρ σ = some (v, σ')) : stepX P o ρ σ v σ' := by
  unfold stepX
  unfold runOp at h
  split at h
  · exact hc _ _ _ _ _ h
  · split at h
    · rename_i g cap e
      simp only [stepA, e]
      exact hc _ _ _ _ _ h
    · cases h
  · exact stepA_of_eval h ⟨rfl, rfl⟩

theorem stepA_mono {o : AOp} {ρ : Env} {σ : AState} {k k' : AV → AState → Prop} (h : stepA P o ρ σ k) (hk : ∀ v s, k v s → k' v s) : stepA P o ρ σ k' := by
  have plain : ∀ (x : Option (AV × AState)), (match x with | some (v, σ') => k v σ' | none => False) → (match x with | some (v, σ') => k' v σ' | none => False) := by
    intro x h
    cases x with
    | none => exact h
    | some r => exact hk _ _ h
  cases o
  case call f args => exact AC.mono h hk
  case callv f args =>
    simp only [stepA] at h ⊢
    split at h
    · exact AC.mono h hk
    · exact h.elim
  case mv x => exact plain (evalA (.mv x) ρ σ) h
  case mkfn f c => exact plain (evalA (.mkfn f c) ρ σ) h
  case bad => exact plain (evalA .bad ρ σ) h
  all_goals exact plain (evalA _ ρ σ) h

theorem wpOpsA_mono : ∀ (l : List AOper) (ρ : Env) (σ : AState) (Q Q' : Env → AState → Prop), (∀ r s, Q r s → Q' r s) → wpOpsA P l Q ρ σ → wpOpsA P l Q' ρ σ := by
  intro l
  induction l with
  | nil => intro ρ σ Q Q' hq h; exact hq _ _ h
  | cons o l ihl =>
    intro ρ σ Q Q' hq h
    simp only [wpOpsA] at h ⊢
    split at h
    · rename_i e; try simp only [e]
      exact stepA_mono h fun v s h' => ihl _ _ _ _ hq h'
    · rename_i e; try simp only [e]
      exact ihl _ _ _ _ hq h
    · exact h.elim

theorem runOps_ok {call : Caller} (hc : CallOk P call) : ∀ (l : List AOper) (ρ : Env) (σ : AState) (ρ' : Env) (σ' : AState), runOps call l ρ σ = some (ρ', σ') → wpOpsA P l (fun r s => r = ρ' ∧ s = σ') ρ σ := by
  intro l
  induction l with
  | nil => intro ρ σ ρ' σ' h; simp only [runOps, Option.some.injEq, Prod.mk.injEq] at h; exact ⟨h.1, h.2⟩
  | cons o r ih =>
    intro ρ σ ρ' σ' h
    simp only [runOps] at h
    simp only [wpOpsA]
    split at h
    · rename_i e
      simp only [e]
      split at h
      · rename_i v s hv
        refine stepA_mono (runOp_ok hc hv) ?_
        rintro v' s' ⟨rfl, rfl⟩
        exact ih _ _ _ _ h
      · cases h
    · rename_i e; simp only [e]; exact ih _ _ _ _ h
    · cases h

theorem runD_ok {call : Caller} (hc : CallOk P call) {base : Nat} {slots : List (Nat × List AV)} : ∀ (l : List AOper) (i : Nat) (ρ : Env) (σ : AState) (cuts : List (Nat × AState)) (loads : List (Nat × AOp × Env × AV)) (ρ' : Env) (σ' : AState)
    (cuts' : List (Nat × AState)) (loads' : List (Nat × AOp × Env × AV)), runD call base slots l i ρ σ cuts loads = some (ρ', σ', cuts', loads') →
    dgo P base slots l i ρ σ cuts loads fun r s c d => r = ρ' ∧ s = σ' ∧ c = cuts' ∧ d = loads' := by
  intro l
  induction l with
  | nil => intro i ρ σ cuts loads ρ' σ' cuts' loads' h; simp only [runD, Option.some.injEq, Prod.mk.injEq] at h; exact ⟨h.1, h.2.1, h.2.2.1, h.2.2.2⟩
  | cons o r ih =>
    intro i ρ σ cuts loads ρ' σ' cuts' loads' h
    simp only [runD] at h
    simp only [dgo]
    split at h
    · cases h
    · rename_i e; simp only [e]; exact ih _ _ _ _ _ _ _ _ _ h
    · rename_i e
      simp only [e]
      split at h
      · rename_i cs es
        simp only [es]
        split at h
        · rename_i cs' f ha
          simp only [ha]
          cases hb : AV.beqL cs' cs with
          | false => rw [hb] at h; cases h
          | true => rw [hb] at h; exact ⟨AV.beqL_eq _ _ hb, ih _ _ _ _ _ _ _ _ _ h⟩
        · cases h
      · rename_i es
        simp only [es]
        cases hp : o.op.pure with
        | true =>
          rw [hp] at h
          simp only [cond_true] at h ⊢
          split at h
          · rename_i v ev; simp only [ev]; exact ih _ _ _ _ _ _ _ _ _ h
          · cases h
        | false =>
          rw [hp] at h
          simp only [cond_false] at h ⊢
          cases hrd : o.op.reader with
          | true =>
            rw [hrd] at h
            simp only [cond_true] at h ⊢
            split at h
            · rename_i v s ev; simp only [ev]; exact ih _ _ _ _ _ _ _ _ _ h
            · cases h
          | false =>
            rw [hrd] at h
            simp only [cond_false] at h ⊢
            split at h
            · rename_i v s hv
              exact ⟨v, s, runOp_ok hc hv, ih _ _ _ _ _ _ _ _ _ h⟩
            · cases h

theorem chkD_ok {acts B : List Nat} {base : Nat} {slots : List (Nat × List AV)} {cuts : List (Nat × AState)} {loads : List (Nat × AOp × Env × AV)} (h : chkD acts B base slots cuts loads = true) : dchk acts B base slots cuts loads := by
  simp only [chkD, Bool.and_eq_true, List.all_eq_true, Bool.or_eq_true, Bool.not_eq_true'] at h
  refine ⟨fun l hl c hcm hf => ?_, fun s hs c hcm hf => ?_⟩
  · rcases h.1 l hl c hcm with h1 | h1
    · rw [hf] at h1; cases h1
    · split at h1
      · rename_i v s e
        rw [e]
        simp [AV.beq_eq _ _ h1]
      · cases h1
  · rcases h.2 s hs c hcm with h1 | ⟨h1, h2⟩
    · rw [hf] at h1; cases h1
    · refine ⟨Nat.le_of_ble_eq_true h1, ?_⟩
      split at h2
      · rename_i cs e
        rw [e, AV.beqL_eq _ _ h2]
      · cases h2

theorem dgo_mono {base : Nat} {slots : List (Nat × List AV)} {k k' : Env → AState → List (Nat × AState) → List (Nat × AOp × Env × AV) → Prop} (hk : ∀ r s c d, k r s c d → k' r s c d) : ∀ (l : List AOper) (i : Nat) (ρ : Env) (σ : AState)
    (cuts : List (Nat × AState)) (loads : List (Nat × AOp × Env × AV)), dgo P base slots l i ρ σ cuts loads k → dgo P base slots l i ρ σ cuts loads k' := by
  intro l
  induction l with
  | nil => intro i ρ σ cuts loads h; exact hk _ _ _ _ h
  | cons o r ih =>
    intro i ρ σ cuts loads h
    simp only [dgo] at h ⊢
    split at h
    · exact h.elim
    · rename_i e; (try simp only [e]); exact ih _ _ _ _ _ h
    · rename_i e
      (try simp only [e])
      split at h
      · rename_i cs es
        (try simp only [es])
        split at h
        · rename_i ha; (try simp only [ha]); exact ⟨h.1, ih _ _ _ _ _ h.2⟩
        · exact h.elim
      · rename_i es
        (try simp only [es])
        cases hp : o.op.pure with
        | true =>
          rw [hp] at h
          simp only [cond_true] at h ⊢
          split at h
          · rename_i ev; (try simp only [ev]); exact ih _ _ _ _ _ h
          · exact h.elim
        | false =>
          rw [hp] at h
          simp only [cond_false] at h ⊢
          cases hrd : o.op.reader with
          | true =>
            rw [hrd] at h
            simp only [cond_true] at h ⊢
            split at h
            · rename_i ev; (try simp only [ev]); exact ih _ _ _ _ _ h
            · exact h.elim
          | false =>
            rw [hrd] at h
            simp only [cond_false] at h ⊢
            obtain ⟨v, s, h1, h2⟩ := h
            exact ⟨v, s, h1, ih _ _ _ _ _ h2⟩

theorem runC_ok {call : Caller} (hfollow : P.follows .mixedOrders = true) (hc : CallOk P call) {N : Nat} : ∀ (n : Nat) (c : ACode) (ρ : Env) (σ : AState) (e : AExit) (ρ' : Env) (σ' : AState), runC call n c ρ σ = some (e, ρ', σ') →
    SimA P N c (fun e1 r s => e1 = e ∧ r = ρ' ∧ s = σ') ρ σ := by
  intro n
  induction n using Nat.strongRecOn with
  | _ n ih' =>
    intro c ρ σ e ρ' σ' h
    cases n with
    | zero => cases h
    | succ n =>
    have ih := ih' n (by omega)
    cases c with
    | skip => simp only [runC, Option.some.injEq, Prod.mk.injEq] at h; exact a_skip ⟨h.1, h.2.1, h.2.2⟩
    | exit id => simp only [runC, Option.some.injEq, Prod.mk.injEq] at h; exact a_exit ⟨h.1, h.2.1, h.2.2⟩
    | ret => simp only [runC, Option.some.injEq, Prod.mk.injEq] at h; exact a_ret ⟨h.1, h.2.1, h.2.2⟩
    | bad => simp [runC] at h
    | reg ops =>
      simp only [runC] at h
      split at h
      · rename_i r s hr
        simp only [Option.some.injEq, Prod.mk.injEq] at h
        obtain ⟨rfl, rfl, rfl⟩ := h
        refine a_reg ?_
        have := runOps_ok hc _ _ _ _ _ hr
        exact wpOpsA_mono _ _ _ _ _ (fun r s h => ⟨rfl, h.1, h.2⟩) this
      · cases h
    | dreg ops acts B sl =>
      simp only [runC] at h
      cases hb : ((findSlots σ.n sl σ ops 0 ρ).map (·.1) == sl) with
      | false => rw [hb] at h; cases h
      | true =>
        rw [hb] at h
        simp only [cond_true] at h
        split at h
        · rename_i r s cuts loads hr
          cases hk : chkD acts B σ.n (findSlots σ.n sl σ ops 0 ρ) cuts loads with
          | false => rw [hk] at h; cases h
          | true =>
            rw [hk] at h
            simp only [cond_true, Option.some.injEq, Prod.mk.injEq] at h
            obtain ⟨rfl, rfl, rfl⟩ := h
            refine a_dreg hfollow _ (by simpa using hb) (dgo_mono ?_ _ _ _ _ _ _ (runD_ok hc _ _ _ _ _ _ _ _ _ _ hr))
            rintro r s c d ⟨rfl, rfl, rfl, rfl⟩
            exact ⟨chkD_ok hk, rfl, rfl, rfl⟩
        · cases h
    | seq a b =>
      simp only [runC] at h
      refine a_seq ?_
      split at h
      · rename_i r s hr
        refine (ih a ρ σ _ _ _ hr).mono ?_
        rintro e1 r1 s1 ⟨rfl, rfl, rfl⟩
        exact ih b _ _ _ _ _ h
      · rename_i hne
        refine (ih a ρ σ _ _ _ h).mono ?_
        rintro e1 r1 s1 ⟨rfl, rfl, rfl⟩
        cases e1 with
        | normal => exact absurd h (hne _ _)
        | _ => exact ⟨rfl, rfl, rfl⟩
    | cond o a b =>
      simp only [runC] at h
      split at h
      · rename_i t ht
        refine a_cond ht ?_
        cases t with
        | true => exact ih a _ _ _ _ _ h
        | false => exact ih b _ _ _ _ _ h
      · cases h
    | block id a =>
      simp only [runC] at h
      refine a_block ?_
      split at h
      · rename_i i r s hr
        refine (ih a ρ σ _ _ _ hr).mono ?_
        rintro e1 r1 s1 ⟨rfl, rfl, rfl⟩
        simp only [AExit.inBlock]
        cases hi : Nat.beq i id with
        | true =>
          rw [hi] at h
          have := Nat.eq_of_beq_eq_true hi
          simp only [cond_true, Option.some.injEq, Prod.mk.injEq] at h
          rw [if_pos this]
          exact h
        | false =>
          rw [hi] at h
          have : ¬ i = id := fun e => by subst e; simp at hi
          simp only [cond_false, Option.some.injEq, Prod.mk.injEq] at h
          rw [if_neg this]
          exact h
      · rename_i hne
        refine (ih a ρ σ _ _ _ h).mono ?_
        rintro e1 r1 s1 ⟨rfl, rfl, rfl⟩
        cases e1 with
        | exit i => exact absurd h (hne _ _ _)
        | _ => exact ⟨rfl, rfl, rfl⟩
    | loop a =>
      -- as many rounds as were run
      have key : ∀ (m : Nat), m ≤ n + 1 → ∀ (ρ : Env) (σ : AState), runC call m (.loop a) ρ σ = some (e, ρ', σ') → aRounds P N a (fun e1 r s => e1 = e ∧ r = ρ' ∧ s = σ') m ρ σ := by
        intro m
        induction m with
        | zero => intro _ ρ σ h; cases h
        | succ m ihm =>
          intro hm ρ σ h
          simp only [runC] at h
          simp only [aRounds]
          split at h
          · rename_i r s hr
            refine (ih' m (by omega) a ρ σ _ _ _ hr).mono ?_
            rintro e1 r1 s1 ⟨rfl, rfl, rfl⟩
            exact ihm (by omega) _ _ h
          · rename_i hne
            refine (ih' m (by omega) a ρ σ _ _ _ h).mono ?_
            rintro e1 r1 s1 ⟨rfl, rfl, rfl⟩
            cases e1 with
            | normal => exact absurd h (hne _ _)
            | _ => exact ⟨rfl, rfl, rfl⟩
      exact a_rounds (n + 1) (key (n + 1) (Nat.le_refl _) ρ σ h)

/- A table that holds what the program's functions come to. -/
def TabOk (P : Program) (tab : FuncId → Option AFun) : Prop := ∀ f af, tab f = some af → callable P f = true ∧ ∃ fn, P.funcs[f]? = some fn ∧ compF P fn = some af

theorem runF_ok {tab : FuncId → Option AFun} (hfollow : P.follows .mixedOrders = true) (ht : TabOk P tab) : ∀ n, CallOk P (runF tab n) := by
  intro n
  induction n with
  | zero => intro f args σ v σ' h; cases h
  | succ n ih =>
    intro f args σ v σ' h
    simp only [runF] at h
    split at h
    · rename_i af ht1
      obtain ⟨hca, fn, hf, hcf⟩ := ht f af ht1
      cases hl : Nat.beq args.length af.n with
      | false => rw [hl] at h; cases h
      | true =>
        rw [hl] at h
        simp only [cond_true] at h
        refine ac_of_fun hf hcf hca (Nat.eq_of_beq_eq_true hl) ?_
        split at h
        · cases h
        · rename_i e ρ s hne hr
          simp only [Option.map_eq_some_iff, Prod.mk.injEq] at h
          obtain ⟨v', h1, rfl, rfl⟩ := h
          refine (runC_ok hfollow ih n af.body _ σ _ _ _ hr).mono ?_
          rintro e1 r1 s1 ⟨rfl, rfl, rfl⟩
          exact ⟨fun i hi => by subst hi; exact hne _ rfl, v', h1, rfl, rfl⟩
        · cases h
    · cases h

def tabOne (k : FuncId) (af : AFun) : FuncId → Option AFun := fun f => bif Nat.beq f k then some af else none
def tabNode (m : Nat) (a b : FuncId → Option AFun) : FuncId → Option AFun := fun f => bif Nat.blt f m then a f else b f
theorem tabOne_ok {k : FuncId} {fn : Func} {af : AFun} (h1 : callable P k = true) (h2 : P.funcs[k]? = some fn) (h3 : compF P fn = some af) : TabOk P (tabOne k af) := by
  intro f g h
  unfold tabOne at h
  cases hb : Nat.beq f k with
  | false => rw [hb] at h; cases h
  | true =>
    rw [hb] at h
    simp only [cond_true, Option.some.injEq] at h
    have := Nat.eq_of_beq_eq_true hb
    subst this; subst h
    exact ⟨h1, fn, h2, h3⟩
theorem tabNode_ok {m : Nat} {a b : FuncId → Option AFun} (ha : TabOk P a) (hb : TabOk P b) : TabOk P (tabNode m a b) := by
  intro f g h
  unfold tabNode at h
  cases hc : Nat.blt f m with
  | false => rw [hc] at h; exact hb f g h
  | true => rw [hc] at h; exact ha f g h
end Go.Proofs.Ythojhpjjkfjeiaa.Va
