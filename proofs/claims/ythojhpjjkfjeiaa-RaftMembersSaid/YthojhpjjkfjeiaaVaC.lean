/- Calls, regions in the text's order, code, functions: what is shown of abstract values holds in the world. Conditions: none. -/
import Derived.Test.YthojhpjjkfjeiaaVaB
import Derived.LoopN
set_option linter.unusedSimpArgs false
set_option linter.unusedVariables false
namespace Go.Proofs.Ythojhpjjkfjeiaa.Va
variable {P : Program}

def callable (P : Program) (f : FuncId) : Bool :=
  match P.funcs[f]? with
  | some fn => fn.body.isSome && !(fn.name == "runtime.NumGoroutine")
  | none => false

/- What a call comes to, told of abstract values: it returns, and Q holds of what it returns and of the memory then. -/
def AC (P : Program) (f : FuncId) (args : List AV) (σ : AState) (Q : AV → AState → Prop) : Prop :=
  callable P f = true ∧ ∀ K w vs, Rel K σ w → VRL K args vs →
    Calls P f vs.toArray w fun e w' => ∃ v vc σ' K', e = .returned vc ∧ Q v σ' ∧ K.le K' ∧ Rel K' σ' w' ∧ VR K' v vc

theorem AC.mono {f : FuncId} {args : List AV} {σ : AState} {Q Q' : AV → AState → Prop} (h : AC P f args σ Q) (hq : ∀ v σ', Q v σ' → Q' v σ') : AC P f args σ Q' :=
  ⟨h.1, fun K w vs hr hv => (h.2 K w vs hr hv).mono fun e w' ⟨v, vc, σ', K', h1, h2, h3⟩ => ⟨v, vc, σ', K', h1, hq _ _ h2, h3⟩⟩

/- One operation. -/
def stepA (P : Program) (o : AOp) (ρ : Env) (σ : AState) (k : AV → AState → Prop) : Prop :=
  match o with
  | .call f args => AC P f (args.map (·.ev ρ)) σ k
  | .callv f args => match f.ev ρ with
    | .fn g cap => AC P g (args.map (·.ev ρ) ++ cap) σ k
    | _ => False
  | o => match evalA o ρ σ with
    | some (v, σ') => k v σ'
    | none => False

theorem run_callFunc {f : FuncId} (h : callable P f = true) (args : Array Value) (w : World) : (callFunc f args).run P w = .ok (.enter f args) w := by
  unfold callable at h
  split at h
  · rename_i fn hf
    simp only [Bool.and_eq_true, Bool.not_eq_true'] at h
    have hb : ¬ fn.body = none := by cases hb : fn.body <;> simp_all
    have hn : ¬ fn.name = "runtime.NumGoroutine" := by simpa using h.2
    simp [callFunc, hf, hb, hn, Result.andThen]
  · cases h

theorem comp_call {c : Call} {ty : TypeId} : (∃ f args, compCall P c ty = .call f args ∧ c.callee = .value (.func f) ∧ args = c.args.toList.map Opd.of) ∨
    (∃ x args, compCall P c ty = .callv (.of x) args ∧ c.callee = .value x ∧ args = c.args.toList.map Opd.of) ∨
    ((∀ f args, compCall P c ty ≠ .call f args) ∧ ∀ x args, compCall P c ty ≠ .callv x args) := by
  unfold compCall
  split
  · rename_i f h; exact .inl ⟨f, _, rfl, h, rfl⟩
  · rename_i x _ h; exact .inr (.inl ⟨x, _, rfl, h, rfl⟩)
  all_goals
    refine .inr (.inr ⟨fun f args e => ?_, fun x args e => ?_⟩)
    all_goals
      repeat' split at e
      all_goals cases e

theorem comp_nocall {o : Oper} (h : ∀ c, o.op ≠ .call c) : (∀ f args, comp P o ≠ .call f args) ∧ ∀ x args, comp P o ≠ .callv x args := by
  obtain ⟨dst, op, ty, pos, aft, gd⟩ := o
  refine ⟨fun f args e => ?_, fun x args e => ?_⟩
  all_goals
    cases op
    case call c => exact h c rfl
    case makeFunc fn first cap =>
      cases fn <;> simp only [comp] at e <;> repeat' split at e
      all_goals cases e
    case next x b => cases b <;> simp only [comp] at e <;> cases e
    all_goals
      simp only [comp] at e
      repeat' split at e
      all_goals cases e

theorem step_sound2 {o : Oper} {ρ : Env} {σ : AState} {k : AV → AState → Prop} {K : Know} {N : Nat} {w : World} {ac : Act} (h : stepA P (comp P o) ρ σ k) (hr : Rel K σ w) (he : ERel K N ρ ac)
    (hd : ∀ t, o.dst = some t → t < N) {next : Act → World → Prop} {Q : Exit → Act → World → Prop}
    (hn : ∀ v σ' K' vc w', k v σ' → K.le K' → Rel K' σ' w' → VR K' v vc → next (ac.put o.dst vc) w') : o.wp P ac w next Q := by
  have plain : ∀ v σ', evalA (comp P o) ρ σ = some (v, σ') → k v σ' → o.wp P ac w next Q := by
    intro v σ' e hk
    obtain ⟨vc, w', K', hrun, hle, hrel, hv⟩ := does (P := P) e K N w ac hr he
    have hnx := hn v σ' K' vc w' hk hle hrel hv
    unfold Oper.wp
    rcases hrun with hrun | ⟨hrun, rfl⟩
    · rw [hrun]; exact hnx
    · rw [hrun]; exact hnx
  by_cases hc : ∃ c, o.op = .call c
  · obtain ⟨c, hc⟩ := hc
    have hcomp : comp P o = compCall P c o.type := by
      obtain ⟨dst, op, ty, pos, aft, gd⟩ := o
      subst hc; rfl
    have enter : ∀ (f : FuncId) (args : List AV) (vs : List Value), AC P f args σ k → VRL K args vs → (execOp ac.eval o).run P w = (callFunc f vs.toArray).run P w → o.wp P ac w next Q := by
      intro f args vs hac hv hrun
      unfold Oper.wp
      rw [hrun, run_callFunc hac.1]
      refine (hac.2 K w vs hr hv).mono ?_
      rintro e w' ⟨v, vc, σ', K', rfl, hk, hle, hrel, hvr⟩
      exact hn v σ' K' vc w' hk hle hrel hvr
    have hexec : (execOp ac.eval o).run P w = ((resolve ac.eval c o.type).run P w).andThen fun d w' => (invoke d.target d.args).run P w' := by
      obtain ⟨dst, op, ty, pos, aft, gd⟩ := o
      subst hc
      simp only [execOp, Sem.run_bind]
    rcases comp_call (P := P) (c := c) (ty := o.type) with ⟨f, args, e, h1, rfl⟩ | ⟨x, args, e, h1, rfl⟩ | ⟨e1, e2⟩
    · rw [hcomp, e] at h
      refine enter f _ (c.args.toList.map ac.eval) h (he.list _) ?_
      rw [hexec]
      simp only [resolve, h1, Act.eval, Deferred.ofValue, Sem.run_pure, Result.andThen_ok, invoke]
      congr 2
      apply Array.ext'
      simp
    · rw [hcomp, e] at h
      simp only [stepA] at h
      split at h
      · rename_i g cap ex
        have hx := he.ev x
        rw [ex] at hx
        obtain ⟨vs, hpv, hvr⟩ := hx.inv_fn
        refine enter g _ (c.args.toList.map ac.eval ++ vs) h ((he.list _).append hvr) ?_
        rw [hexec]
        simp only [resolve, h1, hpv, Deferred.ofValue, Sem.run_pure, Result.andThen_ok, invoke]
        congr 2
        apply Array.ext'
        simp
      · exact h.elim
    · rw [hcomp] at h
      have h' : match evalA (compCall P c o.type) ρ σ with | some (v, σ') => k v σ' | none => False := by
        unfold stepA at h
        split at h
        · rename_i f args e; exact absurd e (e1 f args)
        · rename_i x args e; exact absurd e (e2 x args)
        · exact h
      cases e : evalA (compCall P c o.type) ρ σ with
      | none => rw [e] at h'; exact h'.elim
      | some r => rw [e] at h'; exact plain r.1 r.2 (by rw [hcomp]; exact e) h'
  · obtain ⟨e1, e2⟩ := comp_nocall (P := P) (fun c e => hc ⟨c, e⟩)
    have h' : match evalA (comp P o) ρ σ with | some (v, σ') => k v σ' | none => False := by
      unfold stepA at h
      split at h
      · rename_i f args e; exact absurd e (e1 f args)
      · rename_i x args e; exact absurd e (e2 x args)
      · exact h
    cases e : evalA (comp P o) ρ σ with
    | none => rw [e] at h'; exact h'.elim
    | some r => rw [e] at h'; exact plain r.1 r.2 e h'

theorem step_sound {o : Oper} {ρ : Env} {σ : AState} {k : AV → AState → Prop} {K : Know} {N : Nat} {w : World} {ac : Act} (h : stepA P (comp P o) ρ σ k) (hr : Rel K σ w) (he : ERel K N ρ ac)
    (hd : ∀ t, o.dst = some t → t < N) {next : Act → World → Prop} {Q : Exit → Act → World → Prop}
    (hn : ∀ v σ' K' ac' w', k v σ' → K.le K' → Rel K' σ' w' → ERel K' N (ρ.put o.dst v) ac' → next ac' w') : o.wp P ac w next Q :=
  step_sound2 h hr he hd fun v σ' K' vc w' hk hle hrel hv => hn v σ' K' _ w' hk hle hrel ((he.mono hle).put hd hv)

/- ------------------------------------------------ regions -/
def compGuard (ops : List Oper) : Option (Nat × Bool) → Option (Option (Nat × Bool))
  | none => some none
  | some (j, want) => match (ops[j]?).bind (·.dst) with
    | some t => some (some (t, want))
    | none => none
def compOper (P : Program) (N : Nat) (ops : List Oper) (o : Oper) : Option AOper :=
  match compGuard ops o.guard, o.dst with
  | some g, some t => if t < N then some ⟨some t, comp P o, g⟩ else none
  | some g, none => some ⟨none, comp P o, g⟩
  | none, _ => none
def compOps (P : Program) (N : Nat) (all : List Oper) : List Oper → Option (List AOper)
  | [] => some []
  | o :: r => match compOper P N all o, compOps P N all r with
    | some a, some l => some (a :: l)
    | _, _ => none

def AOper.wants (o : AOper) (ρ : Env) : Option Bool :=
  match o.guard with
  | none => some true
  | some (t, want) => match ρ.rd t with
    | .bool b => some (b == want)
    | .tup [] => some false
    | _ => none

def wpOpsA (P : Program) : List AOper → (Env → AState → Prop) → Env → AState → Prop
  | [], Q, ρ, σ => Q ρ σ
  | o :: r, Q, ρ, σ => match o.wants ρ with
    | some true => stepA P o.op ρ σ fun v σ' => wpOpsA P r Q (ρ.put o.dst v) σ'
    | some false => wpOpsA P r Q (ρ.put o.dst (.tup [])) σ
    | none => False

theorem wants_ok {K : Know} {N : Nat} {ρ : Env} {ac : Act} (he : ERel K N ρ ac) {all : List Oper} {o : Oper} {a : AOper} (hc : compOper P N all o = some a) {b : Bool} (hw : a.wants ρ = some b) :
    Region.wanted o (yielded all.toArray ac.tmps) = b := by
  have hg : ∃ g, compGuard all o.guard = some g ∧ a.guard = g := by
    unfold compOper at hc
    split at hc
    · rename_i g t e1 e2
      split at hc
      · injection hc with hc; subst hc; exact ⟨g, e1, rfl⟩
      · cases hc
    · rename_i g e1 e2; injection hc with hc; subst hc; exact ⟨g, e1, rfl⟩
    · cases hc
  obtain ⟨g, h1, h2⟩ := hg
  unfold Region.wanted
  unfold AOper.wants at hw
  rw [h2] at hw
  cases hog : o.guard with
  | none =>
    rw [hog] at h1
    simp only [compGuard, Option.some.injEq] at h1
    subst h1
    simpa using hw
  | some jw =>
    obtain ⟨j, want⟩ := jw
    rw [hog] at h1
    simp only [compGuard] at h1
    split at h1
    · rename_i t ht
      injection h1 with h1; subst h1
      simp only at hw
      have hrd : VR K (ρ.rd t) (ac.tmps.getD t undef) := by
        simp only [Env.rd]
        cases e : ρ.get t with
        | none => exact .undef _
        | some v => exact he.tmps t v e
      have hy : yielded all.toArray ac.tmps j = match ac.tmps[t]? with | some (.bool b) => some b | _ => none := by
        unfold yielded
        have : (all.toArray[j]?).bind (·.dst) = some t := by simpa using ht
        rw [this]; rfl
      have hgd : ∀ x, ac.tmps.getD t undef = x → x ≠ undef → ac.tmps[t]? = some x := by
        intro x hx hne
        rw [Array.getD_eq_getD_getElem?] at hx
        cases e : ac.tmps[t]? with
        | none => rw [e] at hx; exact absurd hx.symm hne
        | some y => rw [e] at hx; simpa using hx
      simp only [hy]
      split at hw
      · rename_i b' e
        rw [e] at hrd
        rw [hgd _ hrd.inv_bool (by simp [undef])]
        simp only [Option.some.injEq] at hw
        subst hw
        cases b' <;> cases want <;> rfl
      · rename_i e
        rw [e] at hrd
        injection hw with hw
        subst hw
        have htup : ac.tmps.getD t undef = .tuple #[] := by
          obtain ⟨vs, hpv, hvr⟩ := hrd.inv_tup
          rw [hpv, hvr.of_nil]
        have : (match ac.tmps[t]? with | some (.bool b) => some b | _ => none) = none := by
          rw [Array.getD_eq_getD_getElem?] at htup
          cases e : ac.tmps[t]? with
          | none => simp
          | some y => rw [e] at htup; simp at htup; subst htup; simp
        rw [this]; rfl
      · cases hw
    · cases h1

theorem comp_dst {N : Nat} {all : List Oper} {o : Oper} {a : AOper} (hc : compOper P N all o = some a) : a.dst = o.dst ∧ a.op = comp P o ∧ ∀ t, o.dst = some t → t < N := by
  unfold compOper at hc
  split at hc
  · rename_i g t e1 e2
    split at hc
    · rename_i hlt
      injection hc with hc; subst hc
      exact ⟨e2.symm, rfl, fun t' e => by rw [e2] at e; injection e with e; subst e; exact hlt⟩
    · cases hc
  · rename_i g e1 e2; injection hc with hc; subst hc; exact ⟨e2.symm, rfl, fun t e => by rw [e2] at e; cases e⟩
  · cases hc

theorem undef_tup {K : Know} : VR K (.tup []) undef := .tup [] [] rfl (fun i hi => by simp at hi)

theorem wpOps_sound {N : Nat} {all : List Oper} {Qc : Exit → Act → World → Prop} : ∀ (l : List Oper) (as : List AOper), compOps P N all l = some as → ∀ (Q : Env → AState → Prop) (ρ : Env) (σ : AState) (K : Know) (w : World) (ac : Act),
    wpOpsA P as Q ρ σ → Rel K σ w → ERel K N ρ ac → (∀ ρ' σ' K' w' ac', Q ρ' σ' → K.le K' → Rel K' σ' w' → ERel K' N ρ' ac' → Qc .normal ac' w') →
    wpList P all.toArray Qc l ac w := by
  intro l
  induction l with
  | nil =>
    intro as hc Q ρ σ K w ac h hr he hq
    simp only [compOps, Option.some.injEq] at hc
    subst hc
    exact hq ρ σ K w ac h (Know.le.refl K) hr he
  | cons o l ih =>
    intro as hc Q ρ σ K w ac h hr he hq
    simp only [compOps] at hc
    split at hc
    · rename_i a as' h1 h2
      injection hc with hc; subst hc
      obtain ⟨hd, hop, hlt⟩ := comp_dst h1
      simp only [wpOpsA] at h
      unfold wpList
      split at h
      · rename_i hw
        rw [if_pos (wants_ok he h1 hw)]
        rw [hop] at h
        refine .inl (step_sound h hr he hlt fun v σ' K' ac' w' hk hle hrel herel => ?_)
        rw [hd] at hk
        exact ih as' h2 Q _ σ' K' w' ac' hk hrel herel fun ρ' σ'' K'' w'' ac'' q1 q2 q3 q4 => hq ρ' σ'' K'' w'' ac'' q1 (hle.trans q2) q3 q4
      · rename_i hw
        have := wants_ok (P := P) he h1 hw
        rw [if_neg (by rw [this]; simp)]
        rw [hd] at h
        exact ih as' h2 Q _ σ K w _ h hr (he.put hlt undef_tup) hq
      · exact h.elim
    · cases hc

/- ------------------------------------------------ code -/
inductive AExit where
  | normal
  | exit (id : Nat)
  | ret
  deriving DecidableEq
def AExit.toE : AExit → Exit
  | .normal => .normal
  | .exit id => .exit id
  | .ret => .ret

def Post (K : Know) (N : Nat) (Q : AExit → Env → AState → Prop) : Exit → Act → World → Prop :=
  fun e ac w => ∃ ae ρ σ K', e = AExit.toE ae ∧ Q ae ρ σ ∧ K.le K' ∧ Rel K' σ w ∧ ERel K' N ρ ac

def SimC (P : Program) (N : Nat) (c : Code) (Q : AExit → Env → AState → Prop) (ρ : Env) (σ : AState) : Prop :=
  ∀ K w ac, Rel K σ w → ERel K N ρ ac → c.wp P (Post K N Q) ac w

section
variable {N : Nat} {Q : AExit → Env → AState → Prop} {ρ : Env} {σ : AState}

theorem Post.mono {K K' : Know} (h : K.le K') {e : Exit} {ac : Act} {w : World} (hp : Post K' N Q e ac w) : Post K N Q e ac w := by
  obtain ⟨ae, ρ, σ, K'', h1, h2, h3, h4⟩ := hp
  exact ⟨ae, ρ, σ, K'', h1, h2, h.trans h3, h4⟩

theorem SimC.mono {c : Code} {Q' : AExit → Env → AState → Prop} (h : SimC P N c Q ρ σ) (hq : ∀ e ρ σ, Q e ρ σ → Q' e ρ σ) : SimC P N c Q' ρ σ :=
  fun K w ac hr he => wp_mono (h K w ac hr he) fun e ac' w' ⟨ae, ρ', σ', K', h1, h2, h3⟩ => ⟨ae, ρ', σ', K', h1, hq _ _ _ h2, h3⟩

def AExit.then (next : Env → AState → Prop) (Q : AExit → Env → AState → Prop) : AExit → Env → AState → Prop
  | .normal, ρ, σ => next ρ σ
  | e, ρ, σ => Q e ρ σ

theorem sim_skip (h : Q .normal ρ σ) : SimC P N .skip Q ρ σ := fun K w ac hr he => wp_skip ⟨.normal, ρ, σ, K, rfl, h, Know.le.refl K, hr, he⟩
theorem sim_exit {id : Nat} (h : Q (.exit id) ρ σ) : SimC P N (.exit id) Q ρ σ := fun K w ac hr he => wp_exit ⟨.exit id, ρ, σ, K, rfl, h, Know.le.refl K, hr, he⟩
theorem sim_ret (h : Q .ret ρ σ) : SimC P N .ret Q ρ σ := fun K w ac hr he => wp_ret ⟨.ret, ρ, σ, K, rfl, h, Know.le.refl K, hr, he⟩
theorem sim_seq {a b : Code} (h : SimC P N a (AExit.then (SimC P N b Q) Q) ρ σ) : SimC P N (.seq a b) Q ρ σ := by
  intro K w ac hr he
  refine wp_seq (wp_mono (h K w ac hr he) ?_)
  rintro e ac' w' ⟨ae, ρ', σ', K', rfl, hq, hle, hrel, herel⟩
  cases ae with
  | normal => exact wp_mono (hq K' w' ac' hrel herel) fun e ac'' w'' hp => hp.mono hle
  | exit id => exact ⟨.exit id, ρ', σ', K', rfl, hq, hle, hrel, herel⟩
  | ret => exact ⟨.ret, ρ', σ', K', rfl, hq, hle, hrel, herel⟩
theorem sim_cond {c : Operand} {x y : Code} {b : Bool} (hc : (Opd.of c).ev ρ = .bool b) (h : SimC P N (if b then x else y) Q ρ σ) : SimC P N (.cond c x y) Q ρ σ := by
  intro K w ac hr he
  have hx := he.ev c
  rw [hc] at hx
  exact wp_cond hx.inv_bool (h K w ac hr he)
def AExit.inBlock (id : Nat) (Q : AExit → Env → AState → Prop) : AExit → Env → AState → Prop
  | .exit id', ρ, σ => if id' = id then Q .normal ρ σ else Q (.exit id') ρ σ
  | e, ρ, σ => Q e ρ σ
theorem sim_block {id : Nat} {c : Code} (h : SimC P N c (AExit.inBlock id Q) ρ σ) : SimC P N (.block id c) Q ρ σ := by
  intro K w ac hr he
  refine wp_block (wp_mono (h K w ac hr he) ?_)
  rintro e ac' w' ⟨ae, ρ', σ', K', rfl, hq, hle, hrel, herel⟩
  cases ae with
  | normal => exact ⟨.normal, ρ', σ', K', rfl, hq, hle, hrel, herel⟩
  | exit id' =>
    simp only [AExit.toE, Exit.inBlock]
    simp only [AExit.inBlock] at hq
    split
    · rename_i e; rw [if_pos e] at hq; exact ⟨.normal, ρ', σ', K', rfl, hq, hle, hrel, herel⟩
    · rename_i e; rw [if_neg e] at hq; exact ⟨.exit id', ρ', σ', K', rfl, hq, hle, hrel, herel⟩
  | ret => exact ⟨.ret, ρ', σ', K', rfl, hq, hle, hrel, herel⟩
/- A loop: a relation that holds at each round's begin, a measure that falls. -/
theorem sim_loop {c : Code} (I : Env → AState → Prop) (m : Env → AState → Nat) (h0 : I ρ σ)
    (round : ∀ ρ σ, I ρ σ → SimC P N c (AExit.then (fun ρ' σ' => I ρ' σ' ∧ m ρ' σ' < m ρ σ) Q) ρ σ) : SimC P N (.loop c) Q ρ σ := by
  intro K w ac hr he
  have key : ∀ (n : Nat) (K1 : Know) (ρ : Env) (σ : AState) (w : World) (ac : Act), I ρ σ → m ρ σ < n → K.le K1 → Rel K1 σ w → ERel K1 N ρ ac → Code.rounds P c (Post K N Q) n ac w := by
    intro n
    induction n with
    | zero => intro K1 ρ σ w ac _ hm; omega
    | succ n ih =>
      intro K1 ρ σ w ac hI hm hle hr he
      rw [rounds_succ]
      refine wp_mono (round ρ σ hI K1 w ac hr he) ?_
      rintro e ac' w' ⟨ae, ρ', σ', K', rfl, hq, hle', hrel, herel⟩
      cases ae with
      | normal => exact ih K' ρ' σ' w' ac' hq.1 (by have := hq.2; omega) (hle.trans hle') hrel herel
      | exit id => exact ⟨.exit id, ρ', σ', K', rfl, hq, hle.trans hle', hrel, herel⟩
      | ret => exact ⟨.ret, ρ', σ', K', rfl, hq, hle.trans hle', hrel, herel⟩
  exact wp_loop_rounds (m ρ σ + 1) (key _ K ρ σ w ac h0 (by omega) (Know.le.refl K) hr he)
/- A loop whose rounds are counted. -/
def roundsA (P : Program) (N : Nat) (c : Code) (Q : AExit → Env → AState → Prop) : Nat → Env → AState → Prop
  | 0, _, _ => False
  | n + 1, ρ, σ => SimC P N c (AExit.then (roundsA P N c Q n) Q) ρ σ
theorem sim_rounds {c : Code} (n : Nat) (h : roundsA P N c Q n ρ σ) : SimC P N (.loop c) Q ρ σ := by
  intro K w ac hr he
  have key : ∀ (n : Nat) (K1 : Know) (ρ : Env) (σ : AState) (w : World) (ac : Act), roundsA P N c Q n ρ σ → K.le K1 → Rel K1 σ w → ERel K1 N ρ ac → Code.rounds P c (Post K N Q) n ac w := by
    intro n
    induction n with
    | zero => intro K1 ρ σ w ac h; exact h.elim
    | succ n ih =>
      intro K1 ρ σ w ac h hle hr he
      rw [rounds_succ]
      refine wp_mono (h K1 w ac hr he) ?_
      rintro e ac' w' ⟨ae, ρ', σ', K', rfl, hq, hle', hrel, herel⟩
      cases ae with
      | normal => exact ih K' ρ' σ' w' ac' hq (hle.trans hle') hrel herel
      | exit id => exact ⟨.exit id, ρ', σ', K', rfl, hq, hle.trans hle', hrel, herel⟩
      | ret => exact ⟨.ret, ρ', σ', K', rfl, hq, hle.trans hle', hrel, herel⟩
  exact wp_loop_rounds n (key n K ρ σ w ac h (Know.le.refl K) hr he)
theorem sim_region {id : Nat} {ops : Array Oper} {as : List AOper} (hc : compOps P N ops.toList ops.toList = some as) (h : wpOpsA P as (Q .normal) ρ σ) : SimC P N (.region id ops false) Q ρ σ := by
  intro K w ac hr he
  refine wp_region_list ?_
  have := wpOps_sound (P := P) (Qc := Post K N Q) ops.toList as hc (Q .normal) ρ σ K w ac h hr he fun ρ' σ' K' w' ac' q1 q2 q3 q4 => ⟨.normal, ρ', σ', K', rfl, q1, q2, q3, q4⟩
  simpa using this
end

/- ------------------------------------------------ functions -/
inductive RV where
  | tmp (t : Nat)
  | cell (t : Nat) (agg : Bool) (n : Nat)
def compRV (P : Program) : List ResultVar → Option (List RV)
  | [] => some []
  | .tmp t :: r => (compRV P r).map (.tmp t :: ·)
  | .cell t T :: r => match isAggT P T, sizeT P T, compRV P r with
    | some a, some n, some l => some (.cell t a n :: l)
    | _, _, _ => none
def RV.ev (ρ : Env) (σ : AState) : RV → Option AV
  | .tmp t => some (ρ.rd t)
  | .cell t agg n => match base σ (ρ.rd t), ρ.rd t with
    | some (cs, off), .ptr _ _ => bif agg then (bif Nat.ble (off + n) cs.length then some (.agg (seg cs off n)) else none) else cs[off]?
    | _, _ => none
def rvs (ρ : Env) (σ : AState) : List RV → Option (List AV)
  | [] => some []
  | r :: l => match r.ev ρ σ, rvs ρ σ l with
    | some v, some vs => some (v :: vs)
    | _, _ => none
def retA (ρ : Env) (σ : AState) (l : List RV) : Option AV :=
  match rvs ρ σ l with
  | some [v] => some v
  | some vs => some (.tup vs)
  | none => none

def resF (tmps : Array Value) : ResultVar → Sem Value
  | .tmp t => pure (tmps.getD t undef)
  | .cell a t => do loadVar t (← asAddr (tmps.getD a undef))
theorem results_eq (fn : Func) (tmps : Array Value) : results fn tmps = (do let vs ← fn.results.mapM (resF tmps); pure (if h : vs.size = 1 then vs[0] else .tuple vs)) := rfl
theorem rvs_ok {K : Know} {N : Nat} {ρ : Env} {σ : AState} {w : World} {ac : Act} (hr : Rel K σ w) (he : ERel K N ρ ac) : ∀ (l : List ResultVar) (rl : List RV) (vs : List AV), compRV P l = some rl → rvs ρ σ rl = some vs →
    ∃ us : List Value, (l.mapM (m := Sem) (resF ac.tmps)).run P w = .ok us w ∧ VRL K vs us := by
  intro l
  have hrd : ∀ t, VR K (ρ.rd t) (ac.tmps.getD t undef) := fun t => by
    simp only [Env.rd]
    cases e : ρ.get t with
    | none => exact .undef _
    | some v => exact he.tmps t v e
  induction l with
  | nil =>
    intro rl vs h1 h2
    simp only [compRV, Option.some.injEq] at h1
    subst h1
    simp only [rvs, Option.some.injEq] at h2
    subst h2
    exact ⟨[], by simp, VRL.nil⟩
  | cons x l ih =>
    intro rl vs h1 h2
    cases x with
    | tmp t =>
      simp only [compRV, Option.map_eq_some_iff] at h1
      obtain ⟨rl', h1, rfl⟩ := h1
      simp only [rvs, RV.ev] at h2
      split at h2
      · rename_i v vs' e1 e2
        injection h2 with h2; subst h2
        injection e1 with e1; subst e1
        obtain ⟨us, hrun, hvr⟩ := ih rl' vs' h1 e2
        exact ⟨ac.tmps.getD t undef :: us, by simp only [List.mapM_cons, resF, Sem.run_bind, Sem.run_pure, Result.andThen_ok, hrun], VRL.cons (hrd t) hvr⟩
      · cases h2
    | cell t T =>
      simp only [compRV] at h1
      split at h1
      · rename_i a n rl' ha hn h1'
        injection h1 with h1; subst h1
        simp only [rvs] at h2
        split at h2
        · rename_i v vs' e1 e2
          injection h2 with h2; subst h2
          obtain ⟨us, hrun, hvr⟩ := ih rl' vs' h1' e2
          simp only [RV.ev] at e1
          split at e1
          · rename_i cs off b o hb ep
            have hp := hrd t
            rw [ep] at hp hb
            obtain ⟨blk, bs, hpv, hl⟩ := base_ptr hr hp hb (by simp) (by simp)
            obtain ⟨vc, hrun', hv⟩ := sim_loadVar (P := P) ha hn hl e1
            exact ⟨vc :: us, by
              have hone : (resF ac.tmps (.cell t T)).run P w = .ok vc w := by simp only [resF, Sem.run_bind, hpv, asAddr, Sem.run_pure, Result.andThen_ok, hrun']
              simp only [List.mapM_cons, Sem.run_bind, hone, Sem.run_pure, Result.andThen_ok, hrun], VRL.cons hv hvr⟩
          · cases e1
        · cases h2
      · cases h1

theorem retA_ok {K : Know} {N : Nat} {ρ : Env} {σ : AState} {w : World} {ac : Act} (hr : Rel K σ w) (he : ERel K N ρ ac) {fn : Func} {rl : List RV} {v : AV} (h1 : compRV P fn.results.toList = some rl) (h2 : retA ρ σ rl = some v) :
    ∃ vc, (results fn ac.tmps).run P w = .ok vc w ∧ VR K v vc := by
  unfold retA at h2
  cases e : rvs ρ σ rl with
  | none => rw [e] at h2; cases h2
  | some vs =>
    rw [e] at h2
    obtain ⟨us, hrun, hvr⟩ := rvs_ok (P := P) hr he fn.results.toList rl vs h1 e
    have hm : (fn.results.mapM (m := Sem) (resF ac.tmps)).run P w = .ok us.toArray w := by
      rw [Array.mapM_eq_mapM_toList]
      simp only [Sem.run_map, hrun, Result.andThen]
    by_cases h1' : us.length = 1
    · obtain ⟨u, rfl⟩ : ∃ u, us = [u] := by match us, h1' with | [u], _ => exact ⟨u, rfl⟩
      obtain ⟨a, rfl⟩ : ∃ a, vs = [a] := by match vs, (show vs.length = 1 from by rw [hvr.1]; rfl) with | [a], _ => exact ⟨a, rfl⟩
      simp only [Option.some.injEq] at h2
      subst h2
      obtain ⟨_, _, e, hv, _⟩ := hvr.of_cons
      injection e with e1 e2; subst e1
      exact ⟨u, by rw [results_eq]; simp only [Sem.run_bind, hm, Result.andThen_ok, Sem.run_pure]; rfl, hv⟩
    · have hne : ∀ a, vs ≠ [a] := fun a e' => by subst e'; have := hvr.1; simp at this; omega
      have hv : v = .tup vs := by
        match vs, hne with
        | [], _ => simpa using h2.symm
        | [a], hne => exact absurd rfl (hne a)
        | a :: b :: r, _ => simpa using h2.symm
      subst hv
      refine ⟨.tuple us.toArray, ?_, .tup _ _ hvr.1 hvr.2⟩
      rw [results_eq]
      simp only [Sem.run_bind, hm, Result.andThen_ok, Sem.run_pure]
      rw [dif_neg (by simpa using h1')]

def Env.ofArgs : List AV → Nat → Env
  | [], _ => .nil
  | v :: r, i => (Env.ofArgs r (i + 1)).set i (some v)
theorem ofArgs_get : ∀ (l : List AV) (i t : Nat), (Env.ofArgs l i).get t = if i ≤ t then l[t - i]? else none := by
  intro l
  induction l with
  | nil => intro i t; simp [Env.ofArgs]
  | cons v r ih =>
    intro i t
    simp only [Env.ofArgs, Tr.get_set, ih]
    by_cases h : t = i
    · subst h; simp
    · rw [if_neg h]
      by_cases h' : i ≤ t
      · rw [if_pos (by omega), if_pos h']
        have : t - i = (t - (i + 1)) + 1 := by omega
        rw [this]; simp
      · rw [if_neg (by omega), if_neg h']

theorem ac_of_body {f : FuncId} {fn : Func} {c : Code} {rl : List RV} {args : List AV} {σ : AState} {Q : AV → AState → Prop} (hf : P.funcs[f]? = some fn) (hb : fn.body = some c) (hca : callable P f = true)
    (hrl : compRV P fn.results.toList = some rl) (h : SimC P (args.length + (fn.ntmps - args.length)) c (fun e ρ σ' => e ≠ .exit 0 ∧ (∀ i, e ≠ .exit i) ∧ ∃ v, retA ρ σ' rl = some v ∧ Q v σ') (Env.ofArgs args 0) σ) :
    AC P f args σ Q := by
  refine ⟨hca, fun K w vs hr hv => ?_⟩
  refine calls_of_wp hf hb (wp_mono (h K w _ hr ⟨?_, rfl, fun t v e => ?_⟩) ?_)
  · simp [hv.1]
  · rw [ofArgs_get] at e
    simp only [Nat.zero_le, if_true, Nat.sub_zero] at e
    obtain ⟨u, e1, r⟩ := hv.get e
    have hlt : t < vs.length := (List.getElem?_eq_some_iff.1 e1).1
    have : (vs.toArray ++ Array.replicate (fn.ntmps - vs.toArray.size) undef).getD t undef = u := by
      rw [Array.getD_eq_getD_getElem?, Array.getElem?_append_left (by simpa using hlt)]
      simp [e1]
    rw [this]; exact r
  · rintro e ac' w' ⟨ae, ρ', σ', K', rfl, ⟨_, hne, v, hret, hq⟩, hle, hrel, herel⟩
    obtain ⟨vc, hrun, hvr⟩ := retA_ok (P := P) hrel herel hrl hret
    cases ae with
    | normal => exact ⟨herel.defers, vc, hrun, v, vc, σ', K', rfl, hq, hle, hrel, hvr⟩
    | ret => exact ⟨herel.defers, vc, hrun, v, vc, σ', K', rfl, hq, hle, hrel, hvr⟩
    | exit id => exact absurd rfl (hne id)
end Go.Proofs.Ythojhpjjkfjeiaa.Va
