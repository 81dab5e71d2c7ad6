/- From a contract to the call; a run whose answers at some calls are handed in and owed. Conditions: none. -/
import Derived.Test.YthojhpjjkfjeiaaVaF
import Derived.ProofKit
import Derived.OpenShut
import Derived.Carry
set_option linter.unusedSimpArgs false
set_option linter.unusedVariables false
namespace Go.Proofs.Ythojhpjjkfjeiaa.Va
open Go.ChangeShapes Go.WideShapes Go.ChangeAt Go.RowKit
variable {P : Program}

/- All that is there stays. -/
def K0 (w : World) : Know := { μ := fun _ => none, fix := fun b => w.heap[b]?, os := w.os, tape := w.tape, output := w.output, res := fun _ => false, sh := fun _ => True }
def st0 : AState := ⟨0, .nil⟩

theorem rel0 (w : World) : Rel (K0 w) st0 w :=
  ⟨fun b cs e x hx => by simp [K0] at hx, fun b s p e x hx => by simp [K0] at hx, fun b b' x x' _ _ _ h _ => by simp [K0] at h, fun blk o e => e, fun b x e => by simp [K0] at e,
   fun b _ => rfl, fun b e => by simp [K0] at e, rfl, rfl, rfl⟩

theorem ac_calls {f : FuncId} {args : List AV} (h : AC P f args st0 fun v _ => v = .bool true) {w : World} {vs : List Value} (hv : VRL (K0 w) args vs) :
    Calls P f vs.toArray w fun e w' => e = .returned (.bool true) ∧ Below w.heap.size w w' := by
  refine (h.2 (K0 w) w vs (rel0 w) hv).mono ?_
  rintro e w' ⟨v, vc, σ', K', rfl, rfl, hle, hrel, hvr⟩
  have hb : vc = .bool true := by cases hvr; rfl
  subst hb
  have hfix : ∀ k, k < w.heap.size → w'.heap[k]? = w.heap[k]? := by
    intro k hk
    have : w.heap[k]? = some w.heap[k] := by simp [hk]
    rw [this]
    exact hrel.fix k _ (hle.fix k _ this)
  refine ⟨rfl, by rw [hrel.os, hle.os]; rfl, by rw [hrel.tape, hle.tape]; rfl, by rw [hrel.output, hle.output]; rfl, ?_, hfix⟩
  rcases Nat.eq_zero_or_pos w.heap.size with h0 | h0
  · omega
  · have := hfix (w.heap.size - 1) (by omega)
    rcases Nat.lt_or_ge (w.heap.size - 1) w'.heap.size with h1 | h1
    · omega
    · rw [Array.getElem?_eq_none h1] at this
      simp at this
      omega

theorem trodAll_below {H : Type} {enc : TypeId × Value → H} (hl : laidOutB P = true) {W W' : World} (hb : Below W.heap.size W W') : ∀ (ts : List TypeId) (vs : List Value) (ds : List (DataW H)) (ps : List MemPlace),
    (∀ t ∈ ts, P.readableRec t = true ∧ t < P.types.size) → DataW.TrodAll enc P W 0 (fun _ => true) true ts vs ds ps → (∀ x ∈ ps, x.block < W.heap.size) →
    DataW.TrodAll enc P W' 0 (fun b => decide (b < W.heap.size)) true ts vs ds ps := by
  intro ts
  induction ts with
  | nil =>
    intro vs ds ps _ h _
    obtain ⟨rfl, rfl, rfl⟩ := trodAll_nil h
    exact trodAll_mk0
  | cons t ts ih =>
    intro vs ds ps ht h hlt
    obtain ⟨v, vs1, d, ds1, a, b, rfl, rfl, rfl, h1, h2⟩ := trodAll_cons h
    refine trodAll_cons_mk ?_ (ih _ _ _ (fun t' h' => ht t' (List.mem_cons_of_mem _ h')) h2 fun x hx => hlt x (List.mem_append_right _ hx))
    exact Below.trod hl (ht t (List.mem_cons_self ..)).1 (ht t (List.mem_cons_self ..)).2 h1 hb fun x hx => hlt x (List.mem_append_left _ hx)

/- What a row of this kind asks behind the call. -/
theorem post_of_below {H : Type} {enc : TypeId × Value → H} {f : Func} {s : ChangeSpec} {W W' : World} {args : Array Value} {ds gs : List (DataW H)} {before : List MemPlace} {tb : TypeId}
    (hl : laidOutB P = true) (hp : ∀ t ∈ f.params.toList, P.readableRec t = true ∧ t < P.types.size) (hv : s.vars = []) (htb : P.underlying tb = some .bool) (hrt : f.resultTypes = #[tb])
    (hW : DataW.Whole enc P f.params.toList s.vars false W args.toList ds gs before) (hs : ∀ ds : List (DataW H), ds.length = f.params.size → s.fn H ds = { results := [.lit (.bool true)], args := ds })
    (hb : Below W.heap.size W W') : s.post enc P f false true false false W args (.bool true) W' := by
  have hW' := hW
  obtain ⟨p, q, hA, hV, rfl, hfz, hnd⟩ := hW
  rw [hv] at hV
  obtain ⟨rfl, rfl⟩ := trodVars_none hV
  have hlen : ∀ (ts : List TypeId) (vs : List Value) (ds : List (DataW H)) (ps : List MemPlace), DataW.TrodAll enc P W 0 (fun _ => true) true ts vs ds ps → ds.length = ts.length := by
    intro ts
    induction ts with
    | nil => intro vs ds ps h; obtain ⟨_, rfl, _⟩ := trodAll_nil h; rfl
    | cons t ts ih =>
      intro vs ds ps h
      obtain ⟨v, vs1, d, ds1, a, b, rfl, rfl, rfl, h1, h2⟩ := trodAll_cons h
      simp [ih _ _ _ h2]
  have hs1 := hs ds (by rw [hlen _ _ _ _ hA]; simp)
  have hlt : ∀ x ∈ p, x.block < W.heap.size := fun x hx => by simpa using hW'.lt x (by simp [hx])
  refine ⟨ds, [], p ++ [], [], p, [], hW', ?_, ?_, ?_, hb.frame _, fun h => by cases h⟩
  · rw [List.append_nil, hs1, hrt]
    exact trodAll_cons_mk (shut_bool htb _) trodAll_mk0
  · rw [List.append_nil, hs1]
    exact trodAll_below hl hb _ _ _ _ hp hA hlt
  · rw [List.append_nil, hs1, hv]
    exact hV

/- ------------------------------------------------ a run with answers that are owed -/
abbrev Owed := List (Nat × FuncId × List AV)

def owedOp (ans : Nat → Option AV) (o : AOper) (ρ : Env) : Option (AV × Nat × FuncId × List AV) :=
  match o.dst, o.op with
  | some d, .call f args => match ans d with
    | some v => some (v, d, f, args.map (·.ev ρ))
    | none => none
  | _, _ => none

def runOpsT (ans : Nat → Option AV) (call : Caller) : List AOper → Env → AState → Option (Env × AState × Owed)
  | [], ρ, σ => some (ρ, σ, [])
  | o :: r, ρ, σ => match o.wants ρ with
    | some true => match owedOp ans o ρ with
      | some (v, w) => match runOpsT ans call r (ρ.put o.dst v) σ with
        | some (ρ', σ', l) => some (ρ', σ', w :: l)
        | none => none
      | none => match runOp call o.op ρ σ with
        | some (v, σ') => runOpsT ans call r (ρ.put o.dst v) σ'
        | none => none
    | some false => runOpsT ans call r (ρ.put o.dst (.tup [])) σ
    | none => none

def findSlotsT (ans : Nat → Option AV) (base : Nat) (sl : List Nat) (σ : AState) : List AOper → Nat → Env → List (Nat × List AV)
  | [], _, _ => []
  | o :: r, i, ρ =>
    let e := envOf ρ o.tmps
    match o.wants e with
    | some false => bif sl.contains i then (i, []) :: findSlotsT ans base sl σ r (i + 1) (ρ.put o.dst (.tup [])) else findSlotsT ans base sl σ r (i + 1) (ρ.put o.dst (.tup []))
    | none => bif sl.contains i then (i, []) :: findSlotsT ans base sl σ r (i + 1) (ρ.put o.dst .undef) else findSlotsT ans base sl σ r (i + 1) (ρ.put o.dst .undef)
    | some true =>
      bif sl.contains i then
        match allocD o.op e with
        | some (cs, f) => (i, cs) :: findSlotsT ans base sl σ r (i + 1) (ρ.put o.dst (f (base + i)))
        | none => (i, []) :: findSlotsT ans base sl σ r (i + 1) (ρ.put o.dst .undef)
      else bif o.op.quiet then
        match evalA o.op e σ with
        | some (v, _) => findSlotsT ans base sl σ r (i + 1) (ρ.put o.dst v)
        | none => findSlotsT ans base sl σ r (i + 1) (ρ.put o.dst .undef)
      else match owedOp ans o e with
        | some (v, _) => findSlotsT ans base sl σ r (i + 1) (ρ.put o.dst v)
        | none => findSlotsT ans base sl σ r (i + 1) (ρ.put o.dst .undef)

def runDT (ans : Nat → Option AV) (call : Caller) (base : Nat) (slots : List (Nat × List AV)) : List AOper → Nat → Env → AState → List (Nat × AState) → List (Nat × AOp × Env × AV) →
    Option (Env × AState × List (Nat × AState) × List (Nat × AOp × Env × AV) × Owed)
  | [], _, ρ, σ, cuts, loads => some (ρ, σ, cuts, loads, [])
  | o :: r, i, ρ, σ, cuts, loads =>
    match o.wants (envOf ρ o.tmps) with
    | none => none
    | some false => runDT ans call base slots r (i + 1) (ρ.put o.dst (.tup [])) σ (bif o.op.quiet || isSlot slots i then cuts else (i + 1, σ) :: cuts) loads
    | some true =>
      match slotOf slots i with
      | some cs => match allocD o.op (envOf ρ o.tmps) with
        | some (cs', f) => bif AV.beqL cs' cs then runDT ans call base slots r (i + 1) (ρ.put o.dst (f (base + i))) σ cuts loads else none
        | none => none
      | none =>
        bif o.op.pure then (match evalP o.op (envOf ρ o.tmps) with
          | some v => runDT ans call base slots r (i + 1) (ρ.put o.dst v) σ cuts loads
          | none => none)
        else bif o.op.reader then (match evalA o.op (envOf ρ o.tmps) σ with
          | some (v, _) => runDT ans call base slots r (i + 1) (ρ.put o.dst v) σ cuts ((i, o.op, envOf ρ o.tmps, v) :: loads)
          | none => none)
        else match owedOp ans o (envOf ρ o.tmps) with
          | some (v, w) => match runDT ans call base slots r (i + 1) (ρ.put o.dst v) σ ((i + 1, σ) :: cuts) loads with
            | some (ρ2, σ2, c2, l2, ow) => some (ρ2, σ2, c2, l2, w :: ow)
            | none => none
          | none => match runOp call o.op (envOf ρ o.tmps) σ with
            | some (v, σ') => runDT ans call base slots r (i + 1) (ρ.put o.dst v) σ' ((i + 1, σ') :: cuts) loads
            | none => none

def runT (ans : Nat → Option AV) (call : Caller) : Nat → ACode → Env → AState → Option (AExit × Env × AState × Owed)
  | 0, _, _, _ => none
  | n + 1, c, ρ, σ =>
    match c with
    | .reg ops => match runOpsT ans call ops ρ σ with
      | some (ρ', σ', l) => some (.normal, ρ', σ', l)
      | none => none
    | .seq a b => match runT ans call n a ρ σ with
      | some (.normal, ρ', σ', l) => match runT ans call n b ρ' σ' with
        | some (e, ρ2, σ2, l2) => some (e, ρ2, σ2, l ++ l2)
        | none => none
      | r => r
    | .cond o a b => match o.ev ρ with
      | .bool t => bif t then runT ans call n a ρ σ else runT ans call n b ρ σ
      | _ => none
    | .dreg ops acts B sl =>
      let slots := findSlotsT ans σ.n sl σ ops 0 ρ
      bif slots.map (·.1) == sl then
        match runDT ans call σ.n slots ops 0 ρ (addSlots σ.n ops.length σ slots) [(0, addSlots σ.n ops.length σ slots)] [] with
        | some (ρ', σ', cuts, loads, l) => bif chkD acts B σ.n slots cuts loads then some (.normal, ρ', σ', l) else none
        | none => none
      else none
    | .block id a => match runT ans call n a ρ σ with
      | some (.exit i, ρ', σ', l) => bif Nat.beq i id then some (.normal, ρ', σ', l) else some (.exit i, ρ', σ', l)
      | r => r
    | c => match runC call n c ρ σ with
      | some (e, ρ', σ') => some (e, ρ', σ', [])
      | none => none

/- A law's run: the answer and what is owed. -/
def runL (ans : Nat → Option AV) (call : Caller) (n : Nat) (af : AFun) (args : List AV) : Option (AV × Owed) :=
  match runT ans call n af.body (Env.ofArgs args 0) st0 with
  | some (.exit _, _, _, _) => none
  | some (_, ρ, σ', l) => (retA ρ σ' af.rets).map (·, l)
  | none => none

def Pays (P : Program) (ans : Nat → Option AV) (l : Owed) : Prop := ∀ x ∈ l, ∀ v, ans x.1 = some v → ∀ σ, AC P x.2.1 x.2.2 σ fun v' s' => v' = v ∧ s' = σ

theorem runOpsT_ok {ans : Nat → Option AV} {call : Caller} (hc : CallOk P call) : ∀ (l : List AOper) (ρ : Env) (σ : AState) (ρ' : Env) (σ' : AState) (ow : Owed), runOpsT ans call l ρ σ = some (ρ', σ', ow) → Pays P ans ow →
    wpOpsA P l (fun r s => r = ρ' ∧ s = σ') ρ σ := by
  intro l
  induction l with
  | nil => intro ρ σ ρ' σ' ow h _; simp only [runOpsT, Option.some.injEq, Prod.mk.injEq] at h; exact ⟨h.1, h.2.1⟩
  | cons o r ih =>
    intro ρ σ ρ' σ' ow h hp
    simp only [runOpsT] at h
    simp only [wpOpsA]
    split at h
    · rename_i e
      simp only [e]
      split at h
      · rename_i v w ho
        split at h
        · rename_i ρ2 σ2 l2 h2
          simp only [Option.some.injEq, Prod.mk.injEq] at h
          obtain ⟨rfl, rfl, rfl⟩ := h
          unfold owedOp at ho
          split at ho
          · rename_i d f args hd hop
            split at ho
            · rename_i v' hv'
              simp only [Option.some.injEq, Prod.mk.injEq] at ho
              obtain ⟨rfl, rfl⟩ := ho
              have := hp (d, f, args.map (·.ev ρ)) (List.mem_cons_self ..) v' hv' σ
              rw [hop]
              refine AC.mono this ?_
              rintro v s ⟨rfl, rfl⟩
              exact ih _ _ _ _ _ h2 fun x hx => hp x (List.mem_cons_of_mem _ hx)
            · cases ho
          · cases ho
        · cases h
      · split at h
        · rename_i v s hv
          refine stepA_mono (runOp_ok hc hv) ?_
          rintro v' s' ⟨rfl, rfl⟩
          exact ih _ _ _ _ _ h hp
        · cases h
    · rename_i e; simp only [e]; exact ih _ _ _ _ _ h hp
    · cases h

theorem owed_step {ans : Nat → Option AV} {o : AOper} {ρ : Env} {σ : AState} {v : AV} {w : Nat × FuncId × List AV} (ho : owedOp ans o ρ = some (v, w)) {l : Owed} (hp : Pays P ans (w :: l)) : stepX P o.op ρ σ v σ := by
  unfold owedOp at ho
  split at ho
  · rename_i d f args hd hop
    split at ho
    · rename_i v' hv'
      simp only [Option.some.injEq, Prod.mk.injEq] at ho
      obtain ⟨rfl, rfl⟩ := ho
      have := hp (d, f, args.map (·.ev ρ)) (List.mem_cons_self ..) v' hv' σ
      unfold stepX
      rw [hop]
      exact this
    · cases ho
  · cases ho

theorem runDT_ok {ans : Nat → Option AV} {call : Caller} (hc : CallOk P call) {base : Nat} {slots : List (Nat × List AV)} : ∀ (l : List AOper) (i : Nat) (ρ : Env) (σ : AState) (cuts : List (Nat × AState)) (loads : List (Nat × AOp × Env × AV)) (ρ' : Env) (σ' : AState)
    (cuts' : List (Nat × AState)) (loads' : List (Nat × AOp × Env × AV)) (ow : Owed), runDT ans call base slots l i ρ σ cuts loads = some (ρ', σ', cuts', loads', ow) → Pays P ans ow →
    dgo P base slots l i ρ σ cuts loads fun r s c d => r = ρ' ∧ s = σ' ∧ c = cuts' ∧ d = loads' := by
  intro l
  induction l with
  | nil => intro i ρ σ cuts loads ρ' σ' cuts' loads' ow h _; simp only [runDT, Option.some.injEq, Prod.mk.injEq] at h; exact ⟨h.1, h.2.1, h.2.2.1, h.2.2.2.1⟩
  | cons o r ih =>
    intro i ρ σ cuts loads ρ' σ' cuts' loads' ow h hpay
    simp only [runDT] at h
    simp only [dgo]
    split at h
    · cases h
    · rename_i e; simp only [e]; exact ih _ _ _ _ _ _ _ _ _ _ h hpay
    · rename_i e
      simp only [e]
      split at h
      · rename_i cs es
        simp only [es]
        split at h
        · rename_i cs' f ha
          simp only [ha]
          cases hb : AV.beqL cs' cs with
          | false => rw [hb] at h; cases h
          | true => rw [hb] at h; exact ⟨AV.beqL_eq _ _ hb, ih _ _ _ _ _ _ _ _ _ _ h hpay⟩
        · cases h
      · rename_i es
        simp only [es]
        cases hp : o.op.pure with
        | true =>
          rw [hp] at h
          simp only [cond_true] at h ⊢
          split at h
          · rename_i v ev; simp only [ev]; exact ih _ _ _ _ _ _ _ _ _ _ h hpay
          · cases h
        | false =>
          rw [hp] at h
          simp only [cond_false] at h ⊢
          cases hrd : o.op.reader with
          | true =>
            rw [hrd] at h
            simp only [cond_true] at h ⊢
            split at h
            · rename_i v s ev; simp only [ev]; exact ih _ _ _ _ _ _ _ _ _ _ h hpay
            · cases h
          | false =>
            rw [hrd] at h
            simp only [cond_false] at h ⊢
            split at h
            · rename_i v w how
              split at h
              · rename_i ρ2 σ2 c2 l2 ow2 h2
                simp only [Option.some.injEq, Prod.mk.injEq] at h
                obtain ⟨rfl, rfl, rfl, rfl, rfl⟩ := h
                exact ⟨v, σ, owed_step how hpay, ih _ _ _ _ _ _ _ _ _ _ h2 fun x hx => hpay x (List.mem_cons_of_mem _ hx)⟩
              · cases h
            · split at h
              · rename_i v s hv
                exact ⟨v, s, runOp_ok hc hv, ih _ _ _ _ _ _ _ _ _ _ h hpay⟩
              · cases h

theorem Pays.left {ans : Nat → Option AV} {a b : Owed} (h : Pays P ans (a ++ b)) : Pays P ans a := fun x hx => h x (List.mem_append_left _ hx)
theorem Pays.right {ans : Nat → Option AV} {a b : Owed} (h : Pays P ans (a ++ b)) : Pays P ans b := fun x hx => h x (List.mem_append_right _ hx)

theorem runT_ok {ans : Nat → Option AV} {call : Caller} (hfollow : P.follows .mixedOrders = true) (hc : CallOk P call) {N : Nat} : ∀ (n : Nat) (c : ACode) (ρ : Env) (σ : AState) (e : AExit) (ρ' : Env) (σ' : AState) (ow : Owed),
    runT ans call n c ρ σ = some (e, ρ', σ', ow) → Pays P ans ow → SimA P N c (fun e1 r s => e1 = e ∧ r = ρ' ∧ s = σ') ρ σ := by
  intro n
  induction n with
  | zero => intro c ρ σ e ρ' σ' ow h; cases h
  | succ n ih =>
    intro c ρ σ e ρ' σ' ow h hp
    have other : (match runC call n c ρ σ with | some (e, ρ', σ') => some (e, ρ', σ', ([] : Owed)) | none => none) = some (e, ρ', σ', ow) → SimA P N c (fun e1 r s => e1 = e ∧ r = ρ' ∧ s = σ') ρ σ := by
      intro h
      split at h
      · rename_i e1 r1 s1 hr
        simp only [Option.some.injEq, Prod.mk.injEq] at h
        obtain ⟨rfl, rfl, rfl, rfl⟩ := h
        exact runC_ok hfollow hc n c ρ σ _ _ _ hr
      · cases h
    cases c with
    | reg ops =>
      simp only [runT] at h
      split at h
      · rename_i r s l hr
        simp only [Option.some.injEq, Prod.mk.injEq] at h
        obtain ⟨rfl, rfl, rfl, rfl⟩ := h
        refine a_reg ?_
        exact wpOpsA_mono _ _ _ _ _ (fun r s h => ⟨rfl, h.1, h.2⟩) (runOpsT_ok hc _ _ _ _ _ _ hr hp)
      · cases h
    | seq a b =>
      simp only [runT] at h
      refine a_seq ?_
      split at h
      · rename_i r s l hr
        split at h
        · rename_i e2 r2 s2 l2 hr2
          simp only [Option.some.injEq, Prod.mk.injEq] at h
          obtain ⟨rfl, rfl, rfl, rfl⟩ := h
          refine (ih a ρ σ _ _ _ _ hr hp.left).mono ?_
          rintro e1 r1 s1 ⟨rfl, rfl, rfl⟩
          exact ih b _ _ _ _ _ _ hr2 hp.right
        · cases h
      · rename_i hne
        refine (ih a ρ σ _ _ _ _ h hp).mono ?_
        rintro e1 r1 s1 ⟨rfl, rfl, rfl⟩
        cases e1 with
        | normal => exact absurd h (hne _ _ _)
        | _ => exact ⟨rfl, rfl, rfl⟩
    | cond o a b =>
      simp only [runT] at h
      split at h
      · rename_i t ht
        refine a_cond ht ?_
        cases t with
        | true => exact ih a _ _ _ _ _ _ h hp
        | false => exact ih b _ _ _ _ _ _ h hp
      · cases h
    | block id a =>
      simp only [runT] at h
      refine a_block ?_
      split at h
      · rename_i i r s l hr
        have hl : l = ow := by
          cases hi : Nat.beq i id <;> rw [hi] at h <;> simp only [cond_true, cond_false, Option.some.injEq, Prod.mk.injEq] at h <;> exact h.2.2.2
        subst hl
        refine (ih a ρ σ _ _ _ _ hr hp).mono ?_
        rintro e1 r1 s1 ⟨rfl, rfl, rfl⟩
        simp only [AExit.inBlock]
        cases hi : Nat.beq i id with
        | true =>
          rw [hi] at h
          have := Nat.eq_of_beq_eq_true hi
          simp only [cond_true, Option.some.injEq, Prod.mk.injEq] at h
          rw [if_pos this]
          exact ⟨h.1, h.2.1, h.2.2.1⟩
        | false =>
          rw [hi] at h
          have : ¬ i = id := fun e => by subst e; simp at hi
          simp only [cond_false, Option.some.injEq, Prod.mk.injEq] at h
          rw [if_neg this]
          exact ⟨h.1, h.2.1, h.2.2.1⟩
      · rename_i hne
        refine (ih a ρ σ _ _ _ _ h hp).mono ?_
        rintro e1 r1 s1 ⟨rfl, rfl, rfl⟩
        cases e1 with
        | exit i => exact absurd h (hne _ _ _ _)
        | _ => exact ⟨rfl, rfl, rfl⟩
    | skip => exact other h
    | exit id => exact other h
    | ret => exact other h
    | bad => exact other h
    | loop a => exact other h
    | dreg ops acts B sl =>
      simp only [runT] at h
      cases hb : ((findSlotsT ans σ.n sl σ ops 0 ρ).map (·.1) == sl) with
      | false => rw [hb] at h; cases h
      | true =>
        rw [hb] at h
        simp only [cond_true] at h
        split at h
        · rename_i r s cuts loads l hr
          cases hk : chkD acts B σ.n (findSlotsT ans σ.n sl σ ops 0 ρ) cuts loads with
          | false => rw [hk] at h; cases h
          | true =>
            rw [hk] at h
            simp only [cond_true, Option.some.injEq, Prod.mk.injEq] at h
            obtain ⟨rfl, rfl, rfl, rfl⟩ := h
            refine a_dreg hfollow _ (by simpa using hb) (dgo_mono ?_ _ _ _ _ _ _ (runDT_ok hc _ _ _ _ _ _ _ _ _ _ _ hr hp))
            rintro r s c d ⟨rfl, rfl, rfl, rfl⟩
            exact ⟨chkD_ok hk, rfl, rfl, rfl⟩
        · cases h

theorem runL_ok {ans : Nat → Option AV} {call : Caller} (hfollow : P.follows .mixedOrders = true) (hc : CallOk P call) {n : Nat} {f : FuncId} {fn : Func} {af : AFun} {args : List AV} {v : AV} {ow : Owed}
    (hf : P.funcs[f]? = some fn) (hcf : compF P fn = some af) (hca : callable P f = true) (hn : args.length = af.n) (h : runL ans call n af args = some (v, ow)) (hp : Pays P ans ow) :
    AC P f args st0 fun v' _ => v' = v := by
  refine ac_of_fun hf hcf hca hn ?_
  unfold runL at h
  split at h
  · cases h
  · rename_i e ρ s l hne hr
    simp only [Option.map_eq_some_iff, Prod.mk.injEq] at h
    obtain ⟨v', h1, rfl, rfl⟩ := h
    refine (runT_ok hfollow hc n af.body _ _ _ _ _ _ hr hp).mono ?_
    rintro e1 r1 s1 ⟨rfl, rfl, rfl⟩
    exact ⟨fun i hi => by subst hi; exact hne _ rfl, v', h1, rfl⟩
  · cases h

def isYes : AV → Bool
  | .bool true => true
  | _ => false
theorem isYes_eq {v : AV} (h : isYes v = true) : v = .bool true := by
  unfold isYes at h
  split at h
  · rfl
  · cases h

/- ------------------------------------------------ 'within': a number from 0 to n - 1 -/
def wi (x n : Int) : Int := if x.tmod n < 0 then x.tmod n + n else x.tmod n
theorem wi_range (x : Int) {n : Int} (h : 0 < n) : 0 ≤ wi x n ∧ wi x n < n := by
  unfold wi
  have h1 := Int.tmod_lt_of_pos x h
  have h2 : -n < x.tmod n := by
    rcases (by omega : x < 0 ∨ x ≥ 0) with hx | hx
    · have := Int.tmod_lt_of_pos (-x) h
      rw [Int.neg_tmod] at this
      omega
    · have := Int.tmod_nonneg n hx
      omega
  split <;> omega

def withinBody : ACode := .seq (.reg [⟨(some 4), (.mv (.con (.int .i64 0))), none⟩])
 (.seq (.reg [⟨(some 6), (.mv (.tmp 0)), none⟩, ⟨(some 7), (.mv (.tmp 1)), none⟩, ⟨(some 8), (.bin .rem .plain (.tmp 6) (.tmp 7)), none⟩, ⟨(some 5), (.mv (.tmp 8)), none⟩])
 (.seq (.seq (.reg [⟨(some 9), (.mv (.tmp 5)), none⟩, ⟨(some 10), (.bin .lss .plain (.tmp 9) (.con (.int .i64 0))), none⟩])
 (.cond (.tmp 10)
 (.reg [⟨(some 11), (.mv (.tmp 5)), none⟩, ⟨(some 12), (.mv (.tmp 1)), none⟩, ⟨(some 13), (.bin .add .plain (.tmp 11) (.tmp 12)), none⟩, ⟨(some 5), (.mv (.tmp 13)), none⟩])
 .skip))
 (.seq (.reg [⟨(some 14), (.mv (.tmp 5)), none⟩, ⟨(some 4), (.mv (.tmp 14)), none⟩])
 .ret)))
def withinFun : AFun := ⟨2, 15, withinBody, [(.tmp 4)]⟩

theorem within_sim {N : Nat} {x n : Int} {σ : AState} (h0 : 0 < n) (h1 : n < 4611686018427387904) :
    SimA P N withinBody (fun e ρ s => e = .ret ∧ s = σ ∧ ρ.rd 4 = .int .i64 (wi x n)) (Env.ofArgs [.int .i64 x, .int .i64 n] 0) σ := by
  have hr := wi_range x h0
  have hn : ¬ n = 0 := by omega
  refine a_seq (a_reg ?_)
  simp only [wpOpsA, AOper.wants, stepA, evalA, Opd.ev, Env.put]
  refine a_seq (a_reg ?_)
  simp [wpOpsA, AOper.wants, stepA, evalA, Opd.ev, Env.put, Env.ofArgs, Env.rd, evalBin, evalInt, hn]
  refine a_seq (a_seq (a_reg ?_))
  simp [wpOpsA, AOper.wants, stepA, evalA, Opd.ev, Env.put, Env.ofArgs, Env.rd, evalBin, evalInt]
  refine a_cond (b := decide (x.tmod n < 0)) (by simp [Opd.ev, Env.rd]) ?_
  have hfin : ∀ ρ : Env, ρ.rd 5 = .int .i64 (wi x n) → SimA P N (.seq (.reg [⟨(some 14), (.mv (.tmp 5)), none⟩, ⟨(some 4), (.mv (.tmp 14)), none⟩]) .ret) (fun e ρ s => e = .ret ∧ s = σ ∧ ρ.rd 4 = .int .i64 (wi x n)) ρ σ := by
    intro ρ h
    refine a_seq (a_reg ?_)
    simp only [wpOpsA, AOper.wants, stepA, evalA, Opd.ev, Env.put]
    refine a_ret ⟨rfl, rfl, ?_⟩
    simp [Env.rd] at h ⊢
    exact h
  by_cases hx : x.tmod n < 0
  · simp only [hx, decide_true, if_true]
    refine a_reg ?_
    have hw : IntKind.i64.wrap (x.tmod n + n) = wi x n := by
      have : wi x n = x.tmod n + n := by simp [wi, hx]
      rw [this] at hr
      rw [wrap_small hr.1 (by omega), this]
    simp [wpOpsA, AOper.wants, stepA, evalA, Opd.ev, Env.put, Env.ofArgs, Env.rd, evalBin, evalInt, AExit.then, hw]
    exact hfin _ (by simp [Env.rd])
  · simp only [hx, decide_false]
    refine a_skip ?_
    simp only [AExit.then]
    exact hfin _ (by simp [Env.rd, wi, hx])

theorem within_ac {f : FuncId} {fn : Func} (hf : P.funcs[f]? = some fn) (hcf : compF P fn = some withinFun) (hca : callable P f = true) {x n : Int} {σ : AState} (h0 : 0 < n) (h1 : n < 4611686018427387904) :
    AC P f [.int .i64 x, .int .i64 n] σ fun v s => v = .int .i64 (wi x n) ∧ s = σ := by
  refine ac_of_fun hf hcf hca rfl ((within_sim h0 h1).mono ?_)
  rintro e ρ s ⟨rfl, rfl, h⟩
  exact ⟨(fun i h => nomatch h), _, by simp [retA, withinFun, rvs, RV.ev, h], rfl, rfl⟩
end Go.Proofs.Ythojhpjjkfjeiaa.Va
