/- Regions whose order is drawn: what holds in the text's order holds in each order, where a table says so. Conditions: none. -/
import Derived.Test.YthojhpjjkfjeiaaVaC
set_option linter.unusedSimpArgs false
set_option linter.unusedVariables false
namespace Go.Proofs.Ythojhpjjkfjeiaa.Va
variable {P : Program}

def Opd.tmps : Opd → List Nat
  | .tmp t => [t]
  | .con _ => []
def oTmps : Option Opd → List Nat
  | some x => x.tmps
  | none => []
def AOp.tmps : AOp → List Nat
  | .mv x | .box x | .load _ _ x | .nilck x | .un _ x | .cvInt _ x | .cvMark x | .cvSS x | .cvSB x | .cvBS x | .faddr _ x | .fld _ _ _ x | .range x | .next x | .ext x _ | .lenS x | .lenL x | .cap x => x.tmps
  | .pick a b c => a.tmps ++ b.tmps ++ c.tmps
  | .alloc _ | .bad => []
  | .build _ ps | .bslice _ _ _ ps => ps.flatMap fun p => p.2.2.tmps
  | .store _ a x | .bin _ _ a x | .mkslice _ _ _ a x | .appendZ _ _ _ a x | .iaddr _ a x | .iaddrA _ _ a x | .istr a x | .iarr _ _ _ a x | .append _ _ a x | .copy _ a x => a.tmps ++ x.tmps
  | .mkfn _ xs | .mn xs | .mx xs | .call _ xs => xs.flatMap Opd.tmps
  | .callv f xs => f.tmps ++ xs.flatMap Opd.tmps
  | .slStr x a b | .slArr _ _ x a b => x.tmps ++ oTmps a ++ oTmps b
  | .slSl _ x a b c => x.tmps ++ oTmps a ++ oTmps b ++ oTmps c
def AOper.tmps (o : AOper) : List Nat := o.op.tmps ++ (match o.guard with | some (t, _) => [t] | none => [])
/- Only what the operation looks at. -/
def envOf (ρ : Env) : List Nat → Env
  | [] => .nil
  | t :: r => (envOf ρ r).set t (some (ρ.rd t))
theorem envOf_get (ρ : Env) : ∀ (l : List Nat) (t : Nat), (envOf ρ l).get t = if t ∈ l then some (ρ.rd t) else none := by
  intro l
  induction l with
  | nil => intro t; simp [envOf]
  | cons a l ih =>
    intro t
    simp only [envOf, Tr.get_set, ih, List.mem_cons]
    by_cases h : t = a
    · subst h; simp
    · simp [h]

/- Operations that neither read nor turn memory; such as read it alone. -/
def AOp.pure : AOp → Bool
  | .mv _ | .pick _ _ _ | .build _ _ | .nilck _ | .bin _ _ _ _ | .un _ _ | .cvInt _ _ | .cvSS _ | .mkfn _ _ | .slStr _ _ _ | .slSl _ _ _ _ _ | .faddr _ _ | .fld _ _ _ _ | .iaddr _ _ _ | .iaddrA _ _ _ _
  | .istr _ _ | .iarr _ _ _ _ _ | .ext _ _ | .lenS _ | .lenL _ | .cap _ | .mn _ | .mx _ => true
  | _ => false
def AOp.reader : AOp → Bool
  | .load _ _ _ | .cvBS _ | .slArr _ _ _ _ _ => true
  | _ => false
def noMem : AState := ⟨0, .nil⟩
def evalP (o : AOp) (ρ : Env) : Option AV := (evalA o ρ noMem).map (·.1)

theorem evalP_ok {o : AOp} {ρ : Env} {v : AV} (hp : o.pure = true) (h : evalP o ρ = some v) (σ : AState) : evalA o ρ σ = some (v, σ) := by
  have key : ∀ (σ1 σ2 : AState), (evalA o ρ σ1).map (fun r => (r.1, σ2)) = evalA o ρ σ2 := by
    intro σ1 σ2
    cases o <;> first | (cases hp; done) | skip
    all_goals
      simp only [evalA]
      repeat' (first | rfl | (simp only [Option.map_map, Function.comp_def, Option.map_some, Option.map_none]; done) | split)
      all_goals (try simp only [Option.map_map, Function.comp_def, Option.map_some, Option.map_none])
    all_goals (simp only [cond_eq_ite]; (repeat' split) <;> simp [Option.map_map, Function.comp_def])
  unfold evalP at h
  simp only [Option.map_eq_some_iff] at h
  obtain ⟨r, h1, rfl⟩ := h
  have := key noMem σ
  rw [h1] at this
  simpa using this.symm

theorem reader_ok {o : AOp} {ρ : Env} {σ σ' : AState} {v : AV} (hp : o.reader = true) (h : evalA o ρ σ = some (v, σ')) : σ' = σ := by
  have hm : ∀ (x : Option AV), x.map (fun a => (a, σ)) = some (v, σ') → σ' = σ := by
    intro x h
    simp only [Option.map_eq_some_iff, Prod.mk.injEq] at h
    obtain ⟨_, _, _, e⟩ := h; exact e.symm
  cases o <;> first | (cases hp; done) | skip
  all_goals
    simp only [evalA, cond_eq_ite] at h
    repeat' (first | (cases h; done) | split at h)
    all_goals first | (cases h; done) | (simp only [Option.some.injEq, Prod.mk.injEq] at h; exact h.2.symm) | exact hm _ h | skip
    all_goals (simp only [Option.map_eq_some_iff, Prod.mk.injEq] at h; obtain ⟨_, _, _, e⟩ := h; exact e.symm)

/- ------------------------------------------------ which operations must stand ahead of which -/
def preds (o : Oper) : List Nat := (o.after.toList.filter (Region.binds .any)).map (·.on)
def befMask (acc : List Nat) : List Nat → Nat
  | [] => 0
  | j :: r => befMask acc r ||| 2 ^ j ||| acc.getD j 0
def befGo : List (List Nat) → List Nat → List Nat
  | [], acc => acc
  | p :: r, acc => befGo r (acc ++ [befMask acc p])

theorem befGo_old : ∀ (l : List (List Nat)) (acc : List Nat) (k : Nat), k < acc.length → (befGo l acc).getD k 0 = acc.getD k 0 := by
  intro l
  induction l with
  | nil => intro acc k _; rfl
  | cons p r ih =>
    intro acc k hk
    simp only [befGo]
    rw [ih _ _ (by simp; omega)]
    simp [List.getD, List.getElem?_append_left hk]
theorem befMask_bit : ∀ (ps : List Nat) (acc : List Nat) (j : Nat), (befMask acc ps).testBit j = true → ∃ p ∈ ps, j = p ∨ (acc.getD p 0).testBit j = true := by
  intro ps
  induction ps with
  | nil => intro acc j h; simp [befMask] at h
  | cons p r ih =>
    intro acc j h
    simp only [befMask, Nat.testBit_or, Bool.or_eq_true, Nat.testBit_two_pow, decide_eq_true_eq] at h
    rcases h with (h | h) | h
    · obtain ⟨q, hq, h⟩ := ih acc j h
      exact ⟨q, by simp [hq], h⟩
    · exact ⟨p, by simp, .inl h.symm⟩
    · exact ⟨p, by simp, .inr h⟩
theorem befGo_bit : ∀ (l : List (List Nat)) (acc : List Nat) (i j : Nat), i < l.length → ((befGo l acc).getD (acc.length + i) 0).testBit j = true →
    ∃ p ∈ l.getD i [], j = p ∨ (p < acc.length + i ∧ ((befGo l acc).getD p 0).testBit j = true) := by
  intro l
  induction l with
  | nil => intro acc i j hi; simp at hi
  | cons ps r ih =>
    intro acc i j hi h
    simp only [befGo] at h ⊢
    cases i with
    | zero =>
      rw [befGo_old _ _ _ (by simp)] at h
      have h' : (befMask acc ps).testBit j = true := by simpa [List.getD] using h
      obtain ⟨p, hp, hq⟩ := befMask_bit ps acc j h'
      refine ⟨p, by simpa using hp, ?_⟩
      rcases hq with hq | hq
      · exact .inl hq
      · have hlt : p < acc.length := by
          rcases Nat.lt_or_ge p acc.length with h | h
          · exact h
          · simp [List.getD, List.getElem?_eq_none h] at hq
        refine .inr ⟨by omega, ?_⟩
        rw [befGo_old _ _ _ (by simp; omega)]
        simpa [List.getD, List.getElem?_append_left hlt] using hq
    | succ i =>
      have := ih (acc ++ [befMask acc ps]) i j (by simpa using hi) (by simpa [Nat.add_assoc, Nat.add_comm 1 i] using h)
      simpa [Nat.add_assoc, Nat.add_comm 1 i] using this

/- What is listed is listed with all that must stand ahead of it. -/
theorem bef_listed {E : List (List Nat)} {S : Nat → Bool} (hD : ∀ i, S i = true → ∀ p ∈ E.getD i [], S p = true) : ∀ (i : Nat), i < E.length → (∀ p ∈ E.getD i [], S p = true) →
    ∀ j, ((befGo E []).getD i 0).testBit j = true → S j = true := by
  intro i
  induction i using Nat.strongRecOn with
  | _ i ih =>
    intro hi hall j hj
    obtain ⟨p, hp, h⟩ := befGo_bit E [] i j hi (by simpa using hj)
    have hsp := hall p hp
    rcases h with rfl | ⟨hlt, hb⟩
    · exact hsp
    · simp only [List.length_nil, Nat.zero_add] at hlt
      exact ih p hlt (by omega) (hD p hsp) j hb

/- ------------------------------------------------ the table's own test -/
def bit (B : List Nat) (i j : Nat) : Bool := (B.getD i 0).testBit j
def isSlot (slots : List (Nat × List AV)) (i : Nat) : Bool := slots.any fun s => s.1 == i
def slotOf : List (Nat × List AV) → Nat → Option (List AV)
  | [], _ => none
  | s :: r, i => bif Nat.beq s.1 i then some s.2 else slotOf r i
def AOp.quiet (o : AOp) : Bool := o.pure || o.reader
/- The operations that may turn memory, by their numbers. -/
def actsOf (sl : List Nat) : List AOper → Nat → List Nat
  | [], _ => []
  | o :: r, i => bif o.op.quiet || sl.contains i then actsOf sl r (i + 1) else i :: actsOf sl r (i + 1)
def okPair (B : List Nat) (as : List AOper) (i j : Nat) : Bool :=
  match as[i]?, as[j]? with
  | some a, some b => (Nat.beq i j) || (match b.dst with
      | some d => !(a.tmps.contains d || a.dst == some d) || (bif Nat.blt j i then bit B i j else bit B j i)
      | none => true)
  | _, _ => true
def dOk (E : List (List Nat)) (B : List Nat) (as : List AOper) (acts sl : List Nat) : Bool :=
  let m := as.length
  Nat.beq E.length m && (List.range m).all (fun i => (E.getD i []).all fun p => Nat.blt p i) &&
  (List.range m).all (fun i => (List.range m).all fun j => okPair B as i j) &&
  acts.all (fun i => acts.all fun j => Nat.ble i j || bit B i j) &&
  sl.all (fun i => Nat.blt i m)

theorem dOk_spec {E : List (List Nat)} {B : List Nat} {as : List AOper} {acts sl : List Nat} (h : dOk E B as acts sl = true) :
    E.length = as.length ∧ (∀ i, i < as.length → ∀ p ∈ E.getD i [], p < i) ∧
    (∀ i j a b d, as[i]? = some a → as[j]? = some b → i ≠ j → b.dst = some d → (d ∈ a.tmps ∨ a.dst = some d) → (j < i → bit B i j = true) ∧ (i < j → bit B j i = true)) ∧
    (∀ i ∈ acts, ∀ j ∈ acts, j < i → bit B i j = true) ∧ (∀ i ∈ sl, i < as.length) := by
  unfold dOk at h
  simp only [Bool.and_eq_true, List.all_eq_true, List.mem_range] at h
  obtain ⟨⟨⟨⟨h1, h2⟩, h3⟩, h4⟩, h5⟩ := h
  refine ⟨Nat.eq_of_beq_eq_true h1, fun i hi p hp => ?_, fun i j a b d ha hb hne hd hm => ?_, fun i hi j hj hlt => ?_, fun i hi => ?_⟩
  · have := h2 i hi p hp
    exact Nat.le_of_ble_eq_true this
  · have hi : i < as.length := (List.getElem?_eq_some_iff.1 ha).1
    have hj : j < as.length := (List.getElem?_eq_some_iff.1 hb).1
    have := h3 i hi j hj
    unfold okPair at this
    rw [ha, hb] at this
    simp only [hd, Bool.or_eq_true] at this
    rcases this with this | this | this
    · exact absurd (Nat.eq_of_beq_eq_true this) hne
    · exfalso
      simp only [Bool.not_eq_true', Bool.or_eq_false_iff] at this
      rcases hm with hm | hm
      · have h1 := this.1
        simp [hm] at h1
      · have h1 := this.2
        simp [hm] at h1
    · constructor
      · intro hlt
        have hb1 : Nat.blt j i = true := Nat.ble_eq_true_of_le hlt
        rw [hb1] at this; exact this
      · intro hlt
        have hb1 : Nat.blt j i = false := by
          cases hb : Nat.blt j i with
          | false => rfl
          | true => have := Nat.le_of_ble_eq_true hb; omega
        rw [hb1] at this; exact this
  · have := h4 i hi j hj
    simp only [Bool.or_eq_true] at this
    rcases this with this | this
    · have := Nat.le_of_ble_eq_true this; omega
    · exact this
  · have := h5 i hi
    exact Nat.le_of_ble_eq_true this

/- ------------------------------------------------ the run in the text's order -/
theorem stepA_of_eval {o : AOp} {ρ : Env} {σ σ' : AState} {v : AV} {k : AV → AState → Prop} (h : evalA o ρ σ = some (v, σ')) (hk : k v σ') : stepA P o ρ σ k := by
  cases o <;> first | (simp [evalA] at h; done) | (simp only [stepA, h]; exact hk)
def stepX (P : Program) (o : AOp) (ρ : Env) (σ : AState) (v : AV) (σ' : AState) : Prop := stepA P o ρ σ fun v' s' => v' = v ∧ s' = σ'

def dgo (P : Program) (base : Nat) (slots : List (Nat × List AV)) : List AOper → Nat → Env → AState → List (Nat × AState) → List (Nat × AOp × Env × AV) →
    (Env → AState → List (Nat × AState) → List (Nat × AOp × Env × AV) → Prop) → Prop
  | [], _, ρ, σ, cuts, loads, k => k ρ σ cuts loads
  | o :: r, i, ρ, σ, cuts, loads, k =>
    match o.wants (envOf ρ o.tmps) with
    | none => False
    | some false => dgo P base slots r (i + 1) (ρ.put o.dst (.tup [])) σ (bif o.op.quiet || isSlot slots i then cuts else (i + 1, σ) :: cuts) loads k
    | some true =>
      match slotOf slots i with
      | some cs => match allocD o.op (envOf ρ o.tmps) with
        | some (cs', f) => cs' = cs ∧ dgo P base slots r (i + 1) (ρ.put o.dst (f (base + i))) σ cuts loads k
        | none => False
      | none =>
        bif o.op.pure then (match evalP o.op (envOf ρ o.tmps) with
          | some v => dgo P base slots r (i + 1) (ρ.put o.dst v) σ cuts loads k
          | none => False)
        else bif o.op.reader then (match evalA o.op (envOf ρ o.tmps) σ with
          | some (v, _) => dgo P base slots r (i + 1) (ρ.put o.dst v) σ cuts ((i, o.op, envOf ρ o.tmps, v) :: loads) k
          | none => False)
        else ∃ v σ', stepX P o.op (envOf ρ o.tmps) σ v σ' ∧ dgo P base slots r (i + 1) (ρ.put o.dst v) σ' ((i + 1, σ') :: cuts) loads k

/- May operation i stand where just the operations ahead of p have turned memory? -/
def feas (acts B : List Nat) (i p : Nat) : Bool := acts.all fun j => (!(bit B i j) || Nat.blt j p) && (!(bit B j i) || !(Nat.blt j p))

def addSlots (base m : Nat) (σ : AState) (slots : List (Nat × List AV)) : AState :=
  { n := σ.n + m, h := slots.foldr (fun s h => h.set (base + s.1) (some (.cells s.2))) σ.h }

def dchk (acts B : List Nat) (base : Nat) (slots : List (Nat × List AV)) (cuts : List (Nat × AState)) (loads : List (Nat × AOp × Env × AV)) : Prop :=
  (∀ l ∈ loads, ∀ c ∈ cuts, feas acts B l.1 c.1 = true → (evalA l.2.1 l.2.2.1 c.2).map (·.1) = some l.2.2.2) ∧
  (∀ s ∈ slots, ∀ c ∈ cuts, feas acts B s.1 c.1 = true → base + s.1 < c.2.n ∧ c.2.h.get (base + s.1) = some (.cells s.2))

/- What is known of one operation of the run. -/
def Fact (P : Program) (base : Nat) (slots : List (Nat × List AV)) (i : Nat) (o : AOper) (e : Env) (v : AV) (σ σ' : AState) : Prop :=
  (o.wants e = some false ∧ v = .tup [] ∧ σ' = σ) ∨
  (o.wants e = some true ∧
    ((∃ cs f, slotOf slots i = some cs ∧ allocD o.op e = some (cs, f) ∧ v = f (base + i) ∧ σ' = σ) ∨
     (slotOf slots i = none ∧ o.op.pure = true ∧ evalP o.op e = some v ∧ σ' = σ) ∨
     (slotOf slots i = none ∧ o.op.pure = false ∧ o.op.reader = true ∧ evalA o.op e σ = some (v, σ) ∧ σ' = σ) ∨
     (slotOf slots i = none ∧ o.op.pure = false ∧ o.op.reader = false ∧ stepX P o.op e σ v σ')))

def putAll (ρ : Env) : List AOper → List AV → Env
  | o :: r, v :: vs => putAll (ρ.put o.dst v) r vs
  | _, _ => ρ

theorem isSlot_iff {slots : List (Nat × List AV)} {i : Nat} : isSlot slots i = true ↔ ∃ cs, slotOf slots i = some cs := by
  induction slots with
  | nil => simp [isSlot, slotOf]
  | cons s r ih =>
    simp only [isSlot, List.any_cons, slotOf] at ih ⊢
    cases h : Nat.beq s.1 i with
    | true => have := Nat.eq_of_beq_eq_true h; simp [this]
    | false =>
      have : ¬ s.1 = i := fun e => by subst e; simp at h
      simp only [cond_false, ← ih]
      simp [this]
theorem slotOf_mem {slots : List (Nat × List AV)} {i : Nat} {cs : List AV} (h : slotOf slots i = some cs) : (i, cs) ∈ slots := by
  induction slots with
  | nil => simp [slotOf] at h
  | cons s r ih =>
    simp only [slotOf] at h
    cases e : Nat.beq s.1 i with
    | true =>
      rw [e] at h
      have := Nat.eq_of_beq_eq_true e
      simp only [cond_true, Option.some.injEq] at h
      subst this; subst h
      simp
    | false => rw [e] at h; simp [ih h]

theorem dgo_facts {base : Nat} {slots : List (Nat × List AV)} {k : Env → AState → List (Nat × AState) → List (Nat × AOp × Env × AV) → Prop} : ∀ (l : List AOper) (i : Nat) (ρ : Env) (σ : AState) (cuts : List (Nat × AState)) (loads : List (Nat × AOp × Env × AV)),
    dgo P base slots l i ρ σ cuts loads k → ∃ (vs : List AV) (Ss : Nat → AState) (cuts' : List (Nat × AState)) (loads' : List (Nat × AOp × Env × AV)), vs.length = l.length ∧ Ss 0 = σ ∧
      (∀ j o v, l[j]? = some o → vs[j]? = some v → Fact P base slots (i + j) o (envOf (putAll ρ (l.take j) (vs.take j)) o.tmps) v (Ss j) (Ss (j + 1)) ∧
        ((o.op.quiet || isSlot slots (i + j)) = false → (i + j + 1, Ss (j + 1)) ∈ cuts') ∧
        (o.wants (envOf (putAll ρ (l.take j) (vs.take j)) o.tmps) = some true → slotOf slots (i + j) = none → o.op.pure = false → o.op.reader = true → (i + j, o.op, envOf (putAll ρ (l.take j) (vs.take j)) o.tmps, v) ∈ loads')) ∧
      (∀ c ∈ cuts, c ∈ cuts') ∧ (∀ c ∈ loads, c ∈ loads') ∧ k (putAll ρ l vs) (Ss l.length) cuts' loads' := by
  intro l
  induction l with
  | nil => intro i ρ σ cuts loads h; exact ⟨[], fun _ => σ, cuts, loads, rfl, rfl, fun j o v h => by simp at h, fun c h => h, fun c h => h, h⟩
  | cons o r ih =>
    intro i ρ σ cuts loads h
    -- what the head does, then the rest
    have fin : ∀ (v : AV) (σ' : AState) (cuts1 : List (Nat × AState)) (loads1 : List (Nat × AOp × Env × AV)), dgo P base slots r (i + 1) (ρ.put o.dst v) σ' cuts1 loads1 k → Fact P base slots i o (envOf ρ o.tmps) v σ σ' →
        ((o.op.quiet || isSlot slots i) = false → (i + 1, σ') ∈ cuts1) → (o.wants (envOf ρ o.tmps) = some true → slotOf slots i = none → o.op.pure = false → o.op.reader = true → (i, o.op, envOf ρ o.tmps, v) ∈ loads1) →
        (∀ c ∈ cuts, c ∈ cuts1) → (∀ c ∈ loads, c ∈ loads1) →
        ∃ (vs : List AV) (Ss : Nat → AState) (cuts' : List (Nat × AState)) (loads' : List (Nat × AOp × Env × AV)), vs.length = (o :: r).length ∧ Ss 0 = σ ∧
          (∀ j o' v, (o :: r)[j]? = some o' → vs[j]? = some v → Fact P base slots (i + j) o' (envOf (putAll ρ ((o :: r).take j) (vs.take j)) o'.tmps) v (Ss j) (Ss (j + 1)) ∧
            ((o'.op.quiet || isSlot slots (i + j)) = false → (i + j + 1, Ss (j + 1)) ∈ cuts') ∧
            (o'.wants (envOf (putAll ρ ((o :: r).take j) (vs.take j)) o'.tmps) = some true → slotOf slots (i + j) = none → o'.op.pure = false → o'.op.reader = true → (i + j, o'.op, envOf (putAll ρ ((o :: r).take j) (vs.take j)) o'.tmps, v) ∈ loads')) ∧
          (∀ c ∈ cuts, c ∈ cuts') ∧ (∀ c ∈ loads, c ∈ loads') ∧ k (putAll ρ (o :: r) vs) (Ss (o :: r).length) cuts' loads' := by
      intro v σ' cuts1 loads1 h1 hf hc1 hl1 hc hl
      obtain ⟨vs, Ss, cuts', loads', e1, e2, e3, e4, e5, e6⟩ := ih (i + 1) (ρ.put o.dst v) σ' cuts1 loads1 h1
      refine ⟨v :: vs, fun n => match n with | 0 => σ | n + 1 => Ss n, cuts', loads', by simp [e1], rfl, fun j o' v' ho hv => ?_, fun c hc' => e4 c (hc c hc'), fun c hc' => e5 c (hl c hc'), by simpa [putAll] using e6⟩
      cases j with
      | zero =>
        simp only [List.getElem?_cons_zero, Option.some.injEq] at ho hv
        subst ho; subst hv
        simp only [Nat.add_zero, List.take_zero, putAll, e2]
        exact ⟨hf, fun q => e4 _ (hc1 q), fun q1 q2 q3 q4 => e5 _ (hl1 q1 q2 q3 q4)⟩
      | succ j =>
        simp only [List.getElem?_cons_succ] at ho hv
        have := e3 j o' v' ho hv
        simp only [List.take_succ_cons, putAll]
        rw [show i + (j + 1) = i + 1 + j by omega]
        exact this
    simp only [dgo] at h
    split at h
    · exact h.elim
    · rename_i hw
      cases hq : (o.op.quiet || isSlot slots i) with
      | true =>
        rw [hq] at h
        exact fin _ _ _ _ h (.inl ⟨hw, rfl, rfl⟩) (fun e => by rw [hq] at e; cases e) (fun e => by rw [hw] at e; cases e) (fun c h => h) (fun c h => h)
      | false =>
        rw [hq] at h
        exact fin _ _ _ _ h (.inl ⟨hw, rfl, rfl⟩) (fun _ => by simp) (fun e => by rw [hw] at e; cases e) (fun c h => by simp [h]) (fun c h => h)
    · rename_i hw
      split at h
      · rename_i cs hs
        split at h
        · rename_i cs' f ha
          obtain ⟨rfl, h⟩ := h
          have hsl : isSlot slots i = true := isSlot_iff.2 ⟨_, hs⟩
          exact fin _ _ _ _ h (.inr ⟨hw, .inl ⟨_, f, hs, ha, rfl, rfl⟩⟩) (fun e => by rw [hsl] at e; simp at e) (fun _ e => by rw [hs] at e; cases e) (fun c h => h) (fun c h => h)
        · exact h.elim
      · rename_i hs
        cases hp : o.op.pure with
        | true =>
          rw [hp] at h
          simp only [cond_true] at h
          split at h
          · rename_i v hv
            exact fin _ _ _ _ h (.inr ⟨hw, .inr (.inl ⟨hs, hp, hv, rfl⟩)⟩) (fun e => by simp [AOp.quiet, hp] at e) (fun _ _ e => by rw [hp] at e; cases e) (fun c h => h) (fun c h => h)
          · exact h.elim
        | false =>
          rw [hp] at h
          simp only [cond_false] at h
          cases hrd : o.op.reader with
          | true =>
            rw [hrd] at h
            simp only [cond_true] at h
            split at h
            · rename_i v s hv
              have := reader_ok hrd hv
              subst this
              exact fin _ _ _ _ h (.inr ⟨hw, .inr (.inr (.inl ⟨hs, hp, hrd, hv, rfl⟩))⟩) (fun e => by simp [AOp.quiet, hrd] at e) (fun _ _ _ _ => by simp) (fun c h => h) (fun c h => by simp [h])
            · exact h.elim
          | false =>
            rw [hrd] at h
            simp only [cond_false] at h
            obtain ⟨v, σ', hst, h⟩ := h
            exact fin _ _ _ _ h (.inr ⟨hw, .inr (.inr (.inr ⟨hs, hp, hrd, hst⟩))⟩) (fun _ => by simp) (fun _ _ _ e => by rw [hrd] at e; cases e) (fun c h => by simp [h]) (fun c h => h)
end Go.Proofs.Ythojhpjjkfjeiaa.Va
