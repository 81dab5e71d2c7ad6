/- Regions whose order is drawn, by computation. Conditions: none. -/
import Derived.Test.YthojhpjjkfjeiaaVaJ
set_option linter.unusedSimpArgs false
set_option linter.unusedVariables false
namespace Go.Proofs.Ythojhpjjkfjeiaa.Va
variable {P : Program} {N : Nat} {Q : AExit → Env → AState → Prop} {ρ : Env} {σ : AState}

theorem rd_envOf {l : List Nat} {t : Nat} (h : t ∈ l) : (envOf ρ l).rd t = ρ.rd t := by simp [Env.rd, envOf_get, h]
theorem ev_envOf {l : List Nat} {x : Opd} (h : ∀ t ∈ x.tmps, t ∈ l) : x.ev (envOf ρ l) = x.ev ρ := by
  cases x with
  | tmp t => exact rd_envOf (h t (by simp [Opd.tmps]))
  | con v => rfl
theorem evs_envOf {l : List Nat} {xs : List Opd} (h : ∀ t ∈ xs.flatMap Opd.tmps, t ∈ l) : xs.map (·.ev (envOf ρ l)) = xs.map (·.ev ρ) := by
  apply List.map_congr_left
  intro x hx
  exact ev_envOf fun t ht => h t (List.mem_flatMap.2 ⟨x, hx, ht⟩)
theorem parts_envOf {l : List Nat} {ps : List (Nat × Nat × Opd)} (h : ∀ t ∈ ps.flatMap (fun p => p.2.2.tmps), t ∈ l) : partsV (envOf ρ l) ps = partsV ρ ps := by
  unfold partsV
  apply List.map_congr_left
  intro x hx
  have := ev_envOf (ρ := ρ) (l := l) (x := x.2.2) fun t ht => h t (List.mem_flatMap.2 ⟨x, hx, ht⟩)
  obtain ⟨a, b, c⟩ := x
  simp only at this ⊢
  rw [this]
theorem opt_envOf {l : List Nat} {d : Int} {x : Option Opd} (h : ∀ t ∈ oTmps x, t ∈ l) : optIdx (envOf ρ l) d x = optIdx ρ d x := by
  cases x with
  | none => rfl
  | some x => simp only [optIdx]; rw [ev_envOf (x := x) fun t ht => h t (by simpa [oTmps] using ht)]

theorem evalA_envOf (o : AOp) (l : List Nat) (h : ∀ t ∈ o.tmps, t ∈ l) : evalA o (envOf ρ l) σ = evalA o ρ σ := by
  cases o <;> simp only [AOp.tmps, List.mem_append] at h
  all_goals simp only [evalA, allocD, allocA]
  all_goals first
    | rfl
    | (rw [ev_envOf (fun t ht => h t ht)]; done)
    | (rw [ev_envOf (fun t ht => h t (.inl ht)), ev_envOf (fun t ht => h t (.inr ht))]; done)
    | (rw [ev_envOf (fun t ht => h t (.inl (.inl ht))), ev_envOf (fun t ht => h t (.inl (.inr ht))), ev_envOf (fun t ht => h t (.inr ht))]; done)
    | (rw [parts_envOf h]; done)
    | (rw [evs_envOf h]; done)
    | (rw [ev_envOf (fun t ht => h t (.inl (.inl ht)))]; simp only [opt_envOf (fun t ht => h t (.inl (.inr ht))), opt_envOf (fun t ht => h t (.inr ht))]; done)
    | skip
  case slSl sz x a b c =>
    rw [ev_envOf (fun t ht => h t (.inl (.inl (.inl ht))))]
    have e1 : ∀ d, optIdx (envOf ρ l) d a = optIdx ρ d a := fun d => opt_envOf (fun t ht => h t (.inl (.inl (.inr ht))))
    have e2 : ∀ d, optIdx (envOf ρ l) d b = optIdx ρ d b := fun d => opt_envOf (fun t ht => h t (.inl (.inr ht)))
    have e3 : ∀ d, optIdx (envOf ρ l) d c = optIdx ρ d c := fun d => opt_envOf (fun t ht => h t (.inr ht))
    have e4 : ∀ m, c = some m → m.ev (envOf ρ l) = m.ev ρ := fun m hm => ev_envOf (fun t ht => h t (.inr (by rw [hm]; simpa [oTmps] using ht)))
    simp only [e1, e2, e3]
    cases c with
    | none =>
      cases x.ev ρ <;> first | rfl | skip
      · rename_i b' o' len c' s'; dsimp only; cases optIdx ρ 0 a <;> cases optIdx ρ (len : Nat) b <;> rfl
    | some m =>
      cases x.ev ρ <;> first | rfl | skip
      rename_i b' o' len c' s'; dsimp only; cases optIdx ρ 0 a <;> cases optIdx ρ (len : Nat) b <;> first | rfl | (dsimp only; rw [e4 m rfl])

theorem wants_envOf (o : AOper) (l : List Nat) (h : ∀ t ∈ o.tmps, t ∈ l) : o.wants (envOf ρ l) = o.wants ρ := by
  unfold AOper.wants
  cases hg : o.guard with
  | none => rfl
  | some g => simp only [rd_envOf (h g.1 (by simp [AOper.tmps, hg]))]
theorem op_envOf (o : AOper) : evalA o.op (envOf ρ o.tmps) σ = evalA o.op ρ σ := evalA_envOf _ _ fun t ht => by simp [AOper.tmps, ht]
theorem opw_envOf (o : AOper) : o.wants (envOf ρ o.tmps) = o.wants ρ := wants_envOf _ _ fun t ht => ht
theorem step_envOf (o : AOper) (k : AV → AState → Prop) : stepA P o.op (envOf ρ o.tmps) σ k = stepA P o.op ρ σ k := by
  have h := op_envOf (ρ := ρ) (σ := σ) o
  have hm : ∀ t ∈ o.op.tmps, t ∈ o.tmps := fun t ht => by simp [AOper.tmps, ht]
  generalize o.op = op at h hm ⊢
  cases op <;> first | (simp only [stepA, h]; done) | skip
  case call f args => simp only [stepA, evs_envOf (fun t ht => hm t ht)]
  case callv f args => simp only [stepA, evs_envOf (fun t ht => hm t (by simp only [AOp.tmps, List.mem_append]; exact .inr ht)), ev_envOf (fun t ht => hm t (by simp only [AOp.tmps, List.mem_append]; exact .inl ht))]
theorem allocD_envOf (o : AOper) : allocD o.op (envOf ρ o.tmps) = allocD o.op ρ := by
  have hm : ∀ t ∈ o.op.tmps, t ∈ o.tmps := fun t ht => by simp [AOper.tmps, ht]
  generalize o.op = op at hm ⊢
  cases op <;> simp only [AOp.tmps, List.mem_append] at hm <;> simp only [allocD, allocA]
  all_goals first
    | rfl
    | (rw [ev_envOf (fun t ht => hm t ht)]; done)
    | (rw [ev_envOf (fun t ht => hm t (.inl ht)), ev_envOf (fun t ht => hm t (.inr ht))]; done)
    | (rw [parts_envOf hm]; done)

theorem evalP_of {o : AOp} {v : AV} {s : AState} (hp : o.pure = true) (h : evalA o ρ σ = some (v, s)) : evalP o ρ = some v ∧ s = σ := by
  have key : (evalA o ρ noMem).map (fun r => (r.1, σ)) = evalA o ρ σ := by
    cases o <;> first | (cases hp; done) | skip
    all_goals
      simp only [evalA]
      repeat' (first | rfl | (simp only [Option.map_map, Function.comp_def, Option.map_some, Option.map_none]; done) | split)
      all_goals (try simp only [Option.map_map, Function.comp_def, Option.map_some, Option.map_none])
    all_goals (simp only [cond_eq_ite]; (repeat' split) <;> simp [Option.map_map, Function.comp_def])
  rw [h] at key
  simp only [Option.map_eq_some_iff, Prod.mk.injEq] at key
  obtain ⟨r, h1, h2, h3⟩ := key
  exact ⟨by simp only [evalP, h1, Option.map_some, h2], h3.symm⟩

/- One operation that may turn memory, and what it gives for sure. -/
def stepD (P : Program) (o : AOp) (ρ : Env) (σ : AState) (k : AV → AState → Prop) : Prop :=
  match o with
  | .call f args => ∃ v s, AC P f (args.map (·.ev ρ)) σ (fun v' s' => v' = v ∧ s' = s) ∧ k v s
  | .callv f args => match f.ev ρ with
    | .fn g cap => ∃ v s, AC P g (args.map (·.ev ρ) ++ cap) σ (fun v' s' => v' = v ∧ s' = s) ∧ k v s
    | _ => False
  | o => andK (evalA o ρ σ) k
def callD (P : Program) (f : FuncId) (args : List AV) (σ : AState) (k : AV → AState → Prop) : Prop := ∃ v s, AC P f args σ (fun v' s' => v' = v ∧ s' = s) ∧ k v s
theorem stepD_call (f : FuncId) (args : List Opd) (ρ : Env) (σ : AState) (k : AV → AState → Prop) : stepD P (.call f args) ρ σ k = callD P f (args.map (·.ev ρ)) σ k := propext ⟨fun h => h, fun h => h⟩
def AOp.noCall : AOp → Bool
  | .call _ _ | .callv _ _ => false
  | _ => true
theorem stepD_plain {o : AOp} {ρ : Env} {σ : AState} {k : AV → AState → Prop} (h : o.noCall = true) : stepD P o ρ σ k = andK (evalA o ρ σ) k := by
  cases o <;> first | rfl | (cases h; done)
theorem stepD_store (n : Nat) (a x : Opd) (ρ : Env) (σ : AState) (k : AV → AState → Prop) : stepD P (.store n a x) ρ σ k = andK (evalA (.store n a x) ρ σ) k := propext ⟨fun h => h, fun h => h⟩
theorem stepD_alloc (z : List AV) (ρ : Env) (σ : AState) (k : AV → AState → Prop) : stepD P (.alloc z) ρ σ k = andK (evalA (.alloc z) ρ σ) k := propext ⟨fun h => h, fun h => h⟩
theorem stepD_box (x : Opd) (ρ : Env) (σ : AState) (k : AV → AState → Prop) : stepD P (.box x) ρ σ k = andK (evalA (.box x) ρ σ) k := propext ⟨fun h => h, fun h => h⟩
theorem stepD_bslice (s l : Nat) (z : List AV) (ps : List (Nat × Nat × Opd)) (ρ : Env) (σ : AState) (k : AV → AState → Prop) : stepD P (.bslice s l z ps) ρ σ k = andK (evalA (.bslice s l z ps) ρ σ) k := propext ⟨fun h => h, fun h => h⟩
theorem stepD_mkslice (b s : Nat) (z : List AV) (l c : Opd) (ρ : Env) (σ : AState) (k : AV → AState → Prop) : stepD P (.mkslice b s z l c) ρ σ k = andK (evalA (.mkslice b s z l c) ρ σ) k := propext ⟨fun h => h, fun h => h⟩
theorem stepD_append (s b : Nat) (x y : Opd) (ρ : Env) (σ : AState) (k : AV → AState → Prop) : stepD P (.append s b x y) ρ σ k = andK (evalA (.append s b x y) ρ σ) k := propext ⟨fun h => h, fun h => h⟩
theorem stepD_appendZ (s b : Nat) (z : List AV) (x y : Opd) (ρ : Env) (σ : AState) (k : AV → AState → Prop) : stepD P (.appendZ s b z x y) ρ σ k = andK (evalA (.appendZ s b z x y) ρ σ) k := propext ⟨fun h => h, fun h => h⟩
theorem stepD_copy (s : Nat) (x y : Opd) (ρ : Env) (σ : AState) (k : AV → AState → Prop) : stepD P (.copy s x y) ρ σ k = andK (evalA (.copy s x y) ρ σ) k := propext ⟨fun h => h, fun h => h⟩
theorem stepD_cvSB (x : Opd) (ρ : Env) (σ : AState) (k : AV → AState → Prop) : stepD P (.cvSB x) ρ σ k = andK (evalA (.cvSB x) ρ σ) k := propext ⟨fun h => h, fun h => h⟩
theorem stepD_cvMark (x : Opd) (ρ : Env) (σ : AState) (k : AV → AState → Prop) : stepD P (.cvMark x) ρ σ k = andK (evalA (.cvMark x) ρ σ) k := propext ⟨fun h => h, fun h => h⟩
theorem stepD_range (x : Opd) (ρ : Env) (σ : AState) (k : AV → AState → Prop) : stepD P (.range x) ρ σ k = andK (evalA (.range x) ρ σ) k := propext ⟨fun h => h, fun h => h⟩
theorem stepD_next (x : Opd) (ρ : Env) (σ : AState) (k : AV → AState → Prop) : stepD P (.next x) ρ σ k = andK (evalA (.next x) ρ σ) k := propext ⟨fun h => h, fun h => h⟩
theorem stepD_ok {o : AOp} {k : AV → AState → Prop} (h : stepD P o ρ σ k) : ∃ v s, stepX P o ρ σ v s ∧ k v s := by
  cases o
  case call f args => exact h
  case callv f args =>
    simp only [stepD] at h
    split at h
    · rename_i g cap e
      obtain ⟨v, s, h1, h2⟩ := h
      exact ⟨v, s, by simp only [stepX, stepA, e]; exact h1, h2⟩
    · exact h.elim
  all_goals
    simp only [stepD, andK] at h
    split at h
    · rename_i v s e
      exact ⟨v, s, stepA_of_eval e ⟨rfl, rfl⟩, h⟩
    · exact h.elim

def andA (r : Option (List AV × (Nat → AV))) (k : List AV → (Nat → AV) → Prop) : Prop := match r with | some (cs, f) => k cs f | none => False
theorem andA_some (cs : List AV) (f : Nat → AV) (k : List AV → (Nat → AV) → Prop) : andA (some (cs, f)) k = k cs f := propext ⟨fun h => h, fun h => h⟩
def isSl : List (Nat × List AV) → Nat → Option (List AV)
  | [], _ => none
  | s :: r, i => if s.1 = i then some s.2 else isSl r i
theorem isSl_eq : ∀ (slots : List (Nat × List AV)) (i : Nat), isSl slots i = slotOf slots i := by
  intro slots
  induction slots with
  | nil => intro i; rfl
  | cons s r ih =>
    intro i
    simp only [isSl, slotOf, ih]
    cases h : Nat.beq s.1 i with
    | true => simp [Nat.eq_of_beq_eq_true h]
    | false =>
      have : ¬ s.1 = i := fun e => by rw [e] at h; simp at h
      simp [this]

/- The ways on are functions of the memory that is still to come: so 'simp' does not walk those that are not taken. -/
def onO (r : Option (List AV)) (A : List AV → AState → Prop) (B : AState → Prop) (σ : AState) : Prop := match r with | some cs => A cs σ | none => B σ
theorem onO_some (cs : List AV) (A : List AV → AState → Prop) (B : AState → Prop) (σ : AState) : onO (some cs) A B σ = A cs σ := propext ⟨fun h => h, fun h => h⟩
theorem onO_none (A : List AV → AState → Prop) (B : AState → Prop) (σ : AState) : onO none A B σ = B σ := propext ⟨fun h => h, fun h => h⟩
def onP (p q : Bool) (A B C : AState → Prop) (σ : AState) : Prop := match p, q with | true, _ => A σ | false, true => B σ | false, false => C σ
theorem onP_pure (q : Bool) (A B C : AState → Prop) (σ : AState) : onP true q A B C σ = A σ := propext ⟨fun h => h, fun h => h⟩
theorem onP_read (A B C : AState → Prop) (σ : AState) : onP false true A B C σ = B σ := propext ⟨fun h => h, fun h => h⟩
theorem onP_act (A B C : AState → Prop) (σ : AState) : onP false false A B C σ = C σ := propext ⟨fun h => h, fun h => h⟩

/- A reading as it stands in a region's book: its operands by their values. -/
def fzL (i : Nat) (op : AOp) (ρ : Env) (v : AV) : Nat × AOp × Env × AV :=
  match op with
  | .load a n x => (i, .load a n (.con (x.ev ρ)), .nil, v)
  | .cvBS x => (i, .cvBS (.con (x.ev ρ)), .nil, v)
  | o => (i, o, ρ, v)
theorem fzL_eval (i : Nat) (op : AOp) (ρ : Env) (v : AV) (s : AState) : evalA (fzL i op ρ v).2.1 (fzL i op ρ v).2.2.1 s = evalA op ρ s := by
  cases op <;> rfl
theorem fzL_1 (i : Nat) (op : AOp) (ρ : Env) (v : AV) : (fzL i op ρ v).1 = i := by cases op <;> rfl
theorem fzL_4 (i : Nat) (op : AOp) (ρ : Env) (v : AV) : (fzL i op ρ v).2.2.2 = v := by cases op <;> rfl
def wpD (P : Program) (base : Nat) (slots : List (Nat × List AV)) (fin : List (Nat × AState) → List (Nat × AOp × Env × AV) → Prop) : List AOper → Nat → Env → AState → List (Nat × AState) → List (Nat × AOp × Env × AV) →
    (Env → AState → Prop) → Prop
  | [], _, ρ, σ, cuts, loads, k => fin cuts loads ∧ k ρ σ
  | o :: r, i, ρ, σ, cuts, loads, k =>
    onG (o.wants ρ)
      (onO (isSl slots i)
        (fun cs σ => andA (allocD o.op ρ) fun cs' f => cs' = cs ∧ wpD P base slots fin r (i + 1) (ρ.put o.dst (f (base + i))) σ cuts loads k)
        (fun σ => onP o.op.pure o.op.reader
          (fun σ => andK (evalA o.op ρ σ) fun v _ => wpD P base slots fin r (i + 1) (ρ.put o.dst v) σ cuts loads k)
          (fun σ => andK (evalA o.op ρ σ) fun v _ => wpD P base slots fin r (i + 1) (ρ.put o.dst v) σ cuts (fzL i o.op ρ v :: loads) k)
          (fun σ => stepD P o.op ρ σ fun v σ' => wpD P base slots fin r (i + 1) (ρ.put o.dst v) σ' ((i + 1, σ') :: cuts) loads k) σ) σ)
      (wpD P base slots fin r (i + 1) (ρ.put o.dst (.tup [])) σ (bif o.op.quiet || isSlot slots i then cuts else (i + 1, σ) :: cuts) loads k)

def wpDK (P : Program) (base : Nat) (slots : List (Nat × List AV)) (fin : List (Nat × AState) → List (Nat × AOp × Env × AV) → Prop) (r : List AOper) (i : Nat) (ρ : Env) (cuts : List (Nat × AState)) (loads : List (Nat × AOp × Env × AV))
    (k : Env → AState → Prop) (d : Option Nat) (v : AV) (σ : AState) : Prop := wpD P base slots fin r (i + 1) (ρ.put d v) σ cuts loads k
def wpDL (P : Program) (base : Nat) (slots : List (Nat × List AV)) (fin : List (Nat × AState) → List (Nat × AOp × Env × AV) → Prop) (r : List AOper) (i : Nat) (ρ : Env) (σ : AState) (cuts : List (Nat × AState)) (loads : List (Nat × AOp × Env × AV))
    (k : Env → AState → Prop) (d : Option Nat) (op : AOp) (v : AV) (_ : AState) : Prop := wpD P base slots fin r (i + 1) (ρ.put d v) σ cuts (fzL i op ρ v :: loads) k
def wpDP (P : Program) (base : Nat) (slots : List (Nat × List AV)) (fin : List (Nat × AState) → List (Nat × AOp × Env × AV) → Prop) (r : List AOper) (i : Nat) (ρ : Env) (σ : AState) (cuts : List (Nat × AState)) (loads : List (Nat × AOp × Env × AV))
    (k : Env → AState → Prop) (d : Option Nat) (v : AV) (_ : AState) : Prop := wpD P base slots fin r (i + 1) (ρ.put d v) σ cuts loads k
def wpDA (P : Program) (base : Nat) (slots : List (Nat × List AV)) (fin : List (Nat × AState) → List (Nat × AOp × Env × AV) → Prop) (r : List AOper) (i : Nat) (ρ : Env) (cuts : List (Nat × AState)) (loads : List (Nat × AOp × Env × AV))
    (k : Env → AState → Prop) (d : Option Nat) (v : AV) (σ : AState) : Prop := wpD P base slots fin r (i + 1) (ρ.put d v) σ ((i + 1, σ) :: cuts) loads k
def wpDS (P : Program) (base : Nat) (slots : List (Nat × List AV)) (fin : List (Nat × AState) → List (Nat × AOp × Env × AV) → Prop) (r : List AOper) (i : Nat) (ρ : Env) (σ : AState) (cuts : List (Nat × AState)) (loads : List (Nat × AOp × Env × AV))
    (k : Env → AState → Prop) (d : Option Nat) (cs cs' : List AV) (f : Nat → AV) : Prop := cs' = cs ∧ wpD P base slots fin r (i + 1) (ρ.put d (f (base + i))) σ cuts loads k
def wpDC (P : Program) (base : Nat) (slots : List (Nat × List AV)) (fin : List (Nat × AState) → List (Nat × AOp × Env × AV) → Prop) (r : List AOper) (i : Nat) (ρ : Env) (cuts : List (Nat × AState)) (loads : List (Nat × AOp × Env × AV))
    (k : Env → AState → Prop) (d : Option Nat) (op : AOp) (cs : List AV) (σ : AState) : Prop := andA (allocD op ρ) (wpDS P base slots fin r i ρ σ cuts loads k d cs)
def wpD1 (P : Program) (base : Nat) (slots : List (Nat × List AV)) (fin : List (Nat × AState) → List (Nat × AOp × Env × AV) → Prop) (r : List AOper) (i : Nat) (ρ : Env) (cuts : List (Nat × AState)) (loads : List (Nat × AOp × Env × AV))
    (k : Env → AState → Prop) (d : Option Nat) (op : AOp) (σ : AState) : Prop := andK (evalA op ρ σ) (wpDP P base slots fin r i ρ σ cuts loads k d)
def wpD2 (P : Program) (base : Nat) (slots : List (Nat × List AV)) (fin : List (Nat × AState) → List (Nat × AOp × Env × AV) → Prop) (r : List AOper) (i : Nat) (ρ : Env) (cuts : List (Nat × AState)) (loads : List (Nat × AOp × Env × AV))
    (k : Env → AState → Prop) (d : Option Nat) (op : AOp) (σ : AState) : Prop := andK (evalA op ρ σ) (wpDL P base slots fin r i ρ σ cuts loads k d op)
def wpD3 (P : Program) (base : Nat) (slots : List (Nat × List AV)) (fin : List (Nat × AState) → List (Nat × AOp × Env × AV) → Prop) (r : List AOper) (i : Nat) (ρ : Env) (cuts : List (Nat × AState)) (loads : List (Nat × AOp × Env × AV))
    (k : Env → AState → Prop) (d : Option Nat) (op : AOp) (σ : AState) : Prop := stepD P op ρ σ (wpDA P base slots fin r i ρ cuts loads k d)
def wpDX (P : Program) (base : Nat) (slots : List (Nat × List AV)) (fin : List (Nat × AState) → List (Nat × AOp × Env × AV) → Prop) (r : List AOper) (i : Nat) (ρ : Env) (cuts : List (Nat × AState)) (loads : List (Nat × AOp × Env × AV))
    (k : Env → AState → Prop) (d : Option Nat) (op : AOp) (σ : AState) : Prop := onP op.pure op.reader (wpD1 P base slots fin r i ρ cuts loads k d op) (wpD2 P base slots fin r i ρ cuts loads k d op) (wpD3 P base slots fin r i ρ cuts loads k d op) σ
def wpDB (P : Program) (base : Nat) (slots : List (Nat × List AV)) (fin : List (Nat × AState) → List (Nat × AOp × Env × AV) → Prop) (r : List AOper) (i : Nat) (ρ : Env) (σ : AState) (cuts : List (Nat × AState)) (loads : List (Nat × AOp × Env × AV))
    (k : Env → AState → Prop) (d : Option Nat) (op : AOp) : Prop :=
  onO (isSl slots i) (wpDC P base slots fin r i ρ cuts loads k d op) (wpDX P base slots fin r i ρ cuts loads k d op) σ
def wpDE (P : Program) (base : Nat) (slots : List (Nat × List AV)) (fin : List (Nat × AState) → List (Nat × AOp × Env × AV) → Prop) (r : List AOper) (i : Nat) (ρ : Env) (cuts : List (Nat × AState)) (loads : List (Nat × AOp × Env × AV))
    (k : Env → AState → Prop) (d : Option Nat) (op : AOp) (σ : AState) : Prop := wpDB P base slots fin r i ρ σ cuts loads k d op
def wpDF (P : Program) (base : Nat) (slots : List (Nat × List AV)) (fin : List (Nat × AState) → List (Nat × AOp × Env × AV) → Prop) (r : List AOper) (i : Nat) (ρ : Env) (cuts : List (Nat × AState)) (loads : List (Nat × AOp × Env × AV))
    (k : Env → AState → Prop) (d : Option Nat) (op : AOp) (σ : AState) : Prop := wpDP P base slots fin r i ρ σ (bif op.quiet || isSlot slots i then cuts else (i + 1, σ) :: cuts) loads k d (.tup []) σ
section
variable (base : Nat) (slots : List (Nat × List AV)) (fin : List (Nat × AState) → List (Nat × AOp × Env × AV) → Prop) (d : Option Nat) (op : AOp) (r : List AOper) (i : Nat) (ρ : Env) (σ : AState) (cuts : List (Nat × AState)) (loads : List (Nat × AOp × Env × AV)) (k : Env → AState → Prop)
theorem wpD_nil : wpD P base slots fin [] i ρ σ cuts loads k = (fin cuts loads ∧ k ρ σ) := propext ⟨fun h => h, fun h => h⟩
theorem wpD_plain : wpD P base slots fin (⟨d, op, none⟩ :: r) i ρ σ cuts loads k = wpDB P base slots fin r i ρ σ cuts loads k d op := propext ⟨fun h => h, fun h => h⟩
theorem wpD_guard (t : Nat) (w : Bool) : wpD P base slots fin (⟨d, op, some (t, w)⟩ :: r) i ρ σ cuts loads k = onV (ρ.rd t) w (wpDE P base slots fin r i ρ cuts loads k d op) (wpDF P base slots fin r i ρ cuts loads k d op) σ := by
  simp only [wpD, AOper.wants, onV, onG]
  generalize ρ.rd t = v
  cases v <;> first | rfl | skip
  · rename_i b
    cases b <;> cases w <;> rfl
  · rename_i vs
    cases vs <;> rfl
end

section
variable (base : Nat) (slots : List (Nat × List AV)) (fin : List (Nat × AState) → List (Nat × AOp × Env × AV) → Prop) (r : List AOper) (i : Nat) (ρ : Env) (cuts : List (Nat × AState)) (loads : List (Nat × AOp × Env × AV)) (k : Env → AState → Prop) (d : Option Nat)
theorem wpDK_eq (v : AV) (σ : AState) : wpDK P base slots fin r i ρ cuts loads k d v σ = wpD P base slots fin r (i + 1) (ρ.put d v) σ cuts loads k := propext ⟨fun h => h, fun h => h⟩
theorem wpDL_eq (σ : AState) (op : AOp) (v : AV) (s : AState) : wpDL P base slots fin r i ρ σ cuts loads k d op v s = wpD P base slots fin r (i + 1) (ρ.put d v) σ cuts (fzL i op ρ v :: loads) k := propext ⟨fun h => h, fun h => h⟩
theorem fzL_load (agg : Bool) (n : Nat) (x : Opd) (v : AV) : fzL i (.load agg n x) ρ v = (i, .load agg n (.con (x.ev ρ)), .nil, v) := Eq.trans rfl rfl
theorem fzL_cvBS (x : Opd) (v : AV) : fzL i (.cvBS x) ρ v = (i, .cvBS (.con (x.ev ρ)), .nil, v) := Eq.trans rfl rfl
theorem fzL_slArr (a : Nat) (x : Nat) (y : Opd) (z w : Option Opd) (v : AV) : fzL i (.slArr a x y z w) ρ v = (i, .slArr a x y z w, ρ, v) := Eq.trans rfl rfl
theorem wpDP_eq (σ : AState) (v : AV) (s : AState) : wpDP P base slots fin r i ρ σ cuts loads k d v s = wpD P base slots fin r (i + 1) (ρ.put d v) σ cuts loads k := propext ⟨fun h => h, fun h => h⟩
theorem wpDA_eq (v : AV) (σ : AState) : wpDA P base slots fin r i ρ cuts loads k d v σ = wpD P base slots fin r (i + 1) (ρ.put d v) σ ((i + 1, σ) :: cuts) loads k := propext ⟨fun h => h, fun h => h⟩
theorem wpDS_eq (σ : AState) (cs cs' : List AV) (f : Nat → AV) : wpDS P base slots fin r i ρ σ cuts loads k d cs cs' f = (cs' = cs ∧ wpD P base slots fin r (i + 1) (ρ.put d (f (base + i))) σ cuts loads k) := propext ⟨fun h => h, fun h => h⟩
theorem wpDC_eq (σ : AState) (op : AOp) (cs : List AV) : wpDC P base slots fin r i ρ cuts loads k d op cs σ = andA (allocD op ρ) (wpDS P base slots fin r i ρ σ cuts loads k d cs) := propext ⟨fun h => h, fun h => h⟩
theorem wpD1_eq (σ : AState) (op : AOp) : wpD1 P base slots fin r i ρ cuts loads k d op σ = andK (evalA op ρ σ) (wpDP P base slots fin r i ρ σ cuts loads k d) := propext ⟨fun h => h, fun h => h⟩
theorem wpD2_eq (σ : AState) (op : AOp) : wpD2 P base slots fin r i ρ cuts loads k d op σ = andK (evalA op ρ σ) (wpDL P base slots fin r i ρ σ cuts loads k d op) := propext ⟨fun h => h, fun h => h⟩
theorem wpD3_eq (σ : AState) (op : AOp) : wpD3 P base slots fin r i ρ cuts loads k d op σ = stepD P op ρ σ (wpDA P base slots fin r i ρ cuts loads k d) := propext ⟨fun h => h, fun h => h⟩
theorem wpDX_eq (σ : AState) (op : AOp) : wpDX P base slots fin r i ρ cuts loads k d op σ = onP op.pure op.reader (wpD1 P base slots fin r i ρ cuts loads k d op) (wpD2 P base slots fin r i ρ cuts loads k d op) (wpD3 P base slots fin r i ρ cuts loads k d op) σ := propext ⟨fun h => h, fun h => h⟩
theorem wpDB_eq (σ : AState) (op : AOp) : wpDB P base slots fin r i ρ σ cuts loads k d op = onO (isSl slots i) (wpDC P base slots fin r i ρ cuts loads k d op) (wpDX P base slots fin r i ρ cuts loads k d op) σ := propext ⟨fun h => h, fun h => h⟩
theorem wpDE_eq (op : AOp) (σ : AState) : wpDE P base slots fin r i ρ cuts loads k d op σ = wpDB P base slots fin r i ρ σ cuts loads k d op := propext ⟨fun h => h, fun h => h⟩
theorem wpDF_eq (op : AOp) (σ : AState) : wpDF P base slots fin r i ρ cuts loads k d op σ = wpDP P base slots fin r i ρ σ (bif op.quiet || isSlot slots i then cuts else (i + 1, σ) :: cuts) loads k d (.tup []) σ := propext ⟨fun h => h, fun h => h⟩
end

/- The loads that are to be told, as they are tested. -/
def sameLoads (as bs : List (Nat × AOp × Env × AV)) : Prop := as.length = bs.length ∧ ∀ (i : Nat) (a b : Nat × AOp × Env × AV), as[i]? = some a → bs[i]? = some b → a.1 = b.1 ∧ a.2.2.2 = b.2.2.2 ∧ ∀ s, evalA a.2.1 a.2.2.1 s = evalA b.2.1 b.2.2.1 s
theorem sameLoads.cons {as bs : List (Nat × AOp × Env × AV)} (h : sameLoads as bs) {a b : Nat × AOp × Env × AV} (hab : a.1 = b.1 ∧ a.2.2.2 = b.2.2.2 ∧ ∀ s, evalA a.2.1 a.2.2.1 s = evalA b.2.1 b.2.2.1 s) : sameLoads (a :: as) (b :: bs) :=
  ⟨by simp [h.1], fun i x y hx hy => by
    cases i with
    | zero => simp at hx hy; subst hx; subst hy; exact hab
    | succ i => exact h.2 i x y (by simpa using hx) (by simpa using hy)⟩

theorem wpD_ok {base : Nat} {slots : List (Nat × List AV)} {fin : List (Nat × AState) → List (Nat × AOp × Env × AV) → Prop} : ∀ (l : List AOper) (i : Nat) (ρ : Env) (σ : AState) (cuts : List (Nat × AState)) (loads loads' : List (Nat × AOp × Env × AV)) (k : Env → AState → Prop),
    sameLoads loads' loads → wpD P base slots fin l i ρ σ cuts loads k → dgo P base slots l i ρ σ cuts loads' fun r s c d => (∃ d', sameLoads d d' ∧ fin c d') ∧ k r s := by
  intro l
  induction l with
  | nil => intro i ρ σ cuts loads loads' k hs h; exact ⟨⟨loads, hs, h.1⟩, h.2⟩
  | cons o r ih =>
    intro i ρ σ cuts loads loads' k hs h
    simp only [wpD, onG, isSl_eq] at h
    simp only [dgo, opw_envOf]
    split at h
    · rename_i e
      rw [e]
      simp only [onO] at h
      split at h
      · rename_i cs es
        simp only [es, allocD_envOf]
        simp only [andA] at h
        split at h
        · rename_i cs' f ea
          rw [ea]
          exact ⟨h.1, ih _ _ _ _ _ _ _ hs h.2⟩
        · exact h.elim
      · rename_i es
        simp only [es]
        simp only [onP] at h
        split at h
        · rename_i hp
          simp only [hp, cond_true]
          simp only [andK] at h
          split at h
          · rename_i v s ev
            obtain ⟨h1, _⟩ := evalP_of (o := o.op) (ρ := envOf ρ o.tmps) hp (by rw [op_envOf]; exact ev)
            rw [h1]
            exact ih _ _ _ _ _ _ _ hs h
          · exact h.elim
        · rename_i hp hr
          simp only [hp, hr, cond_true, cond_false]
          simp only [andK] at h
          split at h
          · rename_i v s ev
            rw [op_envOf, ev]
            have h2 : sameLoads ((i, o.op, envOf ρ o.tmps, v) :: loads') (fzL i o.op ρ v :: loads) := hs.cons ⟨(fzL_1 _ _ _ _).symm, (fzL_4 _ _ _ _).symm, fun s => (op_envOf o).trans (fzL_eval _ _ _ _ _).symm⟩
            exact ih _ _ _ _ _ _ _ h2 h
          · exact h.elim
        · rename_i hp hr
          simp only [hp, hr, cond_false]
          obtain ⟨v, s, h1, h2⟩ := stepD_ok h
          exact ⟨v, s, by unfold stepX at h1 ⊢; rw [step_envOf]; exact h1, ih _ _ _ _ _ _ _ hs h2⟩
    · rename_i e
      rw [e]
      exact ih _ _ _ _ _ _ _ hs h
    · exact h.elim

/- The test at a region's end: each reading reads the same wherever it may stand. -/
def finD (acts B : List Nat) (base : Nat) (slots : List (Nat × List AV)) (cuts : List (Nat × AState)) (loads : List (Nat × AOp × Env × AV)) : Prop :=
  (∀ l ∈ loads, ∀ c ∈ cuts, feas acts B l.1 c.1 = true → (evalA l.2.1 l.2.2.1 c.2).map (fun r => r.1) = some l.2.2.2) ∧
  (∀ s ∈ slots, ∀ c ∈ cuts, feas acts B s.1 c.1 = true → base + s.1 < c.2.n ∧ c.2.h.get (base + s.1) = some (.cells s.2))

theorem w_dreg {as : List AOper} {acts B sl : List Nat} (hfollow : P.follows .mixedOrders = true) (slots : List (Nat × List AV)) (hsl : slots.map (·.1) = sl)
    (h : wpD P σ.n slots (finD acts B σ.n slots) as 0 ρ (addSlots σ.n as.length σ slots) [(0, addSlots σ.n as.length σ slots)] [] (Q .normal)) : SimA P N (.dreg as acts B sl) Q ρ σ := by
  refine a_dreg hfollow slots hsl (dgo_mono (fun r s c d hq => ?_) _ _ _ _ _ _ (wpD_ok _ _ _ _ _ _ _ _ ⟨rfl, fun i a b h => by simp at h⟩ h))
  obtain ⟨⟨d', hs, h1, h2⟩, hk⟩ := hq
  refine ⟨⟨fun l hl c hc hf => ?_, h2⟩, hk⟩
  obtain ⟨i, hi, rfl⟩ := List.getElem_of_mem hl
  have hi' : i < d'.length := by rw [← hs.1]; exact hi
  obtain ⟨e1, e2, e3⟩ := hs.2 i d[i] d'[i] (List.getElem?_eq_getElem _) (List.getElem?_eq_getElem _)
  have := h1 d'[i] (List.getElem_mem _) c hc (by rw [← e1]; exact hf)
  rw [e3, e2]; exact this

/- A region without slots in which nothing turns. -/
theorem w_dreg0 {as : List AOper} {B : List Nat} (hfollow : P.follows .mixedOrders = true) (h : wpW P as (Q .normal) ρ (addSlots σ.n as.length σ [])) (hq : as.all (fun o => o.op.quiet) = true) : SimA P N (.dreg as [] B []) Q ρ σ := by
  have key : ∀ (s : AState) (l : List AOper) (i : Nat) (ρ : Env) (loads : List (Nat × AOp × Env × AV)) (k : Env → AState → Prop), l.all (fun o => o.op.quiet) = true → (∀ x ∈ loads, ∃ s', evalA x.2.1 x.2.2.1 s = some (x.2.2.2, s')) → wpW P l k ρ s →
      wpD P σ.n [] (finD [] B σ.n []) l i ρ s [(0, s)] loads k := by
    intro s l
    induction l with
    | nil => intro i ρ loads k _ hl h; exact ⟨⟨fun l hl' c hc _ => by simp at hc; subst hc; obtain ⟨s', h'⟩ := hl l hl'; rw [h']; rfl, fun s hs => by simp at hs⟩, h⟩
    | cons o r ih =>
      intro i ρ loads k hq hl h
      simp only [List.all_cons, Bool.and_eq_true] at hq
      simp only [wpW, onG] at h
      simp only [wpD, isSl, onO]
      split at h
      · rename_i e
        rw [e, onG_true]
        have hqu := hq.1
        unfold AOp.quiet at hqu
        have h' : andK (evalA o.op ρ s) fun v σ' => wpW P r k (ρ.put o.dst v) σ' := by
          generalize o.op = op at h hqu ⊢
          cases op <;> first | exact h | (simp [AOp.pure, AOp.reader] at hqu; done)
        simp only [andK] at h'
        split at h'
        · rename_i v s' ev
          cases hp : o.op.pure with
          | true =>
            simp only [onP, andK, ev]
            have := (evalP_of (o := o.op) hp ev).2
            subst this
            exact ih _ _ _ _ hq.2 hl h'
          | false =>
            have hr : o.op.reader = true := by rw [hp] at hqu; simpa using hqu
            simp only [onP, hr, andK, ev]
            have := reader_ok hr ev
            subst this
            exact ih _ _ _ _ hq.2 (fun x hx => by
              rcases List.mem_cons.1 hx with rfl | hx
              · exact ⟨_, by rw [fzL_eval, ev, fzL_4]⟩
              · exact hl x hx) h'
        · exact h'.elim
      · rename_i e
        rw [e, onG_false]
        have : (bif o.op.quiet || isSlot [] i then [(0, s)] else (i + 1, s) :: [(0, s)]) = [(0, s)] := by rw [hq.1]; rfl
        rw [this]
        exact ih _ _ _ _ hq.2 hl h
      · exact h.elim
  exact w_dreg hfollow [] rfl (key _ as 0 ρ [] _ hq (fun x hx => by simp at hx) h)
end Go.Proofs.Ythojhpjjkfjeiaa.Va
