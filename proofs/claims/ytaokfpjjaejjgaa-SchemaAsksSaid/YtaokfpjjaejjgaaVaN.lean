/- Rows of structs as fixed data; memory that keeps what it had. Conditions: none. -/
import Derived.Test.YtaokfpjjaejjgaaVaM
set_option linter.unusedSimpArgs false
set_option linter.unusedVariables false
namespace Go.Proofs.Ytaokfpjjaejjgaa.Va
variable {P : Program}

def rowc {α : Type} (f : α → List AV) (l : List α) : List AV := (l.map f).flatten
def slc {α : Type} (f : α → List AV) (l : List α) : AV := .psl (rowc f l) 0 l.length
section
variable {α : Type} {f : α → List AV} {sz : Nat}
theorem rowc_nil : rowc f [] = [] := rfl
theorem rowc_cons (x : α) (l : List α) : rowc f (x :: l) = f x ++ rowc f l := rfl
theorem rowc_append (l m : List α) : rowc f (l ++ m) = rowc f l ++ rowc f m := by simp [rowc]
theorem rowc_one (x : α) : rowc f [x] = f x := by simp [rowc]
theorem rowc_length (hf : ∀ x, (f x).length = sz) (l : List α) : (rowc f l).length = l.length * sz := by
  induction l with
  | nil => simp [rowc]
  | cons x l ih => rw [rowc_cons, List.length_append, hf, ih, List.length_cons, Nat.succ_mul]; omega
theorem rowc_drop (hf : ∀ x, (f x).length = sz) : ∀ (l : List α) (i : Nat), (rowc f l).drop (i * sz) = rowc f (l.drop i) := by
  intro l
  induction l with
  | nil => intro i; simp [rowc]
  | cons x l ih =>
    intro i
    cases i with
    | zero => simp
    | succ i =>
      rw [rowc_cons, List.drop_succ_cons, ← ih i]
      have : (i + 1) * sz = (f x).length + i * sz := by rw [hf, Nat.succ_mul]; omega
      rw [this, List.drop_length_add_append]
theorem rowc_seg (hf : ∀ x, (f x).length = sz) {l : List α} {i : Nat} (h : i < l.length) : seg (rowc f l) (i * sz) sz = f l[i] := by
  unfold seg
  rw [rowc_drop hf, List.drop_eq_getElem_cons h, rowc_cons, List.take_left' (hf _)]
theorem rowc_get (hf : ∀ x, (f x).length = sz) {l : List α} {i j : Nat} (h : i < l.length) (hj : j < sz) : (rowc f l)[i * sz + j]? = (f l[i])[j]? := by
  have : (rowc f l)[i * sz + j]? = ((rowc f l).drop (i * sz))[j]? := by simp
  rw [this, rowc_drop hf, List.drop_eq_getElem_cons h, rowc_cons, List.getElem?_append_left (by rw [hf]; exact hj)]
theorem rowc_get0 (hf : ∀ x, (f x).length = sz) {l : List α} {i : Nat} (h : i < l.length) (hj : 0 < sz) : (rowc f l)[i * sz]? = (f l[i])[0]? := rowc_get hf (j := 0) h hj
theorem rowc_seg_in (hf : ∀ x, (f x).length = sz) {l : List α} {i j n : Nat} (h : i < l.length) (hj : j + n ≤ sz) : seg (rowc f l) (i * sz + j) n = seg (f l[i]) j n := by
  unfold seg
  rw [← List.drop_drop, rowc_drop hf, List.drop_eq_getElem_cons h, rowc_cons, List.drop_append_of_le_length (by rw [hf]; omega), List.take_append_of_le_length (by simp [hf]; omega)]
theorem rowc_fit (hf : ∀ x, (f x).length = sz) {l : List α} {i : Nat} (h : i < l.length) : i * sz + sz ≤ (rowc f l).length := by
  rw [rowc_length hf]
  calc i * sz + sz = (i + 1) * sz := by rw [Nat.succ_mul]
    _ ≤ l.length * sz := Nat.mul_le_mul_right _ h
theorem rowc_fxd (hf : ∀ x, FxdL (f x)) (l : List α) : FxdL (rowc f l) := by
  induction l with
  | nil => exact FxdL.nil
  | cons x l ih => rw [rowc_cons]; exact (hf x).append ih
theorem slc_fxd (hf : ∀ x, FxdL (f x)) (l : List α) : Fxd (slc f l) := .psl (rowc_fxd hf l)
theorem rowc_one' (hf : ∀ x, (f x).all AV.one = true) (l : List α) : (rowc f l).all AV.one = true := by
  induction l with
  | nil => rfl
  | cons x l ih => rw [rowc_cons, List.all_append, hf, ih]; rfl
end

/- A plain answer of a call over fixed data serves in every state. -/
theorem AC.told {f : FuncId} {args : List AV} {σ : AState} {a : AV} (hp : FxdL args) (ha : a.flat = true) (h : AC P f args st0 fun v _ => v = a) : AC P f args σ fun v s => s = σ ∧ v = a :=
  AC.share (R := fun v => v = a) hp (h.mono fun v s e => ⟨a, by rw [e]; exact .flat _ ha, rfl⟩)

/- A call whose answer is told. -/
theorem AC.use {f : FuncId} {args : List AV} {σ σ' : AState} {a : AV} {k : AV → AState → Prop} (h : AC P f args σ fun v s => s = σ' ∧ v = a) (hk : k a σ') : AC P f args σ k :=
  h.mono fun v s e => by rw [e.1, e.2]; exact hk
theorem AC.use' {f : FuncId} {args : List AV} {σ σ' : AState} {a : AV} {k : AV → AState → Prop} (h : AC P f args σ fun v s => v = a ∧ s = σ') (hk : k a σ') : AC P f args σ k :=
  h.mono fun v s e => by rw [e.1, e.2]; exact hk
theorem AC.useD {f : FuncId} {args : List AV} {σ σ' : AState} {a : AV} {k : AV → AState → Prop} (h : AC P f args σ fun v s => s = σ' ∧ v = a) (hk : k a σ') : callD P f args σ k :=
  ⟨a, σ', h.mono fun v s e => ⟨e.2, e.1⟩, hk⟩
theorem AC.useD' {f : FuncId} {args : List AV} {σ σ' : AState} {a : AV} {k : AV → AState → Prop} (h : AC P f args σ fun v s => v = a ∧ s = σ') (hk : k a σ') : callD P f args σ k :=
  ⟨a, σ', h, hk⟩

/- The blocks ahead of m are as they were. -/
def Keeps (m : Nat) (σ s : AState) : Prop := m ≤ s.n ∧ ∀ b, b < m → s.h.get b = σ.h.get b
theorem Keeps.refl (σ : AState) : Keeps σ.n σ σ := ⟨Nat.le_refl _, fun b _ => rfl⟩
theorem Keeps.refl' {m : Nat} {σ : AState} (h : m ≤ σ.n) : Keeps m σ σ := ⟨h, fun b _ => rfl⟩
theorem Keeps.trans {m : Nat} {σ s s' : AState} (h : Keeps m σ s) (h' : Keeps m s s') : Keeps m σ s' := ⟨h'.1, fun b hb => (h'.2 b hb).trans (h.2 b hb)⟩
theorem Keeps.mono {m k : Nat} {σ s : AState} (h : Keeps m σ s) (hk : k ≤ m) : Keeps k σ s := ⟨Nat.le_trans hk h.1, fun b hb => h.2 b (Nat.lt_of_lt_of_le hb hk)⟩
theorem Keeps.cells {m : Nat} {σ s : AState} (h : Keeps m σ s) {b : Nat} (hb : b < m) : s.cells b = σ.cells b := by simp only [AState.cells, h.2 b hb]
theorem Keeps.push {m : Nat} {σ s : AState} (h : Keeps m σ s) (o : ABlk) : Keeps m σ (s.push o) :=
  ⟨Nat.le_succ_of_le h.1, fun b hb => by
    have : ¬ b = s.n := by have := h.1; omega
    simp only [AState.push, Tr.get_set, this, if_false]; exact h.2 b hb⟩
theorem Keeps.put {m : Nat} {σ s : AState} (h : Keeps m σ s) {b : Nat} (hb : m ≤ b) (cs : List AV) : Keeps m σ (s.put b cs) :=
  ⟨h.1, fun b' hb' => by
    have : ¬ b' = b := by omega
    simp only [AState.put, Tr.get_set, this, if_false]; exact h.2 b' hb'⟩
theorem Keeps.kill {m : Nat} {σ s : AState} (h : Keeps m σ s) {b : Nat} (hb : m ≤ b) : Keeps m σ (s.kill b) :=
  ⟨h.1, fun b' hb' => by
    have : ¬ b' = b := by omega
    simp only [AState.kill, Tr.get_set, this, if_false]; exact h.2 b' hb'⟩

theorem one_str (l : List UInt8) : AV.one (.str l) = true := Eq.trans rfl rfl
theorem one_int (k : IntKind) (n : Int) : AV.one (.int k n) = true := Eq.trans rfl rfl
theorem one_bool (b : Bool) : AV.one (.bool b) = true := Eq.trans rfl rfl
theorem one_psl (a : List AV) (b c : Nat) : AV.one (.psl a b c) = true := Eq.trans rfl rfl
theorem one_pptr (a : List AV) (b : Nat) : AV.one (.pptr a b) = true := Eq.trans rfl rfl
theorem one_ptr (a b : Nat) : AV.one (.ptr a b) = true := Eq.trans rfl rfl
theorem one_sl (a b c : Nat) (d : Option Nat) (e : Nat) : AV.one (.sl a b c d e) = true := Eq.trans rfl rfl
theorem one_nils : AV.one .nils = true := Eq.trans rfl rfl
theorem one_nilp : AV.one .nilp = true := Eq.trans rfl rfl
theorem one_fn (f : FuncId) (c : List AV) : AV.one (.fn f c) = true := Eq.trans rfl rfl
theorem slc_eq {α : Type} (f : α → List AV) (l : List α) : slc f l = .psl (rowc f l) 0 l.length := Eq.trans rfl rfl
theorem pick_bool (c a b : Bool) : (bif c then AV.bool a else AV.bool b) = AV.bool (bif c then a else b) := by cases c <;> rfl
theorem cond_t (c b : Bool) : (bif c then true else b) = (c || b) := by cases c <;> rfl
theorem cond_f (c a : Bool) : (bif c then a else false) = (c && a) := by cases c <;> rfl
theorem ret_bool (a b : Bool) : (AV.bool a = AV.bool b) = (a = b) := by simp
/- A row of one's own that grows: its cells so far; it lies at or behind block m. -/
def RowA (m : Nat) (σ : AState) (x : AV) (c : List AV) (n sz : Nat) : Prop :=
  (x = .nils ∧ n = 0 ∧ c = []) ∨ ∃ b cap cs, x = .sl b 0 n cap sz ∧ m ≤ b ∧ σ.cells b = some cs ∧ c = seg cs 0 (n * sz) ∧ n * sz ≤ cs.length
theorem RowA.nil (m : Nat) (σ : AState) (sz : Nat) : RowA m σ .nils [] 0 sz := .inl ⟨rfl, rfl, rfl⟩
theorem RowA.len {m : Nat} {σ : AState} {x : AV} {c : List AV} {n sz : Nat} (h : RowA m σ x c n sz) : x.len = some n ∧ c.length = n * sz := by
  rcases h with ⟨rfl, rfl, rfl⟩ | ⟨b, cap, cs, rfl, _, _, rfl, hl⟩
  · exact ⟨rfl, by simp⟩
  · exact ⟨rfl, by simp [seg]; omega⟩
theorem RowA.keep {m k : Nat} {σ s : AState} {x : AV} {c : List AV} {n sz : Nat} (h : RowA m σ x c n sz) (hn : m ≤ σ.n) (hk : ∀ b, m ≤ b → σ.cells b ≠ none → s.cells b = σ.cells b) : RowA m s x c n sz := by
  rcases h with h | ⟨b, cap, cs, rfl, hb, hc, h2, hl⟩
  · exact .inl h
  · exact .inr ⟨b, cap, cs, rfl, hb, by rw [hk b hb (by rw [hc]; simp), hc], h2, hl⟩
theorem seg_self (c : List AV) (n : Nat) (h : c.length = n) : seg c 0 n = c := by
  subst h; simp [seg]
theorem app_row {m : Nat} {σ : AState} {x y : AV} {c new : List AV} {n k sz bytes : Nat} (hx : RowA m σ x c n sz) (hm : m ≤ σ.n) (hy : y.len = some k) (hf : firstA σ sz k y = some new) (hone : new.all AV.one = true) (hl : new.length = k * sz)
    (hb : (2 * (n + k) + 1024) * bytes ≤ 140737488355328) : ∃ x' s, appendA σ sz bytes x y = some (x', s) ∧ RowA m s x' (c ++ new) (n + k) sz ∧ Keeps m σ s := by
  have h1 : Nat.ble ((2 * (n + k) + 1024) * bytes) 140737488355328 = true := Nat.ble_eq_true_of_le hb
  have h2 : Nat.beq new.length (k * sz) = true := by rw [hl]; exact Nat.beq_refl _
  obtain ⟨hxl, hcl⟩ := hx.len
  have fresh : ∀ (s0 : AState), Keeps m σ s0 → ∀ cap, RowA m (s0.push (.cells (c ++ new))) (.sl s0.n 0 (n + k) cap sz) (c ++ new) (n + k) sz := fun s0 h0 cap =>
    .inr ⟨s0.n, cap, c ++ new, rfl, h0.1, push_cells _ _, by rw [seg_self]; rw [List.length_append, hcl, hl, Nat.add_mul], by rw [List.length_append, hcl, hl, Nat.add_mul]; exact Nat.le_refl _⟩
  unfold appendA
  simp only [hxl, hy, hf, h1, h2, hone, Bool.and_true, Bool.true_and, cond_true]
  rcases hx with ⟨rfl, rfl, rfl⟩ | ⟨b, cap, cs, rfl, hmb, hcs, hc, hlc⟩
  · cases h0 : Nat.beq k 0 with
    | true =>
      have := Nat.eq_of_beq_eq_true h0
      subst this
      have : new = [] := List.eq_nil_of_length_eq_zero (by omega)
      subst this
      exact ⟨_, _, rfl, RowA.nil _ _ _, Keeps.refl' hm⟩
    | false =>
      have := fresh σ (Keeps.refl' hm) none
      simp only [Nat.zero_add, List.nil_append] at this ⊢
      exact ⟨_, _, rfl, this, (Keeps.refl' hm).push _⟩
  · have h3 : Nat.beq sz sz = true := Nat.beq_refl _
    have h4 : Nat.ble (0 + n * sz) cs.length = true := Nat.ble_eq_true_of_le (by omega)
    simp only [hcs, h3, h4, Bool.and_true, cond_true, ← hc]
    cases cap with
    | none => exact ⟨_, _, rfl, fresh (σ.kill b) ((Keeps.refl' hm).kill hmb) none, ((Keeps.refl' hm).kill hmb).push _⟩
    | some c' =>
      simp only
      cases hle : Nat.ble (n + k) c' with
      | true => exact ⟨_, _, rfl, fresh (σ.kill b) ((Keeps.refl' hm).kill hmb) (some c'), ((Keeps.refl' hm).kill hmb).push _⟩
      | false => exact ⟨_, _, rfl, fresh σ (Keeps.refl' hm) none, (Keeps.refl' hm).push _⟩
theorem firstA_psl' {σ : AState} {sz n : Nat} {cs : List AV} (h : cs.length = n * sz) : firstA σ sz n (.psl cs 0 n) = some cs := by
  unfold firstA
  cases h0 : Nat.beq n 0 with
  | true =>
    have := Nat.eq_of_beq_eq_true h0
    subst this
    rw [List.eq_nil_of_length_eq_zero (by omega : cs.length = 0)]; rfl
  | false =>
    have hb : Nat.ble (0 + n * sz) cs.length = true := Nat.ble_eq_true_of_le (by omega)
    simp only [cond_false, base, hb, cond_true]
    rw [seg_self _ _ h]
theorem RowA.firstA {m : Nat} {σ : AState} {x : AV} {c : List AV} {n sz : Nat} (h : RowA m σ x c n sz) : firstA σ sz n x = some c := by
  rcases h with ⟨rfl, rfl, rfl⟩ | ⟨b, cap, cs, rfl, _, hc, rfl, hl⟩
  · rfl
  · unfold Va.firstA
    cases h0 : Nat.beq n 0 with
    | true =>
      have := Nat.eq_of_beq_eq_true h0
      subst this
      simp [seg]
    | false =>
      have hb : Nat.ble (0 + n * sz) cs.length = true := Nat.ble_eq_true_of_le (by omega)
      simp only [cond_false, base, hc, hb, cond_true]
/- .. seen as fixed data. -/
theorem RowA.pur {m : Nat} {σ : AState} {x : AV} {c : List AV} {n sz : Nat} (al : Bool) (h : RowA m σ x c n sz) {c' : List AV} (hl : c'.length = c.length) (hp : ∀ i (hi : i < c.length) (hi' : i < c'.length), Pur σ al c[i] c'[i]) : Pur σ al x (.psl c' 0 n) := by
  rcases h with ⟨rfl, rfl, rfl⟩ | ⟨b, cap, cs, rfl, _, hc, rfl, hlc⟩
  · exact .nils _ _
  · have hsl : (seg cs 0 (n * sz)).length = n * sz := by simp [seg]; omega
    refine .sl b 0 n cap sz cs c' hc (by omega) (by omega) fun i hi hi' => ?_
    have hi2 : i < (seg cs 0 (n * sz)).length := by omega
    have := hp i hi2 hi'
    have e : (seg cs 0 (n * sz))[i] = cs[0 + i] := by simp [seg]
    rw [e] at this
    exact this

/- ------------------------------------------------ a halt between two pieces of code -/
theorem stepW_mono {o : AOp} {ρ : Env} {σ : AState} {k k' : AV → AState → Prop} (h : stepW P o ρ σ k) (hk : ∀ v s, k v s → k' v s) : stepW P o ρ σ k' := by
  cases o
  case call f args => exact AC.mono h hk
  case callv f args =>
    simp only [stepW] at h ⊢
    split at h
    · rename_i e; exact AC.mono h hk
    · exact h.elim
  all_goals
    simp only [stepW, andK] at h ⊢
    split at h
    · rename_i e; exact hk _ _ h
    · exact h.elim
theorem wpW_mono : ∀ (l : List AOper) (ρ : Env) (σ : AState) (Q Q' : Env → AState → Prop), (∀ r s, Q r s → Q' r s) → wpW P l Q ρ σ → wpW P l Q' ρ σ := by
  intro l
  induction l with
  | nil => intro ρ σ Q Q' hq h; exact hq _ _ h
  | cons o r ih =>
    intro ρ σ Q Q' hq h
    simp only [wpW, onG] at h ⊢
    split at h
    · exact stepW_mono h fun v s h => ih _ _ _ _ hq h
    · exact ih _ _ _ _ hq h
    · exact h.elim
theorem wpC_mono {N : Nat} : ∀ (c : ACode) (Q Q' : AExit → Env → AState → Prop) (ρ : Env) (σ : AState), (∀ e ρ σ, Q e ρ σ → Q' e ρ σ) → wpC P N c Q ρ σ → wpC P N c Q' ρ σ := by
  intro c
  induction c with
  | skip => intro Q Q' ρ σ hq h; exact hq _ _ _ h
  | reg ops => intro Q Q' ρ σ hq h; exact wpW_mono _ _ _ _ _ (fun r s h => hq _ _ _ h) h
  | seq a b iha ihb =>
    intro Q Q' ρ σ hq h
    refine iha _ _ _ _ (fun e ρ σ h => ?_) h
    cases e with
    | normal => exact ihb _ _ _ _ hq h
    | exit i => exact hq _ _ _ h
    | ret => exact hq _ _ _ h
  | cond o a b iha ihb =>
    intro Q Q' ρ σ hq h
    simp only [wpC, onB] at h ⊢
    split at h
    · rename_i b e
      cases b with
      | true => rw [Br_true] at h ⊢; exact iha _ _ _ _ hq h
      | false => rw [Br_false] at h ⊢; exact ihb _ _ _ _ hq h
    · exact h.elim
  | block id c ih =>
    intro Q Q' ρ σ hq h
    refine ih _ _ _ _ (fun e ρ σ h => ?_) h
    cases e with
    | exit i => simp only [AExit.inBlock] at h ⊢; split <;> rename_i hi <;> simp only [hi, if_true, if_false] at h <;> exact hq _ _ _ h
    | _ => exact hq _ _ _ h
  | loop c ih => intro Q Q' ρ σ hq h; exact SimA.mono h hq
  | exit id => intro Q Q' ρ σ hq h; exact hq _ _ _ h
  | ret => intro Q Q' ρ σ hq h; exact hq _ _ _ h
  | dreg ops acts B sl => intro Q Q' ρ σ hq h; exact SimA.mono h hq
  | bad => intro Q Q' ρ σ hq h; exact h.elim

def midQ (M : Env → AState → Prop) (Q : AExit → Env → AState → Prop) (e : AExit) (ρ : Env) (σ : AState) : Prop := match e with | .normal => M ρ σ | .exit i => Q (.exit i) ρ σ | .ret => Q .ret ρ σ
section
variable (M : Env → AState → Prop) (Q : AExit → Env → AState → Prop) (ρ : Env) (σ : AState)
theorem midQ_normal : midQ M Q .normal ρ σ = M ρ σ := propext ⟨fun h => h, fun h => h⟩
theorem midQ_exit (i : Nat) : midQ M Q (.exit i) ρ σ = Q (.exit i) ρ σ := propext ⟨fun h => h, fun h => h⟩
theorem midQ_ret : midQ M Q .ret ρ σ = Q .ret ρ σ := propext ⟨fun h => h, fun h => h⟩
end
/- Between a piece and the rest. -/
theorem w_mid {N : Nat} {a b : ACode} {Q : AExit → Env → AState → Prop} {ρ : Env} {σ : AState} (M : Env → AState → Prop) (h1 : wpC P N a (midQ M Q) ρ σ) (h2 : ∀ ρ σ, M ρ σ → wpC P N b Q ρ σ) : wpC P N a (wpCK P N b Q) ρ σ := by
  refine wpC_mono _ _ _ _ _ (fun e ρ σ h => ?_) h1
  cases e with
  | normal => exact h2 _ _ h
  | _ => exact h
/- .. behind the piece that stands first. -/
theorem w_mid0 {N : Nat} {b : ACode} {Q : AExit → Env → AState → Prop} {ρ : Env} {σ : AState} (M : Env → AState → Prop) (h1 : M ρ σ) (h2 : ∀ ρ σ, M ρ σ → wpC P N b Q ρ σ) : wpC P N b Q ρ σ := h2 _ _ h1

theorem es_eql (x y : List UInt8) : evalStr .eql x y = some (.bool (decide (x = y))) := by
  simp only [evalStr]; congr 2; by_cases h : x = y <;> simp [h]
theorem es_neq (x y : List UInt8) : evalStr .neq x y = some (.bool (decide (x ≠ y))) := by
  simp only [evalStr]; congr 2; by_cases h : x = y <;> simp [h]
theorem es_leq (x y : List UInt8) : evalStr .leq x y = some (.bool (Op.bytesLess x y || x == y)) := Eq.trans rfl rfl
theorem es_lss (x y : List UInt8) : evalStr .lss x y = some (.bool (Op.bytesLess x y)) := Eq.trans rfl rfl
theorem st0_cells (b : Nat) : st0.cells b = none := Eq.trans rfl rfl
theorem ne_add {a n : Nat} (h : a < n) (k : Nat) : ¬ a = n + k := by omega
end Go.Proofs.Ytaokfpjjaejjgaa.Va
