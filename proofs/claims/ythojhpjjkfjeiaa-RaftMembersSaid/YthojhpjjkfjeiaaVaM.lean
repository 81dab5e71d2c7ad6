/- What comes in: the common shapes; how a law's contract serves for what comes in. Conditions: none. -/
import Derived.Test.YthojhpjjkfjeiaaVaK
import Derived.Test.YthojhpjjkfjeiaaVaL
set_option linter.unusedSimpArgs false
set_option linter.unusedVariables false
namespace Go.Proofs.Ythojhpjjkfjeiaa.Va
variable {P : Program}

theorem wt_int {n : Nat} {t : TypeId} {k : IntKind} {c : List AV} (hu : P.underlying t = some (.int k)) (h : Wt P n t c) : ∃ a, c = [.int k a] ∧ k.min ≤ a ∧ a ≤ k.max := by
  cases n with
  | zero => exact h.elim
  | succ n =>
    simp only [Wt, hu] at h
    obtain ⟨a, rfl, ha⟩ := h
    simp only [Lit.wf, decide_eq_true_eq, Bool.and_eq_true] at ha
    exact ⟨a, rfl, ha.1, ha.2⟩
theorem wt_bool {n : Nat} {t : TypeId} {c : List AV} (hu : P.underlying t = some .bool) (h : Wt P n t c) : ∃ a, c = [.bool a] := by
  cases n with
  | zero => exact h.elim
  | succ n => simp only [Wt, hu] at h; exact h
theorem wt_str {n : Nat} {t : TypeId} {c : List AV} (hu : P.underlying t = some .string) (h : Wt P n t c) : ∃ l, c = [.str l] ∧ l.length ≤ maxLen := by
  cases n with
  | zero => exact h.elim
  | succ n => simp only [Wt, hu] at h; exact h
theorem wt_slice {n : Nat} {t e : TypeId} {c : List AV} (hu : P.underlying t = some (.slice e)) (h : Wt P n t c) :
    ∃ m, ∃ cs : List (List AV), n = m + 1 ∧ c = [.psl cs.flatten 0 cs.length] ∧ cs.length ≤ maxLen ∧ ∀ x ∈ cs, Wt P m e x := by
  cases n with
  | zero => exact h.elim
  | succ n =>
    simp only [Wt, hu] at h
    obtain ⟨cs, h1, h2, h3⟩ := h
    exact ⟨n, cs, rfl, h1, h2, h3⟩
theorem wt_struct {n : Nat} {t : TypeId} {fs : Array Field} {c : List AV} (hu : P.underlying t = some (.struct fs)) (h : Wt P n t c) : ∃ m, n = m + 1 ∧ WtFs (Wt P m) fs.toList c := by
  cases n with
  | zero => exact h.elim
  | succ n => simp only [Wt, hu] at h; exact ⟨n, rfl, h⟩
/- Rows of such as a Lean type tells. -/
theorem wt_rows {n : Nat} {t e : TypeId} {α : Type} {f : α → List AV} {good : α → Prop} {c : List AV} (hu : P.underlying t = some (.slice e)) (hf : ∀ n c, Wt P n e c → ∃ x, c = f x ∧ good x) (h : Wt P n t c) :
    ∃ l : List α, c = [.psl (l.map f).flatten 0 l.length] ∧ l.length ≤ maxLen ∧ ∀ x ∈ l, good x := by
  obtain ⟨m, cs, rfl, rfl, h2, h3⟩ := wt_slice hu h
  obtain ⟨l, rfl, hl⟩ := wt_row (hf m) h3
  exact ⟨l, by simp, by simpa using h2, hl⟩
theorem wt_u8 {n : Nat} {t : TypeId} {c : List AV} (hu : P.underlying t = some (.int .u8)) (h : Wt P n t c) : ∃ x : UInt8, c = [.int .u8 x.toNat] := by
  obtain ⟨a, rfl, h1, h2⟩ := wt_int hu h
  have h1' : (0 : Int) ≤ a := h1
  have h2' : a ≤ 255 := h2
  refine ⟨UInt8.ofNat a.toNat, ?_⟩
  have : ((UInt8.ofNat a.toNat).toNat : Int) = a := by simp; omega
  rw [this]
theorem flat_one {α : Type} (g : α → AV) : ∀ l : List α, (l.map fun x => [g x]).flatten = l.map g := by
  intro l
  induction l with
  | nil => rfl
  | cons a l ih => simp only [List.map_cons, List.flatten_cons, ih, List.cons_append, List.nil_append]
theorem flat_u8 (l : List UInt8) : (l.map fun x : UInt8 => [AV.int .u8 x.toNat]).flatten = ofU8s l := flat_one _ l
theorem wt_bytes {n : Nat} {t e : TypeId} {c : List AV} (hu : P.underlying t = some (.slice e)) (he : P.underlying e = some (.int .u8)) (h : Wt P n t c) :
    ∃ l : List UInt8, c = [.psl (ofU8s l) 0 l.length] ∧ l.length ≤ maxLen := by
  obtain ⟨l, rfl, h1, _⟩ := wt_rows (f := fun x : UInt8 => [.int .u8 x.toNat]) (good := fun _ => True) hu (fun n c h => by obtain ⟨x, hx⟩ := wt_u8 he h; exact ⟨x, hx, trivial⟩) h
  refine ⟨l, ?_, h1⟩
  rw [flat_u8]
def ofInts (l : List Int) : List AV := l.map fun n => .int .i64 n
theorem flat_ints (l : List Int) : (l.map fun x : Int => [AV.int .i64 x]).flatten = ofInts l := flat_one _ l
theorem wt_ints {n : Nat} {t e : TypeId} {c : List AV} (hu : P.underlying t = some (.slice e)) (he : P.underlying e = some (.int .i64)) (h : Wt P n t c) :
    ∃ l : List Int, c = [.psl (ofInts l) 0 l.length] ∧ l.length ≤ maxLen ∧ ∀ x ∈ l, -9223372036854775808 ≤ x ∧ x ≤ 9223372036854775807 := by
  obtain ⟨l, rfl, h1, h2⟩ := wt_rows (f := fun x : Int => [.int .i64 x]) (good := fun x => -9223372036854775808 ≤ x ∧ x ≤ 9223372036854775807) hu (fun n c h => by obtain ⟨x, hx, h1, h2⟩ := wt_int he h; exact ⟨x, hx, h1, h2⟩) h
  refine ⟨l, ?_, h1, h2⟩
  rw [flat_ints]

/- A parameter that is no struct, one that is. -/
theorem arg_one {K : Know} {w : World} {r : Reach} {b : Nat} {t : TypeId} {v : Value} {a : AV} (hn : isAggT P t = some false) (hval : Value.okWide P w r b t v) (h : VRL K [a] v.cells.toList) : VR K a v := by
  have hv : v.cells = #[v] := by
    unfold isAggT at hn
    unfold Value.okWide at hval
    cases hu : P.underlying t with
    | none => rw [hu] at hn; cases hn
    | some d =>
      rw [hu] at hn hval
      cases v with
      | agg cs =>
        exfalso
        cases d <;> simp at hn <;> simp [Cell.okWide, Cell.ok, hu] at hval
      | _ => rfl
  rw [hv] at h
  obtain ⟨x, vs', h1, h2, _⟩ := h.of_cons
  simp at h1
  rw [h1.1]; exact h2
theorem arg_agg {K : Know} {w : World} {r : Reach} {b : Nat} {t : TypeId} {v : Value} {c : List AV} (hn : ∃ fs, P.underlying t = some (.struct fs)) (hval : Value.okWide P w r b t v) (h : VRL K c v.cells.toList) : VR K (.agg c) v := by
  obtain ⟨fs, hu⟩ := hn
  unfold Value.okWide at hval
  rw [hu] at hval
  obtain ⟨cs, rfl, _⟩ := hval
  have := VR.agg (K := K) c cs.toList h.1 h.2
  simpa using this
end Go.Proofs.Ythojhpjjkfjeiaa.Va
set_option linter.unusedSimpArgs false
set_option linter.unusedVariables false
namespace Go.Proofs.Ythojhpjjkfjeiaa.Va
variable {P : Program}

def rowc {α : Type} (f : α → List AV) (l : List α) : List AV := (l.map f).flatten
def slc {α : Type} (f : α → List AV) (l : List α) : AV := .psl (rowc f l) 0 l.length
section
variable {α : Type} {f : α → List AV} {sz : Nat}
theorem rowc_nil : rowc f [] = [] := rfl
theorem rowc_cons (x : α) (l : List α) : rowc f (x :: l) = f x ++ rowc f l := rfl
theorem rowc_append (l m : List α) : rowc f (l ++ m) = rowc f l ++ rowc f m := by simp [rowc]
theorem rowc_one (x : α) : rowc f [x] = f x := by simp [rowc]
theorem rowc_length (hf : ∀ x, (f x).length = sz) (l : List α) : (rowc f l).length = l.length * sz := by
  induction l with
  | nil => simp [rowc]
  | cons x l ih => rw [rowc_cons, List.length_append, hf, ih, List.length_cons, Nat.succ_mul]; omega
theorem rowc_drop (hf : ∀ x, (f x).length = sz) : ∀ (l : List α) (i : Nat), (rowc f l).drop (i * sz) = rowc f (l.drop i) := by
  intro l
  induction l with
  | nil => intro i; simp [rowc]
  | cons x l ih =>
    intro i
    cases i with
    | zero => simp
    | succ i =>
      rw [rowc_cons, List.drop_succ_cons, ← ih i]
      have : (i + 1) * sz = (f x).length + i * sz := by rw [hf, Nat.succ_mul]; omega
      rw [this, List.drop_length_add_append]
theorem rowc_seg (hf : ∀ x, (f x).length = sz) {l : List α} {i : Nat} (h : i < l.length) : seg (rowc f l) (i * sz) sz = f l[i] := by
  unfold seg
  rw [rowc_drop hf, List.drop_eq_getElem_cons h, rowc_cons, List.take_left' (hf _)]
theorem rowc_get (hf : ∀ x, (f x).length = sz) {l : List α} {i j : Nat} (h : i < l.length) (hj : j < sz) : (rowc f l)[i * sz + j]? = (f l[i])[j]? := by
  have : (rowc f l)[i * sz + j]? = ((rowc f l).drop (i * sz))[j]? := by simp
  rw [this, rowc_drop hf, List.drop_eq_getElem_cons h, rowc_cons, List.getElem?_append_left (by rw [hf]; exact hj)]
theorem rowc_get0 (hf : ∀ x, (f x).length = sz) {l : List α} {i : Nat} (h : i < l.length) (hj : 0 < sz) : (rowc f l)[i * sz]? = (f l[i])[0]? := rowc_get hf (j := 0) h hj
theorem rowc_seg_in (hf : ∀ x, (f x).length = sz) {l : List α} {i j n : Nat} (h : i < l.length) (hj : j + n ≤ sz) : seg (rowc f l) (i * sz + j) n = seg (f l[i]) j n := by
  unfold seg
  rw [← List.drop_drop, rowc_drop hf, List.drop_eq_getElem_cons h, rowc_cons, List.drop_append_of_le_length (by rw [hf]; omega), List.take_append_of_le_length (by simp [hf]; omega)]
theorem rowc_fit (hf : ∀ x, (f x).length = sz) {l : List α} {i : Nat} (h : i < l.length) : i * sz + sz ≤ (rowc f l).length := by
  rw [rowc_length hf]
  calc i * sz + sz = (i + 1) * sz := by rw [Nat.succ_mul]
    _ ≤ l.length * sz := Nat.mul_le_mul_right _ h
theorem rowc_fxd (hf : ∀ x, FxdL (f x)) (l : List α) : FxdL (rowc f l) := by
  induction l with
  | nil => exact FxdL.nil
  | cons x l ih => rw [rowc_cons]; exact (hf x).append ih
theorem slc_fxd (hf : ∀ x, FxdL (f x)) (l : List α) : Fxd (slc f l) := .psl (rowc_fxd hf l)
theorem rowc_one' (hf : ∀ x, (f x).all AV.one = true) (l : List α) : (rowc f l).all AV.one = true := by
  induction l with
  | nil => rfl
  | cons x l ih => rw [rowc_cons, List.all_append, hf, ih]; rfl
end

/- A plain answer of a call over fixed data serves in every state. -/
theorem AC.told {f : FuncId} {args : List AV} {σ : AState} {a : AV} (hp : FxdL args) (ha : a.flat = true) (h : AC P f args st0 fun v _ => v = a) : AC P f args σ fun v s => s = σ ∧ v = a :=
  AC.share (R := fun v => v = a) hp (h.mono fun v s e => ⟨a, by rw [e]; exact .flat _ ha, rfl⟩)

/- A call whose answer is told. -/
theorem AC.use {f : FuncId} {args : List AV} {σ σ' : AState} {a : AV} {k : AV → AState → Prop} (h : AC P f args σ fun v s => s = σ' ∧ v = a) (hk : k a σ') : AC P f args σ k :=
  h.mono fun v s e => by rw [e.1, e.2]; exact hk
theorem AC.use' {f : FuncId} {args : List AV} {σ σ' : AState} {a : AV} {k : AV → AState → Prop} (h : AC P f args σ fun v s => v = a ∧ s = σ') (hk : k a σ') : AC P f args σ k :=
  h.mono fun v s e => by rw [e.1, e.2]; exact hk
theorem AC.useD {f : FuncId} {args : List AV} {σ σ' : AState} {a : AV} {k : AV → AState → Prop} (h : AC P f args σ fun v s => s = σ' ∧ v = a) (hk : k a σ') : callD P f args σ k :=
  ⟨a, σ', h.mono fun v s e => ⟨e.2, e.1⟩, hk⟩
theorem AC.useD' {f : FuncId} {args : List AV} {σ σ' : AState} {a : AV} {k : AV → AState → Prop} (h : AC P f args σ fun v s => v = a ∧ s = σ') (hk : k a σ') : callD P f args σ k :=
  ⟨a, σ', h, hk⟩

/- The blocks ahead of m are as they were. -/
def Keeps (m : Nat) (σ s : AState) : Prop := m ≤ s.n ∧ ∀ b, b < m → s.h.get b = σ.h.get b
theorem Keeps.refl (σ : AState) : Keeps σ.n σ σ := ⟨Nat.le_refl _, fun b _ => rfl⟩
theorem Keeps.refl' {m : Nat} {σ : AState} (h : m ≤ σ.n) : Keeps m σ σ := ⟨h, fun b _ => rfl⟩
theorem Keeps.trans {m : Nat} {σ s s' : AState} (h : Keeps m σ s) (h' : Keeps m s s') : Keeps m σ s' := ⟨h'.1, fun b hb => (h'.2 b hb).trans (h.2 b hb)⟩
theorem Keeps.mono {m k : Nat} {σ s : AState} (h : Keeps m σ s) (hk : k ≤ m) : Keeps k σ s := ⟨Nat.le_trans hk h.1, fun b hb => h.2 b (Nat.lt_of_lt_of_le hb hk)⟩
theorem Keeps.cells {m : Nat} {σ s : AState} (h : Keeps m σ s) {b : Nat} (hb : b < m) : s.cells b = σ.cells b := by simp only [AState.cells, h.2 b hb]
theorem Keeps.push {m : Nat} {σ s : AState} (h : Keeps m σ s) (o : ABlk) : Keeps m σ (s.push o) :=
  ⟨Nat.le_succ_of_le h.1, fun b hb => by
    have : ¬ b = s.n := by have := h.1; omega
    simp only [AState.push, Tr.get_set, this, if_false]; exact h.2 b hb⟩
theorem Keeps.put {m : Nat} {σ s : AState} (h : Keeps m σ s) {b : Nat} (hb : m ≤ b) (cs : List AV) : Keeps m σ (s.put b cs) :=
  ⟨h.1, fun b' hb' => by
    have : ¬ b' = b := by omega
    simp only [AState.put, Tr.get_set, this, if_false]; exact h.2 b' hb'⟩
theorem Keeps.kill {m : Nat} {σ s : AState} (h : Keeps m σ s) {b : Nat} (hb : m ≤ b) : Keeps m σ (s.kill b) :=
  ⟨h.1, fun b' hb' => by
    have : ¬ b' = b := by omega
    simp only [AState.kill, Tr.get_set, this, if_false]; exact h.2 b' hb'⟩

theorem one_str (l : List UInt8) : AV.one (.str l) = true := Eq.trans rfl rfl
theorem one_int (k : IntKind) (n : Int) : AV.one (.int k n) = true := Eq.trans rfl rfl
theorem one_bool (b : Bool) : AV.one (.bool b) = true := Eq.trans rfl rfl
theorem one_psl (a : List AV) (b c : Nat) : AV.one (.psl a b c) = true := Eq.trans rfl rfl
theorem one_pptr (a : List AV) (b : Nat) : AV.one (.pptr a b) = true := Eq.trans rfl rfl
theorem one_ptr (a b : Nat) : AV.one (.ptr a b) = true := Eq.trans rfl rfl
theorem one_sl (a b c : Nat) (d : Option Nat) (e : Nat) : AV.one (.sl a b c d e) = true := Eq.trans rfl rfl
theorem one_nils : AV.one .nils = true := Eq.trans rfl rfl
theorem one_nilp : AV.one .nilp = true := Eq.trans rfl rfl
theorem one_fn (f : FuncId) (c : List AV) : AV.one (.fn f c) = true := Eq.trans rfl rfl
theorem slc_eq {α : Type} (f : α → List AV) (l : List α) : slc f l = .psl (rowc f l) 0 l.length := Eq.trans rfl rfl
theorem pick_bool (c a b : Bool) : (bif c then AV.bool a else AV.bool b) = AV.bool (bif c then a else b) := by cases c <;> rfl
theorem cond_t (c b : Bool) : (bif c then true else b) = (c || b) := by cases c <;> rfl
theorem cond_f (c a : Bool) : (bif c then a else false) = (c && a) := by cases c <;> rfl
theorem ret_bool (a b : Bool) : (AV.bool a = AV.bool b) = (a = b) := by simp
/- A row of one's own that grows: its cells so far; it lies at or behind block m. -/
def RowA (m : Nat) (σ : AState) (x : AV) (c : List AV) (n sz : Nat) : Prop :=
  (x = .nils ∧ n = 0 ∧ c = []) ∨ ∃ b cap cs, x = .sl b 0 n cap sz ∧ m ≤ b ∧ σ.cells b = some cs ∧ c = seg cs 0 (n * sz) ∧ n * sz ≤ cs.length
theorem RowA.nil (m : Nat) (σ : AState) (sz : Nat) : RowA m σ .nils [] 0 sz := .inl ⟨rfl, rfl, rfl⟩
theorem RowA.len {m : Nat} {σ : AState} {x : AV} {c : List AV} {n sz : Nat} (h : RowA m σ x c n sz) : x.len = some n ∧ c.length = n * sz := by
  rcases h with ⟨rfl, rfl, rfl⟩ | ⟨b, cap, cs, rfl, _, _, rfl, hl⟩
  · exact ⟨rfl, by simp⟩
  · exact ⟨rfl, by simp [seg]; omega⟩
theorem RowA.keep {m k : Nat} {σ s : AState} {x : AV} {c : List AV} {n sz : Nat} (h : RowA m σ x c n sz) (hn : m ≤ σ.n) (hk : ∀ b, m ≤ b → σ.cells b ≠ none → s.cells b = σ.cells b) : RowA m s x c n sz := by
  rcases h with h | ⟨b, cap, cs, rfl, hb, hc, h2, hl⟩
  · exact .inl h
  · exact .inr ⟨b, cap, cs, rfl, hb, by rw [hk b hb (by rw [hc]; simp), hc], h2, hl⟩
theorem seg_self (c : List AV) (n : Nat) (h : c.length = n) : seg c 0 n = c := by
  subst h; simp [seg]
theorem app_row {m : Nat} {σ : AState} {x y : AV} {c new : List AV} {n k sz bytes : Nat} (hx : RowA m σ x c n sz) (hm : m ≤ σ.n) (hy : y.len = some k) (hf : firstA σ sz k y = some new) (hone : new.all AV.one = true) (hl : new.length = k * sz)
    (hb : (2 * (n + k) + 1024) * bytes ≤ 140737488355328) : ∃ x' s, appendA σ sz bytes x y = some (x', s) ∧ RowA m s x' (c ++ new) (n + k) sz ∧ Keeps m σ s := by
  have h1 : Nat.ble ((2 * (n + k) + 1024) * bytes) 140737488355328 = true := Nat.ble_eq_true_of_le hb
  have h2 : Nat.beq new.length (k * sz) = true := by rw [hl]; exact Nat.beq_refl _
  obtain ⟨hxl, hcl⟩ := hx.len
  have fresh : ∀ (s0 : AState), Keeps m σ s0 → ∀ cap, RowA m (s0.push (.cells (c ++ new))) (.sl s0.n 0 (n + k) cap sz) (c ++ new) (n + k) sz := fun s0 h0 cap =>
    .inr ⟨s0.n, cap, c ++ new, rfl, h0.1, push_cells _ _, by rw [seg_self]; rw [List.length_append, hcl, hl, Nat.add_mul], by rw [List.length_append, hcl, hl, Nat.add_mul]; exact Nat.le_refl _⟩
  unfold appendA
  simp only [hxl, hy, hf, h1, h2, hone, Bool.and_true, Bool.true_and, cond_true]
  rcases hx with ⟨rfl, rfl, rfl⟩ | ⟨b, cap, cs, rfl, hmb, hcs, hc, hlc⟩
  · cases h0 : Nat.beq k 0 with
    | true =>
      have := Nat.eq_of_beq_eq_true h0
      subst this
      have : new = [] := List.eq_nil_of_length_eq_zero (by omega)
      subst this
      exact ⟨_, _, rfl, RowA.nil _ _ _, Keeps.refl' hm⟩
    | false =>
      have := fresh σ (Keeps.refl' hm) none
      simp only [Nat.zero_add, List.nil_append] at this ⊢
      exact ⟨_, _, rfl, this, (Keeps.refl' hm).push _⟩
  · have h3 : Nat.beq sz sz = true := Nat.beq_refl _
    have h4 : Nat.ble (0 + n * sz) cs.length = true := Nat.ble_eq_true_of_le (by omega)
    simp only [hcs, h3, h4, Bool.and_true, cond_true, ← hc]
    cases cap with
    | none => exact ⟨_, _, rfl, fresh (σ.kill b) ((Keeps.refl' hm).kill hmb) none, ((Keeps.refl' hm).kill hmb).push _⟩
    | some c' =>
      simp only
      cases hle : Nat.ble (n + k) c' with
      | true => exact ⟨_, _, rfl, fresh (σ.kill b) ((Keeps.refl' hm).kill hmb) (some c'), ((Keeps.refl' hm).kill hmb).push _⟩
      | false => exact ⟨_, _, rfl, fresh σ (Keeps.refl' hm) none, (Keeps.refl' hm).push _⟩
theorem firstA_psl' {σ : AState} {sz n : Nat} {cs : List AV} (h : cs.length = n * sz) : firstA σ sz n (.psl cs 0 n) = some cs := by
  unfold firstA
  cases h0 : Nat.beq n 0 with
  | true =>
    have := Nat.eq_of_beq_eq_true h0
    subst this
    rw [List.eq_nil_of_length_eq_zero (by omega : cs.length = 0)]; rfl
  | false =>
    have hb : Nat.ble (0 + n * sz) cs.length = true := Nat.ble_eq_true_of_le (by omega)
    simp only [cond_false, base, hb, cond_true]
    rw [seg_self _ _ h]
theorem RowA.firstA {m : Nat} {σ : AState} {x : AV} {c : List AV} {n sz : Nat} (h : RowA m σ x c n sz) : firstA σ sz n x = some c := by
  rcases h with ⟨rfl, rfl, rfl⟩ | ⟨b, cap, cs, rfl, _, hc, rfl, hl⟩
  · rfl
  · unfold Va.firstA
    cases h0 : Nat.beq n 0 with
    | true =>
      have := Nat.eq_of_beq_eq_true h0
      subst this
      simp [seg]
    | false =>
      have hb : Nat.ble (0 + n * sz) cs.length = true := Nat.ble_eq_true_of_le (by omega)
      simp only [cond_false, base, hc, hb, cond_true]
/- .. seen as fixed data. -/
theorem RowA.pur {m : Nat} {σ : AState} {x : AV} {c : List AV} {n sz : Nat} (al : Bool) (h : RowA m σ x c n sz) {c' : List AV} (hl : c'.length = c.length) (hp : ∀ i (hi : i < c.length) (hi' : i < c'.length), Pur σ al c[i] c'[i]) : Pur σ al x (.psl c' 0 n) := by
  rcases h with ⟨rfl, rfl, rfl⟩ | ⟨b, cap, cs, rfl, _, hc, rfl, hlc⟩
  · exact .nils _ _
  · have hsl : (seg cs 0 (n * sz)).length = n * sz := by simp [seg]; omega
    refine .sl b 0 n cap sz cs c' hc (by omega) (by omega) fun i hi hi' => ?_
    have hi2 : i < (seg cs 0 (n * sz)).length := by omega
    have := hp i hi2 hi'
    have e : (seg cs 0 (n * sz))[i] = cs[0 + i] := by simp [seg]
    rw [e] at this
    exact this

/- ------------------------------------------------ a halt between two pieces of code -/
theorem stepW_mono {o : AOp} {ρ : Env} {σ : AState} {k k' : AV → AState → Prop} (h : stepW P o ρ σ k) (hk : ∀ v s, k v s → k' v s) : stepW P o ρ σ k' := by
  cases o
  case call f args => exact AC.mono h hk
  case callv f args =>
    simp only [stepW] at h ⊢
    split at h
    · rename_i e; exact AC.mono h hk
    · exact h.elim
  all_goals
    simp only [stepW, andK] at h ⊢
    split at h
    · rename_i e; exact hk _ _ h
    · exact h.elim
theorem wpW_mono : ∀ (l : List AOper) (ρ : Env) (σ : AState) (Q Q' : Env → AState → Prop), (∀ r s, Q r s → Q' r s) → wpW P l Q ρ σ → wpW P l Q' ρ σ := by
  intro l
  induction l with
  | nil => intro ρ σ Q Q' hq h; exact hq _ _ h
  | cons o r ih =>
    intro ρ σ Q Q' hq h
    simp only [wpW, onG] at h ⊢
    split at h
    · exact stepW_mono h fun v s h => ih _ _ _ _ hq h
    · exact ih _ _ _ _ hq h
    · exact h.elim
theorem wpC_mono {N : Nat} : ∀ (c : ACode) (Q Q' : AExit → Env → AState → Prop) (ρ : Env) (σ : AState), (∀ e ρ σ, Q e ρ σ → Q' e ρ σ) → wpC P N c Q ρ σ → wpC P N c Q' ρ σ := by
  intro c
  induction c with
  | skip => intro Q Q' ρ σ hq h; exact hq _ _ _ h
  | reg ops => intro Q Q' ρ σ hq h; exact wpW_mono _ _ _ _ _ (fun r s h => hq _ _ _ h) h
  | seq a b iha ihb =>
    intro Q Q' ρ σ hq h
    refine iha _ _ _ _ (fun e ρ σ h => ?_) h
    cases e with
    | normal => exact ihb _ _ _ _ hq h
    | exit i => exact hq _ _ _ h
    | ret => exact hq _ _ _ h
  | cond o a b iha ihb =>
    intro Q Q' ρ σ hq h
    simp only [wpC, onB] at h ⊢
    split at h
    · rename_i b e
      cases b with
      | true => rw [Br_true] at h ⊢; exact iha _ _ _ _ hq h
      | false => rw [Br_false] at h ⊢; exact ihb _ _ _ _ hq h
    · exact h.elim
  | block id c ih =>
    intro Q Q' ρ σ hq h
    refine ih _ _ _ _ (fun e ρ σ h => ?_) h
    cases e with
    | exit i => simp only [AExit.inBlock] at h ⊢; split <;> rename_i hi <;> simp only [hi, if_true, if_false] at h <;> exact hq _ _ _ h
    | _ => exact hq _ _ _ h
  | loop c ih => intro Q Q' ρ σ hq h; exact SimA.mono h hq
  | exit id => intro Q Q' ρ σ hq h; exact hq _ _ _ h
  | ret => intro Q Q' ρ σ hq h; exact hq _ _ _ h
  | dreg ops acts B sl => intro Q Q' ρ σ hq h; exact SimA.mono h hq
  | bad => intro Q Q' ρ σ hq h; exact h.elim

def midQ (M : Env → AState → Prop) (Q : AExit → Env → AState → Prop) (e : AExit) (ρ : Env) (σ : AState) : Prop := match e with | .normal => M ρ σ | .exit i => Q (.exit i) ρ σ | .ret => Q .ret ρ σ
section
variable (M : Env → AState → Prop) (Q : AExit → Env → AState → Prop) (ρ : Env) (σ : AState)
theorem midQ_normal : midQ M Q .normal ρ σ = M ρ σ := propext ⟨fun h => h, fun h => h⟩
theorem midQ_exit (i : Nat) : midQ M Q (.exit i) ρ σ = Q (.exit i) ρ σ := propext ⟨fun h => h, fun h => h⟩
theorem midQ_ret : midQ M Q .ret ρ σ = Q .ret ρ σ := propext ⟨fun h => h, fun h => h⟩
end
/- Between a piece and the rest. -/
theorem w_mid {N : Nat} {a b : ACode} {Q : AExit → Env → AState → Prop} {ρ : Env} {σ : AState} (M : Env → AState → Prop) (h1 : wpC P N a (midQ M Q) ρ σ) (h2 : ∀ ρ σ, M ρ σ → wpC P N b Q ρ σ) : wpC P N a (wpCK P N b Q) ρ σ := by
  refine wpC_mono _ _ _ _ _ (fun e ρ σ h => ?_) h1
  cases e with
  | normal => exact h2 _ _ h
  | _ => exact h
/- .. behind the piece that stands first. -/
theorem w_mid0 {N : Nat} {b : ACode} {Q : AExit → Env → AState → Prop} {ρ : Env} {σ : AState} (M : Env → AState → Prop) (h1 : M ρ σ) (h2 : ∀ ρ σ, M ρ σ → wpC P N b Q ρ σ) : wpC P N b Q ρ σ := h2 _ _ h1

theorem es_eql (x y : List UInt8) : evalStr .eql x y = some (.bool (decide (x = y))) := by
  simp only [evalStr]; congr 2; by_cases h : x = y <;> simp [h]
theorem es_neq (x y : List UInt8) : evalStr .neq x y = some (.bool (decide (x ≠ y))) := by
  simp only [evalStr]; congr 2; by_cases h : x = y <;> simp [h]
theorem es_leq (x y : List UInt8) : evalStr .leq x y = some (.bool (Op.bytesLess x y || x == y)) := Eq.trans rfl rfl
theorem es_lss (x y : List UInt8) : evalStr .lss x y = some (.bool (Op.bytesLess x y)) := Eq.trans rfl rfl
theorem st0_cells (b : Nat) : st0.cells b = none := Eq.trans rfl rfl
theorem ne_add {a n : Nat} (h : a < n) (k : Nat) : ¬ a = n + k := by omega
end Go.Proofs.Ythojhpjjkfjeiaa.Va
set_option linter.all false
namespace Go.Proofs.Ythojhpjjkfjeiaa.Va
open Go.Proofs
def frK (K : Know) (w : World) (k : Nat) : Know := { K with fix := fun b => if b = k then w.heap[k]? else K.fix b, sh := fun b => K.sh b ∨ b = k }
theorem frK_le {K : Know} {w : World} {k : Nat} (h : K.fix k = none) : K.le (frK K w k) where
  μ := fun _ _ h => h
  fix := fun b o e => by
    have : b ≠ k := fun hb => by rw [hb, h] at e; cases e
    simp only [frK, this, if_false]; exact e
  os := rfl
  tape := rfl
  output := rfl
  res := rfl
  sh := fun _ h => .inl h
  new := fun b hb => by
    rcases hb with hb | rfl
    · exact .inl hb
    · exact .inr h
theorem freeze {K : Know} {σ : AState} {w : World} {b : Nat} {cs : List AV} (hr : Rel K σ w) (hb : σ.cells b = some cs) :
    ∃ K', K.le K' ∧ Rel K' (σ.kill b) w ∧ ∀ (off n : Nat) (cap : Option Nat) (sz : Nat) x, off + n * sz ≤ cs.length → VR K' (.sl b off n cap sz) x → VR K' (.psl (seg cs off (n * sz)) 0 n) x := by
  have hg := AState.cells_eq hb
  cases hm : K.μ b with
  | none =>
    refine ⟨K, Know.le.refl K, hr.kill b, fun off n cap sz x hl hv => ?_⟩
    cases hv with
    | sl _ _ _ c _ _ blk base room hμ hc hlc hroom => rw [hm] at hμ; cases hμ
    | sl0 => exact .psl0 _ _ _ _
  | some p =>
    obtain ⟨arr, T, lo, hi, hh, _, hsz, hcr, hlen, hfx⟩ := hr.cells b cs hg p hm
    have hle := frK_le (w := w) hfx
    have hk := hr.kill b
    refine ⟨frK K w p.1, hle, ?_, fun off n cap sz x hl hv => ?_⟩
    · have live : ∀ b' (o : ABlk), (σ.kill b).h.get b' = some o → b' ≠ b ∧ σ.h.get b' = some o := fun b' o e => by
        simp only [AState.kill, Tr.get_set] at e
        split at e
        · cases e
        · exact ⟨by assumption, e⟩
      refine ⟨fun b' cs' e x hx => ?_, fun b' s pos e x hx => ?_, hk.apart, fun blk o e => ?_, hk.old, hk.fresh, hk.res, hk.os, hk.tape, hk.output⟩
      · obtain ⟨arr', T', lo', hi', h1, h2, h3, h4, h5, h6⟩ := hk.cells b' cs' e x hx
        obtain ⟨hne, e'⟩ := live b' _ e
        have hd := hr.apart b' b x p hne (by rw [e']; rfl) (by rw [hg]; rfl) hx hm
        exact ⟨arr', T', lo', hi', h1, h2, h3, h4.mono hle, h5, by simp only [frK, hd, if_false]; exact h6⟩
      · obtain ⟨h1, h2, h3⟩ := hk.iters b' s pos e x hx
        obtain ⟨hne, e'⟩ := live b' _ e
        have hd := hr.apart b' b x p hne (by rw [e']; rfl) (by rw [hg]; rfl) hx hm
        exact ⟨h1, by simp only [frK, hd, if_false]; exact h2, h3⟩
      · simp only [frK] at e
        split at e
        · rename_i hx; rw [hx]; exact e
        · exact hr.fix _ _ e
    · cases hv with
      | sl0 => exact .psl0 _ _ _ _
      | sl _ _ _ c _ _ blk base room hμ hc hlc hroom =>
        have hμ' : K.μ b = some (blk, base, room) := hμ
        rw [hm] at hμ'
        cases hμ'
        simp only at hh hsz hcr hlen hfx
        have hlen' : (seg cs off (n * sz)).length = n * sz := by simp [seg]; omega
        have hfx' : (frK K w blk).fx blk (.cells arr T (lo, hi)) := ⟨by simp only [frK, if_true]; exact hh, .inr rfl⟩
        have := VR.psl (K := frK K w blk) (seg cs off (n * sz)) 0 n c blk (base + off) arr T (lo, hi) (fun i => (arr[base + off + i]?).getD (.bool false)) hfx'
          (fun i hi' => by
            obtain ⟨u, eu, _⟩ := hcr (off + i) (by omega)
            rw [← Nat.add_assoc] at eu
            simp only [eu, Option.getD_some])
          (fun i hi' => by
            obtain ⟨u, eu, ru⟩ := hcr (off + i) (by omega)
            rw [← Nat.add_assoc] at eu
            simp only [eu, Option.getD_some]
            have e : (seg cs off (n * sz))[i] = cs[off + i] := by simp [seg]
            rw [e]
            exact VR.mono hle ru) hlc
        simpa using this
/- A block's cells told in other words. -/
theorem Rel.recell {K : Know} {σ : AState} {w : World} {b : Nat} {d d' : List AV} (hr : Rel K σ w) (h0 : σ.cells b = some d) (hl : d'.length = d.length)
    (hv : ∀ i (hi : i < d.length) (hi' : i < d'.length) x, VR K d[i] x → VR K d'[i] x) : Rel K (σ.put b d') w := by
  have hg := AState.cells_eq h0
  have live : ∀ b' (o : ABlk), (σ.put b d').h.get b' = some o → (b' = b ∧ o = .cells d') ∨ (b' ≠ b ∧ σ.h.get b' = some o) := fun b' o e => by
    simp only [AState.put, Tr.get_set] at e
    split at e
    · exact .inl ⟨by assumption, by cases e; rfl⟩
    · exact .inr ⟨by assumption, e⟩
  have some' : ∀ b', ((σ.put b d').h.get b').isSome → (σ.h.get b').isSome := fun b' h => by
    obtain ⟨o, e⟩ := Option.isSome_iff_exists.1 h
    rcases live b' o e with ⟨rfl, _⟩ | ⟨_, e'⟩
    · rw [hg]; rfl
    · rw [e']; rfl
  refine ⟨fun b' cs' e x hx => ?_, fun b' s pos e x hx => ?_, fun b1 b2 x1 x2 hn h1 h2 => hr.apart b1 b2 x1 x2 hn (some' _ h1) (some' _ h2), hr.fix, hr.old, hr.fresh, hr.res, hr.os, hr.tape, hr.output⟩
  · rcases live b' _ e with ⟨rfl, e1⟩ | ⟨_, e'⟩
    · cases e1
      obtain ⟨arr, T, lo, hi, h1, h2, h3, h4, h5, h6⟩ := hr.cells _ d hg x hx
      refine ⟨arr, T, lo, hi, h1, h2, h3, fun i hi' => ?_, by omega, h6⟩
      obtain ⟨u, eu, ru⟩ := h4 i (by omega)
      exact ⟨u, eu, hv i (by omega) hi' u ru⟩
    · exact hr.cells b' cs' e' x hx
  · rcases live b' _ e with ⟨rfl, e1⟩ | ⟨_, e'⟩
    · cases e1
    · exact hr.iters b' s pos e' x hx
/- .. at the end of a piece of code. -/
def Frz (N : Nat) (Q : Env → AState → Prop) (ρ : Env) (σ : AState) : Prop :=
  ∃ ρ' σ', Q ρ' σ' ∧ ∀ K w ac, Rel K σ w → ERel K N ρ ac → ∃ K', K.le K' ∧ Rel K' σ' w ∧ ERel K' N ρ' ac
theorem SimA.frz {P : Program} {N : Nat} {c : ACode} {Q : AExit → Env → AState → Prop} {ρ : Env} {σ : AState} (h : SimA P N c (fun e ρ σ => Frz N (Q e) ρ σ) ρ σ) : SimA P N c Q ρ σ := by
  intro cc hc K w ac hr he
  refine wp_mono (h cc hc K w ac hr he) ?_
  rintro e ac' w' ⟨ae, ρ1, σ1, K1, rfl, ⟨ρ2, σ2, hq, hf⟩, hle, hr1, he1⟩
  obtain ⟨K2, hle2, hr2, he2⟩ := hf K1 w' ac' hr1 he1
  exact ⟨ae, ρ2, σ2, K2, rfl, hq, hle.trans hle2, hr2, he2⟩
/- A row of one's own that stands in a cell of another block becomes fixed data there. -/
theorem Frz.cell {N : Nat} {Q : Env → AState → Prop} {ρ : Env} {σ : AState} {b b0 i off n sz : Nat} {cap : Option Nat} {cs d : List AV} (hb : σ.cells b = some cs) (h0 : σ.cells b0 = some d) (hne : b0 ≠ b) (hi : d[i]? = some (.sl b off n cap sz)) (hl : off + n * sz ≤ cs.length)
    (hq : Q ρ ((σ.kill b).put b0 (d.set i (.psl (seg cs off (n * sz)) 0 n)))) : Frz N Q ρ σ := by
  refine ⟨ρ, _, hq, fun K w ac hr he => ?_⟩
  obtain ⟨K', hle, hr', hv⟩ := freeze hr hb
  have hk0 : (σ.kill b).cells b0 = some d := by rw [kill_get, if_neg hne]; exact h0
  refine ⟨K', hle, hr'.recell hk0 (by simp) fun j hj hj' x hx => ?_, he.mono hle⟩
  by_cases hji : i = j
  · subst hji
    have e : d[i] = .sl b off n cap sz := by
      have := List.getElem?_eq_getElem hj
      rw [this] at hi; exact Option.some.inj hi
    rw [e] at hx
    simpa using hv off n cap sz x hl hx
  · simpa [List.getElem_set, hji] using hx
theorem Frz.nils {N : Nat} {Q : Env → AState → Prop} {ρ : Env} {σ : AState} {b0 i off : Nat} {cs d : List AV} (h0 : σ.cells b0 = some d) (hi : d[i]? = some .nils)
    (hq : Q ρ (σ.put b0 (d.set i (.psl cs off 0)))) : Frz N Q ρ σ := by
  refine ⟨ρ, _, hq, fun K w ac hr he => ⟨K, Know.le.refl K, hr.recell h0 (by simp) fun j hj hj' x hx => ?_, he⟩⟩
  by_cases hji : i = j
  · subst hji
    have e : d[i] = .nils := by
      have := List.getElem?_eq_getElem hj
      rw [this] at hi; exact Option.some.inj hi
    rw [e] at hx
    cases hx
    simpa using VR.pslN (K := K) cs off
  · simpa [List.getElem_set, hji] using hx
theorem Frz.now {N : Nat} {Q : Env → AState → Prop} {ρ : Env} {σ : AState} (h : Q ρ σ) : Frz N Q ρ σ := ⟨ρ, σ, h, fun K w ac hr he => ⟨K, Know.le.refl K, hr, he⟩⟩
theorem Frz.trans {N : Nat} {Q : Env → AState → Prop} {ρ : Env} {σ : AState} (h : Frz N (Frz N Q) ρ σ) : Frz N Q ρ σ := by
  obtain ⟨ρ1, σ1, ⟨ρ2, σ2, hq, h2⟩, h1⟩ := h
  refine ⟨ρ2, σ2, hq, fun K w ac hr he => ?_⟩
  obtain ⟨K1, hl1, hr1, he1⟩ := h1 K w ac hr he
  obtain ⟨K2, hl2, hr2, he2⟩ := h2 K1 w ac hr1 he1
  exact ⟨K2, hl1.trans hl2, hr2, he2⟩
end Go.Proofs.Ythojhpjjkfjeiaa.Va
set_option linter.all false
namespace Go.Proofs.Ythojhpjjkfjeiaa.Va
open Go.Proofs
variable {P : Program}
/- A row of one's own: its block is one of p. -/
def RowP (p : Nat → Prop) (σ : AState) (x : AV) (c : List AV) (n sz : Nat) : Prop :=
  (x = .nils ∧ n = 0 ∧ c = []) ∨ ∃ b cap cs, x = .sl b 0 n cap sz ∧ p b ∧ b < σ.n ∧ σ.cells b = some cs ∧ c = seg cs 0 (n * sz) ∧ n * sz ≤ cs.length ∧ ∀ k, cap = some k → n ≤ k
theorem RowP.nil (p : Nat → Prop) (σ : AState) (sz : Nat) : RowP p σ .nils [] 0 sz := .inl ⟨rfl, rfl, rfl⟩
theorem RowP.of {p : Nat → Prop} {σ : AState} {c : List AV} {n sz b : Nat} {cap : Option Nat} (hp : p b) (hb : b < σ.n) (hc : σ.cells b = some c) (hl : c.length = n * sz) (hcap : ∀ k, cap = some k → n ≤ k := by first | (intro k h; cases h; omega) | (intro k h; cases h)) : RowP p σ (.sl b 0 n cap sz) c n sz :=
  .inr ⟨b, cap, c, rfl, hp, hb, hc, (seg_self _ _ hl).symm, by omega, hcap⟩
theorem RowP.len {p : Nat → Prop} {σ : AState} {x : AV} {c : List AV} {n sz : Nat} (h : RowP p σ x c n sz) : x.len = some n ∧ c.length = n * sz := by
  rcases h with ⟨rfl, rfl, rfl⟩ | ⟨b, cap, cs, rfl, _, _, _, rfl, hl, _⟩
  · exact ⟨rfl, by simp⟩
  · exact ⟨rfl, by simp [seg]; omega⟩
theorem RowP.keep {p : Nat → Prop} {σ s : AState} {x : AV} {c : List AV} {n sz : Nat} (h : RowP p σ x c n sz) (hn : σ.n ≤ s.n) (hk : ∀ b, b < σ.n → p b → s.cells b = σ.cells b) : RowP p s x c n sz := by
  rcases h with h | ⟨b, cap, cs, rfl, hp, hb, hc, h2, hl⟩
  · exact .inl h
  · exact .inr ⟨b, cap, cs, rfl, hp, Nat.lt_of_lt_of_le hb hn, by rw [hk b hb hp, hc], h2, hl⟩
theorem RowP.keeps {p : Nat → Prop} {σ s : AState} {x : AV} {c : List AV} {n sz m : Nat} (h : RowP p σ x c n sz) (hk : Keeps m σ s) (hp : ∀ b, p b → b < m) : RowP p s x c n sz := by
  rcases h with h | ⟨b, cap, cs, rfl, hpb, hb, hc, h2, hl⟩
  · exact .inl h
  · exact .inr ⟨b, cap, cs, rfl, hpb, Nat.lt_of_lt_of_le (hp b hpb) hk.1, by rw [hk.cells (hp b hpb), hc], h2, hl⟩
theorem RowP.mono {p q : Nat → Prop} {σ : AState} {x : AV} {c : List AV} {n sz : Nat} (h : RowP p σ x c n sz) (hq : ∀ b, p b → b < σ.n → q b) : RowP q σ x c n sz := by
  rcases h with h | ⟨b, cap, cs, rfl, hp, hb, r⟩
  · exact .inl h
  · exact .inr ⟨b, cap, cs, rfl, hq b hp hb, hb, r⟩
theorem RowP.push {p : Nat → Prop} {σ : AState} {x : AV} {c : List AV} {n sz : Nat} (h : RowP p σ x c n sz) (o : List AV) : RowP p (σ.push (.cells o)) x c n sz :=
  h.keep (Nat.le_succ _) fun b hb _ => by rw [push_get, if_neg (by omega)]
theorem RowP.put {p : Nat → Prop} {σ : AState} {x : AV} {c : List AV} {n sz : Nat} (h : RowP p σ x c n sz) {b0 : Nat} (hb0 : ¬ p b0) (o : List AV) : RowP p (σ.put b0 o) x c n sz :=
  h.keep (Nat.le_refl _) fun b hb hp => by rw [put_get, if_neg (fun e : b = b0 => hb0 (by rw [← e]; exact hp))]
theorem RowP.slots {p : Nat → Prop} {σ : AState} {x : AV} {c : List AV} {n sz : Nat} (h : RowP p σ x c n sz) (m : Nat) : RowP p (addSlots σ.n m σ []) x c n sz :=
  h.keep (Nat.le_add_right _ _) fun b hb hp => rfl
theorem RowP.firstA {p : Nat → Prop} {σ : AState} {x : AV} {c : List AV} {n sz : Nat} (h : RowP p σ x c n sz) : firstA σ sz n x = some c := by
  rcases h with ⟨rfl, rfl, rfl⟩ | ⟨b, cap, cs, rfl, _, _, hc, rfl, hl, _⟩
  · rfl
  · unfold Va.firstA
    cases h0 : Nat.beq n 0 with
    | true =>
      have := Nat.eq_of_beq_eq_true h0
      subst this
      simp [seg]
    | false =>
      have hb : Nat.ble (0 + n * sz) cs.length = true := Nat.ble_eq_true_of_le (by omega)
      simp only [cond_false, base, hc, hb, cond_true]
theorem RowP.pur {p : Nat → Prop} {σ : AState} {x : AV} {c : List AV} {n sz : Nat} (al : Bool) (h : RowP p σ x c n sz) {c' : List AV} (hl : c'.length = c.length) (hp : ∀ i (hi : i < c.length) (hi' : i < c'.length), Pur σ al c[i] c'[i]) : Pur σ al x (.psl c' 0 n) := by
  rcases h with ⟨rfl, rfl, rfl⟩ | ⟨b, cap, cs, rfl, _, _, hc, rfl, hlc, _⟩
  · exact .nils _ _
  · have hsl : (seg cs 0 (n * sz)).length = n * sz := by simp [seg]; omega
    refine .sl b 0 n cap sz cs c' hc (by omega) (by omega) fun i hi hi' => ?_
    have hi2 : i < (seg cs 0 (n * sz)).length := by omega
    have := hp i hi2 hi'
    have e : (seg cs 0 (n * sz))[i] = cs[0 + i] := by simp [seg]
    rw [e] at this
    exact this
/- A row with something in it. -/
structure RowS (p : Nat → Prop) (σ : AState) (x : AV) (c : List AV) (n sz b : Nat) (cap : Option Nat) (cs : List AV) : Prop where
  eq : x = .sl b 0 n cap sz
  own : p b
  lt : b < σ.n
  cells : σ.cells b = some cs
  seg : c = seg cs 0 (n * sz)
  fit : n * sz ≤ cs.length
  capd : ∀ k, cap = .some k → n ≤ k
theorem RowP.some {p : Nat → Prop} {σ : AState} {x : AV} {c : List AV} {n sz : Nat} (h : RowP p σ x c n sz) (hn : 0 < n) : ∃ b cap cs, RowS p σ x c n sz b cap cs := by
  rcases h with ⟨_, rfl, _⟩ | ⟨b, cap, cs, h1, h2, h3, h4, h5, h6⟩
  · omega
  · exact ⟨b, cap, cs, h1, h2, h3, h4, h5, h6.1, h6.2⟩
theorem seg_in {cs : List AV} {m o k : Nat} (h : o + k ≤ m) : seg (seg cs 0 m) o k = seg cs o k := by
  simp only [seg, List.drop_zero]
  rw [List.drop_take, List.take_take, Nat.min_eq_left (by omega)]
theorem seg_get {cs : List AV} {m o : Nat} (h : o < m) : (seg cs 0 m)[o]? = cs[o]? := by
  simp only [seg, List.drop_zero, List.getElem?_take, h, if_true]
theorem RowS.row {p : Nat → Prop} {σ : AState} {x : AV} {c cs : List AV} {n sz b : Nat} {cap : Option Nat} (h : RowS p σ x c n sz b cap cs) {i : Nat} (hi : i < n) : i * sz + sz ≤ cs.length ∧ Va.seg cs (i * sz) sz = Va.seg c (i * sz) sz := by
  have h1 : i * sz + sz ≤ n * sz := by
    calc i * sz + sz = (i + 1) * sz := by rw [Nat.succ_mul]
      _ ≤ n * sz := Nat.mul_le_mul_right _ hi
  refine ⟨Nat.le_trans h1 h.fit, ?_⟩
  rw [h.seg, seg_in h1]
theorem RowS.get {p : Nat → Prop} {σ : AState} {x : AV} {c cs : List AV} {n sz b : Nat} {cap : Option Nat} (h : RowS p σ x c n sz b cap cs) {o : Nat} (ho : o < n * sz) : cs[o]? = c[o]? := by
  rw [h.seg, seg_get ho]
theorem RowP.form {p : Nat → Prop} {σ : AState} {x : AV} {c : List AV} {n sz : Nat} (h : RowP p σ x c n sz) : x = .nils ∨ ∃ b cap, x = .sl b 0 n cap sz := by
  rcases h with ⟨rfl, _⟩ | ⟨b, cap, _, rfl, _⟩
  · exact .inl rfl
  · exact .inr ⟨b, cap, rfl⟩
/- One more. -/
theorem app_rowP {p : Nat → Prop} {σ : AState} {x y : AV} {c new : List AV} {n k sz bytes : Nat} (hx : RowP p σ x c n sz) (hp : p σ.n) (hy : y.len = some k) (hf : Va.firstA σ sz k y = some new) (hone : new.all AV.one = true) (hl : new.length = k * sz)
    (hb : (2 * (n + k) + 1024) * bytes ≤ 140737488355328) : ∃ x' s, appendA σ sz bytes x y = some (x', s) ∧ RowP p s x' (c ++ new) (n + k) sz ∧ σ.n ≤ s.n ∧ ∀ b, b < σ.n → ¬ p b → s.h.get b = σ.h.get b := by
  have h1 : Nat.ble ((2 * (n + k) + 1024) * bytes) 140737488355328 = true := Nat.ble_eq_true_of_le hb
  have h2 : Nat.beq new.length (k * sz) = true := by rw [hl]; exact Nat.beq_refl _
  obtain ⟨hxl, hcl⟩ := hx.len
  have fresh : ∀ (s0 : AState), s0.n = σ.n → ∀ cap, (∀ j, cap = some j → n + k ≤ j) → RowP p (s0.push (.cells (c ++ new))) (.sl s0.n 0 (n + k) cap sz) (c ++ new) (n + k) sz := fun s0 h0 cap hcap =>
    .of (by rw [h0]; exact hp) (Nat.lt_succ_self _) (push_cells _ _) (by rw [List.length_append, hcl, hl, Nat.add_mul]) hcap
  have nocap : ∀ j : Nat, (none : Option Nat) = some j → n + k ≤ j := fun j h => by cases h
  have kpush : ∀ b, b < σ.n → ¬ p b → (σ.push (.cells (c ++ new))).h.get b = σ.h.get b := fun b hb _ => by
    have : ¬ b = σ.n := by omega
    simp only [AState.push, Tr.get_set, this, if_false]
  have kkill : ∀ b', p b' → ∀ b, b < σ.n → ¬ p b → ((σ.kill b').push (.cells (c ++ new))).h.get b = σ.h.get b := fun b' hb' b hb hnp => by
    have h3 : ¬ b = (σ.kill b').n := by rw [kill_n]; omega
    have h4 : ¬ b = b' := fun e => hnp (e ▸ hb')
    simp only [AState.push, Tr.get_set, h3, if_false, AState.kill, h4]
    rw [kill_n] at h3
    simp only [h3, if_false]
  unfold appendA
  simp only [hxl, hy, hf, h1, h2, hone, Bool.and_true, Bool.true_and, cond_true]
  rcases hx with ⟨rfl, rfl, rfl⟩ | ⟨b, cap, cs, rfl, hpb, hbn, hcs, hc, hlc, _⟩
  · cases h0 : Nat.beq k 0 with
    | true =>
      have := Nat.eq_of_beq_eq_true h0
      subst this
      have : new = [] := List.eq_nil_of_length_eq_zero (by omega)
      subst this
      exact ⟨_, _, rfl, RowP.nil _ _ _, Nat.le_refl _, fun _ _ _ => rfl⟩
    | false =>
      have := fresh σ rfl none nocap
      simp only [Nat.zero_add, List.nil_append] at this kpush ⊢
      exact ⟨_, _, rfl, this, Nat.le_succ _, kpush⟩
  · have h3 : Nat.beq sz sz = true := Nat.beq_refl _
    have h4 : Nat.ble (0 + n * sz) cs.length = true := Nat.ble_eq_true_of_le (by omega)
    simp only [hcs, h3, h4, Bool.and_true, cond_true, ← hc]
    cases cap with
    | none => exact ⟨_, _, rfl, fresh (σ.kill b) rfl none nocap, Nat.le_succ _, kkill b hpb⟩
    | some c' =>
      simp only
      cases hle : Nat.ble (n + k) c' with
      | true => exact ⟨_, _, rfl, fresh (σ.kill b) rfl (some c') (fun j hj => by cases hj; exact Nat.le_of_ble_eq_true hle), Nat.le_succ _, kkill b hpb⟩
      | false => exact ⟨_, _, rfl, fresh σ rfl none nocap, Nat.le_succ _, kpush⟩
theorem app_lit {p : Nat → Prop} {σ : AState} {x : AV} {c new : List AV} {n k sz bytes : Nat} (hx : RowP p σ x c n sz) (hp : ∀ b, σ.n ≤ b → p b) (hone : new.all AV.one = true) (hl : new.length = k * sz) (hk : 0 < k) (hb : (2 * (n + k) + 1024) * bytes ≤ 140737488355328) :
    ∃ b cap s, appendA (σ.push (.cells new)) sz bytes x (.sl σ.n 0 k (some k) sz) = some (.sl b 0 (n + k) cap sz, s) ∧ RowP p s (.sl b 0 (n + k) cap sz) (c ++ new) (n + k) sz ∧ σ.n < s.n ∧ ∀ b, b < σ.n → ¬ p b → s.h.get b = σ.h.get b := by
  have hy : RowP (fun b => b = σ.n) (σ.push (.cells new)) (.sl σ.n 0 k (some k) sz) new k sz := .of rfl (Nat.lt_succ_self _) (push_cells _ _) hl
  obtain ⟨x', s, h1, h2, h3, h4⟩ := app_rowP (bytes := bytes) (hx.push new) (hp _ (Nat.le_succ _)) hy.len.1 hy.firstA hone hl hb
  have hx' : ∃ b cap, x' = .sl b 0 (n + k) cap sz := by
    rcases h2 with ⟨_, h, _⟩ | ⟨b, cap, cs, rfl, _⟩
    · omega
    · exact ⟨b, cap, rfl⟩
  obtain ⟨b, cap, rfl⟩ := hx'
  refine ⟨b, cap, s, h1, h2, h3, fun b hb hnp => ?_⟩
  rw [h4 b (Nat.lt_succ_of_lt hb) hnp]
  have : ¬ b = σ.n := by omega
  simp only [AState.push, Tr.get_set, this, if_false]
theorem put_h {s : AState} {b b' : Nat} {cs : List AV} (h : b' ≠ b) : (s.put b cs).h.get b' = s.h.get b' := by simp only [AState.put, Tr.get_set, h, if_false]
theorem push_h {s : AState} {b' : Nat} {o : ABlk} (h : b' < s.n) : (s.push o).h.get b' = s.h.get b' := by
  have : ¬ b' = s.n := by omega
  simp only [AState.push, Tr.get_set, this, if_false]
theorem get_cells {s σ : AState} {b : Nat} (h : s.h.get b = σ.h.get b) : s.cells b = σ.cells b := by simp only [AState.cells, h]
/- A row in a cell of another block becomes fixed data there. -/
theorem Frz.row {N : Nat} {Q : Env → AState → Prop} {ρ : Env} {σ : AState} {p : Nat → Prop} {x : AV} {c d : List AV} {n sz b0 i : Nat} (hx : RowP p σ x c n sz) (h0 : σ.cells b0 = some d) (hb0 : ¬ p b0) (hi : d[i]? = some x)
    (hq : ∀ s, s.n = σ.n → s.cells b0 = some (d.set i (.psl c 0 n)) → (∀ b, b ≠ b0 → ¬ p b → s.h.get b = σ.h.get b) → Q ρ s) : Frz N Q ρ σ := by
  rcases hx with ⟨rfl, rfl, rfl⟩ | ⟨b, cap, cs, rfl, hpb, hbn, hcs, rfl, hlc, _⟩
  · refine Frz.nils (cs := []) (off := 0) h0 hi (hq _ rfl (by rw [put_get, if_pos rfl]) fun b hb _ => ?_)
    simp only [AState.put, Tr.get_set, hb, if_false]
  · have hne : b0 ≠ b := fun e => hb0 (e ▸ hpb)
    refine Frz.cell hcs h0 hne hi (by omega) (hq _ rfl (by rw [put_get, if_pos rfl]) fun b' hb' hnp => ?_)
    have : ¬ b' = b := fun e => hnp (e ▸ hpb)
    simp only [AState.put, AState.kill, Tr.get_set, hb', this, if_false]
/- One is put in another's place. -/
theorem sets_eq : ∀ (as cs : List AV) (i : Nat), i + as.length ≤ cs.length → sets cs i as = cs.take i ++ as ++ cs.drop (i + as.length) := by
  intro as
  induction as with
  | nil => intro cs i h; simp [sets]
  | cons a as ih =>
    intro cs i h
    simp only [List.length_cons] at h
    rw [sets, ih _ _ (by rw [setx_length (by omega)]; omega)]
    unfold setx
    have hl : (cs.take i).length = i := by simp; omega
    rw [List.take_append, List.drop_append, hl, List.take_of_length_le (by omega), List.drop_of_length_le (by omega : (cs.take i).length ≤ i + 1 + as.length)]
    have e1 : i + 1 - i = 1 := by omega
    have e2 : i + 1 + as.length - i = as.length + 1 := by omega
    rw [e1, e2]
    simp only [List.take_succ_cons, List.take_zero, List.drop_succ_cons, List.drop_drop, List.nil_append, List.length_cons, List.append_assoc, List.cons_append]
    congr 4
    omega
theorem drop_two {α : Type} {a b c : List α} {i k : Nat} (ha : a.length = i) (hb : b.length = k) : (a ++ (b ++ c)).drop (i + k) = c := by
  rw [← List.drop_drop, List.drop_left' ha, List.drop_left' hb]
theorem take_past {α : Type} {a d : List α} {m : Nat} (h : a.length ≤ m) : (a ++ d).take m = a ++ d.take (m - a.length) := by
  rw [List.take_append, List.take_of_length_le h]
theorem rowc_set {α : Type} {f : α → List AV} {sz : Nat} (hf : ∀ x, (f x).length = sz) (l : List α) (i : Nat) (y : α) (h : i < l.length) : rowc f (l.set i y) = (rowc f l).take (i * sz) ++ f y ++ (rowc f l).drop (i * sz + sz) := by
  have h1 : l.set i y = l.take i ++ y :: l.drop (i + 1) := List.set_eq_take_append_cons_drop.trans (by simp [h])
  have h2 : rowc f l = rowc f (l.take i) ++ (f l[i] ++ rowc f (l.drop (i + 1))) := by
    conv => lhs; rw [← List.take_append_drop i l, List.drop_eq_getElem_cons h, rowc_append, rowc_cons]
  have hl : (rowc f (l.take i)).length = i * sz := by rw [rowc_length hf, List.length_take, Nat.min_eq_left (by omega)]
  rw [h1, rowc_append, rowc_cons, h2]
  rw [List.take_left' hl, drop_two hl (hf _), List.append_assoc]
theorem store_rowP {p : Nat → Prop} {σ : AState} {x : AV} {α : Type} {f : α → List AV} {sz : Nat} (hf : ∀ x, (f x).length = sz) {l : List α} {n b : Nat} {cap : Option Nat} {cs : List AV} (h : RowS p σ x (rowc f l) n sz b cap cs) (hn : n = l.length) {i : Nat} (hi : i < l.length) (y : α) (hone : (f y).all AV.one = true) :
    storeA σ (.ptr b (i * sz)) (f y) = some (σ.put b (sets cs (i * sz) (f y))) ∧ RowP p (σ.put b (sets cs (i * sz) (f y))) x (rowc f (l.set i y)) n sz := by
  subst hn
  obtain ⟨h1, h2⟩ := h.row hi
  have hble : Nat.ble (i * sz + (f y).length) cs.length = true := Nat.ble_eq_true_of_le (by rw [hf]; exact h1)
  refine ⟨by simp only [storeA, h.cells, hble, hone, Bool.and_self, cond_true], .inr ⟨b, cap, sets cs (i * sz) (f y), h.eq, h.own, h.lt, by rw [put_get, if_pos rfl], ?_, ?_, h.capd⟩⟩
  · have hle : i * sz + sz ≤ l.length * sz := by
      calc i * sz + sz = (i + 1) * sz := by rw [Nat.succ_mul]
        _ ≤ l.length * sz := Nat.mul_le_mul_right _ hi
    rw [rowc_set hf _ _ _ hi, sets_eq _ _ _ (by rw [hf]; exact h1), h.seg, hf]
    have hfit := h.fit
    simp only [Va.seg, List.drop_zero]
    have e1 : (cs.take (i * sz)).length = i * sz := by simp; omega
    have e2 : (cs.take (i * sz) ++ f y).length = i * sz + sz := by rw [List.length_append, e1, hf]
    rw [List.take_take, Nat.min_eq_left (by omega), take_past (by rw [e2]; exact hle), e2, List.drop_take]
  · rw [sets_eq _ _ _ (by rw [hf]; exact h1)]
    have hfit := h.fit
    simp only [List.length_append, List.length_take, List.length_drop, hf]
    omega
/- One cell is put in another's place. -/
theorem setx_append {a b : List AV} {j : Nat} {v : AV} {i : Nat} (ha : a.length = i) : setx (a ++ b) (i + j) v = a ++ setx b j v := by
  unfold setx
  have e : i + j + 1 = i + (j + 1) := by omega
  rw [e, ← ha, List.take_length_add_append, List.drop_length_add_append, List.append_assoc]
theorem setx_append_left {a b : List AV} {j : Nat} {v : AV} (h : j < a.length) : setx (a ++ b) j v = setx a j v ++ b := by
  unfold setx
  rw [List.take_append_of_le_length (by omega), List.drop_append_of_le_length (by omega)]
  simp
theorem rowc_setx {α : Type} {f : α → List AV} {sz : Nat} (hf : ∀ x, (f x).length = sz) {l : List α} {i j : Nat} (h : i < l.length) (hj : j < sz) {v : AV} {y : α} (hy : f y = setx (f l[i]) j v) : setx (rowc f l) (i * sz + j) v = rowc f (l.set i y) := by
  have h2 : rowc f l = rowc f (l.take i) ++ (f l[i] ++ rowc f (l.drop (i + 1))) := by
    conv => lhs; rw [← List.take_append_drop i l, List.drop_eq_getElem_cons h, rowc_append, rowc_cons]
  have hl : (rowc f (l.take i)).length = i * sz := by rw [rowc_length hf, List.length_take, Nat.min_eq_left (by omega)]
  have h1 : l.set i y = l.take i ++ y :: l.drop (i + 1) := List.set_eq_take_append_cons_drop.trans (by simp [h])
  rw [h2, setx_append hl, setx_append_left (by rw [hf]; exact hj), h1, rowc_append, rowc_cons, hy]
theorem seg_setx {cs : List AV} {m o : Nat} {v : AV} (ho : o < m) (hm : m ≤ cs.length) : seg (setx cs o v) 0 m = setx (seg cs 0 m) o v := by
  refine List.ext_getElem? fun j => ?_
  have hl : (seg cs 0 m).length = m := by simp [seg]; omega
  rw [setx_get (by omega)]
  by_cases hj : j < m
  · rw [seg_get hj, setx_get (by omega), seg_get hj]
  · have h1 : (seg (setx cs o v) 0 m)[j]? = none := by
      refine List.getElem?_eq_none ?_
      simp [seg]; omega
    rw [h1, if_neg (by omega), List.getElem?_eq_none (by omega)]
theorem RowS.setx {p : Nat → Prop} {σ : AState} {x : AV} {c cs : List AV} {n sz b : Nat} {cap : Option Nat} (h : RowS p σ x c n sz b cap cs) {o : Nat} (ho : o < n * sz) (v : AV) : RowP p (σ.put b (Va.setx cs o v)) x (Va.setx c o v) n sz := by
  have hf := h.fit
  refine .inr ⟨b, cap, Va.setx cs o v, h.eq, h.own, h.lt, by rw [put_get, if_pos rfl], ?_, ?_, h.capd⟩
  · rw [h.seg, seg_setx ho hf]
  · rw [setx_length (by omega)]; omega
theorem pur_setx {s : AState} {al : Bool} {c : List AV} {v a : AV} {o : Nat} (hc : ∀ x ∈ c, Pur s al x x) (hv : Pur s al v a) (ho : o < c.length) : ∀ i (hi : i < (setx c o v).length) (hi' : i < (setx c o a).length), Pur s al (setx c o v)[i] (setx c o a)[i] := by
  intro i hi hi'
  have h1 := setx_get (cs := c) (i := o) (j := i) (a := v) (by omega)
  have h2 := setx_get (cs := c) (i := o) (j := i) (a := a) (by omega)
  rw [List.getElem?_eq_getElem hi] at h1
  rw [List.getElem?_eq_getElem hi'] at h2
  by_cases e : i = o
  · rw [if_pos e] at h1 h2
    rw [Option.some.inj h1, Option.some.inj h2]; exact hv
  · rw [if_neg e] at h1 h2
    have hl : i < c.length := by
      rcases Nat.lt_or_ge i c.length with h' | h'
      · exact h'
      · rw [List.getElem?_eq_none h'] at h1; cases h1
    rw [List.getElem?_eq_getElem hl] at h1 h2
    rw [Option.some.inj h1, Option.some.inj h2]
    exact hc _ (List.getElem_mem hl)
/- Fixed data is seen as itself. -/
theorem Pur.psl' {s : AState} {cs : List AV} {o n : Nat} (h : ∀ a ∈ cs, Pur s true a a) : Pur s true (.psl cs o n) (.psl cs o n) := .psl rfl _ _ _ _ rfl fun i hi _ => h _ (List.getElem_mem hi)
theorem rowc_pur {α : Type} {f : α → List AV} {s : AState} (hf : ∀ x, ∀ a ∈ f x, Pur s true a a) (l : List α) : ∀ a ∈ rowc f l, Pur s true a a := by
  intro a ha
  simp only [rowc, List.mem_flatten, List.mem_map] at ha
  obtain ⟨_, ⟨x, _, rfl⟩, h⟩ := ha
  exact hf x a h
theorem slc_pur {α : Type} {f : α → List AV} {s : AState} (hf : ∀ x, ∀ a ∈ f x, Pur s true a a) (l : List α) : Pur s true (slc f l) (slc f l) := .psl' (rowc_pur hf l)
theorem RowP.self {p : Nat → Prop} {σ : AState} {x : AV} {c : List AV} {n sz : Nat} (h : RowP p σ x c n sz) (hc : ∀ a ∈ c, Pur σ true a a) : Pur σ true x (.psl c 0 n) := h.pur true rfl fun i hi _ => hc _ (List.getElem_mem hi)
/- What is fixed stays so while the blocks that it stands in stay. -/
theorem Pur.move {s s' : AState} {al : Bool} {v a : AV} (h : Pur s al v a) (hk : ∀ b cs, s.cells b = some cs → s'.cells b = some cs) : Pur s' al v a := by
  induction h with
  | flat v h => exact .flat v h
  | ptr b off n cs cs' h hn hl hr ih => exact .ptr b off n cs cs' (hk _ _ h) hn hl ih
  | sl0 b off cap sz => exact .sl0 b off cap sz
  | nils cs off => exact .nils cs off
  | pse cs off => exact .pse cs off
  | sl b off len cap sz cs cs' h hn hl hr ih => exact .sl b off len cap sz cs cs' (hk _ _ h) hn hl ih
  | psl hal cs cs' off len hl hr ih => exact .psl hal cs cs' off len hl ih
  | pslc hal cs cs' off len n hn hl hr ih => exact .pslc hal cs cs' off len n hn hl ih
  | pptr hal cs cs' off hl hr ih => exact .pptr hal cs cs' off hl ih
  | fn f cs cs' hl hr ih => exact .fn f cs cs' hl ih
  | agg cs cs' hl hr ih => exact .agg cs cs' hl ih
  | tup cs cs' hl hr ih => exact .tup cs cs' hl ih
theorem pur_slots {s : AState} {al : Bool} {v a : AV} {m : Nat} (h : Pur s al v a) : Pur (addSlots s.n m s []) al v a := h.move fun b cs e => e
end Go.Proofs.Ythojhpjjkfjeiaa.Va
set_option linter.all false
namespace Go.Proofs.Ythojhpjjkfjeiaa.Va
open Go.Proofs
variable {P : Program}
theorem slots_keep {m k : Nat} {σ s : AState} {sl : List (Nat × List AV)} (h : Keeps m σ s) : Keeps m σ (addSlots s.n k s sl) := by
  refine ⟨Nat.le_trans h.1 (Nat.le_add_right _ _), fun b hb => ?_⟩
  have hb' : b < s.n := Nat.lt_of_lt_of_le hb h.1
  have : ∀ (sl : List (Nat × List AV)) (t : Tr ABlk), (sl.foldr (fun x h => h.set (s.n + x.1) (some (.cells x.2))) t).get b = t.get b := by
    intro sl t
    induction sl with
    | nil => rfl
    | cons x sl ih =>
      have : ¬ b = s.n + x.1 := by omega
      simp only [List.foldr, Tr.get_set, this, if_false, ih]
  exact (this sl s.h).trans (h.2 b hb)
theorem RowP.slotsL {p : Nat → Prop} {σ : AState} {x : AV} {c : List AV} {n sz : Nat} (h : RowP p σ x c n sz) (m : Nat) (sl : List (Nat × List AV)) : RowP p (addSlots σ.n m σ sl) x c n sz :=
  h.keep (Nat.le_add_right _ _) fun b hb hp => (slots_keep (k := m) (sl := sl) (Keeps.refl σ)).cells hb
theorem app_rowS {p : Nat → Prop} {σ : AState} {x y : AV} {c new : List AV} {n k sz bytes : Nat} (hx : RowP p σ x c n sz) (hp : p σ.n) (hy : y.len = some k) (hf : Va.firstA σ sz k y = some new) (hone : new.all AV.one = true) (hl : new.length = k * sz) (hk : 0 < n + k)
    (hb : (2 * (n + k) + 1024) * bytes ≤ 140737488355328) : ∃ b cap s, appendA σ sz bytes x y = some (.sl b 0 (n + k) cap sz, s) ∧ RowP p s (.sl b 0 (n + k) cap sz) (c ++ new) (n + k) sz ∧ σ.n ≤ s.n ∧ ∀ b, b < σ.n → ¬ p b → s.h.get b = σ.h.get b := by
  obtain ⟨x', s, h1, h2, h3, h4⟩ := app_rowP (bytes := bytes) hx hp hy hf hone hl hb
  have hx' : ∃ b cap, x' = .sl b 0 (n + k) cap sz := by
    rcases h2 with ⟨_, h, _⟩ | ⟨b, cap, cs, rfl, _⟩
    · omega
    · exact ⟨b, cap, rfl⟩
  obtain ⟨b, cap, rfl⟩ := hx'
  exact ⟨b, cap, s, h1, h2, h3, h4⟩
theorem slots_get {s : AState} {m : Nat} : ∀ (sl : List (Nat × List AV)) (i : Nat) (cs : List AV), slotOf sl i = some cs → (addSlots s.n m s sl).h.get (s.n + i) = some (.cells cs) := by
  intro sl
  induction sl with
  | nil => intro i cs h; cases h
  | cons x sl ih =>
    intro i cs h
    obtain ⟨j, d⟩ := x
    by_cases e : i = j
    · subst e
      simp [slotOf] at h
      subst h
      simp only [addSlots, List.foldr, Tr.get_set, if_true]
    · have h' : slotOf sl i = some cs := by
        simp only [slotOf] at h
        cases hb : Nat.beq j i with
        | true => exact absurd (Nat.eq_of_beq_eq_true hb).symm e
        | false => simpa [hb] using h
      have := ih i cs h'
      have hne : ¬ s.n + i = s.n + j := by omega
      simp only [addSlots, List.foldr, Tr.get_set, hne, if_false] at this ⊢
      exact this
theorem cells_of {s : AState} {b : Nat} {cs : List AV} (h : s.h.get b = some (.cells cs)) : s.cells b = some cs := by simp only [AState.cells, h]
theorem slots_old {s : AState} {m : Nat} (sl : List (Nat × List AV)) {b : Nat} (hb : b < s.n) : (addSlots s.n m s sl).cells b = s.cells b := (slots_keep (Keeps.refl s) (k := m) (sl := sl)).cells hb
theorem PurL.append {s : AState} {al : Bool} {a b a' b' : List AV} (h : PurL s al a a') (h' : PurL s al b b') : PurL s al (a ++ b) (a' ++ b') := by
  refine ⟨by simp [h.1, h'.1], fun i hi hi' => ?_⟩
  by_cases hlt : i < a.length
  · rw [List.getElem_append_left hlt, List.getElem_append_left (by rw [h.1]; exact hlt)]; exact h.2 i hlt _
  · rw [List.getElem_append_right (by omega), List.getElem_append_right (by rw [h.1]; omega)]
    have e : i - a'.length = i - a.length := by rw [h.1]
    simp only [e]
    exact h'.2 _ _ _
theorem PurL.self {s : AState} {c : List AV} (h : ∀ a ∈ c, Pur s true a a) : PurL s true c c := ⟨rfl, fun i hi _ => h _ (List.getElem_mem hi)⟩
theorem RowP.purL {p : Nat → Prop} {σ : AState} {x : AV} {c c' : List AV} {n sz : Nat} {al : Bool} (h : RowP p σ x c n sz) (hp : PurL σ al c c') : Pur σ al x (.psl c' 0 n) := h.pur al hp.1 hp.2
/- A literal row's own block, seen as fixed data. -/
theorem Pur.lit {s : AState} {al : Bool} {b n sz : Nat} {cap : Option Nat} {c c' : List AV} (hb : s.cells b = some c) (hl : c.length = n * sz) (hp : PurL s al c c') : Pur s al (.sl b 0 n cap sz) (.psl c' 0 n) :=
  .sl b 0 n cap sz c c' hb (by omega) (by rw [hp.1, hl]) fun i hi hi' => by
    have := hp.2 i (by omega) hi'
    simpa using this
theorem rowc_take {α : Type} {f : α → List AV} {sz : Nat} (hf : ∀ x, (f x).length = sz) (l : List α) (i : Nat) (h : i ≤ l.length) : (rowc f l).take (i * sz) = rowc f (l.take i) := by
  conv => lhs; rw [← List.take_append_drop i l, rowc_append]
  exact List.take_left' (by rw [rowc_length hf, List.length_take, Nat.min_eq_left h])
theorem rowc_segs {α : Type} {f : α → List AV} {sz : Nat} (hf : ∀ x, (f x).length = sz) {l : List α} {i m : Nat} (h : i + m ≤ l.length) : seg (rowc f l) (i * sz) (m * sz) = rowc f ((l.drop i).take m) := by
  unfold seg
  rw [rowc_drop hf, rowc_take hf _ _ (by rw [List.length_drop]; omega)]
theorem firstA_own {s : AState} {b off n sz : Nat} {cap : Option Nat} {cs : List AV} (hc : s.cells b = some cs) (hl : off + n * sz ≤ cs.length) : firstA s sz n (.sl b off n cap sz) = some (seg cs off (n * sz)) := by
  unfold firstA
  cases h0 : Nat.beq n 0 with
  | true =>
    have := Nat.eq_of_beq_eq_true h0
    subst this
    simp [seg]
  | false =>
    have hb : Nat.ble (off + n * sz) cs.length = true := Nat.ble_eq_true_of_le hl
    simp only [cond_false, base, hc, hb, cond_true]
/- A part of a row. -/
theorem RowS.part {p : Nat → Prop} {σ : AState} {x : AV} {α : Type} {f : α → List AV} {sz : Nat} (hf : ∀ x, (f x).length = sz) {l : List α} {n b : Nat} {cap : Option Nat} {cs : List AV} (h : RowS p σ x (rowc f l) n sz b cap cs) (hn : n = l.length) {i m : Nat} (hi : i + m ≤ l.length) :
    i * sz + m * sz ≤ cs.length ∧ Va.seg cs (i * sz) (m * sz) = rowc f ((l.drop i).take m) := by
  subst hn
  have h1 : i * sz + m * sz ≤ l.length * sz := by rw [← Nat.add_mul]; exact Nat.mul_le_mul_right _ hi
  refine ⟨Nat.le_trans h1 h.fit, ?_⟩
  rw [← rowc_segs hf hi, h.seg, seg_in h1]
end Go.Proofs.Ythojhpjjkfjeiaa.Va
set_option linter.all false
namespace Go.Proofs.Ythojhpjjkfjeiaa.Va
open Go.Proofs
def WS :=
  (And.intro (And.intro (And.intro (And.intro (And.intro (And.intro (And.intro @wpC_skip @wpC_reg) (And.intro @wpC_seq @wpC_cond)) (And.intro (And.intro @wpC_block @wpC_loop) (And.intro @wpC_exit @wpC_ret))) (And.intro (And.intro (And.intro @wpC_dreg @wpCK_normal) (And.intro @wpCK_exit @wpCK_ret)) (And.intro (And.intro @wpW_nil @wpW_plain) (And.intro @wpW_guard (And.intro @wpK_eq @onV_unit))))) (And.intro (And.intro (And.intro (And.intro @onV_true @onV_false) (And.intro @Bool.not_true @Bool.not_false)) (And.intro (And.intro @stepV_eq @andK_some) (And.intro @ev_tmp @ev_con))) (And.intro (And.intro (And.intro @then_normal @then_exit) (And.intro @then_ret @in_normal)) (And.intro (And.intro @in_exit @in_ret) (And.intro @onB_bool (And.intro @Br_true @Br_false)))))) (And.intro (And.intro (And.intro (And.intro (And.intro @rd_put @rd_none) (And.intro @rd_args @Option.map_some.{0,0})) (And.intro (And.intro @ei_add @ei_sub) (And.intro @ei_mul @ei_lss))) (And.intro (And.intro (And.intro @ei_leq @ei_gtr) (And.intro @ei_geq @ei_eql)) (And.intro (And.intro @ei_neq @List.map_cons.{0,0}) (And.intro @List.map_nil.{0,0} (And.intro @List.getElem?_cons_zero.{0} @List.getElem?_cons_succ.{0}))))) (And.intro (And.intro (And.intro (And.intro @List.getElem?_nil.{0} @Option.getD_some.{0}) (And.intro @Option.getD_none.{0} @cond_true.{1})) (And.intro (And.intro @cond_false.{1} @and_self) (And.intro @and_true (And.intro @true_and @Int.toNat_natCast)))) (And.intro (And.intro (And.intro @Nat.zero_add @Nat.mul_one) (And.intro @endF_ret_iff @endF_normal_iff)) (And.intro (And.intro @retA_eq @oneR_one) (And.intro @oneR_nil (And.intro @oneR_two @rvs_nil))))))) (And.intro (And.intro (And.intro (And.intro (And.intro (And.intro @rvs_tmp @rvs_cell) (And.intro @rvsK_some @cellR_ptr)) (And.intro (And.intro @andR_some @optIdx_none) (And.intro @optIdx_some @asIdx_int))) (And.intro (And.intro (And.intro @Option.map_none.{0,0} @List.cons_append.{0}) (And.intro @List.nil_append.{0} @List.append_nil.{0})) (And.intro (And.intro @Nat.add_zero @Int.toNat_zero) (And.intro @cells_int (And.intro @cells_bool @cells_str))))) (And.intro (And.intro (And.intro (And.intro @cells_agg @cells_nils) (And.intro @cells_nilp @cells_ptr)) (And.intro (And.intro @cells_pptr @cells_sl) (And.intro @cells_psl (And.intro @cells_fn @List.set_cons_zero.{0})))) (And.intro (And.intro (And.intro @List.set_cons_succ.{0} @List.length_cons.{0}) (And.intro @List.length_nil.{0} @ble_dec)) (And.intro (And.intro @beq_dec @Nat.le_refl) (And.intro @decide_true (And.intro @decide_false @Bool.and_true)))))) (And.intro (And.intro (And.intro (And.intro (And.intro @Bool.true_and @Bool.and_self) (And.intro @List.all_cons.{0} @List.all_nil.{0})) (And.intro (And.intro @one_str @one_int) (And.intro @one_bool @one_psl))) (And.intro (And.intro (And.intro @one_pptr @one_ptr) (And.intro @one_sl @one_nils)) (And.intro (And.intro @one_nilp @one_fn) (And.intro @put_n (And.intro @push_n @kill_n))))) (And.intro (And.intro (And.intro (And.intro @st0_n @es_eql) (And.intro @es_neq @es_leq)) (And.intro (And.intro @es_lss @push_get) (And.intro @put_get (And.intro @ne_eq.{1} @not_true_eq_false)))) (And.intro (And.intro (And.intro @not_false_eq_true @midQ_normal) (And.intro @midQ_exit @midQ_ret)) (And.intro (And.intro @slc_eq @st0_cells) (And.intro @pick_bool (And.intro @cond_t @cond_f))))))))
def TS := And.intro (And.intro @List.take_zero.{0} @List.drop_succ_cons.{0}) (And.intro @List.drop_zero.{0} @List.take_succ_cons.{0})
def DS :=
  (And.intro (And.intro (And.intro (And.intro (And.intro @wpD_nil @wpD_plain) (And.intro @wpD_guard (And.intro @wpDK_eq @wpDL_eq))) (And.intro (And.intro @fzL_load (And.intro @fzL_cvBS @fzL_slArr)) (And.intro @wpDP_eq (And.intro @wpDA_eq @wpDS_eq)))) (And.intro (And.intro (And.intro @wpDC_eq @wpDB_eq) (And.intro @wpD1_eq (And.intro @wpD2_eq @wpD3_eq))) (And.intro (And.intro @wpDX_eq (And.intro @wpDE_eq @wpDF_eq)) (And.intro @onO_some (And.intro @onO_none @andA_some))))) (And.intro (And.intro (And.intro (And.intro @onP_pure @onP_read) (And.intro @onP_act (And.intro @stepD_call @stepD_store))) (And.intro (And.intro @stepD_alloc (And.intro @stepD_box @stepD_bslice)) (And.intro @stepD_mkslice (And.intro @stepD_append @stepD_appendZ)))) (And.intro (And.intro (And.intro @stepD_copy (And.intro @stepD_cvSB @stepD_cvMark)) (And.intro @stepD_range (And.intro @stepD_next @List.any_cons.{0}))) (And.intro (And.intro @List.any_nil.{0} (And.intro @Bool.or_false @Bool.or_true)) (And.intro @Bool.false_or (And.intro @Bool.true_or @Bool.false_eq_true))))))
/- The words that a walk unfolds, as one. -/
def WU := And.intro WS (And.intro (And.intro (And.intro (And.intro (And.intro (And.intro @stepW.eq_1 @stepW.eq_2) (And.intro @stepW.eq_3 @evalA.eq_1)) (And.intro (And.intro @evalA.eq_2 @evalA.eq_3) (And.intro @evalA.eq_4 (And.intro @evalA.eq_5 @evalA.eq_6)))) (And.intro (And.intro (And.intro @evalA.eq_7 @evalA.eq_8) (And.intro @evalA.eq_9 @evalA.eq_10)) (And.intro (And.intro @evalA.eq_11 @evalA.eq_12) (And.intro @evalA.eq_13 (And.intro @evalA.eq_14 @evalA.eq_15))))) (And.intro (And.intro (And.intro (And.intro @evalA.eq_16 @evalA.eq_17) (And.intro @evalA.eq_18 @evalA.eq_19)) (And.intro (And.intro @evalA.eq_20 @evalA.eq_21) (And.intro @evalA.eq_22 (And.intro @evalA.eq_23 @evalA.eq_24)))) (And.intro (And.intro (And.intro @evalA.eq_25 @evalA.eq_26) (And.intro @evalA.eq_27 (And.intro @evalA.eq_28 @evalA.eq_29))) (And.intro (And.intro @evalA.eq_30 @evalA.eq_31) (And.intro @evalA.eq_32 (And.intro @evalA.eq_33 @evalA.eq_34)))))) (And.intro (And.intro (And.intro (And.intro (And.intro @evalA.eq_35 @evalA.eq_36) (And.intro @evalA.eq_37 @evalA.eq_38)) (And.intro (And.intro @evalA.eq_39 @evalA.eq_40) (And.intro @evalA.eq_41 (And.intro @evalBin.eq_1 @evalBin.eq_2)))) (And.intro (And.intro (And.intro @evalBin.eq_3 @evalBin.eq_4) (And.intro @evalBin.eq_5 (And.intro @evalBin.eq_6 @evalBin.eq_7))) (And.intro (And.intro @Option.getD.eq_1.{0} @Option.getD.eq_2.{0}) (And.intro @allocA.eq_1 (And.intro @allocA.eq_2 @allocA.eq_3))))) (And.intro (And.intro (And.intro (And.intro @allocA.eq_4 @rowOf.eq_1) (And.intro @rowOf.eq_2 @fillA.eq_1)) (And.intro (And.intro @fillA.eq_2 @fillA.eq_3) (And.intro @partsV.eq_1 (And.intro @setl.eq_1 @setl.eq_2)))) (And.intro (And.intro (And.intro @AV.len.eq_1 @AV.len.eq_2) (And.intro @AV.len.eq_3 (And.intro @AV.len.eq_4 @AV.len.eq_5))) (And.intro (And.intro @AV.len.eq_6 @evalUn.eq_1) (And.intro @evalUn.eq_2 (And.intro @evalUn.eq_3 @evalUn.eq_4)))))))
def DU := And.intro DS (And.intro (And.intro (And.intro (And.intro (And.intro @isSl.eq_1 @isSl.eq_2) (And.intro @AOp.pure.eq_1 @AOp.pure.eq_2)) (And.intro (And.intro @AOp.pure.eq_3 @AOp.pure.eq_4) (And.intro @AOp.pure.eq_5 @AOp.pure.eq_6))) (And.intro (And.intro (And.intro @AOp.pure.eq_7 @AOp.pure.eq_8) (And.intro @AOp.pure.eq_9 @AOp.pure.eq_10)) (And.intro (And.intro @AOp.pure.eq_11 @AOp.pure.eq_12) (And.intro @AOp.pure.eq_13 (And.intro @AOp.pure.eq_14 @AOp.pure.eq_15))))) (And.intro (And.intro (And.intro (And.intro @AOp.pure.eq_16 @AOp.pure.eq_17) (And.intro @AOp.pure.eq_18 @AOp.pure.eq_19)) (And.intro (And.intro @AOp.pure.eq_20 @AOp.pure.eq_21) (And.intro @AOp.pure.eq_22 (And.intro @AOp.pure.eq_23 @AOp.pure.eq_24)))) (And.intro (And.intro (And.intro @AOp.reader.eq_1 @AOp.reader.eq_2) (And.intro @AOp.reader.eq_3 @AOp.reader.eq_4)) (And.intro (And.intro @allocD.eq_1 @allocD.eq_2) (And.intro @allocD.eq_3 (And.intro @AOp.quiet.eq_1 @isSlot.eq_1))))))
end Go.Proofs.Ythojhpjjkfjeiaa.Va
set_option linter.all false
namespace Go.Proofs.Ythojhpjjkfjeiaa.Va
open Go.Proofs
variable {P : Program} {N : Nat} {Q : AExit → Env → AState → Prop} {ρ : Env} {σ : AState}
def frzQ (N : Nat) (M : Env → AState → Prop) (Q : AExit → Env → AState → Prop) (e : AExit) (ρ : Env) (σ : AState) : Prop := match e with | .normal => Frz N M ρ σ | .exit i => Q (.exit i) ρ σ | .ret => Q .ret ρ σ
section
variable (M : Env → AState → Prop) (Q : AExit → Env → AState → Prop) (ρ : Env) (σ : AState)
theorem frzQ_normal : frzQ N M Q .normal ρ σ = Frz N M ρ σ := propext ⟨fun h => h, fun h => h⟩
theorem frzQ_exit (i : Nat) : frzQ N M Q (.exit i) ρ σ = Q (.exit i) ρ σ := propext ⟨fun h => h, fun h => h⟩
theorem frzQ_ret : frzQ N M Q .ret ρ σ = Q .ret ρ σ := propext ⟨fun h => h, fun h => h⟩
end
theorem s_frz {a b : ACode} (M : Env → AState → Prop) (h1 : wpC P N a (frzQ N M Q) ρ σ) (h2 : ∀ ρ σ, M ρ σ → SimA P N b Q ρ σ) : SimA P N (.seq a b) Q ρ σ := by
  refine a_seq (SimA.frz ((wpC_ok _ _ _ _ h1).mono fun e ρ σ h => ?_))
  cases e with
  | normal =>
    obtain ⟨ρ', σ', hm, hf⟩ := h
    exact ⟨ρ', σ', h2 _ _ hm, hf⟩
  | exit i => exact Frz.now h
  | ret => exact Frz.now h
theorem s_mid {a b : ACode} (M : Env → AState → Prop) (h1 : wpC P N a (midQ M Q) ρ σ) (h2 : ∀ ρ σ, M ρ σ → SimA P N b Q ρ σ) : SimA P N (.seq a b) Q ρ σ := by
  refine a_seq ((wpC_ok _ _ _ _ h1).mono fun e ρ σ h => ?_)
  cases e with
  | normal => exact h2 _ _ h
  | exit i => exact h
  | ret => exact h
theorem s_wp {c : ACode} (h : wpC P N c Q ρ σ) : SimA P N c Q ρ σ := wpC_ok _ _ _ _ h
theorem ac_s {f : FuncId} {fn : Func} {af : AFun} {args : List AV} {σ : AState} {R : AV → AState → Prop} (hf : P.funcs[f]? = some fn) (hc : compF P fn = some af) (hca : callable P f = true) (hn : args.length = af.n)
    (h : SimA P af.size af.body (endF af.rets R) (Env.ofArgs args 0) σ) : AC P f args σ R := ac_of_fun hf hc hca hn h
end Go.Proofs.Ythojhpjjkfjeiaa.Va
