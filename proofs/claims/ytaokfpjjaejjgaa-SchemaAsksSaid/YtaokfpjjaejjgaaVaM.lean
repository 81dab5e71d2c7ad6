/- What comes in: the common shapes; how a law's contract serves for what comes in. Conditions: none. -/
import Derived.Test.YtaokfpjjaejjgaaVaK
import Derived.Test.YtaokfpjjaejjgaaVaL
set_option linter.unusedSimpArgs false
set_option linter.unusedVariables false
namespace Go.Proofs.Ytaokfpjjaejjgaa.Va
variable {P : Program}

theorem wt_int {n : Nat} {t : TypeId} {k : IntKind} {c : List AV} (hu : P.underlying t = some (.int k)) (h : Wt P n t c) : ∃ a, c = [.int k a] ∧ k.min ≤ a ∧ a ≤ k.max := by
  cases n with
  | zero => exact h.elim
  | succ n =>
    simp only [Wt, hu] at h
    obtain ⟨a, rfl, ha⟩ := h
    simp only [Lit.wf, decide_eq_true_eq, Bool.and_eq_true] at ha
    exact ⟨a, rfl, ha.1, ha.2⟩
theorem wt_bool {n : Nat} {t : TypeId} {c : List AV} (hu : P.underlying t = some .bool) (h : Wt P n t c) : ∃ a, c = [.bool a] := by
  cases n with
  | zero => exact h.elim
  | succ n => simp only [Wt, hu] at h; exact h
theorem wt_str {n : Nat} {t : TypeId} {c : List AV} (hu : P.underlying t = some .string) (h : Wt P n t c) : ∃ l, c = [.str l] ∧ l.length ≤ maxLen := by
  cases n with
  | zero => exact h.elim
  | succ n => simp only [Wt, hu] at h; exact h
theorem wt_slice {n : Nat} {t e : TypeId} {c : List AV} (hu : P.underlying t = some (.slice e)) (h : Wt P n t c) :
    ∃ m, ∃ cs : List (List AV), n = m + 1 ∧ c = [.psl cs.flatten 0 cs.length] ∧ cs.length ≤ maxLen ∧ ∀ x ∈ cs, Wt P m e x := by
  cases n with
  | zero => exact h.elim
  | succ n =>
    simp only [Wt, hu] at h
    obtain ⟨cs, h1, h2, h3⟩ := h
    exact ⟨n, cs, rfl, h1, h2, h3⟩
theorem wt_struct {n : Nat} {t : TypeId} {fs : Array Field} {c : List AV} (hu : P.underlying t = some (.struct fs)) (h : Wt P n t c) : ∃ m, n = m + 1 ∧ WtFs (Wt P m) fs.toList c := by
  cases n with
  | zero => exact h.elim
  | succ n => simp only [Wt, hu] at h; exact ⟨n, rfl, h⟩
/- Rows of such as a Lean type tells. -/
theorem wt_rows {n : Nat} {t e : TypeId} {α : Type} {f : α → List AV} {good : α → Prop} {c : List AV} (hu : P.underlying t = some (.slice e)) (hf : ∀ n c, Wt P n e c → ∃ x, c = f x ∧ good x) (h : Wt P n t c) :
    ∃ l : List α, c = [.psl (l.map f).flatten 0 l.length] ∧ l.length ≤ maxLen ∧ ∀ x ∈ l, good x := by
  obtain ⟨m, cs, rfl, rfl, h2, h3⟩ := wt_slice hu h
  obtain ⟨l, rfl, hl⟩ := wt_row (hf m) h3
  exact ⟨l, by simp, by simpa using h2, hl⟩
theorem wt_u8 {n : Nat} {t : TypeId} {c : List AV} (hu : P.underlying t = some (.int .u8)) (h : Wt P n t c) : ∃ x : UInt8, c = [.int .u8 x.toNat] := by
  obtain ⟨a, rfl, h1, h2⟩ := wt_int hu h
  have h1' : (0 : Int) ≤ a := h1
  have h2' : a ≤ 255 := h2
  refine ⟨UInt8.ofNat a.toNat, ?_⟩
  have : ((UInt8.ofNat a.toNat).toNat : Int) = a := by simp; omega
  rw [this]
theorem flat_one {α : Type} (g : α → AV) : ∀ l : List α, (l.map fun x => [g x]).flatten = l.map g := by
  intro l
  induction l with
  | nil => rfl
  | cons a l ih => simp only [List.map_cons, List.flatten_cons, ih, List.cons_append, List.nil_append]
theorem flat_u8 (l : List UInt8) : (l.map fun x : UInt8 => [AV.int .u8 x.toNat]).flatten = ofU8s l := flat_one _ l
theorem wt_bytes {n : Nat} {t e : TypeId} {c : List AV} (hu : P.underlying t = some (.slice e)) (he : P.underlying e = some (.int .u8)) (h : Wt P n t c) :
    ∃ l : List UInt8, c = [.psl (ofU8s l) 0 l.length] ∧ l.length ≤ maxLen := by
  obtain ⟨l, rfl, h1, _⟩ := wt_rows (f := fun x : UInt8 => [.int .u8 x.toNat]) (good := fun _ => True) hu (fun n c h => by obtain ⟨x, hx⟩ := wt_u8 he h; exact ⟨x, hx, trivial⟩) h
  refine ⟨l, ?_, h1⟩
  rw [flat_u8]
def ofInts (l : List Int) : List AV := l.map fun n => .int .i64 n
theorem flat_ints (l : List Int) : (l.map fun x : Int => [AV.int .i64 x]).flatten = ofInts l := flat_one _ l
theorem wt_ints {n : Nat} {t e : TypeId} {c : List AV} (hu : P.underlying t = some (.slice e)) (he : P.underlying e = some (.int .i64)) (h : Wt P n t c) :
    ∃ l : List Int, c = [.psl (ofInts l) 0 l.length] ∧ l.length ≤ maxLen ∧ ∀ x ∈ l, -9223372036854775808 ≤ x ∧ x ≤ 9223372036854775807 := by
  obtain ⟨l, rfl, h1, h2⟩ := wt_rows (f := fun x : Int => [.int .i64 x]) (good := fun x => -9223372036854775808 ≤ x ∧ x ≤ 9223372036854775807) hu (fun n c h => by obtain ⟨x, hx, h1, h2⟩ := wt_int he h; exact ⟨x, hx, h1, h2⟩) h
  refine ⟨l, ?_, h1, h2⟩
  rw [flat_ints]

/- A parameter that is no struct, one that is. -/
theorem arg_one {K : Know} {w : World} {r : Reach} {b : Nat} {t : TypeId} {v : Value} {a : AV} (hn : isAggT P t = some false) (hval : Value.okWide P w r b t v) (h : VRL K [a] v.cells.toList) : VR K a v := by
  have hv : v.cells = #[v] := by
    unfold isAggT at hn
    unfold Value.okWide at hval
    cases hu : P.underlying t with
    | none => rw [hu] at hn; cases hn
    | some d =>
      rw [hu] at hn hval
      cases v with
      | agg cs =>
        exfalso
        cases d <;> simp at hn <;> simp [Cell.okWide, Cell.ok, hu] at hval
      | _ => rfl
  rw [hv] at h
  obtain ⟨x, vs', h1, h2, _⟩ := h.of_cons
  simp at h1
  rw [h1.1]; exact h2
theorem arg_agg {K : Know} {w : World} {r : Reach} {b : Nat} {t : TypeId} {v : Value} {c : List AV} (hn : ∃ fs, P.underlying t = some (.struct fs)) (hval : Value.okWide P w r b t v) (h : VRL K c v.cells.toList) : VR K (.agg c) v := by
  obtain ⟨fs, hu⟩ := hn
  unfold Value.okWide at hval
  rw [hu] at hval
  obtain ⟨cs, rfl, _⟩ := hval
  have := VR.agg (K := K) c cs.toList h.1 h.2
  simpa using this
end Go.Proofs.Ytaokfpjjaejjgaa.Va
