/- More of rows of one's own. Conditions: none. -/
import Derived.Test.YtaokfpjjaejjgaaVaP
set_option linter.all false
namespace Go.Proofs.Ytaokfpjjaejjgaa.Va
open Go.Proofs
variable {P : Program}
theorem slots_keep {m k : Nat} {σ s : AState} {sl : List (Nat × List AV)} (h : Keeps m σ s) : Keeps m σ (addSlots s.n k s sl) := by
  refine ⟨Nat.le_trans h.1 (Nat.le_add_right _ _), fun b hb => ?_⟩
  have hb' : b < s.n := Nat.lt_of_lt_of_le hb h.1
  have : ∀ (sl : List (Nat × List AV)) (t : Tr ABlk), (sl.foldr (fun x h => h.set (s.n + x.1) (some (.cells x.2))) t).get b = t.get b := by
    intro sl t
    induction sl with
    | nil => rfl
    | cons x sl ih =>
      have : ¬ b = s.n + x.1 := by omega
      simp only [List.foldr, Tr.get_set, this, if_false, ih]
  exact (this sl s.h).trans (h.2 b hb)
theorem RowP.slotsL {p : Nat → Prop} {σ : AState} {x : AV} {c : List AV} {n sz : Nat} (h : RowP p σ x c n sz) (m : Nat) (sl : List (Nat × List AV)) : RowP p (addSlots σ.n m σ sl) x c n sz :=
  h.keep (Nat.le_add_right _ _) fun b hb hp => (slots_keep (k := m) (sl := sl) (Keeps.refl σ)).cells hb
theorem app_rowS {p : Nat → Prop} {σ : AState} {x y : AV} {c new : List AV} {n k sz bytes : Nat} (hx : RowP p σ x c n sz) (hp : p σ.n) (hy : y.len = some k) (hf : Va.firstA σ sz k y = some new) (hone : new.all AV.one = true) (hl : new.length = k * sz) (hk : 0 < n + k)
    (hb : (2 * (n + k) + 1024) * bytes ≤ 140737488355328) : ∃ b cap s, appendA σ sz bytes x y = some (.sl b 0 (n + k) cap sz, s) ∧ RowP p s (.sl b 0 (n + k) cap sz) (c ++ new) (n + k) sz ∧ σ.n ≤ s.n ∧ ∀ b, b < σ.n → ¬ p b → s.h.get b = σ.h.get b := by
  obtain ⟨x', s, h1, h2, h3, h4⟩ := app_rowP (bytes := bytes) hx hp hy hf hone hl hb
  have hx' : ∃ b cap, x' = .sl b 0 (n + k) cap sz := by
    rcases h2 with ⟨_, h, _⟩ | ⟨b, cap, cs, rfl, _⟩
    · omega
    · exact ⟨b, cap, rfl⟩
  obtain ⟨b, cap, rfl⟩ := hx'
  exact ⟨b, cap, s, h1, h2, h3, h4⟩
theorem slots_get {s : AState} {m : Nat} : ∀ (sl : List (Nat × List AV)) (i : Nat) (cs : List AV), slotOf sl i = some cs → (addSlots s.n m s sl).h.get (s.n + i) = some (.cells cs) := by
  intro sl
  induction sl with
  | nil => intro i cs h; cases h
  | cons x sl ih =>
    intro i cs h
    obtain ⟨j, d⟩ := x
    by_cases e : i = j
    · subst e
      simp [slotOf] at h
      subst h
      simp only [addSlots, List.foldr, Tr.get_set, if_true]
    · have h' : slotOf sl i = some cs := by
        simp only [slotOf] at h
        cases hb : Nat.beq j i with
        | true => exact absurd (Nat.eq_of_beq_eq_true hb).symm e
        | false => simpa [hb] using h
      have := ih i cs h'
      have hne : ¬ s.n + i = s.n + j := by omega
      simp only [addSlots, List.foldr, Tr.get_set, hne, if_false] at this ⊢
      exact this
theorem cells_of {s : AState} {b : Nat} {cs : List AV} (h : s.h.get b = some (.cells cs)) : s.cells b = some cs := by simp only [AState.cells, h]
theorem slots_old {s : AState} {m : Nat} (sl : List (Nat × List AV)) {b : Nat} (hb : b < s.n) : (addSlots s.n m s sl).cells b = s.cells b := (slots_keep (Keeps.refl s) (k := m) (sl := sl)).cells hb
theorem PurL.append {s : AState} {al : Bool} {a b a' b' : List AV} (h : PurL s al a a') (h' : PurL s al b b') : PurL s al (a ++ b) (a' ++ b') := by
  refine ⟨by simp [h.1, h'.1], fun i hi hi' => ?_⟩
  by_cases hlt : i < a.length
  · rw [List.getElem_append_left hlt, List.getElem_append_left (by rw [h.1]; exact hlt)]; exact h.2 i hlt _
  · rw [List.getElem_append_right (by omega), List.getElem_append_right (by rw [h.1]; omega)]
    have e : i - a'.length = i - a.length := by rw [h.1]
    simp only [e]
    exact h'.2 _ _ _
theorem PurL.self {s : AState} {c : List AV} (h : ∀ a ∈ c, Pur s true a a) : PurL s true c c := ⟨rfl, fun i hi _ => h _ (List.getElem_mem hi)⟩
theorem RowP.purL {p : Nat → Prop} {σ : AState} {x : AV} {c c' : List AV} {n sz : Nat} {al : Bool} (h : RowP p σ x c n sz) (hp : PurL σ al c c') : Pur σ al x (.psl c' 0 n) := h.pur al hp.1 hp.2
/- A literal row's own block, seen as fixed data. -/
theorem Pur.lit {s : AState} {al : Bool} {b n sz : Nat} {cap : Option Nat} {c c' : List AV} (hb : s.cells b = some c) (hl : c.length = n * sz) (hp : PurL s al c c') : Pur s al (.sl b 0 n cap sz) (.psl c' 0 n) :=
  .sl b 0 n cap sz c c' hb (by omega) (by rw [hp.1, hl]) fun i hi hi' => by
    have := hp.2 i (by omega) hi'
    simpa using this
theorem rowc_take {α : Type} {f : α → List AV} {sz : Nat} (hf : ∀ x, (f x).length = sz) (l : List α) (i : Nat) (h : i ≤ l.length) : (rowc f l).take (i * sz) = rowc f (l.take i) := by
  conv => lhs; rw [← List.take_append_drop i l, rowc_append]
  exact List.take_left' (by rw [rowc_length hf, List.length_take, Nat.min_eq_left h])
theorem rowc_segs {α : Type} {f : α → List AV} {sz : Nat} (hf : ∀ x, (f x).length = sz) {l : List α} {i m : Nat} (h : i + m ≤ l.length) : seg (rowc f l) (i * sz) (m * sz) = rowc f ((l.drop i).take m) := by
  unfold seg
  rw [rowc_drop hf, rowc_take hf _ _ (by rw [List.length_drop]; omega)]
theorem firstA_own {s : AState} {b off n sz : Nat} {cap : Option Nat} {cs : List AV} (hc : s.cells b = some cs) (hl : off + n * sz ≤ cs.length) : firstA s sz n (.sl b off n cap sz) = some (seg cs off (n * sz)) := by
  unfold firstA
  cases h0 : Nat.beq n 0 with
  | true =>
    have := Nat.eq_of_beq_eq_true h0
    subst this
    simp [seg]
  | false =>
    have hb : Nat.ble (off + n * sz) cs.length = true := Nat.ble_eq_true_of_le hl
    simp only [cond_false, base, hc, hb, cond_true]
/- A part of a row. -/
theorem RowS.part {p : Nat → Prop} {σ : AState} {x : AV} {α : Type} {f : α → List AV} {sz : Nat} (hf : ∀ x, (f x).length = sz) {l : List α} {n b : Nat} {cap : Option Nat} {cs : List AV} (h : RowS p σ x (rowc f l) n sz b cap cs) (hn : n = l.length) {i m : Nat} (hi : i + m ≤ l.length) :
    i * sz + m * sz ≤ cs.length ∧ Va.seg cs (i * sz) (m * sz) = rowc f ((l.drop i).take m) := by
  subst hn
  have h1 : i * sz + m * sz ≤ l.length * sz := by rw [← Nat.add_mul]; exact Nat.mul_le_mul_right _ hi
  refine ⟨Nat.le_trans h1 h.fit, ?_⟩
  rw [← rowc_segs hf hi, h.seg, seg_in h1]
end Go.Proofs.Ytaokfpjjaejjgaa.Va
