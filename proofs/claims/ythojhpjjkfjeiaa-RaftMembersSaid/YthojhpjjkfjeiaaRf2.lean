/- Members such as may be: valid, New. Conditions: none. -/
import Derived.Test.YthojhpjjkfjeiaaTab
import Derived.Test.YthojhpjjkfjeiaaVaM
set_option maxRecDepth 100000
set_option maxHeartbeats 4000000
set_option linter.all false
namespace Go.Proofs.Ythojhpjjkfjeiaa.Va
open Go.Proofs
theorem wrap_pred {i : Nat} (h0 : 0 < i) (h : i < 9223372036854775807) : IntKind.i64.wrap ((i : Int) - 1) = ((i - 1 : Nat) : Int) := by rw [wrap64 (by omega) (by omega)]; omega
def mAt (l : List Int) (i : Nat) : Int := l.getD i 0
theorem mAt_get {l : List Int} {i : Nat} (h : i < l.length) : (ofInts l)[i]? = some (.int .i64 (mAt l i)) := by simp [ofInts, mAt, h]
/- The member at i is one, and greater than the one ahead. -/
def okAt (l : List Int) (i : Nat) : Bool := decide (0 ≤ mAt l i) && (decide (mAt l i < 7) && (decide (i = 0) || decide (mAt l (i - 1) < mAt l i)))
def okUp (l : List Int) : Nat → Bool
  | 0 => true
  | n + 1 => okUp l n && okAt l n
def validS (l : List Int) : Bool := okUp l l.length && decide (0 < l.length)
theorem okUp_le {l : List Int} {n k : Nat} (h : okUp l n = false) (hk : n ≤ k) : okUp l k = false := by
  induction k with
  | zero => have : n = 0 := by omega
            subst this; exact h
  | succ k ih =>
    by_cases hn : n = k + 1
    · subst hn; exact h
    · rw [okUp, ih (by omega)]; rfl
theorem okUp_few {l : List Int} : ∀ n, okUp l n = true → 0 < n → ((n : Int) - 1 ≤ mAt l (n - 1) ∧ mAt l (n - 1) < 7) := by
  intro n
  induction n with
  | zero => intro _ h; omega
  | succ n ih =>
    intro h _
    rw [okUp, Bool.and_eq_true] at h
    obtain ⟨h1, h2⟩ := h
    unfold okAt at h2
    simp only [Bool.and_eq_true, Bool.or_eq_true, decide_eq_true_eq] at h2
    obtain ⟨g1, g2, g3⟩ := h2
    rw [Nat.add_sub_cancel]
    rcases g3 with g3 | g3
    · subst g3; exact ⟨by simpa using g1, g2⟩
    · by_cases h0 : 0 < n
      · have := (ih h1 h0).1
        exact ⟨by omega, g2⟩
      · have : n = 0 := by omega
        subst this; exact ⟨by simpa using g1, g2⟩
theorem valid_few {l : List Int} (h : validS l = true) : 0 < l.length ∧ l.length ≤ 7 := by
  unfold validS at h
  simp only [Bool.and_eq_true, decide_eq_true_eq] at h
  have := okUp_few _ h.1 h.2
  omega
theorem valid_st0 {l : List Int} (hl : l.length ≤ 1000) : AC Try.prog 37 [.psl (ofInts l) 0 l.length] st0 fun v _ => v = .bool (validS l) := by
  obtain ⟨R, hR⟩ : ∃ R, R = validS l := ⟨_, rfl⟩
  rw [← hR]
  refine ac_wp fn37 cf37 cl37 rfl ?_
  simp only [ac37]
  unfold ab37
  simp only [wpC_seq, wpC_skip, wpCK_normal]
  refine w_mid (fun ρ s => ρ.rd 0 = .psl (ofInts l) 0 l.length) ?_ ?_
  · simp only [WU, seval]
  rintro ρ s h0
  rw [wpC_seq]
  refine w_mid (fun ρ s => ρ.rd 0 = .psl (ofInts l) 0 l.length ∧ okUp l l.length = true) ?_ ?_
  · simp only [WU, seval, h0]
    refine w_for (fun i ρ s => ρ.rd 7 = .int .i64 i ∧ ρ.rd 6 = .int .i64 l.length ∧ ρ.rd 5 = .psl (ofInts l) 0 l.length ∧ ρ.rd 0 = .psl (ofInts l) 0 l.length ∧ okUp l i = true) l.length ?_ ?_
    · simp only [WU, seval, h0]
      first | done | exact ⟨rfl, rfl⟩ | rfl
    clear h0
    rintro i ρ s hi ⟨h7, h6, h5, h0, hu⟩
    by_cases hlt : i < l.length
    rotate_left
    · have : i = l.length := by omega
      subst this
      have hge : ¬ ((l.length : Nat) : Int) < ((l.length : Nat) : Int) := by omega
      simp only [WU, seval, h7, h6, h5, h0, hge]
      exact hu
    have hr := lt_idx hlt
    have hlt' := hr.2
    have hw : IntKind.i64.wrap ((i : Int) + 1) = ((i + 1 : Nat) : Int) := wrap_succ (by omega)
    have hg := mAt_get hlt
    have hbad : okAt l i = false → R = false := fun h => by rw [hR]; unfold validS; rw [okUp_le (n := i + 1) (by rw [okUp, h, Bool.and_false]) (by omega)]; rfl
    have hgood : okAt l i = true → okUp l (i + 1) = true := fun h => by rw [okUp, hu, h]; rfl
    unfold okAt at hbad hgood
    by_cases g1 : mAt l i < 0
    · have e := hbad (by have : ¬ 0 ≤ mAt l i := by omega
                         simp [this])
      simp only [WU, seval, h7, h6, h5, h0, hlt', hr, hg, g1, e]
    have g1' : 0 ≤ mAt l i := by omega
    by_cases g2 : 7 ≤ mAt l i
    · have e := hbad (by have : ¬ mAt l i < 7 := by omega
                         simp [this])
      simp only [WU, seval, h7, h6, h5, h0, hlt', hr, hg, g1, g2, e]
    have g2' : mAt l i < 7 := by omega
    by_cases g3 : i = 0
    · have e := hgood (by rw [decide_eq_true g1', decide_eq_true g2', decide_eq_true g3]; rfl)
      have p0 : ¬ (0 : Int) < ((i : Nat) : Int) := by omega
      simp only [WU, seval, h7, h6, h5, h0, hlt', hr, hg, g1, g2, p0, e, hw]
      exact hlt
    · have p0 : (0 : Int) < ((i : Nat) : Int) := by omega
      have hp := wrap_pred (i := i) (by omega) (by omega)
      have hg2 := mAt_get (l := l) (i := i - 1) (by omega)
      have hr2 : (0 : Int) ≤ ((i - 1 : Nat) : Int) ∧ ((i - 1 : Nat) : Int) < ((l.length : Nat) : Int) := by omega
      by_cases g4 : mAt l i ≤ mAt l (i - 1)
      · have e := hbad (by have : ¬ mAt l (i - 1) < mAt l i := by omega
                           simp [this, g3])
        simp only [WU, seval, h7, h6, h5, h0, hlt', hr, hg, g1, g2, p0, hp, hg2, hr2, g4, e]
      · have e := hgood (by have : mAt l (i - 1) < mAt l i := by omega
                            simp [this, g1', g2'])
        simp only [WU, seval, h7, h6, h5, h0, hlt', hr, hg, g1, g2, p0, hp, hg2, hr2, g4, e, hw]
        exact hlt
  rintro ρ s ⟨h0, hu⟩
  have : R = decide ((0 : Int) < ((l.length : Nat) : Int)) := by rw [hR]; unfold validS; rw [hu, Bool.true_and]; congr 1; simp
  simp only [WU, seval, h0, this]
theorem valid_ac {l : List Int} {x : AV} {σ : AState} (hl : l.length ≤ 1000) (hx : Pur σ true x (.psl (ofInts l) 0 l.length)) : AC Try.prog 37 [x] σ fun v s => s = σ ∧ v = .bool (validS l) :=
  AC.pure (R := fun v => v = .bool (validS l)) (.cons hx .nil) ((valid_st0 hl).mono fun v s h => ⟨_, by rw [h]; exact .flat _ rfl, rfl⟩)
end Go.Proofs.Ythojhpjjkfjeiaa.Va
