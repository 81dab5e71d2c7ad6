/- The law 'PackBounds' returns true at each input: a closed run for each choice of its numbers. Conditions: none. -/
import Derived.Test.YthobpdfchhihnaaTab
import Derived.Test.YthobpdfchhihnaaVaH
import Derived.KernelRfl
set_option maxRecDepth 100000
set_option maxHeartbeats 4000000
set_option linter.all false
namespace Go.Proofs.Ythobpdfchhihnaa.Va
open Go.Proofs

def ints : Nat → List Int
  | 0 => []
  | n + 1 => ints n ++ [(n : Int)]
theorem ints_mem : ∀ (n : Nat) (x : Int), 0 ≤ x → x < n → x ∈ ints n := by
  intro n
  induction n with
  | zero => intro x h0 h1; simp only [Int.natCast_zero] at h1; omega
  | succ n ih =>
    intro x h0 h1
    simp only [ints, List.mem_append, List.mem_singleton]
    rcases (by omega : x < n ∨ x = n) with h | h
    · exact .inl (ih x h0 h)
    · exact .inr h
theorem of_map {α β : Type} {f : α → β} {l : List α} {n : Nat} {b : β} (h : l.map f = List.replicate n b) {a : α} (ha : a ∈ l) : f a = b := by
  have hm := List.mem_map_of_mem (f := f) ha
  rw [h] at hm
  exact (List.mem_replicate.1 hm).2

def packBoundsAns (y0 y1 : Int) : Nat → Option AV := fun d =>
  bif Nat.beq d 10 then some (.bool true) else bif Nat.beq d 13 then some (.int .i64 y0) else bif Nat.beq d 17 then some (.int .i64 y1) else none
def packBoundsRun (x0 : Int) (x1 : Int) (y0 y1 : Int) : Option Owed :=
  match runL (packBoundsAns y0 y1) (runF tab 400) 400 ac5 [.int .i64 x0, .int .i64 x1] with
  | some (v, l) => bif isYes v then some l else none
  | none => none
def packBoundsOwed (x0 : Int) (x1 : Int) : Owed := [(10, 6, []), (13, 13, [.int .i64 x1, .int .i64 4]), (17, 13, [.int .i64 x0, .int .i64 7])]

theorem known_ac (σ : AState) : AC Try.prog 6 [] σ fun v s => v = .bool true ∧ s = σ := by
  have h : (match runF tab 400 6 [] st0 with | some (.bool true, _) => true | _ => false) = true := by kernel_rfl
  split at h
  · rename_i s e
    exact AC.plain rfl (fun x hx => by cases hx) ((runs 400 _ _ _ _ _ e).mono fun v' s' hv => hv.1)
  · cases h

theorem packBounds_of_run (x0 : Int) (x1 : Int) (h : packBoundsRun x0 x1 (wi x1 4) (wi x0 7) = some (packBoundsOwed x0 x1)) : AC Try.prog 5 [.int .i64 x0, .int .i64 x1] st0 fun v _ => v = .bool true := by
  unfold packBoundsRun at h
  split at h
  · rename_i v l hr
    cases hv : isYes v with
    | false => rw [hv] at h; cases h
    | true =>
      rw [hv] at h
      simp only [cond_true, Option.some.injEq] at h
      subst h
      have hv := isYes_eq hv
      subst hv
      refine runL_ok follow (runs 400) fn5 cf5 cl5 rfl hr ?_
      intro x hx v hv σ
      simp only [packBoundsOwed, List.mem_cons, List.mem_nil_iff, or_false] at hx
      rcases hx with rfl | rfl | rfl
      · have : v = .bool true := (Option.some.inj hv).symm
        subst this
        exact known_ac σ
      · have : v = .int .i64 (wi x1 4) := (Option.some.inj hv).symm
        subst this
        exact within_ac fn13 cf13 cl13 (by decide) (by decide)
      · have : v = .int .i64 (wi x0 7) := (Option.some.inj hv).symm
        subst this
        exact within_ac fn13 cf13 cl13 (by decide) (by decide)
  · cases h
end Go.Proofs.Ythobpdfchhihnaa.Va
