/- The law 'SchemaTypes' returns true at each input: a closed run for each choice of its numbers. Conditions: none. -/
import Derived.Test.YtaokfpjjaejjgaaTab
import Derived.Test.YtaokfpjjaejjgaaVaH
import Derived.KernelRfl
set_option maxRecDepth 100000
set_option maxHeartbeats 4000000
set_option linter.all false
namespace Go.Proofs.Ytaokfpjjaejjgaa.Va
open Go.Proofs

def ints : Nat → List Int
  | 0 => []
  | n + 1 => ints n ++ [(n : Int)]
theorem ints_mem : ∀ (n : Nat) (x : Int), 0 ≤ x → x < n → x ∈ ints n := by
  intro n
  induction n with
  | zero => intro x h0 h1; simp only [Int.natCast_zero] at h1; omega
  | succ n ih =>
    intro x h0 h1
    simp only [ints, List.mem_append, List.mem_singleton]
    rcases (by omega : x < n ∨ x = n) with h | h
    · exact .inl (ih x h0 h)
    · exact .inr h
theorem of_map {α β : Type} {f : α → β} {l : List α} {n : Nat} {b : β} (h : l.map f = List.replicate n b) {a : α} (ha : a ∈ l) : f a = b := by
  have hm := List.mem_map_of_mem (f := f) ha
  rw [h] at hm
  exact (List.mem_replicate.1 hm).2

def schemaTypesAns (y0 y1 y2 : Int) : Nat → Option AV := fun d =>
  bif Nat.beq d 13 then some (.bool true) else bif Nat.beq d 16 then some (.int .i64 y0) else bif Nat.beq d 19 then some (.int .i64 y1) else bif Nat.beq d 23 then some (.int .i64 y2) else none
def schemaTypesRun (x0 : Int) (x1 : Int) (x2 : Int) (x3 : Bool) (y0 y1 y2 : Int) : Option Owed :=
  match runL (schemaTypesAns y0 y1 y2) (runF tab 400) 400 ac4 [.int .i64 x0, .int .i64 x1, .int .i64 x2, .bool x3] with
  | some (v, l) => bif isYes v then some l else none
  | none => none
def schemaTypesOwed (x0 : Int) (x1 : Int) (x2 : Int) (x3 : Bool) : Owed := [(13, 8, []), (16, 14, [.int .i64 x0, .int .i64 8]), (19, 14, [.int .i64 x1, .int .i64 7]), (23, 14, [.int .i64 x2, .int .i64 4])]

theorem known_ac (σ : AState) : AC Try.prog 8 [] σ fun v s => v = .bool true ∧ s = σ := by
  have h : (match runF tab 400 8 [] st0 with | some (.bool true, _) => true | _ => false) = true := by kernel_rfl
  split at h
  · rename_i s e
    exact AC.plain rfl (fun x hx => by cases hx) ((runs 400 _ _ _ _ _ e).mono fun v' s' hv => hv.1)
  · cases h

theorem schemaTypes_of_run (x0 : Int) (x1 : Int) (x2 : Int) (x3 : Bool) (h : schemaTypesRun x0 x1 x2 x3 (wi x0 8) (wi x1 7) (wi x2 4) = some (schemaTypesOwed x0 x1 x2 x3)) : AC Try.prog 4 [.int .i64 x0, .int .i64 x1, .int .i64 x2, .bool x3] st0 fun v _ => v = .bool true := by
  unfold schemaTypesRun at h
  split at h
  · rename_i v l hr
    cases hv : isYes v with
    | false => rw [hv] at h; cases h
    | true =>
      rw [hv] at h
      simp only [cond_true, Option.some.injEq] at h
      subst h
      have hv := isYes_eq hv
      subst hv
      refine runL_ok follow (runs 400) fn4 cf4 cl4 rfl hr ?_
      intro x hx v hv σ
      simp only [schemaTypesOwed, List.mem_cons, List.mem_nil_iff, or_false] at hx
      rcases hx with rfl | rfl | rfl | rfl
      · have : v = .bool true := (Option.some.inj hv).symm
        subst this
        exact known_ac σ
      · have : v = .int .i64 (wi x0 8) := (Option.some.inj hv).symm
        subst this
        exact within_ac fn14 cf14 cl14 (by decide) (by decide)
      · have : v = .int .i64 (wi x1 7) := (Option.some.inj hv).symm
        subst this
        exact within_ac fn14 cf14 cl14 (by decide) (by decide)
      · have : v = .int .i64 (wi x2 4) := (Option.some.inj hv).symm
        subst this
        exact within_ac fn14 cf14 cl14 (by decide) (by decide)
  · cases h
end Go.Proofs.Ytaokfpjjaejjgaa.Va
