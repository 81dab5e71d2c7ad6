/- known, and the small readers of a core. Conditions: none. -/
import Derived.Test.YthojhpjjkfjeiaaRkE
set_option maxRecDepth 100000
set_option maxHeartbeats 4000000
set_option linter.all false
namespace Go.Proofs.Ythojhpjjkfjeiaa.Va
open Go.Proofs
theorem role19_ac {σ : AState} {b : Nat} {cs : List AV} {x : AV} (h : σ.cells b = some cs) (h9 : cs[9]? = some x) : AC Try.prog 29 [.ptr b 0] σ fun v s => s = σ ∧ v = x := by
  refine ac_wp fn29 cf29 cl29 rfl ?_
  simp only [ac29]
  unfold ab29
  simp only [WU, seval, h, h9]
theorem commit19_ac {σ : AState} {b : Nat} {cs : List AV} {x : AV} (h : σ.cells b = some cs) (h8 : cs[8]? = some x) : AC Try.prog 21 [.ptr b 0] σ fun v s => s = σ ∧ v = x := by
  refine ac_wp fn21 cf21 cl21 rfl ?_
  simp only [ac21]
  unfold ab21
  simp only [WU, seval, h, h8]
def stK : Nat → Nat × BlkL
  | 0 => (210, st_NewGroup)
  | 1 => (535, st_quiet0)
  | 2 => (860, st_quiet1)
  | 3 => (1185, st_quiet2)
  | 4 => (1510, st_quiet3)
  | 5 => (1835, st_quiet4)
  | 6 => (2160, st_quiet5)
  | 7 => (2485, st_quiet6)
  | 8 => (2810, st_quiet7)
  | 9 => (3135, st_quiet8)
  | 10 => (7876, st_quiet9)
  | 11 => (8365, st_quiet10)
  | 12 => (8854, st_quiet11)
  | 13 => (11167, st_quiet12)
  | 14 => (11656, st_quiet13)
  | 15 => (12145, st_quiet14)
  | 16 => (14458, st_quiet15)
  | 17 => (14947, st_quiet16)
  | 18 => (15436, st_quiet17)
  | 19 => (17749, st_quiet18)
  | 20 => (18238, st_quiet19)
  | _ => (0, [])
theorem runK (i : Nat) (hi : i < 20) (s : AState) (hs : HasL (stK i).1 (stK i).2 s) : AC Try.prog 31 [.ptr 1 0] s fun v s' => v = .bool true ∧ HasL (stK (i + 1)).1 (stK (i + 1)).2 s' := by
  match i, hi with
  | 0, _ => exact run_quiet0 s hs
  | 1, _ => exact run_quiet1 s hs
  | 2, _ => exact run_quiet2 s hs
  | 3, _ => exact run_quiet3 s hs
  | 4, _ => exact run_quiet4 s hs
  | 5, _ => exact run_quiet5 s hs
  | 6, _ => exact run_quiet6 s hs
  | 7, _ => exact run_quiet7 s hs
  | 8, _ => exact run_quiet8 s hs
  | 9, _ => exact run_quiet9 s hs
  | 10, _ => exact run_quiet10 s hs
  | 11, _ => exact run_quiet11 s hs
  | 12, _ => exact run_quiet12 s hs
  | 13, _ => exact run_quiet13 s hs
  | 14, _ => exact run_quiet14 s hs
  | 15, _ => exact run_quiet15 s hs
  | 16, _ => exact run_quiet16 s hs
  | 17, _ => exact run_quiet17 s hs
  | 18, _ => exact run_quiet18 s hs
  | 19, _ => exact run_quiet19 s hs
  | n + 20, h => exact absurd h (by omega)
theorem rounds19_ac (s : AState) (hs : HasL 210 st_NewGroup s) : AC Try.prog 11 [.ptr 1 0, .int .i64 (20 : Int)] s fun v s' => v = .bool true ∧ HasL 18238 st_quiet19 s' := by
  refine ac_wp fn11 cf11 cl11 rfl ?_
  simp only [ac11]
  unfold ab11
  have h0 : HasL (stK 0).1 (stK 0).2 s := hs
  have h20 : ∀ s, HasL (stK 20).1 (stK 20).2 s → HasL 18238 st_quiet19 s := fun s h => h
  generalize st_quiet19 = E at *
  have hK := runK
  generalize stK = T at *
  simp only [WU, seval]
  refine w_for (fun i ρ s => ρ.rd 5 = .int .i64 i ∧ ρ.rd 0 = .ptr 1 0 ∧ ρ.rd 1 = .int .i64 20 ∧ HasL (T i).1 (T i).2 s) 20 ?_ ?_
  · simp only [WU, seval]
    first | exact ⟨rfl, h0⟩ | exact h0
  rintro i ρ s1 hi ⟨g5, g0, g1, hT⟩
  by_cases hlt : i < 20
  rotate_left
  · have : i = 20 := by omega
    subst this
    simp only [WU, seval, g5, g0, g1]
    exact h20 _ hT
  have hlt' : ((i : Nat) : Int) < 20 := by omega
  have hw : IntKind.i64.wrap ((i : Int) + 1) = ((i + 1 : Nat) : Int) := wrap_succ (by omega)
  simp only [WU, seval, g5, g0, g1, hlt']
  refine (hK i hlt s1 hT).mono ?_
  rintro v s2 ⟨rfl, hT2⟩
  simp only [WU, seval, g5, g0, g1, hw]
  exact ⟨hlt, hT2⟩
theorem known_st0 : AC Try.prog 7 [] st0 fun v _ => v = .bool true := by
  have hNG : ∀ s, HasL 1 [(0, [.int .i64 0])] s → AC Try.prog 9 [.int .i64 (1 : Int), .sl 0 0 1 (some 1) 1] s fun v s' => v = .ptr 1 0 ∧ HasL 210 st_NewGroup s' := run_NewGroup
  have hRo := rounds19_ac
  have hDa := run_data
  have hPr := run_propose
  have hAs := run_ask
  have q1 : ∀ s, HasL 18238 st_quiet19 s → ∃ c1 c2, s.cells 1 = some c1 ∧ c1[1]? = some (.sl 6 0 1 none 1) ∧ s.cells 6 = some [.ptr 2 0] ∧ s.cells 2 = some c2 ∧ c2[9]? = some (.int .i64 2) := fun s h => ⟨_, _, h.cells (.head _), rfl, h.cells (.tail _ (.head _)), h.cells (.tail _ (.tail _ (.head _))), rfl⟩
  have q2 : ∀ s, HasL 22452 st_propose s → ∃ c1 c2, s.cells 1 = some c1 ∧ c1[1]? = some (.sl 6 0 1 none 1) ∧ s.cells 6 = some [.ptr 2 0] ∧ s.cells 2 = some c2 ∧ c2[8]? = some (.int .i64 2) := fun s h => ⟨_, _, h.cells (.head _), rfl, h.cells (.tail _ (.head _)), h.cells (.tail _ (.tail _ (.head _))), rfl⟩
  have q3 : ∀ s, HasL 24995 st_ask s → ∃ c1, s.cells 1 = some c1 ∧ c1[409]? = some (.int .i64 1) := fun s h => ⟨_, h.cells (.head _), rfl⟩
  have h00 : HasL 1 [(0, [.int .i64 0])] (st0.push (.cells [.int .i64 0])) := ⟨rfl, fun x hx => by rw [List.mem_singleton.1 hx]; simp [AState.push, st0]⟩
  generalize st_NewGroup = S0 at *
  generalize st_quiet19 = S1 at *
  generalize st_data = S2 at *
  generalize st_propose = S3 at *
  generalize st_ask = S4 at *
  have hr01 : (0 : Int) ≤ 0 ∧ (0 : Int) < 1 := by decide
  refine ac_wp fn7 cf7 cl7 rfl ?_
  simp only [ac7]
  unfold ab7
  simp only [WU, seval, fillA]
  refine (hNG _ h00).mono ?_
  rintro v s ⟨rfl, hs⟩
  simp only [WU, seval]
  refine (hRo s hs).mono ?_
  rintro v s ⟨rfl, hs⟩
  obtain ⟨c1, c2, e1, e2, e3, e4, e5⟩ := q1 s hs
  simp only [WU, seval, e1, e2, e3, hr01]
  refine (role19_ac e4 e5).use ?_
  simp only [WU, seval]
  refine (hDa s hs).mono ?_
  rintro v s ⟨rfl, hs⟩
  simp only [WU, seval]
  refine (hPr s hs).mono ?_
  rintro v s ⟨rfl, hs⟩
  obtain ⟨c1, c2, e1, e2, e3, e4, e5⟩ := q2 s hs
  simp only [WU, seval, e1, e2, e3, hr01]
  refine (commit19_ac e4 e5).use ?_
  simp only [WU, seval]
  refine (hAs s hs).mono ?_
  rintro v s ⟨rfl, hs⟩
  obtain ⟨c1, e1, e2⟩ := q3 s hs
  simp only [WU, seval, e1, e2]
theorem known19_ac {σ : AState} : AC Try.prog 7 [] σ fun v s => s = σ ∧ v = .bool true :=
  (AC.plain (a := .bool true) rfl (fun x hx => by cases hx) known_st0).mono fun v s h => ⟨h.2, h.1⟩
end Go.Proofs.Ythojhpjjkfjeiaa.Va
