/- What comes in, as raw trees. Conditions: none. -/
import Derived.Test.YtcdbpmmomgehfaaTyW
import Derived.Test.YtcdbpmmomgehfaaTy23
set_option maxRecDepth 100000
set_option maxHeartbeats 4000000
set_option linter.all false
namespace Go.Proofs.Ytcdbpmmomgehfaa.Va
open Go.Proofs
theorem wt_tree {t e : TypeId} (ht : ∀ (n : Nat) (c : List AV), Wt Try.prog n t c → ∃ (m : Nat) (a b : Int) (s : List Int) (q : List AV), n = m + 1 ∧ c = [.int .i64 a, .int .i64 b, ints s] ++ q ∧ s.length ≤ Most ∧ Wt Try.prog m e q)
    (he : Try.prog.underlying e = some (.slice t)) : ∀ (n : Nat) (c : List AV), Wt Try.prog n t c → ∃ r : Rw, c = r.c ∧ r.ok := by
  intro n
  induction n using Nat.strongRecOn with
  | ind n ih =>
    intro c h
    obtain ⟨m, a, b, s, q, rfl, rfl, hs, hq⟩ := ht n c h
    obtain ⟨m', cs, rfl, rfl, hl, hcs⟩ := wt_slice he hq
    obtain ⟨l, rfl, hl'⟩ := wt_row (f := Rw.c) (good := Rw.ok) (fun c h => ih m' (by omega) c h) hcs
    refine ⟨.mk a b s l, ?_, ?_⟩
    · rw [Rw.c_eq, slc_eq, rowc]; simp
    · rw [Rw.ok_eq]
      exact ⟨hs, by simpa using Nat.le_trans hl maxLen_le, Rw.oks_all.2 hl'⟩
theorem wt_rw {n : Nat} {c : List AV} (h : Wt Try.prog n 27 c) : ∃ r : Rw, c = r.c ∧ r.ok :=
  wt_tree (t := 27) (e := 25) (fun n c h => by
    obtain ⟨m, rfl, p1, q1, rfl, h1, p2, q2, rfl, h2, p3, q3, rfl, h3, p4, q4, rfl, h4, rfl⟩ := wt_struct Try.underlying27 h
    obtain ⟨a, rfl, _⟩ := wt_i h1
    obtain ⟨b, rfl, _⟩ := wt_i h2
    obtain ⟨s, rfl, hs⟩ := wt_is h3
    exact ⟨m, a, b, s, p4, rfl, by simp, hs, h4⟩) Try.underlying25 n c h
theorem wt_tyd {n : Nat} {c : List AV} (h : Wt Try.prog n 49 c) : ∃ r : Rw, c = r.c ∧ r.ok :=
  wt_tree (t := 49) (e := 47) (fun n c h => by
    obtain ⟨m, rfl, p1, q1, rfl, h1, p2, q2, rfl, h2, p3, q3, rfl, h3, p4, q4, rfl, h4, rfl⟩ := wt_struct Try.underlying49 h
    obtain ⟨a, rfl, _⟩ := wt_i h1
    obtain ⟨b, rfl, _⟩ := wt_i h2
    obtain ⟨s, rfl, hs⟩ := wt_is h3
    exact ⟨m, a, b, s, p4, rfl, by simp, hs, h4⟩) Try.underlying47 n c h
theorem wt_rws {n : Nat} {c : List AV} (h : Wt Try.prog n 25 c) : ∃ l : List Rw, c = [slc Rw.c l] ∧ l.length ≤ Most ∧ ∀ r ∈ l, r.ok := by
  obtain ⟨l, rfl, h1, h2⟩ := wt_rows (f := Rw.c) (good := Rw.ok) Try.underlying25 (fun n c h => wt_rw h) h
  exact ⟨l, rfl, Nat.le_trans h1 maxLen_le, h2⟩
theorem wt_tyds {n : Nat} {c : List AV} (h : Wt Try.prog n 47 c) : ∃ l : List Rw, c = [slc Rw.c l] ∧ l.length ≤ Most ∧ ∀ r ∈ l, r.ok := by
  obtain ⟨l, rfl, h1, h2⟩ := wt_rows (f := Rw.c) (good := Rw.ok) Try.underlying47 (fun n c h => wt_tyd h) h
  exact ⟨l, rfl, Nat.le_trans h1 maxLen_le, h2⟩
end Go.Proofs.Ytcdbpmmomgehfaa.Va
