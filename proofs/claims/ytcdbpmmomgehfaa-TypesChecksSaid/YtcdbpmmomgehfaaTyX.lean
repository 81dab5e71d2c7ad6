/- What comes in, as raw schemas and trees. Conditions: none. -/
import Derived.Test.YtcdbpmmomgehfaaTy2
import Derived.Test.YtcdbpmmomgehfaaTy23
set_option maxRecDepth 100000
set_option maxHeartbeats 4000000
set_option linter.all false
namespace Go.Proofs.Ytcdbpmmomgehfaa.Va
open Go.Proofs
theorem maxLen_le : maxLen ≤ Most := by unfold maxLen Most; decide
def I64 (x : Int) : Prop := -9223372036854775808 ≤ x ∧ x ≤ 9223372036854775807
theorem wt_i {n : Nat} {c : List AV} (h : Wt Try.prog n 3 c) : ∃ x, c = [.int .i64 x] ∧ I64 x := by
  obtain ⟨x, rfl, h1, h2⟩ := wt_int Try.underlying3 h
  exact ⟨x, rfl, h1, h2⟩
theorem wt_s {n : Nat} {c : List AV} (h : Wt Try.prog n 9 c) : ∃ x : Str, c = [.str x] ∧ x.length ≤ Most := by
  obtain ⟨x, rfl, h1⟩ := wt_str Try.underlying9 h
  exact ⟨x, rfl, Nat.le_trans h1 maxLen_le⟩
theorem wt_is {n : Nat} {c : List AV} (h : Wt Try.prog n 24 c) : ∃ l : List Int, c = [ints l] ∧ l.length ≤ Most := by
  obtain ⟨l, rfl, h1, _⟩ := wt_ints Try.underlying24 Try.underlying3 h
  exact ⟨l, rfl, Nat.le_trans h1 maxLen_le⟩
theorem wt_rfd {n : Nat} {c : List AV} (h : Wt Try.prog n 115 c) : ∃ f : RFd, c = f.c := by
  obtain ⟨m, rfl, p1, q1, rfl, h1, p2, q2, rfl, h2, p3, q3, rfl, h3, p4, q4, rfl, h4, rfl⟩ := wt_struct Try.underlying115 h
  obtain ⟨a, rfl, _⟩ := wt_i h1
  obtain ⟨b, rfl, _⟩ := wt_i h2
  obtain ⟨d, rfl, _⟩ := wt_i h3
  obtain ⟨e, rfl, _⟩ := wt_i h4
  exact ⟨⟨a, b, d, e⟩, rfl⟩
theorem wt_rkd {n : Nat} {c : List AV} (h : Wt Try.prog n 113 c) : ∃ f : RKd, c = f.c := by
  obtain ⟨m, rfl, p1, q1, rfl, h1, p2, q2, rfl, h2, p3, q3, rfl, h3, rfl⟩ := wt_struct Try.underlying113 h
  obtain ⟨a, rfl, _⟩ := wt_i h1
  obtain ⟨b, rfl, _⟩ := wt_is h2
  obtain ⟨l, rfl, _⟩ := wt_rows (f := RFd.c) (good := fun _ => True) Try.underlying111 (fun n c h => by obtain ⟨x, hx⟩ := wt_rfd h; exact ⟨x, hx, trivial⟩) h3
  exact ⟨⟨a, b, l⟩, rfl⟩
theorem wt_rac {n : Nat} {c : List AV} (h : Wt Try.prog n 117 c) : ∃ f : RAc, c = f.c := by
  obtain ⟨m, rfl, p1, q1, rfl, h1, p2, q2, rfl, h2, p3, q3, rfl, h3, rfl⟩ := wt_struct Try.underlying117 h
  obtain ⟨a, rfl, _⟩ := wt_i h1
  obtain ⟨b, rfl, _⟩ := wt_is h2
  obtain ⟨d, rfl, _⟩ := wt_is h3
  exact ⟨⟨a, b, d⟩, rfl⟩
theorem wt_rkds {n : Nat} {c : List AV} (h : Wt Try.prog n 22 c) : ∃ l : List RKd, c = [slc RKd.c l] := by
  obtain ⟨l, rfl, _⟩ := wt_rows (f := RKd.c) (good := fun _ => True) Try.underlying22 (fun n c h => by obtain ⟨x, hx⟩ := wt_rkd h; exact ⟨x, hx, trivial⟩) h
  exact ⟨l, rfl⟩
theorem wt_racs {n : Nat} {c : List AV} (h : Wt Try.prog n 23 c) : ∃ l : List RAc, c = [slc RAc.c l] := by
  obtain ⟨l, rfl, _⟩ := wt_rows (f := RAc.c) (good := fun _ => True) Try.underlying23 (fun n c h => by obtain ⟨x, hx⟩ := wt_rac h; exact ⟨x, hx, trivial⟩) h
  exact ⟨l, rfl⟩
end Go.Proofs.Ytcdbpmmomgehfaa.Va
set_option maxRecDepth 100000
set_option maxHeartbeats 4000000
set_option linter.all false
namespace Go.Proofs.Ytcdbpmmomgehfaa.Va
open Go.Proofs
theorem wt_tree {t e : TypeId} (ht : ∀ (n : Nat) (c : List AV), Wt Try.prog n t c → ∃ (m : Nat) (a b : Int) (s : List Int) (q : List AV), n = m + 1 ∧ c = [.int .i64 a, .int .i64 b, ints s] ++ q ∧ s.length ≤ Most ∧ Wt Try.prog m e q)
    (he : Try.prog.underlying e = some (.slice t)) : ∀ (n : Nat) (c : List AV), Wt Try.prog n t c → ∃ r : Rw, c = r.c ∧ r.ok := by
  intro n
  induction n using Nat.strongRecOn with
  | ind n ih =>
    intro c h
    obtain ⟨m, a, b, s, q, rfl, rfl, hs, hq⟩ := ht n c h
    obtain ⟨m', cs, rfl, rfl, hl, hcs⟩ := wt_slice he hq
    obtain ⟨l, rfl, hl'⟩ := wt_row (f := Rw.c) (good := Rw.ok) (fun c h => ih m' (by omega) c h) hcs
    refine ⟨.mk a b s l, ?_, ?_⟩
    · rw [Rw.c_eq, slc_eq, rowc]; simp
    · rw [Rw.ok_eq]
      exact ⟨hs, by simpa using Nat.le_trans hl maxLen_le, Rw.oks_all.2 hl'⟩
theorem wt_rw {n : Nat} {c : List AV} (h : Wt Try.prog n 27 c) : ∃ r : Rw, c = r.c ∧ r.ok :=
  wt_tree (t := 27) (e := 25) (fun n c h => by
    obtain ⟨m, rfl, p1, q1, rfl, h1, p2, q2, rfl, h2, p3, q3, rfl, h3, p4, q4, rfl, h4, rfl⟩ := wt_struct Try.underlying27 h
    obtain ⟨a, rfl, _⟩ := wt_i h1
    obtain ⟨b, rfl, _⟩ := wt_i h2
    obtain ⟨s, rfl, hs⟩ := wt_is h3
    exact ⟨m, a, b, s, p4, rfl, by simp, hs, h4⟩) Try.underlying25 n c h
theorem wt_tyd {n : Nat} {c : List AV} (h : Wt Try.prog n 49 c) : ∃ r : Rw, c = r.c ∧ r.ok :=
  wt_tree (t := 49) (e := 47) (fun n c h => by
    obtain ⟨m, rfl, p1, q1, rfl, h1, p2, q2, rfl, h2, p3, q3, rfl, h3, p4, q4, rfl, h4, rfl⟩ := wt_struct Try.underlying49 h
    obtain ⟨a, rfl, _⟩ := wt_i h1
    obtain ⟨b, rfl, _⟩ := wt_i h2
    obtain ⟨s, rfl, hs⟩ := wt_is h3
    exact ⟨m, a, b, s, p4, rfl, by simp, hs, h4⟩) Try.underlying47 n c h
theorem wt_rws {n : Nat} {c : List AV} (h : Wt Try.prog n 25 c) : ∃ l : List Rw, c = [slc Rw.c l] ∧ l.length ≤ Most ∧ ∀ r ∈ l, r.ok := by
  obtain ⟨l, rfl, h1, h2⟩ := wt_rows (f := Rw.c) (good := Rw.ok) Try.underlying25 (fun n c h => wt_rw h) h
  exact ⟨l, rfl, Nat.le_trans h1 maxLen_le, h2⟩
theorem wt_tyds {n : Nat} {c : List AV} (h : Wt Try.prog n 47 c) : ∃ l : List Rw, c = [slc Rw.c l] ∧ l.length ≤ Most ∧ ∀ r ∈ l, r.ok := by
  obtain ⟨l, rfl, h1, h2⟩ := wt_rows (f := Rw.c) (good := Rw.ok) Try.underlying47 (fun n c h => wt_tyd h) h
  exact ⟨l, rfl, Nat.le_trans h1 maxLen_le, h2⟩
end Go.Proofs.Ytcdbpmmomgehfaa.Va
