/- What comes in: a command. Conditions: none. -/
import Derived.Test.YthobpdfchhihnaaPkN
set_option maxRecDepth 100000
set_option maxHeartbeats 4000000
set_option linter.all false
namespace Go.Proofs.Ythobpdfchhihnaa.Va
open Go.Proofs
theorem wt_cmd {n : Nat} {c : List AV} (h : Wt Try.prog n 34 c) : ∃ x : Cm, c = x.c ∧ x.seq < 9223372036854775808 := by
  obtain ⟨m, rfl, p1, q1, rfl, h1, p2, q2, rfl, h2, p3, q3, rfl, h3, p4, q4, rfl, h4, p5, q5, rfl, h5, rfl⟩ := wt_struct Try.underlying34 h
  obtain ⟨a, rfl, _⟩ := wt_int Try.underlying3 h1
  obtain ⟨b, rfl, _, hb⟩ := wt_int Try.underlying3 h2
  obtain ⟨d, rfl, _⟩ := wt_int Try.underlying3 h3
  obtain ⟨e, rfl, _⟩ := wt_str Try.underlying9 h4
  obtain ⟨f, rfl, _⟩ := wt_str Try.underlying9 h5
  have hb' : b ≤ 9223372036854775807 := hb
  exact ⟨⟨a, b, d, e, f⟩, rfl, by show b < 9223372036854775808; omega⟩
end Go.Proofs.Ythobpdfchhihnaa.Va
