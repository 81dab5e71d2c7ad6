/- What comes in, as schemas and what they are made of. Conditions: none. -/
import Derived.Test.YtaokfpjjaejjgaaSch13
set_option maxRecDepth 100000
set_option maxHeartbeats 4000000
set_option linter.all false
namespace Go.Proofs.Ytaokfpjjaejjgaa.Va
open Go.Proofs
theorem maxLen_le : maxLen ≤ Most := by unfold maxLen Most; decide
def I64 (x : Int) : Prop := -9223372036854775808 ≤ x ∧ x ≤ 9223372036854775807
theorem wt_i {n : Nat} {c : List AV} (h : Wt Try.prog n 3 c) : ∃ x, c = [.int .i64 x] ∧ I64 x := by
  obtain ⟨x, rfl, h1, h2⟩ := wt_int Try.underlying3 h
  exact ⟨x, rfl, h1, h2⟩
theorem wt_s {n : Nat} {c : List AV} (h : Wt Try.prog n 9 c) : ∃ x : Str, c = [.str x] ∧ x.length ≤ Most := by
  obtain ⟨x, rfl, h1⟩ := wt_str Try.underlying9 h
  exact ⟨x, rfl, Nat.le_trans h1 maxLen_le⟩
theorem wt_strs {n : Nat} {c : List AV} (h : Wt Try.prog n 39 c) : ∃ l : List Str, c = [strs l] ∧ l.length ≤ Most := by
  obtain ⟨l, rfl, h1, _⟩ := wt_rows (f := fun x : Str => [.str x]) (good := fun _ => True) Try.underlying39 (fun n c h => by obtain ⟨x, hx, _⟩ := wt_s h; exact ⟨x, hx, trivial⟩) h
  exact ⟨l, by rw [flat_one, strs_eq], Nat.le_trans h1 maxLen_le⟩
theorem wt_is {n : Nat} {c : List AV} (h : Wt Try.prog n 58 c) : ∃ l : List Int, c = [ints l] := by
  obtain ⟨l, rfl, _⟩ := wt_ints Try.underlying58 Try.underlying3 h
  exact ⟨l, rfl⟩
theorem wt_ty {n : Nat} {c : List AV} (h : Wt Try.prog n 29 c) : ∃ t : Ty, c = t.c := by
  obtain ⟨m, rfl, p1, q1, rfl, h1, p2, q2, rfl, h2, p3, q3, rfl, h3, rfl⟩ := wt_struct Try.underlying29 h
  obtain ⟨a, rfl, _⟩ := wt_i h1
  obtain ⟨b, rfl, _⟩ := wt_i h2
  obtain ⟨d, rfl, _⟩ := wt_s h3
  exact ⟨⟨a, b, d⟩, rfl⟩
theorem wt_fl {n : Nat} {c : List AV} (h : Wt Try.prog n 31 c) : ∃ f : Fl, c = f.c ∧ f.tok := by
  obtain ⟨m, rfl, p1, q1, rfl, h1, p2, q2, rfl, h2, rfl⟩ := wt_struct Try.underlying31 h
  obtain ⟨a, rfl, ha⟩ := wt_s h1
  obtain ⟨t, rfl⟩ := wt_ty h2
  exact ⟨⟨a, t⟩, rfl, ha⟩
theorem wt_fls {n : Nat} {c : List AV} (h : Wt Try.prog n 40 c) : ∃ l : List Fl, c = [slc Fl.c l] ∧ l.length ≤ Most ∧ ∀ f ∈ l, f.tok := by
  obtain ⟨l, rfl, h1, h2⟩ := wt_rows (f := Fl.c) (good := Fl.tok) Try.underlying40 (fun n c h => wt_fl h) h
  exact ⟨l, rfl, Nat.le_trans h1 maxLen_le, h2⟩
theorem wt_kd {n : Nat} {c : List AV} (h : Wt Try.prog n 42 c) : ∃ k : Kd, c = k.c ∧ k.ok ∧ k.tok := by
  obtain ⟨m, rfl, p1, q1, rfl, h1, p2, q2, rfl, h2, p3, q3, rfl, h3, rfl⟩ := wt_struct Try.underlying42 h
  obtain ⟨a, rfl, ha⟩ := wt_s h1
  obtain ⟨b, rfl, hb⟩ := wt_strs h2
  obtain ⟨d, rfl, hd, hd'⟩ := wt_fls h3
  exact ⟨⟨a, b, d⟩, rfl, ⟨hb, hd⟩, ha, hd'⟩
theorem wt_ac {n : Nat} {c : List AV} (h : Wt Try.prog n 44 c) : ∃ k : Ac, c = k.c ∧ k.ok ∧ k.tok := by
  obtain ⟨m, rfl, p1, q1, rfl, h1, p2, q2, rfl, h2, p3, q3, rfl, h3, rfl⟩ := wt_struct Try.underlying44 h
  obtain ⟨a, rfl, ha⟩ := wt_s h1
  obtain ⟨b, rfl, hb⟩ := wt_strs h2
  obtain ⟨d, rfl, hd⟩ := wt_strs h3
  exact ⟨⟨a, b, d⟩, rfl, ⟨hb, hd⟩, ha⟩
theorem wt_sc {n : Nat} {c : List AV} (h : Wt Try.prog n 25 c) : ∃ s : Sc, c = s.c ∧ s.ok ∧ s.tok := by
  obtain ⟨m, rfl, p1, q1, rfl, h1, p2, q2, rfl, h2, rfl⟩ := wt_struct Try.underlying25 h
  obtain ⟨l, rfl, a1, a2⟩ := wt_rows (f := Kd.c) (good := fun k => k.ok ∧ k.tok) Try.underlying22 (fun n c h => wt_kd h) h1
  obtain ⟨l', rfl, b1, b2⟩ := wt_rows (f := Ac.c) (good := fun k => k.ok ∧ k.tok) Try.underlying23 (fun n c h => wt_ac h) h2
  exact ⟨⟨l, l'⟩, rfl, ⟨Nat.le_trans a1 maxLen_le, Nat.le_trans b1 maxLen_le, fun k hk => (a2 k hk).1, fun k hk => (b2 k hk).1⟩, fun k hk => (a2 k hk).2, fun k hk => (b2 k hk).2⟩
theorem wt_rfd {n : Nat} {c : List AV} (h : Wt Try.prog n 71 c) : ∃ f : RFd, c = f.c := by
  obtain ⟨m, rfl, p1, q1, rfl, h1, p2, q2, rfl, h2, p3, q3, rfl, h3, p4, q4, rfl, h4, rfl⟩ := wt_struct Try.underlying71 h
  obtain ⟨a, rfl, _⟩ := wt_i h1
  obtain ⟨b, rfl, _⟩ := wt_i h2
  obtain ⟨d, rfl, _⟩ := wt_i h3
  obtain ⟨e, rfl, _⟩ := wt_i h4
  exact ⟨⟨a, b, d, e⟩, rfl⟩
theorem wt_rkd {n : Nat} {c : List AV} (h : Wt Try.prog n 69 c) : ∃ f : RKd, c = f.c := by
  obtain ⟨m, rfl, p1, q1, rfl, h1, p2, q2, rfl, h2, p3, q3, rfl, h3, rfl⟩ := wt_struct Try.underlying69 h
  obtain ⟨a, rfl, _⟩ := wt_i h1
  obtain ⟨b, rfl⟩ := wt_is h2
  obtain ⟨l, rfl, _⟩ := wt_rows (f := RFd.c) (good := fun _ => True) Try.underlying67 (fun n c h => by obtain ⟨x, hx⟩ := wt_rfd h; exact ⟨x, hx, trivial⟩) h3
  exact ⟨⟨a, b, l⟩, rfl⟩
theorem wt_rac {n : Nat} {c : List AV} (h : Wt Try.prog n 73 c) : ∃ f : RAc, c = f.c := by
  obtain ⟨m, rfl, p1, q1, rfl, h1, p2, q2, rfl, h2, p3, q3, rfl, h3, rfl⟩ := wt_struct Try.underlying73 h
  obtain ⟨a, rfl, _⟩ := wt_i h1
  obtain ⟨b, rfl⟩ := wt_is h2
  obtain ⟨d, rfl⟩ := wt_is h3
  exact ⟨⟨a, b, d⟩, rfl⟩
theorem wt_rkds {n : Nat} {c : List AV} (h : Wt Try.prog n 26 c) : ∃ l : List RKd, c = [slc RKd.c l] := by
  obtain ⟨l, rfl, _⟩ := wt_rows (f := RKd.c) (good := fun _ => True) Try.underlying26 (fun n c h => by obtain ⟨x, hx⟩ := wt_rkd h; exact ⟨x, hx, trivial⟩) h
  exact ⟨l, rfl⟩
theorem wt_racs {n : Nat} {c : List AV} (h : Wt Try.prog n 27 c) : ∃ l : List RAc, c = [slc RAc.c l] := by
  obtain ⟨l, rfl, _⟩ := wt_rows (f := RAc.c) (good := fun _ => True) Try.underlying27 (fun n c h => by obtain ⟨x, hx⟩ := wt_rac h; exact ⟨x, hx, trivial⟩) h
  exact ⟨l, rfl⟩
end Go.Proofs.Ytaokfpjjaejjgaa.Va
