/- A closed run in pieces: what is left of memory between them is written out. Conditions: none. -/
import Derived.Test.YthojhpjjkfjeiaaTab
import Derived.Test.YthojhpjjkfjeiaaVaM
set_option maxRecDepth 100000
set_option maxHeartbeats 4000000
set_option linter.all false
namespace Go.Proofs.Ythojhpjjkfjeiaa.Va
open Go.Proofs
theorem AC.weaken {P : Program} {f : FuncId} {args : List AV} {σ σ' : AState} {Q : AV → AState → Prop} (h : AC P f args σ' Q) (hn : σ'.n = σ.n) (hh : ∀ b o, σ'.h.get b = some o → σ.h.get b = some o) : AC P f args σ Q :=
  ⟨h.1, fun K w vs hr hv => h.2 K w vs (hr.weaken hn hh) hv⟩
abbrev BlkL := List (Nat × List AV)
def treeL : BlkL → Tr ABlk
  | [] => .nil
  | x :: r => (treeL r).set x.1 (some (.cells x.2))
def mkS (n : Nat) (L : BlkL) : AState := ⟨n, treeL L⟩
theorem treeL_get : ∀ (L : BlkL) (b : Nat) (o : ABlk), (treeL L).get b = some o → ∃ x ∈ L, x.1 = b ∧ o = .cells x.2 := by
  intro L
  induction L with
  | nil => intro b o h; cases h
  | cons x r ih =>
    intro b o h
    rw [treeL, Tr.get_set] at h
    by_cases hb : b = x.1
    · rw [if_pos hb] at h
      exact ⟨x, by simp, hb.symm, (Option.some.inj h).symm⟩
    · rw [if_neg hb] at h
      obtain ⟨y, hy, h1, h2⟩ := ih b o h
      exact ⟨y, by simp [hy], h1, h2⟩
/- A memory that holds (at least) these blocks. -/
def HasL (n : Nat) (L : BlkL) (s : AState) : Prop := s.n = n ∧ ∀ x ∈ L, s.h.get x.1 = some (.cells x.2)
def hasB (s : AState) (x : Nat × List AV) : Bool := match s.h.get x.1 with
  | some (.cells cs) => AV.beqL cs x.2
  | _ => false
def holdsL (r : Option (AV × AState)) (v : AV) (n : Nat) (L : BlkL) : Bool := match r with
  | some (v', s) => AV.beq v' v && (Nat.beq s.n n && L.all (hasB s))
  | none => false
theorem piece {f : FuncId} {args : List AV} {v : AV} {n n' : Nat} {L L' : BlkL} (h : holdsL (runF tab 3000 f args (mkS n L)) v n' L' = true) (s : AState) (hs : HasL n L s) : AC Try.prog f args s fun v' s' => v' = v ∧ HasL n' L' s' := by
  unfold holdsL at h
  split at h
  · rename_i v' s' e
    simp only [Bool.and_eq_true, List.all_eq_true] at h
    obtain ⟨h1, h2, h3⟩ := h
    refine AC.weaken (σ' := mkS n L) (((runs 3000 _ _ _ _ _ e)).mono ?_) hs.1.symm ?_
    · rintro v1 s1 ⟨rfl, rfl⟩
      refine ⟨AV.beq_eq _ _ h1, Nat.eq_of_beq_eq_true h2, fun x hx => ?_⟩
      have := h3 x hx
      unfold hasB at this
      split at this
      · rename_i cs hc
        rw [hc, AV.beqL_eq _ _ this]
      · cases this
    · intro b o hb
      obtain ⟨x, hx, h1, h2⟩ := treeL_get L b o hb
      rw [← h1, h2]
      exact hs.2 x hx
  · cases h
theorem HasL.cells {n : Nat} {L : BlkL} {s : AState} (h : HasL n L s) {b : Nat} {cs : List AV} (hm : (b, cs) ∈ L) : s.cells b = some cs := cells_of (h.2 (b, cs) hm)
end Go.Proofs.Ythojhpjjkfjeiaa.Va
