/- The given statement of the law 'RaftMembers', by the contract of its function; the frame is the guide's shell, turned. -/
import Derived.Test.YthojhpjjkfjeiaaRows
import Derived.WalkKit
import Derived.ProofKit
import Derived.OpenShut
import Derived.Test.YthojhpjjkfjeiaaVaM
import Derived.Test.YthojhpjjkfjeiaaMF
namespace Go.Proofs.Ythojhpjjkfjeiaa.raftMembers
open Go.ChangeShapes Go.WideShapes Go.ChangeAt Go.RowKit
set_option linter.all false

theorem own : ownKnob Try.prog.godebug = none := by kernel_rfl
theorem laidOut : laidOutB Try.prog = true := by kernel_rfl
theorem plain : Va.plainT Try.prog [3, 22] = true := by kernel_rfl
theorem readable : ∀ t ∈ Try.f4.params.toList, Try.prog.readableRec t = true ∧ t < Try.prog.types.size := by
  rw [Try.params4]
  intro t ht
  simp only [List.mem_cons, List.mem_nil_iff, or_false] at ht
  rcases ht with rfl | rfl <;> exact ⟨by kernel_rfl, of_decide_eq_true (by kernel_rfl)⟩

set_option maxRecDepth 100000 in
set_option maxHeartbeats 2000000 in
theorem lifted (os : Os) (started : os.Started) (H : Type) (enc : TypeId × Value → H) :
    ReturnsInHanded {} Try.checked os 4 .any (Rows.raftMembersSpec.pre6 enc Try.prog Try.f4 Rows.raftMembersRow.domain false) (Rows.raftMembersSpec.post enc Try.prog Try.f4 false true false false) := by
  refine returnsInHanded_of_change (C := Try.checked) own started (by kernel_rfl) Try.func4
    (ChangeSpec.witness6 (enc := enc) (C := Try.checked) false ⟨#[], #[.slice none 0 0, .int .i64 0], []⟩ 8 (by kernel_rfl) (by kernel_rfl) (by kernel_rfl) (by kernel_rfl)) ?_
  intro W base args ds gs before hval0 hW hcnd _
  have hval : ∀ (j : Nat) t v, Try.f4.params[j]? = some t → args[j]? = some v → Value.okWide Try.prog W .any base t v := hval0
  have hW' := hW
  obtain ⟨p, q, hA0, hV, rfl, hfz, hnd⟩ := hW
  have hA : DataW.TrodAll enc Try.prog W 0 (fun _ => true) true Try.f4.params.toList args.toList ds p := hA0
  rw [Try.params4] at hA hval
  obtain ⟨v0, vs0, d0, ds0, p0, q0, hargs, rfl, rfl, h0, r0⟩ := trodAll_cons hA
  obtain ⟨v1, vs1, d1, ds1, p1, q1, rfl, rfl, rfl, h1, r1⟩ := trodAll_cons r0
  obtain ⟨rfl, rfl, rfl⟩ := trodAll_nil r1
  obtain rfl : args = #[v0, v1] := by cases args; simp_all
  obtain ⟨rfl, rfl⟩ := trodVars_none hV
  obtain ⟨n0, c0, w0, e0⟩ := Va.arg_wt plain (t := 22) (by decide) h0
  obtain ⟨x1, rfl, _⟩ := Va.wt_ints Try.underlying22 Try.underlying3 w0
  have g0 := Va.arg_one (t := 22) (by kernel_rfl) (hval 0 22 v0 rfl rfl) e0
  obtain ⟨n1, c1, w1, e1⟩ := Va.arg_wt plain (t := 3) (by decide) h1
  obtain ⟨x2, rfl, _, _⟩ := Va.wt_int Try.underlying3 w1
  have g1 := Va.arg_one (t := 3) (by kernel_rfl) (hval 1 3 v1 rfl rfl) e1
  clear hA0 hval0
  simp only [List.append_nil] at hW'
  refine (Va.ac_calls (w := W) (vs := [v0, v1]) (Va.raftMembers_all ) (Va.VRL.cons g0 (Va.VRL.cons g1 Va.VRL.nil))).mono fun e W' ⟨he, hb⟩ => ?_
  subst he
  exact ⟨_, rfl, Va.post_of_below (tb := 4) laidOut readable rfl Try.underlying4 rfl hW' (fun ds h => by
    match ds, h with
    | [d0, d1], _ => rfl) hb⟩

theorem over : Rows.raftMembersRow.holds Try.pinned (OpenSpec.ofChange Rows.raftMembersSpec) :=
  OpenClaim.holds_of_wide 4 Try.f4 rfl rfl rfl rfl rfl rfl rfl ⟨rfl, rfl, rfl, rfl, rfl⟩ rfl rfl rfl rfl rfl (by kernel_rfl) Try.func4 (by kernel_rfl)
    (of_decide_eq_true (by kernel_rfl)) (by unfold Func.isWrapper; first | (rw [if_pos (by decide +kernel)]; kernel_rfl) | (rw [if_neg (by decide +kernel)]; exact ⟨rfl, rfl⟩))
    (fun os started H enc _ => lifted os started H enc)

theorem proved : Rows.RaftMembersSaid :=
  over
#print axioms proved
end Go.Proofs.Ythojhpjjkfjeiaa.raftMembers
