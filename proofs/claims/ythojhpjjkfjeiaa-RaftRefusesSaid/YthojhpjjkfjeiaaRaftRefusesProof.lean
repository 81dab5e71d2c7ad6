/- The given statement of the law 'RaftRefuses', by the contract of its function; the frame is the guide's shell, turned. -/
import Derived.Test.YthojhpjjkfjeiaaRows
import Derived.WalkKit
import Derived.ProofKit
import Derived.OpenShut
import Derived.Test.YthojhpjjkfjeiaaVaM
import Derived.Test.YthojhpjjkfjeiaaRf4
namespace Go.Proofs.Ythojhpjjkfjeiaa.raftRefuses
open Go.ChangeShapes Go.WideShapes Go.ChangeAt Go.RowKit
set_option linter.all false

theorem own : ownKnob Try.prog.godebug = none := by kernel_rfl
theorem laidOut : laidOutB Try.prog = true := by kernel_rfl
theorem plain : Va.plainT Try.prog [3, 22] = true := by kernel_rfl
theorem readable : ∀ t ∈ Try.f5.params.toList, Try.prog.readableRec t = true ∧ t < Try.prog.types.size := by
  rw [Try.params5]
  intro t ht
  simp only [List.mem_cons, List.mem_nil_iff, or_false] at ht
  rcases ht with rfl | rfl | rfl | rfl <;> exact ⟨by kernel_rfl, of_decide_eq_true (by kernel_rfl)⟩

set_option maxRecDepth 100000 in
set_option maxHeartbeats 2000000 in
theorem lifted (os : Os) (started : os.Started) (H : Type) (enc : TypeId × Value → H) :
    ReturnsInHanded {} Try.checked os 5 .any (Rows.raftRefusesSpec.pre6 enc Try.prog Try.f5 Rows.raftRefusesRow.domain false) (Rows.raftRefusesSpec.post enc Try.prog Try.f5 false true false false) := by
  refine returnsInHanded_of_change (C := Try.checked) own started (by kernel_rfl) Try.func5
    (ChangeSpec.witness6 (enc := enc) (C := Try.checked) false ⟨#[], #[.int .i64 0, .slice none 0 0, .int .i64 0, .int .i64 0], []⟩ 8 (by kernel_rfl) (by kernel_rfl) (by kernel_rfl) (by kernel_rfl)) ?_
  intro W base args ds gs before hval0 hW hcnd _
  have hval : ∀ (j : Nat) t v, Try.f5.params[j]? = some t → args[j]? = some v → Value.okWide Try.prog W .any base t v := hval0
  have hW' := hW
  obtain ⟨p, q, hA0, hV, rfl, hfz, hnd⟩ := hW
  have hA : DataW.TrodAll enc Try.prog W 0 (fun _ => true) true Try.f5.params.toList args.toList ds p := hA0
  rw [Try.params5] at hA hval
  obtain ⟨v0, vs0, d0, ds0, p0, q0, hargs, rfl, rfl, h0, r0⟩ := trodAll_cons hA
  obtain ⟨v1, vs1, d1, ds1, p1, q1, rfl, rfl, rfl, h1, r1⟩ := trodAll_cons r0
  obtain ⟨v2, vs2, d2, ds2, p2, q2, rfl, rfl, rfl, h2, r2⟩ := trodAll_cons r1
  obtain ⟨v3, vs3, d3, ds3, p3, q3, rfl, rfl, rfl, h3, r3⟩ := trodAll_cons r2
  obtain ⟨rfl, rfl, rfl⟩ := trodAll_nil r3
  obtain rfl : args = #[v0, v1, v2, v3] := by cases args; simp_all
  obtain ⟨rfl, rfl⟩ := trodVars_none hV
  obtain ⟨n0, c0, w0, e0⟩ := Va.arg_wt plain (t := 3) (by decide) h0
  obtain ⟨x1, rfl, _, _⟩ := Va.wt_int Try.underlying3 w0
  have g0 := Va.arg_one (t := 3) (by kernel_rfl) (hval 0 3 v0 rfl rfl) e0
  obtain ⟨n1, c1, w1, e1⟩ := Va.arg_wt plain (t := 22) (by decide) h1
  obtain ⟨x2, rfl, _⟩ := Va.wt_ints Try.underlying22 Try.underlying3 w1
  have g1 := Va.arg_one (t := 22) (by kernel_rfl) (hval 1 22 v1 rfl rfl) e1
  obtain ⟨n2, c2, w2, e2⟩ := Va.arg_wt plain (t := 3) (by decide) h2
  obtain ⟨x3, rfl, _, _⟩ := Va.wt_int Try.underlying3 w2
  have g2 := Va.arg_one (t := 3) (by kernel_rfl) (hval 2 3 v2 rfl rfl) e2
  obtain ⟨n3, c3, w3, e3⟩ := Va.arg_wt plain (t := 3) (by decide) h3
  obtain ⟨x4, rfl, _, _⟩ := Va.wt_int Try.underlying3 w3
  have g3 := Va.arg_one (t := 3) (by kernel_rfl) (hval 3 3 v3 rfl rfl) e3
  clear hA0 hval0
  simp only [List.append_nil] at hW'
  refine (Va.ac_calls (w := W) (vs := [v0, v1, v2, v3]) (Va.raftRefuses_ac ) (Va.VRL.cons g0 (Va.VRL.cons g1 (Va.VRL.cons g2 (Va.VRL.cons g3 Va.VRL.nil))))).mono fun e W' ⟨he, hb⟩ => ?_
  subst he
  exact ⟨_, rfl, Va.post_of_below (tb := 4) laidOut readable rfl Try.underlying4 rfl hW' (fun ds h => by
    match ds, h with
    | [d0, d1, d2, d3], _ => rfl) hb⟩

theorem over : Rows.raftRefusesRow.holds Try.pinned (OpenSpec.ofChange Rows.raftRefusesSpec) :=
  OpenClaim.holds_of_wide 5 Try.f5 rfl rfl rfl rfl rfl rfl rfl ⟨rfl, rfl, rfl, rfl, rfl⟩ rfl rfl rfl rfl rfl (by kernel_rfl) Try.func5 (by kernel_rfl)
    (of_decide_eq_true (by kernel_rfl)) (by unfold Func.isWrapper; first | (rw [if_pos (by decide +kernel)]; kernel_rfl) | (rw [if_neg (by decide +kernel)]; exact ⟨rfl, rfl⟩))
    (fun os started H enc _ => lifted os started H enc)

theorem proved : Rows.RaftRefusesSaid :=
  over
#print axioms proved
end Go.Proofs.Ythojhpjjkfjeiaa.raftRefuses
