/- The given statement of the law 'TypesChecks', by the contract of its function; the frame is the guide's shell, turned. -/
import Derived.Test.YtcdbpmmomgehfaaRows
import Derived.WalkKit
import Derived.ProofKit
import Derived.OpenShut
import Derived.Test.YtcdbpmmomgehfaaVaM
import Derived.Test.YtcdbpmmomgehfaaTyX
import Derived.Test.YtcdbpmmomgehfaaTy44
namespace Go.Proofs.Ytcdbpmmomgehfaa.typesChecks
open Go.ChangeShapes Go.WideShapes Go.ChangeAt Go.RowKit
set_option linter.all false

theorem own : ownKnob Try.prog.godebug = none := by kernel_rfl
theorem laidOut : laidOutB Try.prog = true := by kernel_rfl
theorem plain : Va.plainT Try.prog [3, 22, 23, 24, 25, 27, 47, 49, 111, 113, 115, 117] = true := by kernel_rfl
theorem readable : ∀ t ∈ Try.f9.params.toList, Try.prog.readableRec t = true ∧ t < Try.prog.types.size := by
  rw [Try.params9]
  intro t ht
  simp only [List.mem_cons, List.mem_nil_iff, or_false] at ht
  rcases ht with rfl | rfl | rfl | rfl | rfl | rfl | rfl <;> exact ⟨by kernel_rfl, of_decide_eq_true (by kernel_rfl)⟩

set_option maxRecDepth 100000 in
set_option maxHeartbeats 2000000 in
theorem lifted (os : Os) (started : os.Started) (H : Type) (enc : TypeId × Value → H) :
    ReturnsInHanded {} Try.checked os 9 .any (Rows.typesChecksSpec.pre6 enc Try.prog Try.f9 Rows.typesChecksRow.domain false) (Rows.typesChecksSpec.post enc Try.prog Try.f9 false true false false) := by
  refine returnsInHanded_of_change (C := Try.checked) own started (by kernel_rfl) Try.func9
    (ChangeSpec.witness6 (enc := enc) (C := Try.checked) false ⟨#[], #[.slice none 0 0, .slice none 0 0, .int .i64 0, .slice none 0 0, .slice none 0 0, .slice none 0 0, .slice none 0 0], []⟩ 8 (by kernel_rfl) (by kernel_rfl) (by kernel_rfl) (by kernel_rfl)) ?_
  intro W base args ds gs before hval0 hW hcnd _
  have hval : ∀ (j : Nat) t v, Try.f9.params[j]? = some t → args[j]? = some v → Value.okWide Try.prog W .any base t v := hval0
  have hW' := hW
  obtain ⟨p, q, hA0, hV, rfl, hfz, hnd⟩ := hW
  have hA : DataW.TrodAll enc Try.prog W 0 (fun _ => true) true Try.f9.params.toList args.toList ds p := hA0
  rw [Try.params9] at hA hval
  obtain ⟨v0, vs0, d0, ds0, p0, q0, hargs, rfl, rfl, h0, r0⟩ := trodAll_cons hA
  obtain ⟨v1, vs1, d1, ds1, p1, q1, rfl, rfl, rfl, h1, r1⟩ := trodAll_cons r0
  obtain ⟨v2, vs2, d2, ds2, p2, q2, rfl, rfl, rfl, h2, r2⟩ := trodAll_cons r1
  obtain ⟨v3, vs3, d3, ds3, p3, q3, rfl, rfl, rfl, h3, r3⟩ := trodAll_cons r2
  obtain ⟨v4, vs4, d4, ds4, p4, q4, rfl, rfl, rfl, h4, r4⟩ := trodAll_cons r3
  obtain ⟨v5, vs5, d5, ds5, p5, q5, rfl, rfl, rfl, h5, r5⟩ := trodAll_cons r4
  obtain ⟨v6, vs6, d6, ds6, p6, q6, rfl, rfl, rfl, h6, r6⟩ := trodAll_cons r5
  obtain ⟨rfl, rfl, rfl⟩ := trodAll_nil r6
  obtain rfl : args = #[v0, v1, v2, v3, v4, v5, v6] := by cases args; simp_all
  obtain ⟨rfl, rfl⟩ := trodVars_none hV
  obtain ⟨n0, c0, w0, e0⟩ := Va.arg_wt plain (t := 22) (by decide) h0
  obtain ⟨x1, rfl⟩ := Va.wt_rkds w0
  have g0 := Va.arg_one (t := 22) (by kernel_rfl) (hval 0 22 v0 rfl rfl) e0
  obtain ⟨n1, c1, w1, e1⟩ := Va.arg_wt plain (t := 23) (by decide) h1
  obtain ⟨x2, rfl⟩ := Va.wt_racs w1
  have g1 := Va.arg_one (t := 23) (by kernel_rfl) (hval 1 23 v1 rfl rfl) e1
  obtain ⟨n2, c2, w2, e2⟩ := Va.arg_wt plain (t := 3) (by decide) h2
  obtain ⟨x3, rfl, _⟩ := Va.wt_i w2
  have g2 := Va.arg_one (t := 3) (by kernel_rfl) (hval 2 3 v2 rfl rfl) e2
  obtain ⟨n3, c3, w3, e3⟩ := Va.arg_wt plain (t := 24) (by decide) h3
  obtain ⟨x4, rfl, x4l⟩ := Va.wt_is w3
  have g3 := Va.arg_one (t := 24) (by kernel_rfl) (hval 3 24 v3 rfl rfl) e3
  obtain ⟨n4, c4, w4, e4⟩ := Va.arg_wt plain (t := 24) (by decide) h4
  obtain ⟨x5, rfl, x5l⟩ := Va.wt_is w4
  have g4 := Va.arg_one (t := 24) (by kernel_rfl) (hval 4 24 v4 rfl rfl) e4
  obtain ⟨n5, c5, w5, e5⟩ := Va.arg_wt plain (t := 25) (by decide) h5
  obtain ⟨x6, rfl, x6l, x6o⟩ := Va.wt_rws w5
  have g5 := Va.arg_one (t := 25) (by kernel_rfl) (hval 5 25 v5 rfl rfl) e5
  obtain ⟨n6, c6, w6, e6⟩ := Va.arg_wt plain (t := 47) (by decide) h6
  obtain ⟨x7, rfl, x7l, x7o⟩ := Va.wt_tyds w6
  have g6 := Va.arg_one (t := 47) (by kernel_rfl) (hval 6 47 v6 rfl rfl) e6
  clear hA0 hval0
  simp only [List.append_nil] at hW'
  refine (Va.ac_calls (w := W) (vs := [v0, v1, v2, v3, v4, v5, v6]) (Va.typesChecks_ac x4l x5l x6l x6o x7l x7o) (Va.VRL.cons g0 (Va.VRL.cons g1 (Va.VRL.cons g2 (Va.VRL.cons g3 (Va.VRL.cons g4 (Va.VRL.cons g5 (Va.VRL.cons g6 Va.VRL.nil)))))))).mono fun e W' ⟨he, hb⟩ => ?_
  subst he
  exact ⟨_, rfl, Va.post_of_below (tb := 4) laidOut readable rfl Try.underlying4 rfl hW' (fun ds h => by
    match ds, h with
    | [d0, d1, d2, d3, d4, d5, d6], _ => rfl) hb⟩

theorem over : Rows.typesChecksRow.holds Try.pinned (OpenSpec.ofChange Rows.typesChecksSpec) :=
  OpenClaim.holds_of_wide 9 Try.f9 rfl rfl rfl rfl rfl rfl rfl ⟨rfl, rfl, rfl, rfl, rfl⟩ rfl rfl rfl rfl rfl (by kernel_rfl) Try.func9 (by kernel_rfl)
    (of_decide_eq_true (by kernel_rfl)) (by unfold Func.isWrapper; first | (rw [if_pos (by decide +kernel)]; kernel_rfl) | (rw [if_neg (by decide +kernel)]; exact ⟨rfl, rfl⟩))
    (fun os started H enc _ => lifted os started H enc)

theorem proved : Rows.TypesChecksSaid :=
  over
#print axioms proved
end Go.Proofs.Ytcdbpmmomgehfaa.typesChecks
