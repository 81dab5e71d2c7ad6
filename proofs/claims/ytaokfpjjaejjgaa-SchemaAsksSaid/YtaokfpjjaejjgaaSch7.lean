/- What the reference tells of a schema. Conditions: none. -/
import Derived.Test.YtaokfpjjaejjgaaSch6
set_option maxRecDepth 100000
set_option maxHeartbeats 4000000
set_option linter.all false
namespace Go.Proofs.Ytaokfpjjaejjgaa.Va
open Go.Proofs

theorem kindRef_ac {s : Sc} {k : Kd} {σ : AState} (hs : s.ok) (ht : k.tok) : AC Try.prog 34 [.agg s.c, .agg k.c] σ fun v s' => s' = σ ∧ v = .int .i64 (kindRS s.kinds k) :=
  AC.told (.cons (.agg (Sc.fxd s)) (.cons (.agg (Kd.fxd k)) .nil)) rfl (kindRef_st0 hs ht)

def kindsR (ks : List Kd) : Option Str → List Kd → Int
  | _, [] => 0
  | last, k :: r =>
    if identS k.name = false ∨ resS k.name = true then 15
    else if leqO k.name last = true then 7
    else if kindRS ks k ≠ 0 then kindRS ks k
    else kindsR ks (some k.name) r
def actRS (ks : List Kd) (a : Ac) (last : Option Str) : Int :=
  if identS a.name = false then 15
  else if leqO a.name last = true then 7
  else if a.prins.length = 0 ∨ a.ress.length = 0 then 13
  else if 6 < a.prins.length ∨ 6 < a.ress.length then 4
  else if a.prins.all (hasS ks) = false ∨ a.ress.all (hasS ks) = false then 2
  else 0
def actsR (ks : List Kd) : Option Str → List Ac → Int
  | _, [] => 0
  | last, a :: r => if actRS ks a last ≠ 0 then actRS ks a last else actsR ks (some a.name) r
def checkRS (s : Sc) : Int :=
  if 6 < s.kinds.length ∨ 6 < s.acts.length then 4
  else if kindsR s.kinds none s.kinds ≠ 0 then kindsR s.kinds none s.kinds
  else actsR s.kinds none s.acts

/- ------------------------------------------------ both tell the same -/
theorem leq_nil {n : Str} (h : identS n = true) : (Op.bytesLess n [] || n == []) = false := by
  cases n with
  | nil => simp [identS, identGo] at h
  | cons a r => rfl
theorem fields_same (ks : List Kd) : ∀ (fs : List Fl) (p : Str), fieldsS ks p fs = fieldsR ks (some p) fs := by
  intro fs
  induction fs with
  | nil => intro p; rfl
  | cons f r ih => intro p; rw [fieldsS, fieldsR, ih]; rfl
theorem fields_same0 (ks : List Kd) (fs : List Fl) : fieldsS ks [] fs = fieldsR ks none fs := by
  cases fs with
  | nil => rfl
  | cons f r =>
    rw [fieldsS, fieldsR, fields_same]
    cases hi : identS f.name with
    | false => rfl
    | true => rw [leq_nil hi]; rfl
theorem kind_same (ks : List Kd) (k : Kd) (last : Str) : kindS ks k last = if identS k.name = false ∨ resS k.name = true then 15 else if (Op.bytesLess k.name last || k.name == last) = true then 7 else kindRS ks k := by
  simp only [kindS, kindRS, fields_same0]
theorem fieldsR_ne (ks : List Kd) : True := trivial
theorem kinds_same (ks : List Kd) : ∀ (l : List Kd) (p : Str), kindsS ks p l = kindsR ks (some p) l := by
  intro l
  induction l with
  | nil => intro p; rfl
  | cons k r ih =>
    intro p
    rw [kindsS, kindsR, kind_same, ih]
    by_cases h1 : identS k.name = false ∨ resS k.name = true
    · rw [if_pos h1, if_pos h1, if_pos (by decide)]
    · rw [if_neg h1, if_neg h1]
      have e : leqO k.name (some p) = (Op.bytesLess k.name p || k.name == p) := rfl
      rw [e]
      cases h2 : (Op.bytesLess k.name p || k.name == p) with
      | true => rfl
      | false => rfl
theorem kinds_same0 (ks : List Kd) (l : List Kd) : kindsS ks [] l = kindsR ks none l := by
  cases l with
  | nil => rfl
  | cons k r =>
    rw [kindsS, kindsR, kind_same, kinds_same]
    by_cases h1 : identS k.name = false ∨ resS k.name = true
    · rw [if_pos h1, if_pos h1, if_pos (by decide)]
    · have hi : identS k.name = true := by
        cases h : identS k.name with
        | true => rfl
        | false => exact absurd (.inl h) h1
      rw [if_neg h1, if_neg h1, leq_nil hi]; rfl
theorem act_same (ks : List Kd) (a : Ac) (p : Str) : actS ks a p = actRS ks a (some p) := by
  simp only [actS, actRS, leqO]
  by_cases hp : a.prins.all (hasS ks) = true <;> by_cases hr : a.ress.all (hasS ks) = true <;> simp [List.all_append, hp, hr]
theorem acts_same (ks : List Kd) : ∀ (l : List Ac) (p : Str), actsS ks p l = actsR ks (some p) l := by
  intro l
  induction l with
  | nil => intro p; rfl
  | cons a r ih => intro p; simp only [actsS, actsR, act_same, ih]
theorem act_same0 (ks : List Kd) (a : Ac) : actS ks a [] = actRS ks a none := by
  have h := act_same ks a []
  rw [h]
  have e : leqO a.name (some []) = (Op.bytesLess a.name [] || a.name == []) := rfl
  rw [actRS, actRS, e]
  cases hi : identS a.name with
  | false => rfl
  | true => rw [leq_nil hi]; rfl
theorem acts_same0 (ks : List Kd) (l : List Ac) : actsS ks [] l = actsR ks none l := by
  cases l with
  | nil => rfl
  | cons a r => simp only [actsS, actsR, act_same0, acts_same]
theorem check_same (s : Sc) : checkS s = checkRS s := by
  simp only [checkS, checkRS, kinds_same0, acts_same0]

/- ------------------------------------------------ the reference's walk -/
def badN (n : Str) : Bool := !identS n || resS n
theorem checkR_st0 {s : Sc} (hs : s.ok) (ht : s.tok) : AC Try.prog 13 [.agg s.c] st0 fun v _ => v = .int .i64 (checkRS s) := by
  refine ac_wp fn13 cf13 cl13 rfl ?_
  simp only [ac13]
  unfold ab13
  simp only [wpC_seq, wpC_skip, wpCK_normal]
  refine w_mid (fun ρ s' => ρ.rd 1 = .ptr 0 0 ∧ s'.cells 0 = some [slc Kd.c s.kinds, slc Ac.c s.acts] ∧ 1 ≤ s'.n) ?_ ?_
  · simp only [WS, stepW, evalA, reduceIte, Nat.reduceEqDiff, reduceCtorEq, evalBin, Option.getD, Int.reduceToNat, Nat.reduceMul, Nat.reduceAdd, allocA, rowOf, fillA, partsV, setl, Nat.reduceLeDiff, AV.len, evalUn, Int.reduceLT, Int.reduceLE, Int.reduceEq, Int.reduceNe, strs_eq, Sc.c_eq]
  rintro ρ s' ⟨h1, c0, hn⟩
  have sg := scSeg s
  rw [wpC_seq]
  refine w_mid (fun ρ s' => ρ.rd 1 = .ptr 0 0 ∧ s'.cells 0 = some [slc Kd.c s.kinds, slc Ac.c s.acts] ∧ 1 ≤ s'.n ∧ ¬ 6 < s.kinds.length ∧ ¬ 6 < s.acts.length) ?_ ?_
  · simp only [WS, stepW, evalA, reduceIte, Nat.reduceEqDiff, reduceCtorEq, evalBin, Option.getD, Int.reduceToNat, Nat.reduceMul, Nat.reduceAdd, allocA, rowOf, fillA, partsV, setl, Nat.reduceLeDiff, AV.len, evalUn, Int.reduceLT, Int.reduceLE, Int.reduceEq, Int.reduceNe, strs_eq, h1, c0]
    by_cases k6 : (6 : Int) < s.kinds.length
    · simp only [WS, stepW, evalA, reduceIte, Nat.reduceEqDiff, reduceCtorEq, evalBin, Option.getD, Int.reduceToNat, Nat.reduceMul, Nat.reduceAdd, allocA, rowOf, fillA, partsV, setl, Nat.reduceLeDiff, AV.len, evalUn, Int.reduceLT, Int.reduceLE, Int.reduceEq, Int.reduceNe, strs_eq, k6]
      rw [checkRS, if_pos (by omega)]
    · simp only [WS, stepW, evalA, reduceIte, Nat.reduceEqDiff, reduceCtorEq, evalBin, Option.getD, Int.reduceToNat, Nat.reduceMul, Nat.reduceAdd, allocA, rowOf, fillA, partsV, setl, Nat.reduceLeDiff, AV.len, evalUn, Int.reduceLT, Int.reduceLE, Int.reduceEq, Int.reduceNe, strs_eq, k6, h1, c0]
      by_cases a6 : (6 : Int) < s.acts.length
      · simp only [WS, stepW, evalA, reduceIte, Nat.reduceEqDiff, reduceCtorEq, evalBin, Option.getD, Int.reduceToNat, Nat.reduceMul, Nat.reduceAdd, allocA, rowOf, fillA, partsV, setl, Nat.reduceLeDiff, AV.len, evalUn, Int.reduceLT, Int.reduceLE, Int.reduceEq, Int.reduceNe, strs_eq, a6]
        rw [checkRS, if_pos (by omega)]
      · simp only [WS, stepW, evalA, reduceIte, Nat.reduceEqDiff, reduceCtorEq, evalBin, Option.getD, Int.reduceToNat, Nat.reduceMul, Nat.reduceAdd, allocA, rowOf, fillA, partsV, setl, Nat.reduceLeDiff, AV.len, evalUn, Int.reduceLT, Int.reduceLE, Int.reduceEq, Int.reduceNe, strs_eq, a6, h1, c0]
        omega
  rintro ρ s' ⟨h1, c0, hn, k6, a6⟩
  rw [wpC_seq]
  refine w_mid (fun ρ s' => ρ.rd 1 = .ptr 0 0 ∧ s'.cells 0 = some [slc Kd.c s.kinds, slc Ac.c s.acts] ∧ 1 ≤ s'.n ∧ kindsR s.kinds none s.kinds = 0) ?_ ?_
  · simp only [WS, stepW, evalA, reduceIte, Nat.reduceEqDiff, reduceCtorEq, evalBin, Option.getD, Int.reduceToNat, Nat.reduceMul, Nat.reduceAdd, allocA, rowOf, fillA, partsV, setl, Nat.reduceLeDiff, AV.len, evalUn, Int.reduceLT, Int.reduceLE, Int.reduceEq, Int.reduceNe, strs_eq, h1, c0]
    refine w_for (fun i ρ s' => ρ.rd 3 = .int .i64 i ∧ ρ.rd 1 = .ptr 0 0 ∧ s'.cells 0 = some [slc Kd.c s.kinds, slc Ac.c s.acts] ∧ 1 ≤ s'.n ∧ kindsR s.kinds none s.kinds = kindsR s.kinds (prevO (s.kinds.map Kd.name) i) (s.kinds.drop i)) s.kinds.length ?_ ?_
    · simp only [WS, stepW, evalA, reduceIte, Nat.reduceEqDiff, reduceCtorEq, evalBin, Option.getD, Int.reduceToNat, Nat.reduceMul, Nat.reduceAdd, allocA, rowOf, fillA, partsV, setl, Nat.reduceLeDiff, AV.len, evalUn, Int.reduceLT, Int.reduceLE, Int.reduceEq, Int.reduceNe, strs_eq, h1, c0]
      exact ⟨rfl, hn, rfl⟩
    · rintro i ρ s' hi ⟨h3, h1, c0, hn, hspec⟩
      simp only [WS, stepW, evalA, reduceIte, Nat.reduceEqDiff, reduceCtorEq, evalBin, Option.getD, Int.reduceToNat, Nat.reduceMul, Nat.reduceAdd, allocA, rowOf, fillA, partsV, setl, Nat.reduceLeDiff, AV.len, evalUn, Int.reduceLT, Int.reduceLE, Int.reduceEq, Int.reduceNe, strs_eq, h3, h1, c0]
      refine Br_dec (fun hlt' => ?_) (fun hge => ?_)
      · have hlt : i < s.kinds.length := by omega
        have hr := lt_idx hlt
        have A := kdAt hlt
        have hm := List.getElem_mem hlt
        have hw : IntKind.i64.wrap ((i : Int) + 1) = ((i + 1 : Nat) : Int) := wrap_succ (by omega)
        have hfd : ∀ last, kindsR s.kinds last (s.kinds.drop i) = if identS s.kinds[i].name = false ∨ resS s.kinds[i].name = true then 15 else if leqO s.kinds[i].name last = true then 7 else if kindRS s.kinds s.kinds[i] ≠ 0 then kindRS s.kinds s.kinds[i] else kindsR s.kinds (some s.kinds[i].name) (s.kinds.drop (i + 1)) := by
          intro last
          rw [List.drop_eq_getElem_cons hlt, kindsR]
        have hex : kindsR s.kinds none s.kinds ≠ 0 → checkRS s = kindsR s.kinds none s.kinds := fun h => by rw [checkRS, if_neg (by omega), if_pos h]
        rw [wpC_skip, wpCK_normal, wpC_seq, wpC_block, wpC_seq]
        refine w_mid (fun ρ s1 => s1 = s' ∧ ρ.rd 3 = .int .i64 i ∧ ρ.rd 1 = .ptr 0 0 ∧ ρ.rd 4 = .str s.kinds[i].name) ?_ ?_
        · simp only [WS, stepW, evalA, reduceIte, Nat.reduceEqDiff, reduceCtorEq, evalBin, Option.getD, Int.reduceToNat, Nat.reduceMul, Nat.reduceAdd, allocA, rowOf, fillA, partsV, setl, Nat.reduceLeDiff, AV.len, evalUn, Int.reduceLT, Int.reduceLE, Int.reduceEq, Int.reduceNe, strs_eq, h3, h1, c0, hr, A.g0]
        rintro ρ s1 ⟨rfl, h3, h1, h4⟩
        rw [wpC_block, wpC_seq]
        refine w_mid (fun ρ s2 => s2 = s1 ∧ ρ.rd 3 = .int .i64 i ∧ ρ.rd 1 = .ptr 0 0 ∧ ρ.rd 4 = .str s.kinds[i].name ∧ ρ.rd 30 = .bool (badN s.kinds[i].name)) ?_ ?_
        · simp only [WS, stepW, evalA, reduceIte, Nat.reduceEqDiff, reduceCtorEq, evalBin, Option.getD, Int.reduceToNat, Nat.reduceMul, Nat.reduceAdd, allocA, rowOf, fillA, partsV, setl, Nat.reduceLeDiff, AV.len, evalUn, Int.reduceLT, Int.reduceLE, Int.reduceEq, Int.reduceNe, strs_eq, h4]
          refine (identR_ac (ht.k _ hm).1).use ?_
          cases hI : identS s.kinds[i].name with
          | false => simp only [WS, stepW, evalA, reduceIte, Nat.reduceEqDiff, reduceCtorEq, evalBin, Option.getD, Int.reduceToNat, Nat.reduceMul, Nat.reduceAdd, allocA, rowOf, fillA, partsV, setl, Nat.reduceLeDiff, AV.len, evalUn, Int.reduceLT, Int.reduceLE, Int.reduceEq, Int.reduceNe, strs_eq, hI, h3, h1, h4]; simp [badN, hI]
          | true =>
            simp only [WS, stepW, evalA, reduceIte, Nat.reduceEqDiff, reduceCtorEq, evalBin, Option.getD, Int.reduceToNat, Nat.reduceMul, Nat.reduceAdd, allocA, rowOf, fillA, partsV, setl, Nat.reduceLeDiff, AV.len, evalUn, Int.reduceLT, Int.reduceLE, Int.reduceEq, Int.reduceNe, strs_eq, hI, h3, h1, h4]
            repeat' (first
              | (refine Br_dec (fun _ => ?_) (fun _ => ?_) <;> (try simp only [WS, stepW, evalA, reduceIte, Nat.reduceEqDiff, reduceCtorEq, evalBin, Option.getD, Int.reduceToNat, Nat.reduceMul, Nat.reduceAdd, allocA, rowOf, fillA, partsV, setl, Nat.reduceLeDiff, AV.len, evalUn, Int.reduceLT, Int.reduceLE, Int.reduceEq, Int.reduceNe, strs_eq, *, h3, h1, h4, ret_bool]))
              | (refine Br_intro (fun _ => ?_) (fun _ => ?_) <;> (try simp only [WS, stepW, evalA, reduceIte, Nat.reduceEqDiff, reduceCtorEq, evalBin, Option.getD, Int.reduceToNat, Nat.reduceMul, Nat.reduceAdd, allocA, rowOf, fillA, partsV, setl, Nat.reduceLeDiff, AV.len, evalUn, Int.reduceLT, Int.reduceLE, Int.reduceEq, Int.reduceNe, strs_eq, *, h3, h1, h4, ret_bool])))
            all_goals (simp_all [badN, resS])
        rintro ρ s2 ⟨rfl, h3, h1, h4, h30⟩
        cases hb : badN s.kinds[i].name with
        | true =>
          have h15 : kindsR s.kinds none s.kinds = 15 := by rw [hspec, hfd, if_pos (by simpa [badN] using hb)]
          simp only [WS, stepW, evalA, reduceIte, Nat.reduceEqDiff, reduceCtorEq, evalBin, Option.getD, Int.reduceToNat, Nat.reduceMul, Nat.reduceAdd, allocA, rowOf, fillA, partsV, setl, Nat.reduceLeDiff, AV.len, evalUn, Int.reduceLT, Int.reduceLE, Int.reduceEq, Int.reduceNe, strs_eq, h30, hb]
          rw [hex (by rw [h15]; decide), h15]
        | false =>
          have hb' : ¬ (identS s.kinds[i].name = false ∨ resS s.kinds[i].name = true) := by simpa [badN] using hb
          simp only [wpC_cond, ev_tmp, h30, hb, onB_bool, Br_false]
          rw [wpC_seq]
          refine w_mid (fun ρ s3 => s3 = s2 ∧ ρ.rd 3 = .int .i64 i ∧ ρ.rd 1 = .ptr 0 0 ∧ ρ.rd 54 = .bool (leqO s.kinds[i].name (prevO (s.kinds.map Kd.name) i))) ?_ ?_
          · by_cases hi0 : i = 0
            · have hz : ¬ (0 : Int) < (i : Int) := by omega
              simp only [WS, stepW, evalA, reduceIte, Nat.reduceEqDiff, reduceCtorEq, evalBin, Option.getD, Int.reduceToNat, Nat.reduceMul, Nat.reduceAdd, allocA, rowOf, fillA, partsV, setl, Nat.reduceLeDiff, AV.len, evalUn, Int.reduceLT, Int.reduceLE, Int.reduceEq, Int.reduceNe, strs_eq, hz, h3, h1]
              subst hi0
              rfl
            · have hp : (0 : Int) < (i : Int) := by omega
              obtain ⟨j, rfl⟩ : ∃ j, i = j + 1 := ⟨i - 1, by omega⟩
              have hj : j < s.kinds.length := by omega
              have B := kdAt hj
              have hrj := lt_idx hj
              have hwj : IntKind.i64.wrap (((j + 1 : Nat) : Int) - 1) = (j : Nat) := by rw [wrap64 (by omega) (by omega)]; omega
              have hpv : prevO (s.kinds.map Kd.name) (j + 1) = some s.kinds[j].name := by simp [prevO, hj]
              simp only [WS, stepW, evalA, reduceIte, Nat.reduceEqDiff, reduceCtorEq, evalBin, Option.getD, Int.reduceToNat, Nat.reduceMul, Nat.reduceAdd, allocA, rowOf, fillA, partsV, setl, Nat.reduceLeDiff, AV.len, evalUn, Int.reduceLT, Int.reduceLE, Int.reduceEq, Int.reduceNe, strs_eq, hp, h3, h1, h4, c0, hrj, hwj, B.g0]
              rw [hpv]; rfl
          rintro ρ s3 ⟨rfl, h3, h1, h54⟩
          cases hl : leqO s.kinds[i].name (prevO (s.kinds.map Kd.name) i) with
          | true =>
            have h7 : kindsR s.kinds none s.kinds = 7 := by rw [hspec, hfd, if_neg hb', if_pos hl]
            simp only [WS, stepW, evalA, reduceIte, Nat.reduceEqDiff, reduceCtorEq, evalBin, Option.getD, Int.reduceToNat, Nat.reduceMul, Nat.reduceAdd, allocA, rowOf, fillA, partsV, setl, Nat.reduceLeDiff, AV.len, evalUn, Int.reduceLT, Int.reduceLE, Int.reduceEq, Int.reduceNe, strs_eq, h54, hl]
            rw [hex (by rw [h7]; decide), h7]
          | false =>
            simp only [WS, stepW, evalA, reduceIte, Nat.reduceEqDiff, reduceCtorEq, evalBin, Option.getD, Int.reduceToNat, Nat.reduceMul, Nat.reduceAdd, allocA, rowOf, fillA, partsV, setl, Nat.reduceLeDiff, AV.len, evalUn, Int.reduceLT, Int.reduceLE, Int.reduceEq, Int.reduceNe, strs_eq, h54, hl]
            refine w_dreg follow [] rfl ?_
            have cA : (addSlots s3.n 9 s3 []).cells 0 = some [slc Kd.c s.kinds, slc Ac.c s.acts] := c0
            have hn2 : 1 ≤ (addSlots s3.n 9 s3 []).n := by simp only [addSlots]; omega
            generalize addSlots s3.n 9 s3 [] = s4 at *
            have hT := kindRef_ac (s := s) (k := s.kinds[i]) (σ := s4) hs (ht.k _ hm)
            rw [Sc.c_eq, slc_eq, slc_eq, Kd.c_eq, slc_eq, strs_eq] at hT
            simp only [WS, stepW, evalA, reduceIte, Nat.reduceEqDiff, reduceCtorEq, evalBin, Option.getD, Int.reduceToNat, Nat.reduceMul, Nat.reduceAdd, allocA, rowOf, fillA, partsV, setl, Nat.reduceLeDiff, AV.len, evalUn, Int.reduceLT, Int.reduceLE, Int.reduceEq, Int.reduceNe, strs_eq, DS, isSl, AOp.pure, AOp.reader, allocD, AOp.quiet, isSlot, Nat.reduceBEq, h3, h1, cA, sg, hr, A.fit, A.all]
            refine hT.useD ?_
            simp only [WS, stepW, evalA, reduceIte, Nat.reduceEqDiff, reduceCtorEq, evalBin, Option.getD, Int.reduceToNat, Nat.reduceMul, Nat.reduceAdd, allocA, rowOf, fillA, partsV, setl, Nat.reduceLeDiff, AV.len, evalUn, Int.reduceLT, Int.reduceLE, Int.reduceEq, Int.reduceNe, strs_eq, DS, isSl, AOp.pure, AOp.reader, allocD, AOp.quiet, isSlot, Nat.reduceBEq, h3, h1]
            refine ⟨⟨?_, ?_⟩, ?_⟩
            · intro l hl c hc hf
              simp only [List.mem_cons, List.mem_nil_iff, List.not_mem_nil, or_false] at hl hc
              rcases hl with rfl | rfl | rfl <;> rcases hc with rfl | rfl <;> dsimp only at hf ⊢ <;> first
                | (exact absurd hf (by decide +kernel))
                | (simp only [WS, stepW, evalA, reduceIte, Nat.reduceEqDiff, reduceCtorEq, evalBin, Option.getD, Int.reduceToNat, Nat.reduceMul, Nat.reduceAdd, allocA, rowOf, fillA, partsV, setl, Nat.reduceLeDiff, AV.len, evalUn, Int.reduceLT, Int.reduceLE, Int.reduceEq, Int.reduceNe, strs_eq, h3, h1, cA, sg, hr, A.fit, A.all]; done)
            · intro sl hsl; simp at hsl
            · refine Br_dec (fun h0 => ?_) (fun h0 => ?_)
              · simp only [WS, stepW, evalA, reduceIte, Nat.reduceEqDiff, reduceCtorEq, evalBin, Option.getD, Int.reduceToNat, Nat.reduceMul, Nat.reduceAdd, allocA, rowOf, fillA, partsV, setl, Nat.reduceLeDiff, AV.len, evalUn, Int.reduceLT, Int.reduceLE, Int.reduceEq, Int.reduceNe, strs_eq, h0]
                refine w_dreg follow [] rfl ?_
                have cA' : (addSlots s4.n 8 s4 []).cells 0 = some [slc Kd.c s.kinds, slc Ac.c s.acts] := cA
                generalize addSlots s4.n 8 s4 [] = s5 at *
                have hT' := kindRef_ac (s := s) (k := s.kinds[i]) (σ := s5) hs (ht.k _ hm)
                rw [Sc.c_eq, slc_eq, slc_eq, Kd.c_eq, slc_eq, strs_eq] at hT'
                simp only [WS, stepW, evalA, reduceIte, Nat.reduceEqDiff, reduceCtorEq, evalBin, Option.getD, Int.reduceToNat, Nat.reduceMul, Nat.reduceAdd, allocA, rowOf, fillA, partsV, setl, Nat.reduceLeDiff, AV.len, evalUn, Int.reduceLT, Int.reduceLE, Int.reduceEq, Int.reduceNe, strs_eq, DS, isSl, AOp.pure, AOp.reader, allocD, AOp.quiet, isSlot, Nat.reduceBEq, h3, h1, cA', sg, hr, A.fit, A.all]
                refine hT'.useD ?_
                simp only [WS, stepW, evalA, reduceIte, Nat.reduceEqDiff, reduceCtorEq, evalBin, Option.getD, Int.reduceToNat, Nat.reduceMul, Nat.reduceAdd, allocA, rowOf, fillA, partsV, setl, Nat.reduceLeDiff, AV.len, evalUn, Int.reduceLT, Int.reduceLE, Int.reduceEq, Int.reduceNe, strs_eq, DS, isSl, AOp.pure, AOp.reader, allocD, AOp.quiet, isSlot, Nat.reduceBEq, h3, h1]
                refine ⟨⟨?_, ?_⟩, ?_⟩
                · intro l hl c hc hf
                  simp only [List.mem_cons, List.mem_nil_iff, List.not_mem_nil, or_false] at hl hc
                  rcases hl with rfl | rfl | rfl <;> rcases hc with rfl | rfl <;> dsimp only at hf ⊢ <;> first
                    | (exact absurd hf (by decide +kernel))
                    | (simp only [WS, stepW, evalA, reduceIte, Nat.reduceEqDiff, reduceCtorEq, evalBin, Option.getD, Int.reduceToNat, Nat.reduceMul, Nat.reduceAdd, allocA, rowOf, fillA, partsV, setl, Nat.reduceLeDiff, AV.len, evalUn, Int.reduceLT, Int.reduceLE, Int.reduceEq, Int.reduceNe, strs_eq, h3, h1, cA', sg, hr, A.fit, A.all]; done)
                · intro sl hsl; simp at hsl
                · have hk : kindsR s.kinds none s.kinds = kindRS s.kinds s.kinds[i] := by rw [hspec, hfd, if_neg hb', if_neg (by rw [hl]; simp), if_pos h0]
                  rw [hex (by rw [hk]; exact h0), hk]
              · simp only [WS, stepW, evalA, reduceIte, Nat.reduceEqDiff, reduceCtorEq, evalBin, Option.getD, Int.reduceToNat, Nat.reduceMul, Nat.reduceAdd, allocA, rowOf, fillA, partsV, setl, Nat.reduceLeDiff, AV.len, evalUn, Int.reduceLT, Int.reduceLE, Int.reduceEq, Int.reduceNe, strs_eq, h0, h3, h1, cA, hw]
                refine ⟨hlt, hn2, ?_⟩
                rw [hspec, hfd, if_neg hb', if_neg (by rw [hl]; simp), if_neg h0]
                simp [prevO, hlt]
      · have : i = s.kinds.length := by omega
        subst this
        rw [List.drop_length] at hspec
        simp only [WS, stepW, evalA, reduceIte, Nat.reduceEqDiff, reduceCtorEq, evalBin, Option.getD, Int.reduceToNat, Nat.reduceMul, Nat.reduceAdd, allocA, rowOf, fillA, partsV, setl, Nat.reduceLeDiff, AV.len, evalUn, Int.reduceLT, Int.reduceLE, Int.reduceEq, Int.reduceNe, strs_eq, h3, h1, c0, hn, hspec, kindsR]
  rintro ρ s' ⟨h1, c0, hn, hks⟩
  have hfin : checkRS s = actsR s.kinds none s.acts := by rw [checkRS, if_neg (by omega), if_neg (by rw [hks]; simp)]
  rw [hfin]
  simp only [WS, stepW, evalA, reduceIte, Nat.reduceEqDiff, reduceCtorEq, evalBin, Option.getD, Int.reduceToNat, Nat.reduceMul, Nat.reduceAdd, allocA, rowOf, fillA, partsV, setl, Nat.reduceLeDiff, AV.len, evalUn, Int.reduceLT, Int.reduceLE, Int.reduceEq, Int.reduceNe, strs_eq, h1, c0]
  refine w_for (fun i ρ s' => ρ.rd 5 = .int .i64 i ∧ ρ.rd 1 = .ptr 0 0 ∧ s'.cells 0 = some [slc Kd.c s.kinds, slc Ac.c s.acts] ∧ 1 ≤ s'.n ∧ actsR s.kinds none s.acts = actsR s.kinds (prevO (s.acts.map Ac.name) i) (s.acts.drop i)) s.acts.length ?_ ?_
  · simp only [WS, stepW, evalA, reduceIte, Nat.reduceEqDiff, reduceCtorEq, evalBin, Option.getD, Int.reduceToNat, Nat.reduceMul, Nat.reduceAdd, allocA, rowOf, fillA, partsV, setl, Nat.reduceLeDiff, AV.len, evalUn, Int.reduceLT, Int.reduceLE, Int.reduceEq, Int.reduceNe, strs_eq, h1, c0]
    exact ⟨rfl, hn, rfl⟩
  · rintro i ρ s' hi ⟨h5, h1, c0, hn, hspec⟩
    simp only [WS, stepW, evalA, reduceIte, Nat.reduceEqDiff, reduceCtorEq, evalBin, Option.getD, Int.reduceToNat, Nat.reduceMul, Nat.reduceAdd, allocA, rowOf, fillA, partsV, setl, Nat.reduceLeDiff, AV.len, evalUn, Int.reduceLT, Int.reduceLE, Int.reduceEq, Int.reduceNe, strs_eq, h5, h1, c0]
    refine Br_dec (fun hlt' => ?_) (fun hge => ?_)
    · have hlt : i < s.acts.length := by omega
      have hr := lt_idx hlt
      have A := acAt hlt
      have hm := List.getElem_mem hlt
      have hw : IntKind.i64.wrap ((i : Int) + 1) = ((i + 1 : Nat) : Int) := wrap_succ (by omega)
      have hfd : actsR s.kinds none s.acts = if actRS s.kinds s.acts[i] (prevO (s.acts.map Ac.name) i) ≠ 0 then actRS s.kinds s.acts[i] (prevO (s.acts.map Ac.name) i) else actsR s.kinds (some s.acts[i].name) (s.acts.drop (i + 1)) := by
        rw [hspec, List.drop_eq_getElem_cons hlt, actsR]
      have hpn : prevO (s.acts.map Ac.name) (i + 1) = some s.acts[i].name := by simp [prevO, hlt]
      generalize hp0 : prevO (s.acts.map Ac.name) i = pv at *
      rw [wpC_skip, wpCK_normal, wpC_seq, wpC_block, wpC_seq]
      refine w_mid (fun ρ s1 => ∃ b, ρ.rd 6 = .ptr b 0 ∧ s1.cells b = some [.str s.acts[i].name, strs s.acts[i].prins, strs s.acts[i].ress] ∧ ρ.rd 5 = .int .i64 i ∧ ρ.rd 1 = .ptr 0 0 ∧ s1.cells 0 = some [slc Kd.c s.kinds, slc Ac.c s.acts] ∧ 1 ≤ s1.n) ?_ ?_
      · have n0 : ¬ 0 = s'.n := by omega
        simp only [WS, stepW, evalA, reduceIte, Nat.reduceEqDiff, reduceCtorEq, evalBin, Option.getD, Int.reduceToNat, Nat.reduceMul, Nat.reduceAdd, allocA, rowOf, fillA, partsV, setl, Nat.reduceLeDiff, AV.len, evalUn, Int.reduceLT, Int.reduceLE, Int.reduceEq, Int.reduceNe, strs_eq, h5, h1, c0, hr, A.fit, A.all, storeA, sets, setx, List.take_zero, List.drop_succ_cons, List.drop_zero, List.take_succ_cons, n0]
        first | exact ⟨s'.n, rfl, by rw [put_get, if_pos rfl], by omega⟩ | exact ⟨s'.n, rfl, by rw [put_get, if_pos rfl]⟩ | exact ⟨s'.n, rfl, by simp⟩ | trace_state
      clear hn c0 h5 h1
      rintro ρ s1 ⟨b, h6, cb, h5, h1, c0, hn⟩
      rw [wpC_block, wpC_seq]
      refine w_mid (fun ρ s2 => s2 = s1 ∧ ρ.rd 6 = .ptr b 0 ∧ ρ.rd 5 = .int .i64 i ∧ ρ.rd 1 = .ptr 0 0 ∧ ρ.rd 96 = .bool (!identS s.acts[i].name)) ?_ ?_
      · simp only [WS, stepW, evalA, reduceIte, Nat.reduceEqDiff, reduceCtorEq, evalBin, Option.getD, Int.reduceToNat, Nat.reduceMul, Nat.reduceAdd, allocA, rowOf, fillA, partsV, setl, Nat.reduceLeDiff, AV.len, evalUn, Int.reduceLT, Int.reduceLE, Int.reduceEq, Int.reduceNe, strs_eq, h6, cb]
        refine (identR_ac (ht.a _ hm)).use ?_
        simp only [WS, stepW, evalA, reduceIte, Nat.reduceEqDiff, reduceCtorEq, evalBin, Option.getD, Int.reduceToNat, Nat.reduceMul, Nat.reduceAdd, allocA, rowOf, fillA, partsV, setl, Nat.reduceLeDiff, AV.len, evalUn, Int.reduceLT, Int.reduceLE, Int.reduceEq, Int.reduceNe, strs_eq, h6, h5, h1]
      rintro ρ s2 ⟨rfl, h6, h5, h1, h96⟩
      cases hI : identS s.acts[i].name with
      | false =>
        have h15 : actsR s.kinds none s.acts = 15 := by
          have : actRS s.kinds s.acts[i] pv = 15 := by rw [actRS, if_pos hI]
          rw [hfd, this]; rfl
        simp only [WS, stepW, evalA, reduceIte, Nat.reduceEqDiff, reduceCtorEq, evalBin, Option.getD, Int.reduceToNat, Nat.reduceMul, Nat.reduceAdd, allocA, rowOf, fillA, partsV, setl, Nat.reduceLeDiff, AV.len, evalUn, Int.reduceLT, Int.reduceLE, Int.reduceEq, Int.reduceNe, strs_eq, h96, hI]
        rw [h15]
      | true =>
        simp only [wpC_cond, ev_tmp, h96, hI, Bool.not_true, onB_bool, Br_false]
        rw [wpC_seq]
        refine w_mid (fun ρ s3 => s3.cells b = some [.str s.acts[i].name, strs s.acts[i].prins, strs s.acts[i].ress] ∧ ρ.rd 6 = .ptr b 0 ∧ ρ.rd 5 = .int .i64 i ∧ ρ.rd 1 = .ptr 0 0 ∧ s3.cells 0 = some [slc Kd.c s.kinds, slc Ac.c s.acts] ∧ 1 ≤ s3.n ∧ ρ.rd 101 = .bool (leqO s.acts[i].name pv)) ?_ ?_
        · simp only [WS, stepW, evalA, reduceIte, Nat.reduceEqDiff, reduceCtorEq, evalBin, Option.getD, Int.reduceToNat, Nat.reduceMul, Nat.reduceAdd, allocA, rowOf, fillA, partsV, setl, Nat.reduceLeDiff, AV.len, evalUn, Int.reduceLT, Int.reduceLE, Int.reduceEq, Int.reduceNe, strs_eq]
          refine w_dreg0 follow ?_ rfl
          have cA : (addSlots s2.n 15 s2 []).cells 0 = some [slc Kd.c s.kinds, slc Ac.c s.acts] := c0
          have cC : (addSlots s2.n 15 s2 []).cells b = some [.str s.acts[i].name, strs s.acts[i].prins, strs s.acts[i].ress] := cb
          have hn2 : 1 ≤ (addSlots s2.n 15 s2 []).n := by simp only [addSlots]; omega
          generalize addSlots s2.n 15 s2 [] = s3 at *
          by_cases hi0 : i = 0
          · have hz : ¬ (0 : Int) < (i : Int) := by omega
            simp only [WS, stepW, evalA, reduceIte, Nat.reduceEqDiff, reduceCtorEq, evalBin, Option.getD, Int.reduceToNat, Nat.reduceMul, Nat.reduceAdd, allocA, rowOf, fillA, partsV, setl, Nat.reduceLeDiff, AV.len, evalUn, Int.reduceLT, Int.reduceLE, Int.reduceEq, Int.reduceNe, strs_eq, hz, h5, h1, h6, cA, cC]
            subst hi0
            rw [← hp0]
            first | rfl | exact ⟨hn2, rfl⟩
          · have hp : (0 : Int) < (i : Int) := by omega
            obtain ⟨j, rfl⟩ : ∃ j, i = j + 1 := ⟨i - 1, by omega⟩
            have hj : j < s.acts.length := by omega
            have B := acAt hj
            have hrj := lt_idx hj
            have hwj : IntKind.i64.wrap (((j + 1 : Nat) : Int) - 1) = (j : Nat) := by rw [wrap64 (by omega) (by omega)]; omega
            have hpv : prevO (s.acts.map Ac.name) (j + 1) = some s.acts[j].name := by simp [prevO, hj]
            simp only [WS, stepW, evalA, reduceIte, Nat.reduceEqDiff, reduceCtorEq, evalBin, Option.getD, Int.reduceToNat, Nat.reduceMul, Nat.reduceAdd, allocA, rowOf, fillA, partsV, setl, Nat.reduceLeDiff, AV.len, evalUn, Int.reduceLT, Int.reduceLE, Int.reduceEq, Int.reduceNe, strs_eq, hp, h5, h1, h6, cA, cC, hrj, hwj, B.g0]
            rw [← hp0, hpv]
            first | rfl | exact ⟨hn2, rfl⟩
        clear c0 cb hn
        rintro ρ s3 ⟨cb, h6, h5, h1, c0, hn, h101⟩
        have hact : ∀ e, e ≠ 0 → actRS s.kinds s.acts[i] pv = e → actsR s.kinds none s.acts = e := fun e he h => by rw [hfd, h, if_pos he]
        cases hl : leqO s.acts[i].name pv with
        | true =>
          simp only [WS, stepW, evalA, reduceIte, Nat.reduceEqDiff, reduceCtorEq, evalBin, Option.getD, Int.reduceToNat, Nat.reduceMul, Nat.reduceAdd, allocA, rowOf, fillA, partsV, setl, Nat.reduceLeDiff, AV.len, evalUn, Int.reduceLT, Int.reduceLE, Int.reduceEq, Int.reduceNe, strs_eq, h101, hl]
          rw [hact 7 (by decide) (by rw [actRS, if_neg (by rw [hI]; simp), if_pos hl])]
        | false =>
          simp only [WS, stepW, evalA, reduceIte, Nat.reduceEqDiff, reduceCtorEq, evalBin, Option.getD, Int.reduceToNat, Nat.reduceMul, Nat.reduceAdd, allocA, rowOf, fillA, partsV, setl, Nat.reduceLeDiff, AV.len, evalUn, Int.reduceLT, Int.reduceLE, Int.reduceEq, Int.reduceNe, strs_eq, h101, hl, h6, cb]
          by_cases p0 : (s.acts[i].prins.length : Int) = 0
          · simp only [WS, stepW, evalA, reduceIte, Nat.reduceEqDiff, reduceCtorEq, evalBin, Option.getD, Int.reduceToNat, Nat.reduceMul, Nat.reduceAdd, allocA, rowOf, fillA, partsV, setl, Nat.reduceLeDiff, AV.len, evalUn, Int.reduceLT, Int.reduceLE, Int.reduceEq, Int.reduceNe, strs_eq, p0]
            rw [hact 13 (by decide) (by rw [actRS, if_neg (by rw [hI]; simp), if_neg (by rw [hl]; simp), if_pos (by omega)])]
          simp only [WS, stepW, evalA, reduceIte, Nat.reduceEqDiff, reduceCtorEq, evalBin, Option.getD, Int.reduceToNat, Nat.reduceMul, Nat.reduceAdd, allocA, rowOf, fillA, partsV, setl, Nat.reduceLeDiff, AV.len, evalUn, Int.reduceLT, Int.reduceLE, Int.reduceEq, Int.reduceNe, strs_eq, p0, h6, cb]
          by_cases r0 : (s.acts[i].ress.length : Int) = 0
          · simp only [WS, stepW, evalA, reduceIte, Nat.reduceEqDiff, reduceCtorEq, evalBin, Option.getD, Int.reduceToNat, Nat.reduceMul, Nat.reduceAdd, allocA, rowOf, fillA, partsV, setl, Nat.reduceLeDiff, AV.len, evalUn, Int.reduceLT, Int.reduceLE, Int.reduceEq, Int.reduceNe, strs_eq, r0]
            rw [hact 13 (by decide) (by rw [actRS, if_neg (by rw [hI]; simp), if_neg (by rw [hl]; simp), if_pos (by omega)])]
          simp only [WS, stepW, evalA, reduceIte, Nat.reduceEqDiff, reduceCtorEq, evalBin, Option.getD, Int.reduceToNat, Nat.reduceMul, Nat.reduceAdd, allocA, rowOf, fillA, partsV, setl, Nat.reduceLeDiff, AV.len, evalUn, Int.reduceLT, Int.reduceLE, Int.reduceEq, Int.reduceNe, strs_eq, r0, h6, cb]
          by_cases p6 : (6 : Int) < s.acts[i].prins.length
          · simp only [WS, stepW, evalA, reduceIte, Nat.reduceEqDiff, reduceCtorEq, evalBin, Option.getD, Int.reduceToNat, Nat.reduceMul, Nat.reduceAdd, allocA, rowOf, fillA, partsV, setl, Nat.reduceLeDiff, AV.len, evalUn, Int.reduceLT, Int.reduceLE, Int.reduceEq, Int.reduceNe, strs_eq, p6]
            rw [hact 4 (by decide) (by rw [actRS, if_neg (by rw [hI]; simp), if_neg (by rw [hl]; simp), if_neg (by omega), if_pos (by omega)])]
          simp only [WS, stepW, evalA, reduceIte, Nat.reduceEqDiff, reduceCtorEq, evalBin, Option.getD, Int.reduceToNat, Nat.reduceMul, Nat.reduceAdd, allocA, rowOf, fillA, partsV, setl, Nat.reduceLeDiff, AV.len, evalUn, Int.reduceLT, Int.reduceLE, Int.reduceEq, Int.reduceNe, strs_eq, p6, h6, cb]
          by_cases r6 : (6 : Int) < s.acts[i].ress.length
          · simp only [WS, stepW, evalA, reduceIte, Nat.reduceEqDiff, reduceCtorEq, evalBin, Option.getD, Int.reduceToNat, Nat.reduceMul, Nat.reduceAdd, allocA, rowOf, fillA, partsV, setl, Nat.reduceLeDiff, AV.len, evalUn, Int.reduceLT, Int.reduceLE, Int.reduceEq, Int.reduceNe, strs_eq, r6]
            rw [hact 4 (by decide) (by rw [actRS, if_neg (by rw [hI]; simp), if_neg (by rw [hl]; simp), if_neg (by omega), if_pos (by omega)])]
          have hA1 := all_ac (s := s) (l := s.acts[i].prins) (σ := s3) hs (by have : Most = 9223372036854775807 := rfl; omega)
          have hA2 := all_ac (s := s) (l := s.acts[i].ress) (σ := s3) hs (by have : Most = 9223372036854775807 := rfl; omega)
          rw [Sc.c_eq, slc_eq, slc_eq, strs_eq] at hA1 hA2
          simp only [WS, stepW, evalA, reduceIte, Nat.reduceEqDiff, reduceCtorEq, evalBin, Option.getD, Int.reduceToNat, Nat.reduceMul, Nat.reduceAdd, allocA, rowOf, fillA, partsV, setl, Nat.reduceLeDiff, AV.len, evalUn, Int.reduceLT, Int.reduceLE, Int.reduceEq, Int.reduceNe, strs_eq, r6, h6, cb, h1, c0, sg]
          refine hA1.use ?_
          cases ha1 : s.acts[i].prins.all (hasS s.kinds) with
          | false =>
            simp only [WS, stepW, evalA, reduceIte, Nat.reduceEqDiff, reduceCtorEq, evalBin, Option.getD, Int.reduceToNat, Nat.reduceMul, Nat.reduceAdd, allocA, rowOf, fillA, partsV, setl, Nat.reduceLeDiff, AV.len, evalUn, Int.reduceLT, Int.reduceLE, Int.reduceEq, Int.reduceNe, strs_eq, ha1]
            rw [hact 2 (by decide) (by rw [actRS, if_neg (by rw [hI]; simp), if_neg (by rw [hl]; simp), if_neg (by omega), if_neg (by omega), if_pos (.inl ha1)])]
          | true =>
            simp only [WS, stepW, evalA, reduceIte, Nat.reduceEqDiff, reduceCtorEq, evalBin, Option.getD, Int.reduceToNat, Nat.reduceMul, Nat.reduceAdd, allocA, rowOf, fillA, partsV, setl, Nat.reduceLeDiff, AV.len, evalUn, Int.reduceLT, Int.reduceLE, Int.reduceEq, Int.reduceNe, strs_eq, ha1, h6, cb, h1, c0, sg]
            refine hA2.use ?_
            cases ha2 : s.acts[i].ress.all (hasS s.kinds) with
            | false =>
              simp only [WS, stepW, evalA, reduceIte, Nat.reduceEqDiff, reduceCtorEq, evalBin, Option.getD, Int.reduceToNat, Nat.reduceMul, Nat.reduceAdd, allocA, rowOf, fillA, partsV, setl, Nat.reduceLeDiff, AV.len, evalUn, Int.reduceLT, Int.reduceLE, Int.reduceEq, Int.reduceNe, strs_eq, ha2]
              rw [hact 2 (by decide) (by rw [actRS, if_neg (by rw [hI]; simp), if_neg (by rw [hl]; simp), if_neg (by omega), if_neg (by omega), if_pos (.inr ha2)])]
            | true =>
              have hz : actRS s.kinds s.acts[i] pv = 0 := by rw [actRS, if_neg (by rw [hI]; simp), if_neg (by rw [hl]; simp), if_neg (by omega), if_neg (by omega), if_neg (by rw [ha1, ha2]; simp)]
              simp only [WS, stepW, evalA, reduceIte, Nat.reduceEqDiff, reduceCtorEq, evalBin, Option.getD, Int.reduceToNat, Nat.reduceMul, Nat.reduceAdd, allocA, rowOf, fillA, partsV, setl, Nat.reduceLeDiff, AV.len, evalUn, Int.reduceLT, Int.reduceLE, Int.reduceEq, Int.reduceNe, strs_eq, ha2, h5, h1, c0, hw]
              refine ⟨hlt, hn, ?_⟩
              rw [hfd, hz, hpn]; rfl
    · have : i = s.acts.length := by omega
      subst this
      rw [List.drop_length] at hspec
      simp only [WS, stepW, evalA, reduceIte, Nat.reduceEqDiff, reduceCtorEq, evalBin, Option.getD, Int.reduceToNat, Nat.reduceMul, Nat.reduceAdd, allocA, rowOf, fillA, partsV, setl, Nat.reduceLeDiff, AV.len, evalUn, Int.reduceLT, Int.reduceLE, Int.reduceEq, Int.reduceNe, strs_eq, h5, h1, c0]
      rw [hspec]
      simp [actsR]
theorem checkR_ac {s : Sc} {σ : AState} (hs : s.ok) (ht : s.tok) : AC Try.prog 13 [.agg s.c] σ fun v s' => s' = σ ∧ v = .int .i64 (checkS s) := by
  rw [check_same]
  exact AC.told (.cons (.agg (Sc.fxd s)) .nil) rfl (checkR_st0 hs ht)
end Go.Proofs.Ytaokfpjjaejjgaa.Va
