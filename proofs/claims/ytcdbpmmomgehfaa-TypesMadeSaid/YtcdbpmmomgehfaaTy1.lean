/- What a schema is held against (plain); kinds by their names. Conditions: none. -/
import Derived.Test.YtcdbpmmomgehfaaTy0
set_option maxRecDepth 100000
set_option maxHeartbeats 4000000
set_option linter.all false
namespace Go.Proofs.Ytcdbpmmomgehfaa.Va
open Go.Proofs
def letterS (x : UInt8) : Bool := decide (97 ≤ (x.toNat : Int) ∧ (x.toNat : Int) ≤ 122 ∨ 65 ≤ (x.toNat : Int) ∧ (x.toNat : Int) ≤ 90 ∨ (x.toNat : Int) = 95)
def digitS (x : UInt8) : Bool := decide (48 ≤ (x.toNat : Int) ∧ (x.toNat : Int) ≤ 57)
def identGo : Nat → Str → Bool
  | _, [] => true
  | i, x :: r => (letterS x || (decide (i ≠ 0) && digitS x)) && identGo (i + 1) r
def identS (n : Str) : Bool := identGo 0 n && (decide (1 ≤ (n.length : Int)) && decide ((n.length : Int) ≤ 12))
def resS (n : Str) : Bool := decide (n = [65, 99, 116, 105, 111, 110] ∨ n = [66, 111, 111, 108] ∨ n = [76, 111, 110, 103] ∨ n = [83, 116, 114, 105, 110, 103] ∨ n = [83, 101, 116])
def kindV (ks : List Kd) (n : Str) : AV := match ks.find? (fun k => decide (k.name = n)) with
  | some k => .tup [.agg k.c, .bool true]
  | none => .tup [.agg [.str [], .psl [] 0 0, .psl [] 0 0], .bool false]
theorem kindV_bool (ks : List Kd) (n : Str) : ∃ cs, kindV ks n = .tup [.agg cs, .bool (hasS ks n)] ∧ ∃ a b c, cs = [a, b, c] ∧ a.one = true ∧ b.one = true ∧ c.one = true := by
  unfold kindV hasS
  cases h : ks.find? fun k => decide (k.name = n) with
  | none =>
    have : (ks.any fun k => decide (k.name = n)) = false := by
      rw [List.any_eq_false]; exact List.find?_eq_none.1 h
    rw [this]
    exact ⟨_, rfl, _, _, _, rfl, rfl, rfl, rfl⟩
  | some k =>
    have : (ks.any fun k => decide (k.name = n)) = true := by
      rw [List.any_eq_true]; exact ⟨k, List.mem_of_find?_eq_some h, by simpa using List.find?_some (p := fun k : Kd => decide (k.name = n)) h⟩
    rw [this]
    exact ⟨_, rfl, _, _, _, rfl, rfl, rfl, rfl⟩
theorem find_take {ks : List Kd} {n : Str} {i : Nat} (h : i < ks.length) (hno : (ks.take i).find? (fun k => decide (k.name = n)) = none) :
    ks.find? (fun k => decide (k.name = n)) = if ks[i].name = n then some ks[i] else (ks.drop (i + 1)).find? (fun k => decide (k.name = n)) := by
  conv => lhs; rw [← List.take_append_drop i ks]
  rw [List.find?_append, hno, Option.none_or, List.drop_eq_getElem_cons h, List.find?_cons]
  by_cases hn : ks[i].name = n <;> simp [hn]
theorem find_next {ks : List Kd} {n : Str} {i : Nat} (h : i < ks.length) (hno : (ks.take i).find? (fun k => decide (k.name = n)) = none) (hn : ¬ ks[i].name = n) :
    (ks.take (i + 1)).find? (fun k => decide (k.name = n)) = none := by
  rw [List.take_add_one, List.find?_append, hno, List.getElem?_eq_getElem h]
  simp [hn]
theorem pur_nil_kd (s : AState) : Pur s true (.agg [.str [], .nils, .nils]) (.agg [.str [], .psl [] 0 0, .psl [] 0 0]) :=
  .agg _ _ rfl (fun i hi hi' => by
    match i, hi with
    | 0, _ => exact .flat _ rfl
    | 1, _ => exact .nils _ _
    | 2, _ => exact .nils _ _)
theorem pur_strs (s : AState) (l : List Str) : Pur s true (strs l) (strs l) := .psl rfl _ _ _ _ rfl fun i hi hi' => .flat _ (by simp [AV.flat])
theorem pur_fls (s : AState) (l : List Fl) : Pur s true (slc Fl.c l) (slc Fl.c l) := .psl rfl _ _ _ _ rfl fun i hi hi' => by
  have hm := List.getElem_mem hi
  obtain ⟨x, hx, hm⟩ := List.mem_flatten.1 hm
  obtain ⟨f, _, rfl⟩ := List.mem_map.1 hx
  refine .flat _ ?_
  simp only [Fl.c, List.mem_cons, List.mem_nil_iff, or_false] at hm
  rcases hm with h | h | h | h <;> rw [h] <;> rfl
theorem pur_kd (s : AState) (k : Kd) : Pur s true (.agg k.c) (.agg k.c) := .agg _ _ rfl fun i hi hi' => by
  match i, hi with
  | 0, _ => exact .flat _ rfl
  | 1, _ => exact pur_strs _ _
  | 2, _ => exact pur_fls _ _
theorem pur_pair (s : AState) (al : Bool) {a a' : AV} (b : Bool) (h : Pur s al a a') : Pur s al (.tup [a, .bool b]) (.tup [a', .bool b]) := .tup _ _ rfl fun i hi hi' => by
  match i, hi with
  | 0, _ => exact h
  | 1, _ => exact .flat _ rfl
theorem kindR_st0 {s : Sc} {n : Str} (hs : s.ok) : AC Try.prog 45 [.agg s.c, .str n] st0 fun v s' => ∃ a, Pur s' true v a ∧ a = kindV s.kinds n := by
  refine ac_wp fn45 cf45 cl45 rfl ?_
  simp only [ac45]
  unfold ab45
  simp only [WS, seval, stepW, evalA, evalBin, Option.getD, allocA, rowOf, fillA, partsV, setl, AV.len, evalUn, strs_eq, Sc.c_eq]
  refine w_for (fun i ρ s' => ρ.rd 6 = .int .i64 i ∧ ρ.rd 2 = .ptr 0 0 ∧ ρ.rd 4 = .ptr 1 0 ∧ ρ.rd 1 = .str n ∧ s'.cells 0 = some [slc Kd.c s.kinds, slc Ac.c s.acts] ∧ s'.cells 1 = some [.str [], .nils, .nils] ∧ (s.kinds.take i).find? (fun k => decide (k.name = n)) = none) s.kinds.length ?_ ?_
  · simp only [WS, seval, stepW, evalA, evalBin, Option.getD, allocA, rowOf, fillA, partsV, setl, AV.len, evalUn, strs_eq, List.take_zero, List.find?_nil]
    first | done | rfl
  · rintro i ρ s' hi ⟨h6, h2, h4, h1, c0, c1, hno⟩
    simp only [WS, seval, stepW, evalA, evalBin, Option.getD, allocA, rowOf, fillA, partsV, setl, AV.len, evalUn, strs_eq, h6, h2, h4, h1, c0, c1]
    refine Br_dec (fun hlt' => ?_) (fun hge => ?_)
    · have hlt : i < s.kinds.length := by omega
      have A := kdAt hlt
      have hr := lt_idx hlt
      have hw : IntKind.i64.wrap ((i : Int) + 1) = ((i + 1 : Nat) : Int) := wrap_succ (by have : Most = 9223372036854775807 := rfl; have := hs.kl; omega)
      simp only [WS, seval, stepW, evalA, evalBin, Option.getD, allocA, rowOf, fillA, partsV, setl, AV.len, evalUn, strs_eq, h6, h2, h4, h1, c0, c1, hr, A.g0]
      refine Br_dec (fun hy => ?_) (fun hn => ?_)
      · simp only [WS, seval, stepW, evalA, evalBin, Option.getD, allocA, rowOf, fillA, partsV, setl, AV.len, evalUn, strs_eq, h6, h2, h4, h1, c0, c1, hr, A.fit, A.all, storeA, sets, setx, TS]
        refine ⟨_, pur_pair _ _ true (pur_kd _ s.kinds[i]), ?_⟩
        rw [kindV, find_take hlt hno, if_pos hy]
      · simp only [WS, seval, stepW, evalA, evalBin, Option.getD, allocA, rowOf, fillA, partsV, setl, AV.len, evalUn, strs_eq, h6, h2, h4, h1, c0, c1, hw]
        exact ⟨hlt, find_next hlt hno hn⟩
    · have : i = s.kinds.length := by omega
      subst this
      simp only [WS, seval, stepW, evalA, evalBin, Option.getD, allocA, rowOf, fillA, partsV, setl, AV.len, evalUn, strs_eq, h6, h2, h4, h1, c0, c1, storeA, sets, setx, TS]
      refine ⟨_, pur_pair _ _ false (pur_nil_kd _), ?_⟩
      rw [List.take_length] at hno
      rw [kindV, hno]
theorem kindR_ac {s : Sc} {n : Str} {σ : AState} (hs : s.ok) : AC Try.prog 45 [.agg s.c, .str n] σ fun v s' => s' = σ ∧ v = kindV s.kinds n :=
  AC.share (.cons (.agg (Sc.fxd s)) (.cons (.flat rfl) .nil)) (kindR_st0 hs)
theorem scSeg (s : Sc) : seg [AV.psl (rowc Kd.c s.kinds) 0 s.kinds.length, AV.psl (rowc Ac.c s.acts) 0 s.acts.length] 0 2 = [AV.psl (rowc Kd.c s.kinds) 0 s.kinds.length, AV.psl (rowc Ac.c s.acts) 0 s.acts.length] := rfl
def fieldsS (ks : List Kd) : Str → List Fl → Int
  | _, [] => 0
  | last, f :: r =>
    if identS f.name = false then 15
    else if (Op.bytesLess f.name last || f.name == last) = true then 7
    else if kindOfS ks f.ty ≠ 0 then kindOfS ks f.ty
    else fieldsS ks f.name r
def kindS (ks : List Kd) (k : Kd) (last : Str) : Int :=
  if identS k.name = false ∨ resS k.name = true then 15
  else if (Op.bytesLess k.name last || k.name == last) = true then 7
  else if 5 < k.fields.length ∨ 4 < k.parents.length then 4
  else if k.parents.all (hasS ks) = false then 2
  else fieldsS ks [] k.fields
def Fl.tok (f : Fl) : Prop := f.name.length ≤ Most
def Kd.tok (k : Kd) : Prop := k.name.length ≤ Most ∧ ∀ f ∈ k.fields, f.tok
theorem strs_all (l : List Str) : (l.map AV.str).all AV.one = true := by simp [AV.one]
def actS (ks : List Kd) (a : Ac) (last : Str) : Int :=
  if identS a.name = false then 15
  else if (Op.bytesLess a.name last || a.name == last) = true then 7
  else if a.prins.length = 0 ∨ a.ress.length = 0 then 13
  else if 6 < a.prins.length ∨ 6 < a.ress.length then 4
  else if (a.prins ++ a.ress).all (hasS ks) = false then 2
  else 0
def Ac.tok (a : Ac) : Prop := a.name.length ≤ Most
def kindsS (ks : List Kd) : Str → List Kd → Int
  | _, [] => 0
  | last, k :: r => if kindS ks k last ≠ 0 then kindS ks k last else kindsS ks k.name r
def actsS (ks : List Kd) : Str → List Ac → Int
  | _, [] => 0
  | last, a :: r => if actS ks a last ≠ 0 then actS ks a last else actsS ks a.name r
def checkS (s : Sc) : Int :=
  if 6 < s.kinds.length ∨ 6 < s.acts.length then 4
  else if kindsS s.kinds [] s.kinds ≠ 0 then kindsS s.kinds [] s.kinds
  else actsS s.kinds [] s.acts
structure Sc.tok (s : Sc) : Prop where
  k : ∀ k ∈ s.kinds, k.tok
  a : ∀ a ∈ s.acts, a.tok
theorem within5_ac {n k : Int} {σ : AState} (hk : 0 < k) (hk' : k < 4611686018427387904) : AC Try.prog 33 [.int .i64 n, .int .i64 k] σ fun v s' => s' = σ ∧ v = .int .i64 (wi n k) :=
  (within_ac (P := Try.prog) fn33 cf33 cl33 (x := n) (σ := σ) hk hk').mono fun _ _ h => ⟨h.2, h.1⟩
theorem wi_4 (n : Int) : wi n 4 = 0 ∨ wi n 4 = 1 ∨ wi n 4 = 2 ∨ wi n 4 = 3 := by have := wi_range n (n := 4) (by decide); omega
theorem wi_7 (n : Int) : wi n 7 = 0 ∨ wi n 7 = 1 ∨ wi n 7 = 2 ∨ wi n 7 = 3 ∨ wi n 7 = 4 ∨ wi n 7 = 5 ∨ wi n 7 = 6 := by have := wi_range n (n := 7) (by decide); omega
def kindN (i : Int) : Str := if i = 0 then [85, 115, 101, 114] else if i = 1 then [71, 114, 111, 117, 112] else if i = 2 then [68, 111, 99] else [84, 101, 97, 109]
def nameN (i : Int) : Str := if i = 0 then [97] else if i = 1 then [97, 103, 101] else if i = 2 then [105, 102] else if i = 3 then [99, 111, 110, 116, 97, 105, 110, 115] else if i = 4 then [112, 114, 105, 110, 99, 105, 112, 97, 108] else if i = 5 then [95, 120] else [110, 97, 109, 101]
theorem fx_int (n : Int) : Fxd (.int .i64 n) := .flat rfl
theorem kind5_ac {n : Int} {σ : AState} : AC Try.prog 44 [.int .i64 n] σ fun v s' => s' = σ ∧ v = .str (kindN (wi n 4)) := by
  refine AC.told (.cons (fx_int n) .nil) rfl ?_
  refine ac_wp fn44 cf44 cl44 rfl ?_
  simp only [ac44]
  unfold ab44
  simp only [WS, seval, stepW, evalA, evalBin, Option.getD, allocA, rowOf, fillA, partsV, setl, AV.len, evalUn, strs_eq]
  refine (within5_ac (by decide) (by decide)).use ?_
  have q0 : (0 : Int) < ((4 : Nat) : Int) := by decide
  have q1 : (1 : Int) < ((4 : Nat) : Int) := by decide
  have q2 : (2 : Int) < ((4 : Nat) : Int) := by decide
  have q3 : (3 : Int) < ((4 : Nat) : Int) := by decide
  rcases wi_4 n with h | h | h | h <;> simp only [WS, seval, stepW, evalA, evalBin, Option.getD, allocA, rowOf, fillA, partsV, setl, AV.len, evalUn, strs_eq, h, q0, q1, q2, q3, push_cells]
  all_goals (first | rfl | trace_state)
theorem name5_ac {n : Int} {σ : AState} : AC Try.prog 34 [.int .i64 n] σ fun v s' => s' = σ ∧ v = .str (nameN (wi n 7)) := by
  refine AC.told (.cons (fx_int n) .nil) rfl ?_
  refine ac_wp fn34 cf34 cl34 rfl ?_
  simp only [ac34]
  unfold ab34
  simp only [WS, seval, stepW, evalA, evalBin, Option.getD, allocA, rowOf, fillA, partsV, setl, AV.len, evalUn, strs_eq]
  refine (within5_ac (by decide) (by decide)).use ?_
  have q0 : (0 : Int) < ((7 : Nat) : Int) := by decide
  have q1 : (1 : Int) < ((7 : Nat) : Int) := by decide
  have q2 : (2 : Int) < ((7 : Nat) : Int) := by decide
  have q3 : (3 : Int) < ((7 : Nat) : Int) := by decide
  have q4 : (4 : Int) < ((7 : Nat) : Int) := by decide
  have q5 : (5 : Int) < ((7 : Nat) : Int) := by decide
  have q6 : (6 : Int) < ((7 : Nat) : Int) := by decide
  rcases wi_7 n with h | h | h | h | h | h | h <;> simp only [WS, seval, stepW, evalA, evalBin, Option.getD, allocA, rowOf, fillA, partsV, setl, AV.len, evalUn, strs_eq, h, q0, q1, q2, q3, q4, q5, q6, push_cells]
  all_goals (first | rfl | trace_state)
end Go.Proofs.Ytcdbpmmomgehfaa.Va
