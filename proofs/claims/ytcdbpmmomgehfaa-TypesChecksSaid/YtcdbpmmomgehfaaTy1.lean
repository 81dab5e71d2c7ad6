/- Schemas as plain Lean data, and as cells. Conditions: none. -/
import Derived.Test.YtcdbpmmomgehfaaTab
import Derived.Test.YtcdbpmmomgehfaaVaM
set_option linter.all false
namespace Go.Proofs.Ytcdbpmmomgehfaa.Va
open Go.Proofs

abbrev Str := List UInt8
def Most : Nat := 9223372036854775807
structure Ty where
  kind : Int
  of_ : Int
  name : Str
structure Fl where
  name : Str
  ty : Ty
structure Kd where
  name : Str
  parents : List Str
  fields : List Fl
structure Ac where
  name : Str
  prins : List Str
  ress : List Str
structure Sc where
  kinds : List Kd
  acts : List Ac
def strs (l : List Str) : AV := .psl (l.map .str) 0 l.length
def Ty.c (t : Ty) : List AV := [.int .i64 t.kind, .int .i64 t.of_, .str t.name]
def Fl.c (f : Fl) : List AV := [.str f.name, .int .i64 f.ty.kind, .int .i64 f.ty.of_, .str f.ty.name]
def Kd.c (k : Kd) : List AV := [.str k.name, strs k.parents, slc Fl.c k.fields]
def Ac.c (a : Ac) : List AV := [.str a.name, strs a.prins, strs a.ress]
def Sc.c (s : Sc) : List AV := [slc Kd.c s.kinds, slc Ac.c s.acts]
def Kd.ok (k : Kd) : Prop := k.parents.length ≤ Most ∧ k.fields.length ≤ Most
def Ac.ok (a : Ac) : Prop := a.prins.length ≤ Most ∧ a.ress.length ≤ Most
structure Sc.ok (s : Sc) : Prop where
  kl : s.kinds.length ≤ Most
  al : s.acts.length ≤ Most
  k : ∀ k ∈ s.kinds, k.ok
  a : ∀ a ∈ s.acts, a.ok

theorem strs_eq (l : List Str) : strs l = .psl (l.map .str) 0 l.length := Eq.trans rfl rfl
theorem Sc.c_eq (s : Sc) : s.c = [slc Kd.c s.kinds, slc Ac.c s.acts] := Eq.trans rfl rfl
theorem Kd.c_eq (k : Kd) : k.c = [.str k.name, strs k.parents, slc Fl.c k.fields] := Eq.trans rfl rfl
theorem Ac.c_eq (a : Ac) : a.c = [.str a.name, strs a.prins, strs a.ress] := Eq.trans rfl rfl
theorem Fl.c_eq (f : Fl) : f.c = [.str f.name, .int .i64 f.ty.kind, .int .i64 f.ty.of_, .str f.ty.name] := Eq.trans rfl rfl
theorem Ty.c_eq (t : Ty) : t.c = [.int .i64 t.kind, .int .i64 t.of_, .str t.name] := Eq.trans rfl rfl
theorem Fl.c_len (f : Fl) : f.c.length = 4 := rfl
theorem Kd.c_len (k : Kd) : k.c.length = 3 := rfl
theorem Ac.c_len (a : Ac) : a.c.length = 3 := rfl
theorem strs_fxd (l : List Str) : Fxd (strs l) := .psl fun a ha => by
  obtain ⟨x, _, rfl⟩ := List.mem_map.1 ha
  exact Fxd.flat rfl
theorem Ty.fxd (t : Ty) : FxdL t.c := .cons (.flat rfl) (.cons (.flat rfl) (.cons (.flat rfl) .nil))
theorem Fl.fxd (f : Fl) : FxdL f.c := .cons (.flat rfl) (.cons (.flat rfl) (.cons (.flat rfl) (.cons (.flat rfl) .nil)))
theorem Kd.fxd (k : Kd) : FxdL k.c := .cons (.flat rfl) (.cons (strs_fxd _) (.cons (slc_fxd Fl.fxd _) .nil))
theorem Ac.fxd (a : Ac) : FxdL a.c := .cons (.flat rfl) (.cons (strs_fxd _) (.cons (strs_fxd _) .nil))
theorem Sc.fxd (s : Sc) : FxdL s.c := .cons (slc_fxd Kd.fxd _) (.cons (slc_fxd Ac.fxd _) .nil)

theorem strs_get {l : List Str} {i : Nat} (h : i < l.length) : (l.map AV.str)[i]? = some (.str l[i]) := by simp [h]
structure KdAt (ks : List Kd) (i : Nat) (h : i < ks.length) : Prop where
  fit : i * 3 + 3 ≤ (rowc Kd.c ks).length
  all : seg (rowc Kd.c ks) (i * 3) 3 = [.str ks[i].name, strs ks[i].parents, slc Fl.c ks[i].fields]
  g0 : (rowc Kd.c ks)[i * 3]? = some (.str ks[i].name)
  g1 : (rowc Kd.c ks)[i * 3 + 1]? = some (strs ks[i].parents)
  g2 : (rowc Kd.c ks)[i * 3 + 2]? = some (slc Fl.c ks[i].fields)
theorem kdAt {ks : List Kd} {i : Nat} (h : i < ks.length) : KdAt ks i h :=
  ⟨rowc_fit Kd.c_len h, rowc_seg Kd.c_len h, rowc_get0 Kd.c_len h (by decide), rowc_get Kd.c_len h (by decide), rowc_get Kd.c_len h (by decide)⟩
structure AcAt (ks : List Ac) (i : Nat) (h : i < ks.length) : Prop where
  fit : i * 3 + 3 ≤ (rowc Ac.c ks).length
  all : seg (rowc Ac.c ks) (i * 3) 3 = [.str ks[i].name, strs ks[i].prins, strs ks[i].ress]
  g0 : (rowc Ac.c ks)[i * 3]? = some (.str ks[i].name)
  g1 : (rowc Ac.c ks)[i * 3 + 1]? = some (strs ks[i].prins)
  g2 : (rowc Ac.c ks)[i * 3 + 2]? = some (strs ks[i].ress)
theorem acAt {ks : List Ac} {i : Nat} (h : i < ks.length) : AcAt ks i h :=
  ⟨rowc_fit Ac.c_len h, rowc_seg Ac.c_len h, rowc_get0 Ac.c_len h (by decide), rowc_get Ac.c_len h (by decide), rowc_get Ac.c_len h (by decide)⟩
structure FlAt (fs : List Fl) (i : Nat) (h : i < fs.length) : Prop where
  fit : i * 4 + 4 ≤ (rowc Fl.c fs).length
  fit1 : i * 4 + 1 + 3 ≤ (rowc Fl.c fs).length
  all : seg (rowc Fl.c fs) (i * 4) 4 = [.str fs[i].name, .int .i64 fs[i].ty.kind, .int .i64 fs[i].ty.of_, .str fs[i].ty.name]
  ty : seg (rowc Fl.c fs) (i * 4 + 1) 3 = [.int .i64 fs[i].ty.kind, .int .i64 fs[i].ty.of_, .str fs[i].ty.name]
  g0 : (rowc Fl.c fs)[i * 4]? = some (.str fs[i].name)
  g1 : (rowc Fl.c fs)[i * 4 + 1]? = some (.int .i64 fs[i].ty.kind)
  g2 : (rowc Fl.c fs)[i * 4 + 2]? = some (.int .i64 fs[i].ty.of_)
  g3 : (rowc Fl.c fs)[i * 4 + 3]? = some (.str fs[i].ty.name)
theorem flAt {fs : List Fl} {i : Nat} (h : i < fs.length) : FlAt fs i h :=
  ⟨rowc_fit Fl.c_len h, rowc_fit Fl.c_len h, rowc_seg Fl.c_len h, (rowc_seg_in Fl.c_len (j := 1) (n := 3) h (by decide)).trans rfl, rowc_get0 Fl.c_len h (by decide), rowc_get Fl.c_len h (by decide), rowc_get Fl.c_len h (by decide), rowc_get Fl.c_len h (by decide)⟩

/- ------------------------------------------------ what the document says -/
def hasS (ks : List Kd) (n : Str) : Bool := ks.any fun k => decide (k.name = n)
def kindOfS (ks : List Kd) (t : Ty) : Int :=
  if t.kind < 1 ∨ t.kind > 5 then 3
  else if t.kind = 5 ∧ (t.of_ < 1 ∨ t.of_ > 4) then 3
  else if t.kind ≠ 5 ∧ t.of_ ≠ 0 then 1
  else
    let named := t.kind = 4 ∨ t.kind = 5 ∧ t.of_ = 4
    if ¬ named ∧ t.name ≠ [] then 1
    else if named ∧ hasS ks t.name = false then 2
    else 0
end Go.Proofs.Ytcdbpmmomgehfaa.Va
set_option maxRecDepth 100000
set_option maxHeartbeats 4000000
set_option linter.all false
namespace Go.Proofs.Ytcdbpmmomgehfaa.Va
open Go.Proofs
def letterS (x : UInt8) : Bool := decide (97 ≤ (x.toNat : Int) ∧ (x.toNat : Int) ≤ 122 ∨ 65 ≤ (x.toNat : Int) ∧ (x.toNat : Int) ≤ 90 ∨ (x.toNat : Int) = 95)
def digitS (x : UInt8) : Bool := decide (48 ≤ (x.toNat : Int) ∧ (x.toNat : Int) ≤ 57)
def identGo : Nat → Str → Bool
  | _, [] => true
  | i, x :: r => (letterS x || (decide (i ≠ 0) && digitS x)) && identGo (i + 1) r
def identS (n : Str) : Bool := identGo 0 n && (decide (1 ≤ (n.length : Int)) && decide ((n.length : Int) ≤ 12))
def resS (n : Str) : Bool := decide (n = [65, 99, 116, 105, 111, 110] ∨ n = [66, 111, 111, 108] ∨ n = [76, 111, 110, 103] ∨ n = [83, 116, 114, 105, 110, 103] ∨ n = [83, 101, 116])
def kindV (ks : List Kd) (n : Str) : AV := match ks.find? (fun k => decide (k.name = n)) with
  | some k => .tup [.agg k.c, .bool true]
  | none => .tup [.agg [.str [], .psl [] 0 0, .psl [] 0 0], .bool false]
theorem kindV_bool (ks : List Kd) (n : Str) : ∃ cs, kindV ks n = .tup [.agg cs, .bool (hasS ks n)] ∧ ∃ a b c, cs = [a, b, c] ∧ a.one = true ∧ b.one = true ∧ c.one = true := by
  unfold kindV hasS
  cases h : ks.find? fun k => decide (k.name = n) with
  | none =>
    have : (ks.any fun k => decide (k.name = n)) = false := by
      rw [List.any_eq_false]; exact List.find?_eq_none.1 h
    rw [this]
    exact ⟨_, rfl, _, _, _, rfl, rfl, rfl, rfl⟩
  | some k =>
    have : (ks.any fun k => decide (k.name = n)) = true := by
      rw [List.any_eq_true]; exact ⟨k, List.mem_of_find?_eq_some h, by simpa using List.find?_some (p := fun k : Kd => decide (k.name = n)) h⟩
    rw [this]
    exact ⟨_, rfl, _, _, _, rfl, rfl, rfl, rfl⟩
theorem find_take {ks : List Kd} {n : Str} {i : Nat} (h : i < ks.length) (hno : (ks.take i).find? (fun k => decide (k.name = n)) = none) :
    ks.find? (fun k => decide (k.name = n)) = if ks[i].name = n then some ks[i] else (ks.drop (i + 1)).find? (fun k => decide (k.name = n)) := by
  conv => lhs; rw [← List.take_append_drop i ks]
  rw [List.find?_append, hno, Option.none_or, List.drop_eq_getElem_cons h, List.find?_cons]
  by_cases hn : ks[i].name = n <;> simp [hn]
theorem find_next {ks : List Kd} {n : Str} {i : Nat} (h : i < ks.length) (hno : (ks.take i).find? (fun k => decide (k.name = n)) = none) (hn : ¬ ks[i].name = n) :
    (ks.take (i + 1)).find? (fun k => decide (k.name = n)) = none := by
  rw [List.take_add_one, List.find?_append, hno, List.getElem?_eq_getElem h]
  simp [hn]
theorem pur_nil_kd (s : AState) : Pur s true (.agg [.str [], .nils, .nils]) (.agg [.str [], .psl [] 0 0, .psl [] 0 0]) :=
  .agg _ _ rfl (fun i hi hi' => by
    match i, hi with
    | 0, _ => exact .flat _ rfl
    | 1, _ => exact .nils _ _
    | 2, _ => exact .nils _ _)
theorem pur_strs (s : AState) (l : List Str) : Pur s true (strs l) (strs l) := .psl rfl _ _ _ _ rfl fun i hi hi' => .flat _ (by simp [AV.flat])
theorem pur_fls (s : AState) (l : List Fl) : Pur s true (slc Fl.c l) (slc Fl.c l) := .psl rfl _ _ _ _ rfl fun i hi hi' => by
  have hm := List.getElem_mem hi
  obtain ⟨x, hx, hm⟩ := List.mem_flatten.1 hm
  obtain ⟨f, _, rfl⟩ := List.mem_map.1 hx
  refine .flat _ ?_
  simp only [Fl.c, List.mem_cons, List.mem_nil_iff, or_false] at hm
  rcases hm with h | h | h | h <;> rw [h] <;> rfl
theorem pur_kd (s : AState) (k : Kd) : Pur s true (.agg k.c) (.agg k.c) := .agg _ _ rfl fun i hi hi' => by
  match i, hi with
  | 0, _ => exact .flat _ rfl
  | 1, _ => exact pur_strs _ _
  | 2, _ => exact pur_fls _ _
theorem pur_pair (s : AState) (al : Bool) {a a' : AV} (b : Bool) (h : Pur s al a a') : Pur s al (.tup [a, .bool b]) (.tup [a', .bool b]) := .tup _ _ rfl fun i hi hi' => by
  match i, hi with
  | 0, _ => exact h
  | 1, _ => exact .flat _ rfl
theorem kindR_st0 {s : Sc} {n : Str} (hs : s.ok) : AC Try.prog 45 [.agg s.c, .str n] st0 fun v s' => ∃ a, Pur s' true v a ∧ a = kindV s.kinds n := by
  refine ac_wp fn45 cf45 cl45 rfl ?_
  simp only [ac45]
  unfold ab45
  simp only [WU, seval, strs_eq, Sc.c_eq]
  refine w_for (fun i ρ s' => ρ.rd 6 = .int .i64 i ∧ ρ.rd 2 = .ptr 0 0 ∧ ρ.rd 4 = .ptr 1 0 ∧ ρ.rd 1 = .str n ∧ s'.cells 0 = some [slc Kd.c s.kinds, slc Ac.c s.acts] ∧ s'.cells 1 = some [.str [], .nils, .nils] ∧ (s.kinds.take i).find? (fun k => decide (k.name = n)) = none) s.kinds.length ?_ ?_
  · simp only [WU, seval, strs_eq, List.take_zero, List.find?_nil]
    first | done | rfl
  · rintro i ρ s' hi ⟨h6, h2, h4, h1, c0, c1, hno⟩
    simp only [WU, seval, strs_eq, h6, h2, h4, h1, c0, c1]
    refine Br_dec (fun hlt' => ?_) (fun hge => ?_)
    · have hlt : i < s.kinds.length := by omega
      have A := kdAt hlt
      have hr := lt_idx hlt
      have hw : IntKind.i64.wrap ((i : Int) + 1) = ((i + 1 : Nat) : Int) := wrap_succ (by have : Most = 9223372036854775807 := rfl; have := hs.kl; omega)
      simp only [WU, seval, strs_eq, h6, h2, h4, h1, c0, c1, hr, A.g0]
      refine Br_dec (fun hy => ?_) (fun hn => ?_)
      · simp only [WU, seval, strs_eq, h6, h2, h4, h1, c0, c1, hr, A.fit, A.all, storeA, sets, setx, TS]
        refine ⟨_, pur_pair _ _ true (pur_kd _ s.kinds[i]), ?_⟩
        rw [kindV, find_take hlt hno, if_pos hy]
      · simp only [WU, seval, strs_eq, h6, h2, h4, h1, c0, c1, hw]
        exact ⟨hlt, find_next hlt hno hn⟩
    · have : i = s.kinds.length := by omega
      subst this
      simp only [WU, seval, strs_eq, h6, h2, h4, h1, c0, c1, storeA, sets, setx, TS]
      refine ⟨_, pur_pair _ _ false (pur_nil_kd _), ?_⟩
      rw [List.take_length] at hno
      rw [kindV, hno]
theorem kindR_ac {s : Sc} {n : Str} {σ : AState} (hs : s.ok) : AC Try.prog 45 [.agg s.c, .str n] σ fun v s' => s' = σ ∧ v = kindV s.kinds n :=
  AC.share (.cons (.agg (Sc.fxd s)) (.cons (.flat rfl) .nil)) (kindR_st0 hs)
theorem scSeg (s : Sc) : seg [AV.psl (rowc Kd.c s.kinds) 0 s.kinds.length, AV.psl (rowc Ac.c s.acts) 0 s.acts.length] 0 2 = [AV.psl (rowc Kd.c s.kinds) 0 s.kinds.length, AV.psl (rowc Ac.c s.acts) 0 s.acts.length] := rfl
def fieldsS (ks : List Kd) : Str → List Fl → Int
  | _, [] => 0
  | last, f :: r =>
    if identS f.name = false then 15
    else if (Op.bytesLess f.name last || f.name == last) = true then 7
    else if kindOfS ks f.ty ≠ 0 then kindOfS ks f.ty
    else fieldsS ks f.name r
def kindS (ks : List Kd) (k : Kd) (last : Str) : Int :=
  if identS k.name = false ∨ resS k.name = true then 15
  else if (Op.bytesLess k.name last || k.name == last) = true then 7
  else if 5 < k.fields.length ∨ 4 < k.parents.length then 4
  else if k.parents.all (hasS ks) = false then 2
  else fieldsS ks [] k.fields
def Fl.tok (f : Fl) : Prop := f.name.length ≤ Most
def Kd.tok (k : Kd) : Prop := k.name.length ≤ Most ∧ ∀ f ∈ k.fields, f.tok
theorem strs_all (l : List Str) : (l.map AV.str).all AV.one = true := by simp [AV.one]
def actS (ks : List Kd) (a : Ac) (last : Str) : Int :=
  if identS a.name = false then 15
  else if (Op.bytesLess a.name last || a.name == last) = true then 7
  else if a.prins.length = 0 ∨ a.ress.length = 0 then 13
  else if 6 < a.prins.length ∨ 6 < a.ress.length then 4
  else if (a.prins ++ a.ress).all (hasS ks) = false then 2
  else 0
def Ac.tok (a : Ac) : Prop := a.name.length ≤ Most
def kindsS (ks : List Kd) : Str → List Kd → Int
  | _, [] => 0
  | last, k :: r => if kindS ks k last ≠ 0 then kindS ks k last else kindsS ks k.name r
def actsS (ks : List Kd) : Str → List Ac → Int
  | _, [] => 0
  | last, a :: r => if actS ks a last ≠ 0 then actS ks a last else actsS ks a.name r
def checkS (s : Sc) : Int :=
  if 6 < s.kinds.length ∨ 6 < s.acts.length then 4
  else if kindsS s.kinds [] s.kinds ≠ 0 then kindsS s.kinds [] s.kinds
  else actsS s.kinds [] s.acts
structure Sc.tok (s : Sc) : Prop where
  k : ∀ k ∈ s.kinds, k.tok
  a : ∀ a ∈ s.acts, a.tok
theorem within5_ac {n k : Int} {σ : AState} (hk : 0 < k) (hk' : k < 4611686018427387904) : AC Try.prog 33 [.int .i64 n, .int .i64 k] σ fun v s' => s' = σ ∧ v = .int .i64 (wi n k) :=
  (within_ac (P := Try.prog) fn33 cf33 cl33 (x := n) (σ := σ) hk hk').mono fun _ _ h => ⟨h.2, h.1⟩
theorem wi_4 (n : Int) : wi n 4 = 0 ∨ wi n 4 = 1 ∨ wi n 4 = 2 ∨ wi n 4 = 3 := by have := wi_range n (n := 4) (by decide); omega
theorem wi_7 (n : Int) : wi n 7 = 0 ∨ wi n 7 = 1 ∨ wi n 7 = 2 ∨ wi n 7 = 3 ∨ wi n 7 = 4 ∨ wi n 7 = 5 ∨ wi n 7 = 6 := by have := wi_range n (n := 7) (by decide); omega
def kindN (i : Int) : Str := if i = 0 then [85, 115, 101, 114] else if i = 1 then [71, 114, 111, 117, 112] else if i = 2 then [68, 111, 99] else [84, 101, 97, 109]
def nameN (i : Int) : Str := if i = 0 then [97] else if i = 1 then [97, 103, 101] else if i = 2 then [105, 102] else if i = 3 then [99, 111, 110, 116, 97, 105, 110, 115] else if i = 4 then [112, 114, 105, 110, 99, 105, 112, 97, 108] else if i = 5 then [95, 120] else [110, 97, 109, 101]
theorem fx_int (n : Int) : Fxd (.int .i64 n) := .flat rfl
theorem kind5_ac {n : Int} {σ : AState} : AC Try.prog 44 [.int .i64 n] σ fun v s' => s' = σ ∧ v = .str (kindN (wi n 4)) := by
  refine AC.told (.cons (fx_int n) .nil) rfl ?_
  refine ac_wp fn44 cf44 cl44 rfl ?_
  simp only [ac44]
  unfold ab44
  simp only [WU, seval, strs_eq]
  refine (within5_ac (by decide) (by decide)).use ?_
  have q0 : (0 : Int) < (4 : Int) := by decide
  have q1 : (1 : Int) < (4 : Int) := by decide
  have q2 : (2 : Int) < (4 : Int) := by decide
  have q3 : (3 : Int) < (4 : Int) := by decide
  rcases wi_4 n with h | h | h | h <;> simp only [WU, seval, strs_eq, h, q0, q1, q2, q3, push_cells]
  all_goals (first | rfl | trace_state)
theorem name5_ac {n : Int} {σ : AState} : AC Try.prog 34 [.int .i64 n] σ fun v s' => s' = σ ∧ v = .str (nameN (wi n 7)) := by
  refine AC.told (.cons (fx_int n) .nil) rfl ?_
  refine ac_wp fn34 cf34 cl34 rfl ?_
  simp only [ac34]
  unfold ab34
  simp only [WU, seval, strs_eq]
  refine (within5_ac (by decide) (by decide)).use ?_
  have q0 : (0 : Int) < (7 : Int) := by decide
  have q1 : (1 : Int) < (7 : Int) := by decide
  have q2 : (2 : Int) < (7 : Int) := by decide
  have q3 : (3 : Int) < (7 : Int) := by decide
  have q4 : (4 : Int) < (7 : Int) := by decide
  have q5 : (5 : Int) < (7 : Int) := by decide
  have q6 : (6 : Int) < (7 : Int) := by decide
  rcases wi_7 n with h | h | h | h | h | h | h <;> simp only [WU, seval, strs_eq, h, q0, q1, q2, q3, q4, q5, q6, push_cells]
  all_goals (first | rfl | trace_state)
end Go.Proofs.Ytcdbpmmomgehfaa.Va
