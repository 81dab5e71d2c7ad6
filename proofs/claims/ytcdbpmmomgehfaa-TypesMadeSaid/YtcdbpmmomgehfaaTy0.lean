/- Schemas as plain Lean data, and as cells. Conditions: none. -/
import Derived.Test.YtcdbpmmomgehfaaTab
import Derived.Test.YtcdbpmmomgehfaaVaM
set_option linter.all false
namespace Go.Proofs.Ytcdbpmmomgehfaa.Va
open Go.Proofs

abbrev Str := List UInt8
def Most : Nat := 9223372036854775807
structure Ty where
  kind : Int
  of_ : Int
  name : Str
structure Fl where
  name : Str
  ty : Ty
structure Kd where
  name : Str
  parents : List Str
  fields : List Fl
structure Ac where
  name : Str
  prins : List Str
  ress : List Str
structure Sc where
  kinds : List Kd
  acts : List Ac
def strs (l : List Str) : AV := .psl (l.map .str) 0 l.length
def Ty.c (t : Ty) : List AV := [.int .i64 t.kind, .int .i64 t.of_, .str t.name]
def Fl.c (f : Fl) : List AV := [.str f.name, .int .i64 f.ty.kind, .int .i64 f.ty.of_, .str f.ty.name]
def Kd.c (k : Kd) : List AV := [.str k.name, strs k.parents, slc Fl.c k.fields]
def Ac.c (a : Ac) : List AV := [.str a.name, strs a.prins, strs a.ress]
def Sc.c (s : Sc) : List AV := [slc Kd.c s.kinds, slc Ac.c s.acts]
def Kd.ok (k : Kd) : Prop := k.parents.length ≤ Most ∧ k.fields.length ≤ Most
def Ac.ok (a : Ac) : Prop := a.prins.length ≤ Most ∧ a.ress.length ≤ Most
structure Sc.ok (s : Sc) : Prop where
  kl : s.kinds.length ≤ Most
  al : s.acts.length ≤ Most
  k : ∀ k ∈ s.kinds, k.ok
  a : ∀ a ∈ s.acts, a.ok

theorem strs_eq (l : List Str) : strs l = .psl (l.map .str) 0 l.length := Eq.trans rfl rfl
theorem Sc.c_eq (s : Sc) : s.c = [slc Kd.c s.kinds, slc Ac.c s.acts] := Eq.trans rfl rfl
theorem Kd.c_eq (k : Kd) : k.c = [.str k.name, strs k.parents, slc Fl.c k.fields] := Eq.trans rfl rfl
theorem Ac.c_eq (a : Ac) : a.c = [.str a.name, strs a.prins, strs a.ress] := Eq.trans rfl rfl
theorem Fl.c_eq (f : Fl) : f.c = [.str f.name, .int .i64 f.ty.kind, .int .i64 f.ty.of_, .str f.ty.name] := Eq.trans rfl rfl
theorem Ty.c_eq (t : Ty) : t.c = [.int .i64 t.kind, .int .i64 t.of_, .str t.name] := Eq.trans rfl rfl
theorem Fl.c_len (f : Fl) : f.c.length = 4 := rfl
theorem Kd.c_len (k : Kd) : k.c.length = 3 := rfl
theorem Ac.c_len (a : Ac) : a.c.length = 3 := rfl
theorem strs_fxd (l : List Str) : Fxd (strs l) := .psl fun a ha => by
  obtain ⟨x, _, rfl⟩ := List.mem_map.1 ha
  exact Fxd.flat rfl
theorem Ty.fxd (t : Ty) : FxdL t.c := .cons (.flat rfl) (.cons (.flat rfl) (.cons (.flat rfl) .nil))
theorem Fl.fxd (f : Fl) : FxdL f.c := .cons (.flat rfl) (.cons (.flat rfl) (.cons (.flat rfl) (.cons (.flat rfl) .nil)))
theorem Kd.fxd (k : Kd) : FxdL k.c := .cons (.flat rfl) (.cons (strs_fxd _) (.cons (slc_fxd Fl.fxd _) .nil))
theorem Ac.fxd (a : Ac) : FxdL a.c := .cons (.flat rfl) (.cons (strs_fxd _) (.cons (strs_fxd _) .nil))
theorem Sc.fxd (s : Sc) : FxdL s.c := .cons (slc_fxd Kd.fxd _) (.cons (slc_fxd Ac.fxd _) .nil)

theorem strs_get {l : List Str} {i : Nat} (h : i < l.length) : (l.map AV.str)[i]? = some (.str l[i]) := by simp [h]
structure KdAt (ks : List Kd) (i : Nat) (h : i < ks.length) : Prop where
  fit : i * 3 + 3 ≤ (rowc Kd.c ks).length
  all : seg (rowc Kd.c ks) (i * 3) 3 = [.str ks[i].name, strs ks[i].parents, slc Fl.c ks[i].fields]
  g0 : (rowc Kd.c ks)[i * 3]? = some (.str ks[i].name)
  g1 : (rowc Kd.c ks)[i * 3 + 1]? = some (strs ks[i].parents)
  g2 : (rowc Kd.c ks)[i * 3 + 2]? = some (slc Fl.c ks[i].fields)
theorem kdAt {ks : List Kd} {i : Nat} (h : i < ks.length) : KdAt ks i h :=
  ⟨rowc_fit Kd.c_len h, rowc_seg Kd.c_len h, rowc_get0 Kd.c_len h (by decide), rowc_get Kd.c_len h (by decide), rowc_get Kd.c_len h (by decide)⟩
structure AcAt (ks : List Ac) (i : Nat) (h : i < ks.length) : Prop where
  fit : i * 3 + 3 ≤ (rowc Ac.c ks).length
  all : seg (rowc Ac.c ks) (i * 3) 3 = [.str ks[i].name, strs ks[i].prins, strs ks[i].ress]
  g0 : (rowc Ac.c ks)[i * 3]? = some (.str ks[i].name)
  g1 : (rowc Ac.c ks)[i * 3 + 1]? = some (strs ks[i].prins)
  g2 : (rowc Ac.c ks)[i * 3 + 2]? = some (strs ks[i].ress)
theorem acAt {ks : List Ac} {i : Nat} (h : i < ks.length) : AcAt ks i h :=
  ⟨rowc_fit Ac.c_len h, rowc_seg Ac.c_len h, rowc_get0 Ac.c_len h (by decide), rowc_get Ac.c_len h (by decide), rowc_get Ac.c_len h (by decide)⟩
structure FlAt (fs : List Fl) (i : Nat) (h : i < fs.length) : Prop where
  fit : i * 4 + 4 ≤ (rowc Fl.c fs).length
  fit1 : i * 4 + 1 + 3 ≤ (rowc Fl.c fs).length
  all : seg (rowc Fl.c fs) (i * 4) 4 = [.str fs[i].name, .int .i64 fs[i].ty.kind, .int .i64 fs[i].ty.of_, .str fs[i].ty.name]
  ty : seg (rowc Fl.c fs) (i * 4 + 1) 3 = [.int .i64 fs[i].ty.kind, .int .i64 fs[i].ty.of_, .str fs[i].ty.name]
  g0 : (rowc Fl.c fs)[i * 4]? = some (.str fs[i].name)
  g1 : (rowc Fl.c fs)[i * 4 + 1]? = some (.int .i64 fs[i].ty.kind)
  g2 : (rowc Fl.c fs)[i * 4 + 2]? = some (.int .i64 fs[i].ty.of_)
  g3 : (rowc Fl.c fs)[i * 4 + 3]? = some (.str fs[i].ty.name)
theorem flAt {fs : List Fl} {i : Nat} (h : i < fs.length) : FlAt fs i h :=
  ⟨rowc_fit Fl.c_len h, rowc_fit Fl.c_len h, rowc_seg Fl.c_len h, (rowc_seg_in Fl.c_len (j := 1) (n := 3) h (by decide)).trans rfl, rowc_get0 Fl.c_len h (by decide), rowc_get Fl.c_len h (by decide), rowc_get Fl.c_len h (by decide), rowc_get Fl.c_len h (by decide)⟩

/- ------------------------------------------------ what the document says -/
def hasS (ks : List Kd) (n : Str) : Bool := ks.any fun k => decide (k.name = n)
def kindOfS (ks : List Kd) (t : Ty) : Int :=
  if t.kind < 1 ∨ t.kind > 5 then 3
  else if t.kind = 5 ∧ (t.of_ < 1 ∨ t.of_ > 4) then 3
  else if t.kind ≠ 5 ∧ t.of_ ≠ 0 then 1
  else
    let named := t.kind = 4 ∨ t.kind = 5 ∧ t.of_ = 4
    if ¬ named ∧ t.name ≠ [] then 1
    else if named ∧ hasS ks t.name = false then 2
    else 0
end Go.Proofs.Ytcdbpmmomgehfaa.Va
