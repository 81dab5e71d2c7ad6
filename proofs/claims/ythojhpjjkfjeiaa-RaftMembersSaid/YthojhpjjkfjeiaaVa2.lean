/- The operations, their types resolved; what each does to abstract values and abstract memory. Conditions: none. -/
import Derived.Test.YthojhpjjkfjeiaaVa1
set_option linter.unusedSimpArgs false
set_option linter.unusedVariables false
namespace Go.Proofs.Ythojhpjjkfjeiaa.Va

inductive Opd where
  | tmp (t : Nat)
  | con (v : AV)

/- How two values of a type are held against one another. -/
inductive LK where
  | b | i | s
  deriving DecidableEq
inductive ETag where
  | plain | bool | agg (l : List LK) | ptr | slice | func | no
  deriving DecidableEq

inductive AOp where
  | mv (x : Opd)
  | pick (c a b : Opd)
  | alloc (zero : List AV)
  | box (x : Opd)
  | build (zero : List AV) (parts : List (Nat × Nat × Opd))
  | bslice (sz len : Nat) (zero : List AV) (parts : List (Nat × Nat × Opd))
  | load (agg : Bool) (n : Nat) (x : Opd)
  | store (n : Nat) (a x : Opd)
  | nilck (x : Opd)
  | bin (op : BinOp) (t : ETag) (x y : Opd)
  | un (op : UnOp) (x : Opd)
  | cvInt (k : IntKind) (x : Opd)
  | cvMark (x : Opd)
  | cvSS (x : Opd)
  | cvSB (x : Opd)
  | cvBS (x : Opd)
  | mkfn (f : FuncId) (cap : List Opd)
  | mkslice (bytes sz : Nat) (zero : List AV) (len cap : Opd)
  | slStr (x : Opd) (lo hi : Option Opd)
  | slSl (sz : Nat) (x : Opd) (lo hi mx : Option Opd)
  | slArr (n sz : Nat) (x : Opd) (lo hi : Option Opd)
  | faddr (off : Nat) (x : Opd)
  | fld (agg : Bool) (n off : Nat) (x : Opd)
  | iaddr (sz : Nat) (x i : Opd)
  | iaddrA (len sz : Nat) (x i : Opd)
  | istr (x i : Opd)
  | iarr (agg : Bool) (len sz : Nat) (x i : Opd)
  | range (x : Opd)
  | next (x : Opd)
  | ext (x : Opd) (i : Nat)
  | append (sz bytes : Nat) (x y : Opd)
  | appendZ (sz bytes : Nat) (zero : List AV) (x y : Opd)
  | lenS (x : Opd)
  | lenL (x : Opd)
  | cap (x : Opd)
  | copy (sz : Nat) (x y : Opd)
  | mn (xs : List Opd)
  | mx (xs : List Opd)
  | call (f : FuncId) (args : List Opd)
  | callv (f : Opd) (args : List Opd)
  | bad

structure AOper where
  dst : Option Nat
  op : AOp
  guard : Option (Nat × Bool)     -- the temporary that tells, and what it must tell

inductive ACode where
  | skip
  | reg (ops : List AOper)
  | dreg (ops : List AOper) (acts B sl : List Nat)
  | seq (a b : ACode)
  | cond (c : Opd) (t e : ACode)
  | block (id : Nat) (c : ACode)
  | loop (c : ACode)
  | exit (id : Nat)
  | ret
  | bad

/- ---------------------------------------------------------------- reading the program's operations -/
def AV.ofScalar : Value → AV
  | .bool b => .bool b
  | .int k n => .int k n
  | .string s => .str s.data.toList
  | .pointer none => .nilp
  | .slice none 0 0 => .nils
  | .func (.func f) ⟨[]⟩ ⟨[]⟩ => .fn f []
  | .nilFunc => .nilf
  | .nilIface => .nili
  | _ => .undef
def AV.ofConst : Value → AV
  | .agg cs => .agg (cs.toList.map AV.ofScalar)
  | .tuple cs => .tup (cs.toList.map AV.ofScalar)
  | v => .ofScalar v
def Opd.of : Operand → Opd
  | .tmp t => .tmp t
  | .const v => .con (.ofConst v)
  | .func f => .con (.fn f [])
  | .global _ => .con .undef

section
variable (P : Program)
def isAggT (t : TypeId) : Option Bool := (P.underlying t).map fun | .struct _ | .array _ _ => true | _ => false
def zeroT (t : TypeId) : Option (List AV) := (P.info? t).bind fun i => i.zero.map fun v => v.cells.toList.map AV.ofScalar
def elemT (t : TypeId) : Option TypeId := (P.underlying t).bind fun | .slice e => some e | _ => none
def sizeT (t : TypeId) : Option Nat := (P.info? t).map (·.size)
def bytesT (t : TypeId) : Option Nat := (P.info? t).map (·.bytes)
/- Types whose values are held against one another cell by cell: the kinds of their cells. -/
def fieldsK (g : TypeId → Option (List LK)) : List Field → Nat → Option (List LK)
  | [], _ => some []
  | f :: r, at_ => if f.name = "_" ∨ f.offset ≠ at_ then none else
    match g f.type with
    | none => none
    | some l => (fieldsK g r (at_ + l.length)).map (l ++ ·)
def flatK : Nat → TypeId → Option (List LK)
  | 0, _ => none
  | d + 1, t =>
    match P.underlying t with
    | some .bool => if P.cellsOf t = 1 then some [.b] else none
    | some (.int _) => if P.cellsOf t = 1 then some [.i] else none
    | some .string => if P.cellsOf t = 1 then some [.s] else none
    | some (.struct fs) => if P.stoodInHeld t = true then none else
      match fieldsK (flatK d) fs.toList 0 with
      | some l => if l.length = P.cellsOf t then some l else none
      | none => none
    | _ => none
def eqTag (t : TypeId) : ETag :=
  match P.underlying t with
  | some .bool => .bool
  | some (.int _) | some .string => .plain
  | some (.struct _) => if P.eqGuardType P.depth t = true then .no else match flatK P 8 t with | some l => .agg l | none => .no
  | some (.pointer _) => .ptr
  | some (.slice _) => .slice
  | some (.func _ _ _) => .func
  | _ => .no
def partsT (sizes : Nat → Option (Nat × Nat)) : List (Nat × Operand) → Option (List (Nat × Nat × Opd))
  | [] => some []
  | (i, x) :: r =>
    match sizes i, partsT sizes r with
    | some (o, n), some l => some ((o, n, .of x) :: l)
    | _, _ => none
def structPlaces (fs : Array Field) (i : Nat) : Option (Nat × Nat) := (fs[i]?).bind fun f => (sizeT P f.type).map fun n => (f.offset, n)

def compCall (c : Call) (type : TypeId) : AOp :=
  match c.callee with
  | .value (.func f) => .call f (c.args.toList.map .of)
  | .value x => .callv (.of x) (c.args.toList.map .of)
  | .invoke _ _ => .bad
  | .builtin .len =>
    match c.args.toList, c.argTypes[0]? with
    | [x], some t => match P.underlying t with
      | some .string => .lenS (.of x)
      | some (.slice _) => .lenL (.of x)
      | _ => .bad
    | _, _ => .bad
  | .builtin .cap =>
    match c.args.toList, c.argTypes[0]? with
    | [x], some t => match P.underlying t with
      | some (.slice _) => .cap (.of x)
      | _ => .bad
    | _, _ => .bad
  | .builtin .append =>
    match c.args.toList, c.argTypes[0]?, c.argTypes[1]? with
    | [x, y], some t, some u => match elemT P t, P.underlying u with
      | some e, some d => match d with
        | .int _ => match sizeT P e, bytesT P e, zeroT P e with
          | some n, some b, some z => if n = 0 ∨ b = 0 ∨ z.length ≠ n then .bad else .appendZ n b z (.of x) (.of y)
          | _, _, _ => .bad
        | _ => match sizeT P e, bytesT P e, zeroT P e with
          | some n, some b, some z => if n = 0 ∨ b = 0 ∨ z.length ≠ n then .bad else .append n b (.of x) (.of y)
          | _, _, _ => .bad
      | _, _ => .bad
    | _, _, _ => .bad
  | .builtin .copy =>
    match c.args.toList, c.argTypes[0]? with
    | [x, y], some t => match (elemT P t).bind (sizeT P) with
      | some n => if n = 0 then .bad else .copy n (.of x) (.of y)
      | none => .bad
    | _, _ => .bad
  | .builtin .min => .mn (c.args.toList.map .of)
  | .builtin .max => .mx (c.args.toList.map .of)
  | .builtin _ => .bad

def comp (o : Oper) : AOp :=
  match o.op with
  | .move x | .assign x => .mv (.of x)
  | .pick c a b => .pick (.of c) (.of a) (.of b)
  | .alloc t => match zeroT P t with | some z => .alloc z | none => .bad
  | .box _ x => .box (.of x)
  | .build t ps =>
    match P.underlying t, zeroT P t with
    | some (.struct fs), some z =>
      match fs.toList.all (fun f => (sizeT P f.type).isSome), partsT (structPlaces P fs) ps.toList with
      | true, some l => .build z l
      | _, _ => .bad
    | some (.array _ e), some z =>
      match sizeT P e with
      | some n => match partsT (fun i => some (i * n, n)) ps.toList with
        | some l => .build z l
        | none => .bad
      | none => .bad
    | _, _ => .bad
  | .buildSlice t len ps =>
    match elemT P t with
    | some e => match sizeT P e, zeroT P e with
      | some n, some z => if n = 0 ∨ len * n > 2 ^ 24 ∨ z.length ≠ n then .bad else
        match partsT (fun i => some (i * n, n)) ps.toList with
        | some l => .bslice n len z l
        | none => .bad
      | _, _ => .bad
    | none => .bad
  | .load t x => match isAggT P t, sizeT P t with | some a, some n => .load a n (.of x) | _, _ => .bad
  | .store t a x => match sizeT P t with | some n => .store n (.of a) (.of x) | none => .bad
  | .nilCheck x => .nilck (.of x)
  | .binOp op t x y _ => .bin op (eqTag P t) (.of x) (.of y)
  | .unOp op _ x => .un op (.of x)
  | .convert s d x =>
    match P.underlying s, P.underlying d with
    | some (.int _), some (.int k) => .cvInt k (.of x)
    | some .string, some .string => .cvSS (.of x)
    | some .string, some (.slice e) => match P.underlying e with | some (.int .u8) => .cvSB (.of x) | _ => .bad
    | some (.slice e), some .string => match P.underlying e with | some (.int .u8) => .cvBS (.of x) | _ => .bad
    | some (.slice _), some (.slice e) => match P.underlying e with | some (.int .u8) => if s = d then .cvMark (.of x) else .bad | _ => .bad
    | _, _ => .bad
  | .makeFunc (.func f) first cap => if first.isEmpty then .mkfn f (cap.toList.map .of) else .bad
  | .makeSlice t l c =>
    match elemT P t with
    | some e => match sizeT P e, bytesT P e, zeroT P e with
      | some n, some b, some z => if n = 0 ∨ z.length ≠ n then .bad else .mkslice b n z (.of l) (.of c)
      | _, _, _ => .bad
    | none => .bad
  | .slice t x lo hi mx =>
    match P.underlying t with
    | some .string => if mx.isSome then .bad else .slStr (.of x) (lo.map .of) (hi.map .of)
    | some (.slice e) => match sizeT P e with | some n => if n = 0 ∨ (mx.isSome = true ∧ hi.isNone = true) then .bad else .slSl n (.of x) (lo.map .of) (hi.map .of) (mx.map .of) | none => .bad
    | some (.array n e) => match sizeT P e with | some z => if mx.isSome ∨ z = 0 then .bad else .slArr n z (.of x) (lo.map .of) (hi.map .of) | none => .bad
    | _ => .bad
  | .fieldAddr t x f =>
    match P.underlying t with
    | some (.struct fs) => match fs[f]? with
      | some fd => match sizeT P fd.type with | some n => if n = 0 then .bad else .faddr fd.offset (.of x) | none => .bad
      | none => .bad
    | _ => .bad
  | .field t x f =>
    match P.underlying t with
    | some (.struct fs) => match fs[f]? with
      | some fd => match isAggT P fd.type, sizeT P fd.type with | some a, some n => .fld a n fd.offset (.of x) | _, _ => .bad
      | none => .bad
    | _ => .bad
  | .indexAddr t x i =>
    match P.underlying t with
    | some (.slice e) => match sizeT P e with | some n => .iaddr n (.of x) (.of i) | none => .bad
    | some (.array len e) => match sizeT P e with | some n => .iaddrA len n (.of x) (.of i) | none => .bad
    | _ => .bad
  | .index t x i =>
    match P.underlying t with
    | some .string => .istr (.of x) (.of i)
    | some (.array len e) => match isAggT P e, sizeT P e with | some a, some n => .iarr a len n (.of x) (.of i) | _, _ => .bad
    | _ => .bad
  | .range t x => match P.underlying t with | some .string => .range (.of x) | _ => .bad
  | .next x true => .next (.of x)
  | .extract x i => .ext (.of x) i
  | .call c => compCall P c o.type
  | _ => .bad
end

/- ---------------------------------------------------------------- what they do -/
abbrev Env := Tr AV
def Env.rd (ρ : Env) (t : Nat) : AV := (ρ.get t).getD .undef
def Opd.ev (ρ : Env) : Opd → AV
  | .tmp t => ρ.rd t
  | .con v => v
def Env.put (ρ : Env) (d : Option Nat) (v : AV) : Env := match d with | some t => ρ.set t (some v) | none => ρ

def setl (cs : List AV) (i : Nat) : List AV → List AV
  | [] => cs
  | a :: as => setl (cs.set i a) (i + 1) as
def fillA : List AV → List (Nat × Nat × AV) → Option (List AV)
  | cs, [] => some cs
  | cs, (o, n, v) :: r =>
    match v with
    | .undef => none
    | v => bif Nat.beq v.cells.length n && Nat.ble (o + n) cs.length && v.cells.all AV.one then fillA (setl cs o v.cells) r else none

def partsV (ρ : Env) (ps : List (Nat × Nat × Opd)) : List (Nat × Nat × AV) := ps.map fun (o, n, x) => (o, n, x.ev ρ)

/- The cells of 'n' elements that hold nothing yet. -/
def rowOf (z : List AV) : Nat → List AV
  | 0 => []
  | n + 1 => z ++ rowOf z n

/- New blocks: what they hold; the value, by the block's number. -/
def allocA (o : AOp) (ρ : Env) : Option (List AV × (Nat → AV)) :=
  match o with
  | .alloc z => bif z.all AV.one then some (z, fun b => .ptr b 0) else none
  | .box x => match x.ev ρ with
    | .undef => none
    | v => bif v.cells.all AV.one then some (v.cells, fun b => .ptr b 0) else none
  | .bslice sz len z ps => bif z.all AV.one then (fillA (rowOf z len) (partsV ρ ps)).map fun cs => (cs, fun b => .sl b 0 len (some len) sz) else none
  | _ => none
/- .. with 'make'. -/
def allocD (o : AOp) (ρ : Env) : Option (List AV × (Nat → AV)) :=
  match o with
  | .mkslice bytes sz z l c =>
    match l.ev ρ, c.ev ρ with
    | .int .i64 m, .int .i64 n =>
      if 0 ≤ m ∧ m ≤ n ∧ n < 4611686018427387904 ∧ (bytes : Int) * n ≤ 140737488355328 ∧ z.all AV.one = true then
        some (rowOf z n.toNat, fun b => .sl b 0 m.toNat (some n.toNat) sz) else none
    | _, _ => none
  | .cvSB x => match x.ev ρ with | .str s => some (s.map fun b => .int .u8 b.toNat, fun b => .sl b 0 s.length none 1) | _ => none
  | o => allocA o ρ

def evalInt (op : BinOp) (k : IntKind) (a b : Int) : Option AV :=
  match op with
  | .add => some (.int k (k.wrap (a + b)))
  | .sub => some (.int k (k.wrap (a - b)))
  | .mul => some (.int k (k.wrap (a * b)))
  | .quo => if b = 0 then none else some (.int k (k.wrap (a.tdiv b)))
  | .rem => if b = 0 then none else some (.int k (a.tmod b))
  | .and => some (.int k (k.wrap (BitVec.ofInt k.bits a &&& BitVec.ofInt k.bits b).toNat))
  | .or => some (.int k (k.wrap (BitVec.ofInt k.bits a ||| BitVec.ofInt k.bits b).toNat))
  | .xor => some (.int k (k.wrap (BitVec.ofInt k.bits a ^^^ BitVec.ofInt k.bits b).toNat))
  | .andNot => some (.int k (k.wrap (BitVec.ofInt k.bits a &&& ~~~BitVec.ofInt k.bits b).toNat))
  | .eql => some (.bool (a == b))
  | .neq => some (.bool (a != b))
  | .lss => some (.bool (decide (a < b)))
  | .leq => some (.bool (decide (a ≤ b)))
  | .gtr => some (.bool (decide (a > b)))
  | .geq => some (.bool (decide (a ≥ b)))
  | .shl | .shr => none
def evalShift (op : BinOp) (k : IntKind) (a b : Int) : Option AV :=
  if b < 0 then none else
  match op with
  | .shl => some (.int k (k.wrap (a * 2 ^ (min b.toNat k.bits))))
  | .shr => some (.int k (a.fdiv (2 ^ (min b.toNat k.bits))))
  | _ => none
def evalStr (op : BinOp) (x y : List UInt8) : Option AV :=
  match op with
  | .add => bif Nat.ble (x.length + y.length) 4611686018427387904 then some (.str (x ++ y)) else none
  | .eql => some (.bool (x == y))
  | .neq => some (.bool !(x == y))
  | .lss => some (.bool (Op.bytesLess x y))
  | .leq => some (.bool (Op.bytesLess x y || x == y))
  | .gtr => some (.bool !(Op.bytesLess x y || x == y))
  | .geq => some (.bool !(Op.bytesLess x y))
  | _ => none
/- Cells held against one another. -/
def eqCell : LK → AV → AV → Option Bool
  | .i, .int k a, .int k' b => if k = k' then some (a == b) else none
  | .b, .bool a, .bool b => some (a == b)
  | .s, .str a, .str b => some (a == b)
  | _, _, _ => none
def eqCells : List LK → List AV → List AV → Option Bool
  | [], [], [] => some true
  | l :: ls, a :: x, b :: y => match eqCell l a b, eqCells ls x y with
    | some p, some q => some (p && q)
    | _, _ => none
  | _, _, _ => none
def evalEq (t : ETag) (x y : AV) : Option Bool :=
  match t, x, y with
  | .bool, .bool a, .bool b => some (a == b)
  | .agg l, .agg a, .agg b => eqCells l a b
  | .ptr, .nilp, .nilp => some true
  | .ptr, .nilp, .ptr _ _ => some false
  | .ptr, .nilp, .pptr _ _ => some false
  | .ptr, .ptr _ _, .nilp => some false
  | .ptr, .pptr _ _, .nilp => some false
  | .slice, .nils, .nils => some true
  | .slice, .nils, .sl _ _ _ _ _ => some false
  | .slice, .nils, .psl _ _ (_ + 1) => some false
  | .slice, .sl _ _ _ _ _, .nils => some false
  | .slice, .psl _ _ (_ + 1), .nils => some false
  | .slice, .nils, .pse => some false
  | .slice, .pse, .nils => some false
  | .func, .nilf, .nilf => some true
  | .func, .nilf, .fn _ _ => some false
  | .func, .fn _ _, .nilf => some false
  | _, _, _ => none
def evalBin (op : BinOp) (t : ETag) (x y : AV) : Option AV :=
  match x, y with
  | .int k a, .int k' b =>
    match op with
    | .shl | .shr => evalShift op k a b
    | _ => if k = k' then evalInt op k a b else none
  | .str a, .str b => evalStr op a b
  | _, _ =>
    match op with
    | .eql => (evalEq t x y).map .bool
    | .neq => (evalEq t x y).map fun b => .bool !b
    | _ => none
def evalUn (op : UnOp) (x : AV) : Option AV :=
  match op, x with
  | .not, .bool b => some (.bool !b)
  | .neg, .int k n => some (.int k (k.wrap (0 - n)))
  | .xor, .int k n => evalInt .xor k (if k.signed then -1 else k.max) n
  | _, _ => none

def asIdx : AV → Option Int
  | .int _ n => some n
  | _ => none

def u8s : List AV → Option (List UInt8)
  | [] => some []
  | .int .u8 n :: r => (u8s r).map (UInt8.ofNat n.toNat :: ·)
  | _ => none
def ofU8s (l : List UInt8) : List AV := l.map fun b => .int .u8 b.toNat

/- The cells that 'n' elements from a slice's begin hold. -/
def firstA (σ : AState) (sz n : Nat) (x : AV) : Option (List AV) :=
  bif Nat.beq n 0 then some [] else
  match x with
  | .str s => bif Nat.ble n s.length then some (ofU8s (s.take n)) else none
  | x => match base σ x with
    | some (cs, off) => bif Nat.ble (off + n * sz) cs.length then some (seg cs off (n * sz)) else none
    | none => none

def optIdx (ρ : Env) (d : Int) : Option Opd → Option Int
  | none => some d
  | some x => asIdx (x.ev ρ)

/- Writing cells. -/
def storeA (σ : AState) (p : AV) (vs : List AV) : Option AState :=
  match p with
  | .ptr b off => match σ.cells b with
    | some cs => bif Nat.ble (off + vs.length) cs.length && vs.all AV.one then some (σ.put b (sets cs off vs)) else none
    | none => none
  | _ => none

def appendA (σ : AState) (sz bytes : Nat) (x y : AV) : Option (AV × AState) :=
  match x.len, y.len with
  | some m, some n =>
    match firstA σ sz n y with
    | some new =>
      bif Nat.ble ((2 * (m + n) + 1024) * bytes) 140737488355328 && new.all AV.one && Nat.beq new.length (n * sz) then
        match x with
        | .nils => bif Nat.beq n 0 then some (.nils, σ) else some (.sl σ.n 0 n none sz, σ.push (.cells new))
        | .psl cs off l => bif Nat.beq n 0 then some (.psl cs off l, σ) else none
        | .sl b off l cap sz' =>
          match σ.cells b with
          | some cs =>
            bif Nat.beq sz' sz && Nat.ble (off + m * sz) cs.length then
              match cap with
              | some c => bif Nat.ble (m + n) c then some (.sl σ.n 0 (m + n) (some c) sz, (σ.kill b).push (.cells (seg cs off (m * sz) ++ new)))
                else some (.sl σ.n 0 (m + n) none sz, σ.push (.cells (seg cs off (m * sz) ++ new)))
              | none => some (.sl σ.n 0 (m + n) none sz, (σ.kill b).push (.cells (seg cs off (m * sz) ++ new)))
            else none
          | none => none
        | _ => none
      else none
    | none => none
  | _, _ => none

def minMaxA (mx : Bool) : AV → List AV → Option AV
  | .int k x, [] => some (.int k x)
  | .int k x, .int _ y :: r => minMaxA mx (.int k (if mx then (if y > x then y else x) else (if y < x then y else x))) r
  | _, _ => none

def evalA (o : AOp) (ρ : Env) (σ : AState) : Option (AV × AState) :=
  match o with
  | .mv x => some (x.ev ρ, σ)
  | .pick c a b => match c.ev ρ with | .bool t => some (bif t then a.ev ρ else b.ev ρ, σ) | _ => none
  | .alloc z => (allocA (.alloc z) ρ).map fun r => (r.2 σ.n, σ.push (.cells r.1))
  | .box x => (allocA (.box x) ρ).map fun r => (r.2 σ.n, σ.push (.cells r.1))
  | .bslice s l z ps => (allocA (.bslice s l z ps) ρ).map fun r => (r.2 σ.n, σ.push (.cells r.1))
  | .build z ps => (fillA z (partsV ρ ps)).map fun cs => (.agg cs, σ)
  | .load agg n x =>
    match x.ev ρ with
    | .ptr b off => match σ.cells b with
      | some cs => bif agg then (bif Nat.ble (off + n) cs.length then some (.agg (seg cs off n), σ) else none) else (cs[off]?).map (·, σ)
      | none => none
    | .pptr cs off => bif agg then (bif Nat.ble (off + n) cs.length then some (.agg (seg cs off n), σ) else none) else (cs[off]?).map (·, σ)
    | _ => none
  | .store n a x =>
    match x.ev ρ with
    | .undef => none
    | v => bif Nat.beq v.cells.length n then (storeA σ (a.ev ρ) v.cells).map (.undef, ·) else none
  | .nilck x => match x.ev ρ with
    | .ptr b off => some (.ptr b off, σ)
    | .pptr cs off => some (.pptr cs off, σ)
    | .fn f cap => some (.fn f cap, σ)
    | .sl b off len cap sz => some (.sl b off len cap sz, σ)
    | _ => none
  | .bin op t x y => (evalBin op t (x.ev ρ) (y.ev ρ)).map (·, σ)
  | .un op x => (evalUn op (x.ev ρ)).map (·, σ)
  | .cvInt k x => match x.ev ρ with | .int _ n => some (.int k (k.wrap n), σ) | _ => none
  | .cvSS x => match x.ev ρ with | .str s => some (.str s, σ) | _ => none
  | .cvMark x => match x.ev ρ with
    | .sl b off (l + 1) cap sz => (σ.cells b).map fun _ => (.sl b off (l + 1) cap sz, σ)
    | _ => none
  | .cvSB x => (allocD (.cvSB x) ρ).map fun r => (r.2 σ.n, σ.push (.cells r.1))
  | .cvBS x => match (x.ev ρ), (x.ev ρ).len with
    | .nils, _ => some (.str [], σ)
    | .sl b off l cap sz, some n => match firstA σ 1 n (.sl b off l cap sz) with | some cs => (u8s cs).map fun s => (.str s, σ) | none => none
    | .psl b off l, some n => match firstA σ 1 n (.psl b off l) with | some cs => (u8s cs).map fun s => (.str s, σ) | none => none
    | _, _ => none
  | .mkfn f cap => some (.fn f (cap.map (·.ev ρ)), σ)
  | .mkslice bytes sz z l c => (allocD (.mkslice bytes sz z l c) ρ).map fun r => (r.2 σ.n, σ.push (.cells r.1))
  | .slStr x lo hi =>
    match x.ev ρ with
    | .str s => match optIdx ρ 0 lo, optIdx ρ s.length hi with
      | some l, some h => if 0 ≤ l ∧ l ≤ h ∧ h ≤ s.length then some (.str ((s.drop l.toNat).take (h.toNat - l.toNat)), σ) else none
      | _, _ => none
    | _ => none
  | .slSl sz x lo hi mx =>
    match x.ev ρ with
    | .nils => match optIdx ρ 0 lo, optIdx ρ 0 hi, optIdx ρ 0 mx with
      | some 0, some 0, some 0 => some (.nils, σ)
      | _, _, _ => none
    | .psl cs off len => match optIdx ρ 0 lo, optIdx ρ len hi, mx with
      | some l, some h, none => if 0 ≤ l ∧ l ≤ h ∧ h ≤ len then some (.psl cs (off + l.toNat * sz) (h.toNat - l.toNat), σ) else none
      | _, _, _ => none
    | .sl b off len cap sz' =>
      bif Nat.beq sz' sz then
        match optIdx ρ 0 lo, optIdx ρ len hi, mx with
        | some l, some h, none => if 0 ≤ l ∧ l ≤ h ∧ h ≤ (cap.getD len : Nat) then some (.sl b (off + l.toNat * sz) (h.toNat - l.toNat) (cap.map (· - l.toNat)) sz, σ) else none
        | some l, some h, some m => match asIdx (m.ev ρ) with
          | some m => if 0 ≤ l ∧ l ≤ h ∧ h ≤ m ∧ m ≤ (cap.getD len : Nat) then some (.sl b (off + l.toNat * sz) (h.toNat - l.toNat) (some (m.toNat - l.toNat)) sz, σ) else none
          | none => none
        | _, _, _ => none
      else none
    | _ => none
  | .slArr n sz x lo hi =>
    match x.ev ρ with
    | .ptr b off => match optIdx ρ 0 lo, optIdx ρ n hi, σ.cells b with
      | some l, some h, some cs => if 0 ≤ l ∧ l ≤ h ∧ h ≤ n ∧ off + n * sz ≤ cs.length then some (.sl b (off + l.toNat * sz) (h.toNat - l.toNat) (some (n - l.toNat)) sz, σ) else none
      | _, _, _ => none
    | _ => none
  | .faddr off x => match x.ev ρ with
    | .ptr b o => some (.ptr b (o + off), σ)
    | .pptr cs o => some (.pptr cs (o + off), σ)
    | _ => none
  | .fld agg n off x => match x.ev ρ with
    | .agg cs => bif agg then (bif Nat.ble (off + n) cs.length then some (.agg (seg cs off n), σ) else none) else (cs[off]?).map (·, σ)
    | _ => none
  | .iaddr sz x i => match x.ev ρ, asIdx (i.ev ρ) with
    | .sl b off len _ _, some n => if 0 ≤ n ∧ n < len then some (.ptr b (off + n.toNat * sz), σ) else none
    | .psl cs off len, some n => if 0 ≤ n ∧ n < len then some (.pptr cs (off + n.toNat * sz), σ) else none
    | _, _ => none
  | .iaddrA len sz x i => match x.ev ρ, asIdx (i.ev ρ) with
    | .ptr b off, some n => if 0 ≤ n ∧ n < len then some (.ptr b (off + n.toNat * sz), σ) else none
    | .pptr cs off, some n => if 0 ≤ n ∧ n < len then some (.pptr cs (off + n.toNat * sz), σ) else none
    | _, _ => none
  | .istr x i => match x.ev ρ, asIdx (i.ev ρ) with
    | .str s, some n => if 0 ≤ n then (s[n.toNat]?).map fun b => (.int .u8 b.toNat, σ) else none
    | _, _ => none
  | .iarr agg len sz x i => match x.ev ρ, asIdx (i.ev ρ) with
    | .agg cs, some n => if 0 ≤ n ∧ n < len then
        (bif agg then (bif Nat.ble (n.toNat * sz + sz) cs.length then some (.agg (seg cs (n.toNat * sz) sz), σ) else none) else (cs[n.toNat * sz]?).map (·, σ)) else none
    | _, _ => none
  | .range x => match x.ev ρ with | .str s => some (.ptr σ.n 0, σ.push (.iter s 0)) | _ => none
  | .next x => match x.ev ρ with
    | .ptr b 0 => match σ.h.get b with
      | some (.iter s pos) => if pos < s.length then
          let d := Utf8.decode ⟨s.toArray⟩ pos
          some (.tup [.bool true, .int .i64 pos, .int .i32 d.1], { σ with h := σ.h.set b (some (.iter s (pos + d.2))) })
        else some (.tup [.bool false], σ)
      | _ => none
    | _ => none
  | .ext x i => match x.ev ρ with | .tup vs => (vs[i]?).map (·, σ) | _ => none
  | .append sz bytes x y => appendA σ sz bytes (x.ev ρ) (y.ev ρ)
  | .appendZ sz bytes z x y => match x.ev ρ, y.ev ρ with
    | .nils, .int .i64 n => if 1 ≤ n ∧ n < 4611686018427387904 ∧ 2 * n * bytes ≤ 140737488355328 ∧ z.all AV.one = true then some (.sl σ.n 0 n.toNat none sz, σ.push (.cells (rowOf z n.toNat))) else none
    | _, _ => none
  | .lenS x => match x.ev ρ with | .str l => some (.int .i64 l.length, σ) | _ => none
  | .lenL x => match x.ev ρ with
    | .sl _ _ n _ _ => some (.int .i64 n, σ)
    | .psl _ _ n => some (.int .i64 n, σ)
    | .nils => some (.int .i64 0, σ)
    | .pse => some (.int .i64 0, σ)
    | _ => none
  | .cap x => match x.ev ρ with
    | .nils => some (.int .i64 0, σ)
    | .sl _ _ _ (some c) _ => some (.int .i64 c, σ)
    | _ => none
  | .copy sz x y => match x.ev ρ, (y.ev ρ).len with
    | .sl b off dl _ sz', some sn =>
      let n := min sn dl
      match firstA σ sz n (y.ev ρ) with
      | some cs => bif Nat.beq sz' sz && Nat.beq cs.length (n * sz) then (bif Nat.beq n 0 then some (.int .i64 0, σ) else (storeA σ (.ptr b off) cs).map (.int .i64 n, ·)) else none
      | none => none
    | .nils, some _ => some (.int .i64 0, σ)
    | _, _ => none
  | .mn xs => match xs.map (·.ev ρ) with | x :: r => (minMaxA false x r).map (·, σ) | [] => none
  | .mx xs => match xs.map (·.ev ρ) with | x :: r => (minMaxA true x r).map (·, σ) | [] => none
  | .call _ _ => none
  | .callv _ _ => none
  | .bad => none
end Go.Proofs.Ythojhpjjkfjeiaa.Va
