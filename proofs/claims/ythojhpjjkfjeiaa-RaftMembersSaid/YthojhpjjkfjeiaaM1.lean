/- Texts Rq0 to Rq3 of this claim, in one. Conditions: none. -/
import Derived.Test.YthojhpjjkfjeiaaTab
import Derived.Test.YthojhpjjkfjeiaaVaX
set_option maxRecDepth 100000
set_option maxHeartbeats 4000000
set_option linter.all false
namespace Go.Proofs.Ythojhpjjkfjeiaa.Va
open Go.Proofs
abbrev Byts := List UInt8
def bytesP (l : Byts) : AV := .psl (ofU8s l) 0 l.length
def intsP (l : List Int) : AV := .psl (ofInts l) 0 l.length
def natsP (l : List Nat) : AV := .psl (l.map fun n : Nat => .int .i64 (n : Int)) 0 l.length
/- An entry that is kept. -/
structure Ent where
  term : Nat
  kind : Nat
  data : Byts
  mem : List Int
def Ent.c (e : Ent) : List AV := [.int .i64 (e.term : Int), .int .i64 (e.kind : Int), bytesP e.data, intsP e.mem]
structure Peer where
  next : Nat
  match_ : Nat
  told : Nat
  heard : Bool
  seq : Nat
def Peer.c (p : Peer) : List AV := [.int .i64 (p.next : Int), .int .i64 (p.match_ : Int), .int .i64 (p.told : Int), .bool p.heard, .int .i64 (p.seq : Int)]
def peer0 : Peer := ⟨0, 0, 0, false, 0⟩
structure Snap where
  index : Nat
  term : Nat
  mem : List Int
  data : Byts
structure Wait where
  id : Int
  index : Nat
  seq : Nat
def Wait.c (w : Wait) : List AV := [.int .i64 w.id, .int .i64 (w.index : Int), .int .i64 (w.seq : Int)]
structure Rd where
  id : Int
  index : Nat
def Rd.c (w : Rd) : List AV := [.int .i64 w.id, .int .i64 (w.index : Int)]
/- A message. -/
structure Msg where
  src : Nat
  to : Nat
  kind : Nat
  term : Nat
  index : Nat
  last : Nat
  commit : Nat
  seq : Nat
  yes : Bool
  terms : List Nat
  kinds : List Nat
  entries : List Byts
  mem : List Int
  data : Byts
def rowsP (l : List Byts) : AV := .psl (l.map bytesP) 0 l.length
def Msg.c (m : Msg) : List AV := [.int .i64 (m.src : Int), .int .i64 (m.to : Int), .int .i64 (m.kind : Int), .int .i64 (m.term : Int), .int .i64 (m.index : Int), .int .i64 (m.last : Int), .int .i64 (m.commit : Int), .int .i64 (m.seq : Int), .bool m.yes,
  natsP m.terms, natsP m.kinds, rowsP m.entries, intsP m.mem, bytesP m.data]
/- A core. -/
structure Core where
  snap : Snap
  l : List Ent
  id : Nat
  term : Nat
  vote : Int
  commit : Nat
  role : Nat
  yes : List Int
  peers : List Peer
  seq : Nat
  waits : List Wait
  reads : List Rd
  left : Int
  draw : Int
  beat : Nat
  out : List Msg
/- Its rows, as they lie in memory. -/
structure Rws where
  l : AV
  yes : AV
  waits : AV
  reads : AV
  out : AV
def Core.peer (c : Core) (k : Nat) : Peer := c.peers.getD k peer0

def coreC (c : Core) (R : Rws) : List AV := [.int .i64 (c.snap.index : Int), .int .i64 (c.snap.term : Int), intsP c.snap.mem, bytesP c.snap.data, R.l, .int .i64 (c.id : Int), .int .i64 (c.term : Int), .int .i64 c.vote, .int .i64 (c.commit : Int), .int .i64 (c.role : Int), R.yes, .int .i64 ((c.peer 0).next : Int), .int .i64 ((c.peer 0).match_ : Int), .int .i64 ((c.peer 0).told : Int), .bool (c.peer 0).heard, .int .i64 ((c.peer 0).seq : Int), .int .i64 ((c.peer 1).next : Int), .int .i64 ((c.peer 1).match_ : Int), .int .i64 ((c.peer 1).told : Int), .bool (c.peer 1).heard, .int .i64 ((c.peer 1).seq : Int), .int .i64 ((c.peer 2).next : Int), .int .i64 ((c.peer 2).match_ : Int), .int .i64 ((c.peer 2).told : Int), .bool (c.peer 2).heard, .int .i64 ((c.peer 2).seq : Int), .int .i64 ((c.peer 3).next : Int), .int .i64 ((c.peer 3).match_ : Int), .int .i64 ((c.peer 3).told : Int), .bool (c.peer 3).heard, .int .i64 ((c.peer 3).seq : Int), .int .i64 ((c.peer 4).next : Int), .int .i64 ((c.peer 4).match_ : Int), .int .i64 ((c.peer 4).told : Int), .bool (c.peer 4).heard, .int .i64 ((c.peer 4).seq : Int), .int .i64 ((c.peer 5).next : Int), .int .i64 ((c.peer 5).match_ : Int), .int .i64 ((c.peer 5).told : Int), .bool (c.peer 5).heard, .int .i64 ((c.peer 5).seq : Int), .int .i64 ((c.peer 6).next : Int), .int .i64 ((c.peer 6).match_ : Int), .int .i64 ((c.peer 6).told : Int), .bool (c.peer 6).heard, .int .i64 ((c.peer 6).seq : Int), .int .i64 (c.seq : Int), R.waits, R.reads, .int .i64 c.left, .int .i64 c.draw, .int .i64 (c.beat : Int), R.out]
theorem coreC_len (c : Core) (R : Rws) : (coreC c R).length = 53 := rfl
theorem cg0 (c : Core) (R : Rws) : (coreC c R)[0]? = some (.int .i64 (c.snap.index : Int)) := rfl
theorem cg1 (c : Core) (R : Rws) : (coreC c R)[1]? = some (.int .i64 (c.snap.term : Int)) := rfl
theorem cg2 (c : Core) (R : Rws) : (coreC c R)[2]? = some (intsP c.snap.mem) := rfl
theorem cg3 (c : Core) (R : Rws) : (coreC c R)[3]? = some (bytesP c.snap.data) := rfl
theorem cg4 (c : Core) (R : Rws) : (coreC c R)[4]? = some (R.l) := rfl
theorem cg5 (c : Core) (R : Rws) : (coreC c R)[5]? = some (.int .i64 (c.id : Int)) := rfl
theorem cg6 (c : Core) (R : Rws) : (coreC c R)[6]? = some (.int .i64 (c.term : Int)) := rfl
theorem cg7 (c : Core) (R : Rws) : (coreC c R)[7]? = some (.int .i64 c.vote) := rfl
theorem cg8 (c : Core) (R : Rws) : (coreC c R)[8]? = some (.int .i64 (c.commit : Int)) := rfl
theorem cg9 (c : Core) (R : Rws) : (coreC c R)[9]? = some (.int .i64 (c.role : Int)) := rfl
theorem cg10 (c : Core) (R : Rws) : (coreC c R)[10]? = some (R.yes) := rfl
theorem cg46 (c : Core) (R : Rws) : (coreC c R)[46]? = some (.int .i64 (c.seq : Int)) := rfl
theorem cg47 (c : Core) (R : Rws) : (coreC c R)[47]? = some (R.waits) := rfl
theorem cg48 (c : Core) (R : Rws) : (coreC c R)[48]? = some (R.reads) := rfl
theorem cg49 (c : Core) (R : Rws) : (coreC c R)[49]? = some (.int .i64 c.left) := rfl
theorem cg50 (c : Core) (R : Rws) : (coreC c R)[50]? = some (.int .i64 c.draw) := rfl
theorem cg51 (c : Core) (R : Rws) : (coreC c R)[51]? = some (.int .i64 (c.beat : Int)) := rfl
theorem cg52 (c : Core) (R : Rws) : (coreC c R)[52]? = some (R.out) := rfl
theorem cp0 {k : Nat} (h : k < 7) (c : Core) (R : Rws) : (coreC c R)[11 + k * 5 + 0]? = some (.int .i64 ((c.peer k).next : Int)) := by
  match k, h with
  | 0, _ => rfl
  | 1, _ => rfl
  | 2, _ => rfl
  | 3, _ => rfl
  | 4, _ => rfl
  | 5, _ => rfl
  | 6, _ => rfl
theorem cp1 {k : Nat} (h : k < 7) (c : Core) (R : Rws) : (coreC c R)[11 + k * 5 + 1]? = some (.int .i64 ((c.peer k).match_ : Int)) := by
  match k, h with
  | 0, _ => rfl
  | 1, _ => rfl
  | 2, _ => rfl
  | 3, _ => rfl
  | 4, _ => rfl
  | 5, _ => rfl
  | 6, _ => rfl
theorem cp2 {k : Nat} (h : k < 7) (c : Core) (R : Rws) : (coreC c R)[11 + k * 5 + 2]? = some (.int .i64 ((c.peer k).told : Int)) := by
  match k, h with
  | 0, _ => rfl
  | 1, _ => rfl
  | 2, _ => rfl
  | 3, _ => rfl
  | 4, _ => rfl
  | 5, _ => rfl
  | 6, _ => rfl
theorem cp3 {k : Nat} (h : k < 7) (c : Core) (R : Rws) : (coreC c R)[11 + k * 5 + 3]? = some (.bool (c.peer k).heard) := by
  match k, h with
  | 0, _ => rfl
  | 1, _ => rfl
  | 2, _ => rfl
  | 3, _ => rfl
  | 4, _ => rfl
  | 5, _ => rfl
  | 6, _ => rfl
theorem cp4 {k : Nat} (h : k < 7) (c : Core) (R : Rws) : (coreC c R)[11 + k * 5 + 4]? = some (.int .i64 ((c.peer k).seq : Int)) := by
  match k, h with
  | 0, _ => rfl
  | 1, _ => rfl
  | 2, _ => rfl
  | 3, _ => rfl
  | 4, _ => rfl
  | 5, _ => rfl
  | 6, _ => rfl
theorem cp0' {k : Nat} (h : k < 7) (c : Core) (R : Rws) : (coreC c R)[11 + k * 5]? = some (.int .i64 ((c.peer k).next : Int)) := cp0 h c R
theorem cs4 (c : Core) (R : Rws) (x : AV) : setx (coreC c R) 4 (x) = coreC c { R with l := x } := rfl
theorem cs6 (c : Core) (R : Rws) (n : Nat) : setx (coreC c R) 6 (.int .i64 (n : Int)) = coreC { c with term := n } R := rfl
theorem cs7 (c : Core) (R : Rws) (n : Int) : setx (coreC c R) 7 (.int .i64 n) = coreC { c with vote := n } R := rfl
theorem cs8 (c : Core) (R : Rws) (n : Nat) : setx (coreC c R) 8 (.int .i64 (n : Int)) = coreC { c with commit := n } R := rfl
theorem cs9 (c : Core) (R : Rws) (n : Nat) : setx (coreC c R) 9 (.int .i64 (n : Int)) = coreC { c with role := n } R := rfl
theorem cs10 (c : Core) (R : Rws) (x : AV) : setx (coreC c R) 10 (x) = coreC c { R with yes := x } := rfl
theorem cs46 (c : Core) (R : Rws) (n : Nat) : setx (coreC c R) 46 (.int .i64 (n : Int)) = coreC { c with seq := n } R := rfl
theorem cs47 (c : Core) (R : Rws) (x : AV) : setx (coreC c R) 47 (x) = coreC c { R with waits := x } := rfl
theorem cs48 (c : Core) (R : Rws) (x : AV) : setx (coreC c R) 48 (x) = coreC c { R with reads := x } := rfl
theorem cs49 (c : Core) (R : Rws) (n : Int) : setx (coreC c R) 49 (.int .i64 n) = coreC { c with left := n } R := rfl
theorem cs50 (c : Core) (R : Rws) (n : Int) : setx (coreC c R) 50 (.int .i64 n) = coreC { c with draw := n } R := rfl
theorem cs51 (c : Core) (R : Rws) (n : Nat) : setx (coreC c R) 51 (.int .i64 (n : Int)) = coreC { c with beat := n } R := rfl
theorem cs52 (c : Core) (R : Rws) (x : AV) : setx (coreC c R) 52 (x) = coreC c { R with out := x } := rfl
theorem cs9z (c : Core) (R : Rws) : setx (coreC c R) 9 (.int .i64 0) = coreC { c with role := 0 } R := rfl
theorem cs9o (c : Core) (R : Rws) : setx (coreC c R) 9 (.int .i64 1) = coreC { c with role := 1 } R := rfl
theorem cs9t (c : Core) (R : Rws) : setx (coreC c R) 9 (.int .i64 2) = coreC { c with role := 2 } R := rfl
theorem cs0 (c : Core) (R : Rws) (s : Snap) : sets (coreC c R) 0 [.int .i64 (s.index : Int), .int .i64 (s.term : Int), intsP s.mem, bytesP s.data] = coreC { c with snap := s } R := rfl
def Core.setp (c : Core) (k : Nat) (p : Peer) : Core := { c with peers := c.peers.set k p }
theorem setp_get {c : Core} {k j : Nat} {p : Peer} (h : c.peers.length = 7) (hk : k < 7) : (c.setp k p).peer j = if j = k then p else c.peer j := by
  unfold Core.setp Core.peer
  simp only [List.getD_eq_getElem?_getD, List.getElem?_set]
  by_cases e : k = j
  · subst e; simp [h, hk]
  · rw [if_neg e, if_neg (fun e' => e e'.symm)]
theorem sp0 {k : Nat} (h : k < 7) {c : Core} (hl : c.peers.length = 7) (R : Rws) (x : Nat) : setx (coreC c R) (11 + k * 5 + 0) (.int .i64 (x : Int)) = coreC (c.setp k { c.peer k with next := x }) R := by
  have hp := fun j => setp_get (c := c) (k := k) (j := j) (p := { c.peer k with next := x }) hl h
  match k, h with
  | 0, _ => unfold coreC; simp only [hp]; rfl
  | 1, _ => unfold coreC; simp only [hp]; rfl
  | 2, _ => unfold coreC; simp only [hp]; rfl
  | 3, _ => unfold coreC; simp only [hp]; rfl
  | 4, _ => unfold coreC; simp only [hp]; rfl
  | 5, _ => unfold coreC; simp only [hp]; rfl
  | 6, _ => unfold coreC; simp only [hp]; rfl
theorem sp1 {k : Nat} (h : k < 7) {c : Core} (hl : c.peers.length = 7) (R : Rws) (x : Nat) : setx (coreC c R) (11 + k * 5 + 1) (.int .i64 (x : Int)) = coreC (c.setp k { c.peer k with match_ := x }) R := by
  have hp := fun j => setp_get (c := c) (k := k) (j := j) (p := { c.peer k with match_ := x }) hl h
  match k, h with
  | 0, _ => unfold coreC; simp only [hp]; rfl
  | 1, _ => unfold coreC; simp only [hp]; rfl
  | 2, _ => unfold coreC; simp only [hp]; rfl
  | 3, _ => unfold coreC; simp only [hp]; rfl
  | 4, _ => unfold coreC; simp only [hp]; rfl
  | 5, _ => unfold coreC; simp only [hp]; rfl
  | 6, _ => unfold coreC; simp only [hp]; rfl
theorem sp2 {k : Nat} (h : k < 7) {c : Core} (hl : c.peers.length = 7) (R : Rws) (x : Nat) : setx (coreC c R) (11 + k * 5 + 2) (.int .i64 (x : Int)) = coreC (c.setp k { c.peer k with told := x }) R := by
  have hp := fun j => setp_get (c := c) (k := k) (j := j) (p := { c.peer k with told := x }) hl h
  match k, h with
  | 0, _ => unfold coreC; simp only [hp]; rfl
  | 1, _ => unfold coreC; simp only [hp]; rfl
  | 2, _ => unfold coreC; simp only [hp]; rfl
  | 3, _ => unfold coreC; simp only [hp]; rfl
  | 4, _ => unfold coreC; simp only [hp]; rfl
  | 5, _ => unfold coreC; simp only [hp]; rfl
  | 6, _ => unfold coreC; simp only [hp]; rfl
theorem sp3 {k : Nat} (h : k < 7) {c : Core} (hl : c.peers.length = 7) (R : Rws) (x : Bool) : setx (coreC c R) (11 + k * 5 + 3) (.bool x) = coreC (c.setp k { c.peer k with heard := x }) R := by
  have hp := fun j => setp_get (c := c) (k := k) (j := j) (p := { c.peer k with heard := x }) hl h
  match k, h with
  | 0, _ => unfold coreC; simp only [hp]; rfl
  | 1, _ => unfold coreC; simp only [hp]; rfl
  | 2, _ => unfold coreC; simp only [hp]; rfl
  | 3, _ => unfold coreC; simp only [hp]; rfl
  | 4, _ => unfold coreC; simp only [hp]; rfl
  | 5, _ => unfold coreC; simp only [hp]; rfl
  | 6, _ => unfold coreC; simp only [hp]; rfl
theorem sp4 {k : Nat} (h : k < 7) {c : Core} (hl : c.peers.length = 7) (R : Rws) (x : Nat) : setx (coreC c R) (11 + k * 5 + 4) (.int .i64 (x : Int)) = coreC (c.setp k { c.peer k with seq := x }) R := by
  have hp := fun j => setp_get (c := c) (k := k) (j := j) (p := { c.peer k with seq := x }) hl h
  match k, h with
  | 0, _ => unfold coreC; simp only [hp]; rfl
  | 1, _ => unfold coreC; simp only [hp]; rfl
  | 2, _ => unfold coreC; simp only [hp]; rfl
  | 3, _ => unfold coreC; simp only [hp]; rfl
  | 4, _ => unfold coreC; simp only [hp]; rfl
  | 5, _ => unfold coreC; simp only [hp]; rfl
  | 6, _ => unfold coreC; simp only [hp]; rfl
theorem sp0' {k : Nat} (h : k < 7) {c : Core} (hl : c.peers.length = 7) (R : Rws) (x : Nat) : setx (coreC c R) (11 + k * 5) (.int .i64 (x : Int)) = coreC (c.setp k { c.peer k with next := x }) R := sp0 h hl R x
theorem spA {k : Nat} (h : k < 7) {c : Core} (hl : c.peers.length = 7) (R : Rws) (p : Peer) : sets (coreC c R) (11 + k * 5) [.int .i64 (p.next : Int), .int .i64 (p.match_ : Int), .int .i64 (p.told : Int), .bool p.heard, .int .i64 (p.seq : Int)] = coreC (c.setp k p) R := by
  have hp := fun j => setp_get (c := c) (k := k) (j := j) (p := p) hl h
  match k, h with
  | 0, _ => unfold coreC; simp only [hp]; rfl
  | 1, _ => unfold coreC; simp only [hp]; rfl
  | 2, _ => unfold coreC; simp only [hp]; rfl
  | 3, _ => unfold coreC; simp only [hp]; rfl
  | 4, _ => unfold coreC; simp only [hp]; rfl
  | 5, _ => unfold coreC; simp only [hp]; rfl
  | 6, _ => unfold coreC; simp only [hp]; rfl
/- What is read and written of a core's cells, as one. -/
def CS := (And.intro (And.intro (And.intro (And.intro (And.intro @coreC_len @cg0) (And.intro @cg1 @cg2)) (And.intro (And.intro @cg3 @cg4) (And.intro @cg5 @cg6))) (And.intro (And.intro (And.intro @cg7 @cg8) (And.intro @cg9 @cg10)) (And.intro (And.intro @cg46 @cg47) (And.intro @cg48 (And.intro @cg49 @cg50))))) (And.intro (And.intro (And.intro (And.intro @cg51 @cg52) (And.intro @cs4 @cs6)) (And.intro (And.intro @cs7 @cs8) (And.intro @cs9 (And.intro @cs10 @cs46)))) (And.intro (And.intro (And.intro @cs47 @cs48) (And.intro @cs49 @cs50)) (And.intro (And.intro @cs51 @cs52) (And.intro @cs9z (And.intro @cs9o @cs9t))))))
end Go.Proofs.Ythojhpjjkfjeiaa.Va
set_option maxRecDepth 100000
set_option maxHeartbeats 4000000
set_option linter.all false
namespace Go.Proofs.Ythojhpjjkfjeiaa.Va
open Go.Proofs
theorem ofInts_len (l : List Int) : (ofInts l).length = l.length := by simp [ofInts]
theorem ofInts_one (l : List Int) : (ofInts l).all AV.one = true := by simp [ofInts, AV.one]
theorem ofInts_pur {s : AState} (l : List Int) : ∀ a ∈ ofInts l, Pur s true a a := fun a ha => by
  obtain ⟨x, _, rfl⟩ := List.mem_map.1 ha
  exact .flat _ rfl
theorem ofU8s_mem {l : Byts} {a : AV} (h : a ∈ ofU8s l) : a.flat = true := by
  unfold ofU8s at h
  obtain ⟨x, _, rfl⟩ := List.mem_map.1 h
  rfl
theorem ofInts_mem {l : List Int} {a : AV} (h : a ∈ ofInts l) : a.flat = true := by
  unfold ofInts at h
  obtain ⟨x, _, rfl⟩ := List.mem_map.1 h
  rfl
theorem bytesP_fxd (l : Byts) : Fxd (bytesP l) := .psl fun a ha => .flat (ofU8s_mem ha)
theorem intsP_fxd (l : List Int) : Fxd (intsP l) := .psl fun a ha => .flat (ofInts_mem ha)
theorem natsP_fxd (l : List Nat) : Fxd (natsP l) := .psl fun a ha => by
  obtain ⟨x, _, rfl⟩ := List.mem_map.1 ha
  exact .flat rfl
theorem natsP_pur {s : AState} (l : List Nat) : Pur s true (natsP l) (natsP l) := .psl' fun a ha => by
  obtain ⟨x, _, rfl⟩ := List.mem_map.1 ha
  exact .flat _ rfl
theorem rowsP_fxd (l : List Byts) : Fxd (rowsP l) := .psl fun a ha => by
  obtain ⟨x, _, rfl⟩ := List.mem_map.1 ha
  exact bytesP_fxd x
theorem bytesP_pur {s : AState} (l : Byts) : Pur s true (bytesP l) (bytesP l) := .psl' fun a ha => .flat _ (ofU8s_mem ha)
theorem intsP_pur {s : AState} (l : List Int) : Pur s true (intsP l) (intsP l) := .psl' fun a ha => .flat _ (ofInts_mem ha)
theorem rowsP_pur {s : AState} (l : List Byts) : Pur s true (rowsP l) (rowsP l) := .psl' fun a ha => by
  obtain ⟨x, _, rfl⟩ := List.mem_map.1 ha
  exact bytesP_pur x
theorem flat_pur {s : AState} {al : Bool} {l : List AV} (h : ∀ a ∈ l, a.flat = true) : ∀ a ∈ l, Pur s al a a := fun a ha => .flat _ (h a ha)
theorem Ent.c_eq (e : Ent) : e.c = [.int .i64 (e.term : Int), .int .i64 (e.kind : Int), bytesP e.data, intsP e.mem] := Eq.trans rfl rfl
theorem Msg.c_eq (m : Msg) : m.c = [.int .i64 (m.src : Int), .int .i64 (m.to : Int), .int .i64 (m.kind : Int), .int .i64 (m.term : Int), .int .i64 (m.index : Int), .int .i64 (m.last : Int), .int .i64 (m.commit : Int), .int .i64 (m.seq : Int), .bool m.yes,
  natsP m.terms, natsP m.kinds, rowsP m.entries, intsP m.mem, bytesP m.data] := Eq.trans rfl rfl
theorem Ent.c_len (e : Ent) : e.c.length = 4 := rfl
theorem Wait.c_len (e : Wait) : e.c.length = 3 := rfl
theorem Rd.c_len (e : Rd) : e.c.length = 2 := rfl
theorem Msg.c_len (e : Msg) : e.c.length = 14 := rfl
theorem Ent.fxd (e : Ent) : FxdL e.c := .cons (.flat rfl) (.cons (.flat rfl) (.cons (bytesP_fxd _) (.cons (intsP_fxd _) .nil)))
theorem Ent.pur {s : AState} (e : Ent) : ∀ a ∈ e.c, Pur s true a a := fun a ha => by
  simp only [Ent.c, List.mem_cons, List.not_mem_nil, or_false] at ha
  rcases ha with rfl | rfl | rfl | rfl
  · exact .flat _ rfl
  · exact .flat _ rfl
  · exact bytesP_pur _
  · exact intsP_pur _
theorem Msg.fxd (m : Msg) : FxdL m.c := .cons (.flat rfl) (.cons (.flat rfl) (.cons (.flat rfl) (.cons (.flat rfl) (.cons (.flat rfl) (.cons (.flat rfl) (.cons (.flat rfl) (.cons (.flat rfl) (.cons (.flat rfl)
  (.cons (natsP_fxd _) (.cons (natsP_fxd _) (.cons (rowsP_fxd _) (.cons (intsP_fxd _) (.cons (bytesP_fxd _) .nil)))))))))))))
theorem Msg.pur {s : AState} (m : Msg) : ∀ a ∈ m.c, Pur s true a a := fun a ha => by
  simp only [Msg.c, List.mem_cons, List.not_mem_nil, or_false] at ha
  rcases ha with rfl | rfl | rfl | rfl | rfl | rfl | rfl | rfl | rfl | rfl | rfl | rfl | rfl | rfl
  all_goals first | exact .flat _ rfl | exact natsP_pur _ | exact intsP_pur _ | exact bytesP_pur _ | exact rowsP_pur _
theorem Wait.pur {s : AState} (w : Wait) : ∀ a ∈ w.c, Pur s true a a := flat_pur fun a ha => by
  simp only [Wait.c, List.mem_cons, List.not_mem_nil, or_false] at ha
  rcases ha with rfl | rfl | rfl <;> rfl
theorem Rd.pur {s : AState} (w : Rd) : ∀ a ∈ w.c, Pur s true a a := flat_pur fun a ha => by
  simp only [Rd.c, List.mem_cons, List.not_mem_nil, or_false] at ha
  rcases ha with rfl | rfl <;> rfl
theorem Wait.fxd (w : Wait) : FxdL w.c := fun a ha => .flat (by
  simp only [Wait.c, List.mem_cons, List.not_mem_nil, or_false] at ha
  rcases ha with rfl | rfl | rfl <;> rfl)
theorem Rd.fxd (w : Rd) : FxdL w.c := fun a ha => .flat (by
  simp only [Rd.c, List.mem_cons, List.not_mem_nil, or_false] at ha
  rcases ha with rfl | rfl <;> rfl)
/- A core all of which is fixed data. -/
def Core.rf (c : Core) : Rws := ⟨.psl (rowc Ent.c c.l) 0 c.l.length, .psl (ofInts c.yes) 0 c.yes.length, .psl (rowc Wait.c c.waits) 0 c.waits.length, .psl (rowc Rd.c c.reads) 0 c.reads.length, .psl (rowc Msg.c c.out) 0 c.out.length⟩
def Core.pp (c : Core) : AV := .pptr (coreC c c.rf) 0
theorem Core.pp_eq (c : Core) : c.pp = .pptr (coreC c c.rf) 0 := Eq.trans rfl rfl
theorem core_mem {c : Core} {R : Rws} {a : AV} (h : a ∈ coreC c R) : a.flat = true ∨ a = intsP c.snap.mem ∨ a = bytesP c.snap.data ∨ a = R.l ∨ a = R.yes ∨ a = R.waits ∨ a = R.reads ∨ a = R.out := by
  simp only [coreC, List.mem_cons, List.not_mem_nil, or_false] at h
  rcases h with h | h | h | h | h | h | h | h | h | h | h | h | h | h | h | h | h | h | h | h | h | h | h | h | h | h | h | h | h | h | h | h | h | h | h | h | h | h | h | h | h | h | h | h | h | h | h | h | h | h | h | h | h <;> subst h <;> simp [AV.flat]
theorem Core.fxd (c : Core) : Fxd c.pp := .pptr fun a ha => by
  rcases core_mem ha with h | h | h | h | h | h | h | h
  · exact .flat h
  · rw [h]; exact intsP_fxd _
  · rw [h]; exact bytesP_fxd _
  · rw [h]; exact .psl (rowc_fxd Ent.fxd _)
  · rw [h]; exact intsP_fxd _
  · rw [h]; exact .psl (rowc_fxd Wait.fxd _)
  · rw [h]; exact .psl (rowc_fxd Rd.fxd _)
  · rw [h]; exact .psl (rowc_fxd Msg.fxd _)
theorem rf_l (c : Core) : c.rf.l = .psl (rowc Ent.c c.l) 0 c.l.length := Eq.trans rfl rfl
theorem rf_yes (c : Core) : c.rf.yes = .psl (ofInts c.yes) 0 c.yes.length := Eq.trans rfl rfl
/- A flat answer about such a core serves for any core. -/
theorem pp_any {f : FuncId} {c : Core} {args : List AV} {a : AV} {σ : AState} (ha : a.flat = true) (hargs : FxdL args) (h : callD Try.prog f (c.pp :: args) st0 fun v _ => v = a) : callD Try.prog f (c.pp :: args) σ fun v s => s = σ ∧ v = a :=
  callD.share (R := fun v => v = a) (.cons c.fxd hargs) (h.mono fun v s e => ⟨a, by rw [e]; exact .flat _ ha, rfl⟩)
/- ------------------------------------------------ the log -/
def ent0 : Ent := ⟨0, 0, [], []⟩
def Core.ent (c : Core) (k : Nat) : Ent := c.l.getD k ent0
def Core.last (c : Core) : Nat := c.snap.index + c.l.length
def Core.has (c : Core) (i : Nat) : Bool := decide (c.snap.index < i) && decide (i ≤ c.last)
def Core.termAt (c : Core) (i : Nat) : Nat := if i = c.snap.index then c.snap.term else if c.has i = true then (c.ent (i - c.snap.index - 1)).term else 0
def Core.cnt (c : Core) : Nat → List Int × Nat
  | 0 => (c.snap.mem, c.snap.index)
  | n + 1 => if (c.ent n).kind = 2 then ((c.ent n).mem, c.snap.index + n + 1) else c.cnt n
def Core.counted (c : Core) (i : Nat) : List Int × Nat := c.cnt (min i c.last - c.snap.index)
def Core.fit (c : Core) : Prop := c.last < 4611686018427387904
theorem wrapN {n : Nat} (h : n < 9223372036854775808) : IntKind.i64.wrap (n : Int) = n := wrap64 (by omega) (by omega)
theorem wrapAdd {a b : Nat} (h : a + b < 9223372036854775808) : IntKind.i64.wrap ((a : Int) + (b : Int)) = ((a + b : Nat) : Int) := by rw [wrap64 (by omega) (by omega)]; omega
theorem wrapSub {a b : Nat} (h : b ≤ a) (h' : a < 9223372036854775808) : IntKind.i64.wrap ((a : Int) - (b : Int)) = ((a - b : Nat) : Int) := by rw [wrap64 (by omega) (by omega)]; omega
theorem wrapSub1 {a : Nat} (h : 1 ≤ a) (h' : a < 9223372036854775808) : IntKind.i64.wrap ((a : Int) - 1) = ((a - 1 : Nat) : Int) := by rw [wrap64 (by omega) (by omega)]; omega
theorem wrapSucc {a : Nat} (h' : a < 9223372036854775807) : IntKind.i64.wrap ((a : Int) + 1) = ((a + 1 : Nat) : Int) := by rw [wrap64 (by omega) (by omega)]; omega
theorem last_st0 {c : Core} (hf : c.fit) : callD Try.prog 13 [c.pp] st0 fun v _ => v = .int .i64 (c.last : Int) := by
  rw [Core.pp_eq]
  unfold Core.fit Core.last at *
  have hw := wrapAdd (a := c.snap.index) (b := c.l.length) (by omega)
  refine cd_wp fn13 cf13 cl13 rfl ?_
  simp only [ac13]
  unfold ab13
  simp only [XU, seval]
  refine x_dreg0 follow ?_ rfl
  simp only [XU, seval, CS, rf_l, hw]
theorem last_pp {c : Core} {σ : AState} (hf : c.fit) : callD Try.prog 13 [c.pp] σ fun v s => s = σ ∧ v = .int .i64 (c.last : Int) := pp_any rfl .nil (last_st0 hf)
theorem has_st0 {c : Core} {i : Nat} (hf : c.fit) : callD Try.prog 32 [c.pp, .int .i64 (i : Int)] st0 fun v _ => v = .bool (c.has i) := by
  have hL := fun σ => last_pp (σ := σ) hf
  unfold Core.has
  rw [Core.pp_eq] at *
  by_cases h1 : c.snap.index < i
  · have g1 : (c.snap.index : Int) < (i : Int) := by omega
    refine cd_wp fn32 cf32 cl32 rfl ?_
    simp only [ac32]
    unfold ab32
    simp only [XU, seval, CS, g1]
    refine (hL _).use ?_
    simp only [XU, seval]
    simp [h1]
  · have g1 : ¬ (c.snap.index : Int) < (i : Int) := by omega
    refine cd_wp fn32 cf32 cl32 rfl ?_
    simp only [ac32]
    unfold ab32
    simp only [XU, seval, CS, g1]
    simp [h1]
theorem has_pp {c : Core} {i : Nat} {σ : AState} (hf : c.fit) : callD Try.prog 32 [c.pp, .int .i64 (i : Int)] σ fun v s => s = σ ∧ v = .bool (c.has i) := pp_any rfl (.cons (.flat rfl) .nil) (has_st0 hf)
theorem ent_get {c : Core} {k : Nat} (h : k < c.l.length) : c.ent k = c.l[k] := by simp [Core.ent, h]
theorem at_st0 {c : Core} {i : Nat} (hf : c.fit) (h1 : c.snap.index < i) (h2 : i ≤ c.last) : callD Try.prog 34 [c.pp, .int .i64 (i : Int)] st0 fun v s => ∃ a, Pur s true v a ∧ a = .agg (c.ent (i - c.snap.index - 1)).c := by
  rw [Core.pp_eq]
  unfold Core.fit Core.last at *
  have w1 := wrapSub (a := i) (b := c.snap.index) (by omega) (by omega)
  have w2 := wrapSub1 (a := i - c.snap.index) (by omega) (by omega)
  obtain ⟨k, hk⟩ : ∃ k, k = i - c.snap.index - 1 := ⟨_, rfl⟩
  rw [← hk] at w2 ⊢
  have hkl : k < c.l.length := by omega
  have hr := lt_idx hkl
  have hfit := rowc_fit Ent.c_len hkl
  have hall := rowc_seg Ent.c_len hkl
  rw [ent_get hkl]
  have hpur := fun s => Ent.pur (s := s) c.l[k]
  generalize c.l[k] = e at *
  rw [Ent.c_eq] at *
  refine cd_wp fn34 cf34 cl34 rfl ?_
  simp only [ac34]
  unfold ab34
  simp only [XU, seval]
  refine d_dreg follow [] rfl ?_
  have c0 : (addSlots (st0.push (.cells [.int .i64 0, .int .i64 0, .nils, .nils])).n 15 (st0.push (.cells [.int .i64 0, .int .i64 0, .nils, .nils])) []).cells 0 = some [.int .i64 0, .int .i64 0, .nils, .nils] := rfl
  generalize addSlots (st0.push (.cells [.int .i64 0, .int .i64 0, .nils, .nils])).n 15 (st0.push (.cells [.int .i64 0, .int .i64 0, .nils, .nils])) [] = s1 at *
  have sg4 : ∀ a b c d : AV, seg [a, b, c, d] 0 4 = [a, b, c, d] := fun _ _ _ _ => rfl
  simp only [XU, seval, DU, CS, rf_l, w1, w2, hr, hfit, hall, c0, storeA, sets, setx, TS, sg4, bytesP, intsP]
  refine ⟨⟨?_, ?_⟩, ?_⟩
  · intro l hl c hc hf
    simp only [List.mem_cons, List.mem_nil_iff, List.not_mem_nil, or_false] at hl hc
    rcases hl with rfl | rfl | rfl <;> rcases hc with rfl | rfl <;> dsimp only at hf ⊢ <;> first
      | (exact absurd hf (by decide +kernel))
      | (simp only [XU, seval, CS, rf_l, hr, hfit, hall, bytesP, intsP]; done)
  · intro sl hsl; simp at hsl
  exact ⟨_, .agg _ _ rfl fun i hi _ => hpur _ _ (List.getElem_mem hi), rfl⟩
theorem at_pp {c : Core} {i : Nat} {σ : AState} (hf : c.fit) (h1 : c.snap.index < i) (h2 : i ≤ c.last) : callD Try.prog 34 [c.pp, .int .i64 (i : Int)] σ fun v s => s = σ ∧ v = .agg (c.ent (i - c.snap.index - 1)).c :=
  callD.share (R := fun v => v = .agg (c.ent (i - c.snap.index - 1)).c) (.cons c.fxd (.cons (.flat rfl) .nil)) (at_st0 hf h1 h2)
theorem termAt_st0 {c : Core} {i : Nat} (hf : c.fit) : callD Try.prog 39 [c.pp, .int .i64 (i : Int)] st0 fun v _ => v = .int .i64 (c.termAt i : Int) := by
  have hH := fun σ => has_pp (i := i) (σ := σ) hf
  have hA := fun h1 h2 σ => at_pp (i := i) (σ := σ) hf h1 h2
  unfold Core.termAt
  rw [Core.pp_eq] at *
  by_cases h0 : i = c.snap.index
  · have g0 : (i : Int) = (c.snap.index : Int) := by omega
    rw [if_pos h0]
    refine cd_wp fn39 cf39 cl39 rfl ?_
    simp only [ac39]
    unfold ab39
    simp only [XU, seval, CS, g0]
  have g0 : ¬ (i : Int) = (c.snap.index : Int) := by omega
  rw [if_neg h0]
  cases hh : c.has i with
  | false =>
    rw [hh] at hH
    refine cd_wp fn39 cf39 cl39 rfl ?_
    simp only [ac39]
    unfold ab39
    simp only [XU, seval, CS, g0]
    refine (hH _).use ?_
    simp only [XU, seval]
  | true =>
    rw [hh] at hH
    unfold Core.has at hh
    simp only [Bool.and_eq_true, decide_eq_true_eq] at hh
    have hA := hA hh.1 hh.2
    simp only [Ent.c_eq] at hA
    refine cd_wp fn39 cf39 cl39 rfl ?_
    simp only [ac39]
    unfold ab39
    simp only [XU, seval, CS, g0]
    refine (hH _).use ?_
    simp only [XU, seval]
    refine (hA _).use ?_
    simp only [XU, seval]
theorem termAt_pp {c : Core} {i : Nat} {σ : AState} (hf : c.fit) : callD Try.prog 39 [c.pp, .int .i64 (i : Int)] σ fun v s => s = σ ∧ v = .int .i64 (c.termAt i : Int) := pp_any rfl (.cons (.flat rfl) .nil) (termAt_st0 hf)
def cntP (x : List Int × Nat) : AV := .tup [intsP x.1, .int .i64 (x.2 : Int)]
theorem mn2 (a b : Nat) : minMaxA false (.int .i64 (a : Int)) [.int .i64 (b : Int)] = some (.int .i64 ((min a b : Nat) : Int)) := by
  simp only [minMaxA]
  by_cases h : b < a
  · simp [h, Nat.min_eq_right (Nat.le_of_lt h)]
  · simp [h, Nat.min_eq_left (Nat.le_of_not_lt h)]
theorem mx2 (a b : Nat) : minMaxA true (.int .i64 (a : Int)) [.int .i64 (b : Int)] = some (.int .i64 ((max a b : Nat) : Int)) := by
  simp only [minMaxA]
  by_cases h : a < b
  · simp [h, Nat.max_eq_right (Nat.le_of_lt h)]
  · simp [h, Nat.max_eq_left (Nat.le_of_not_lt h)]
theorem cnt_pur {s : AState} (x : List Int × Nat) : Pur s true (cntP x) (cntP x) := .tup _ _ rfl (PurL.cons (intsP_pur _) (.cons (.flat _ rfl) .nil)).2
theorem counted_st0 {c : Core} {i : Nat} (hf : c.fit) : callD Try.prog 36 [c.pp, .int .i64 (i : Int)] st0 fun v s => ∃ a, Pur s true v a ∧ a = cntP (c.counted i) := by
  have hL := fun σ => last_pp (σ := σ) hf
  have hA := fun i h1 h2 σ => at_pp (i := i) (σ := σ) hf h1 h2
  have hfit : c.last < 4611686018427387904 := hf
  obtain ⟨m, hm⟩ : ∃ m, m = min i c.last := ⟨_, rfl⟩
  have hres : c.counted i = c.cnt (m - c.snap.index) := by rw [hm]; rfl
  rw [hres]
  have hmn := mn2 i c.last
  rw [← hm] at hmn
  have hml : m ≤ c.last := by omega
  have hpur := fun s => cnt_pur (s := s) (c.cnt (m - c.snap.index))
  rw [Core.pp_eq] at *
  generalize hX : c.cnt (m - c.snap.index) = X at *
  unfold cntP at *
  refine cd_wp fn36 cf36 cl36 rfl ?_
  simp only [ac36]
  unfold ab36
  simp only [wpX_seq, wpX_skip, wpXK_normal]
  refine x_mid (fun ρ s => ρ.rd 0 = .pptr (coreC c c.rf) 0 ∧ ρ.rd 1 = .int .i64 (i : Int)) ?_ ?_
  · simp only [XU, seval]
  rintro ρ s ⟨h0, h1⟩
  rw [wpX_seq]
  refine x_mid (fun ρ s => ρ.rd 0 = .pptr (coreC c c.rf) 0 ∧ X = (c.snap.mem, c.snap.index)) ?_ ?_
  · simp only [XU, seval, h0, h1]
    refine (hL _).use ?_
    simp only [XU, seval, h0, h1, hmn]
    refine x_for (fun k ρ s => ρ.rd 0 = .pptr (coreC c c.rf) 0 ∧ ρ.rd 6 = .int .i64 ((m - k : Nat) : Int) ∧ X = c.cnt (m - k - c.snap.index)) (m - c.snap.index) ?_ ?_
    · simp only [XU, seval, h0, h1]
      first | exact ⟨rfl, hX.symm⟩ | exact hX.symm
    clear h0 h1
    rintro k ρ s' hk ⟨h0, h6, hk2⟩
    by_cases hlt : k < m - c.snap.index
    rotate_left
    · have g : ¬ (c.snap.index : Int) < ((m - k : Nat) : Int) := by omega
      have e0 : m - k - c.snap.index = 0 := by omega
      rw [e0] at hk2
      simp only [XU, seval, h0, h6, CS, g]
      exact hk2
    have g : (c.snap.index : Int) < ((m - k : Nat) : Int) := by omega
    have hA := hA (m - k) (by omega) (by omega)
    have w1 := wrapSub1 (a := m - k) (by omega) (by omega)
    have e1 : m - k - c.snap.index = (m - k - c.snap.index - 1) + 1 := by omega
    have e2 : m - k - 1 = m - (k + 1) := by omega
    have e3 : m - k - c.snap.index - 1 = m - (k + 1) - c.snap.index := by omega
    have e4 : c.snap.index + (m - k - c.snap.index - 1) + 1 = m - k := by omega
    rw [e1, Core.cnt, e4] at hk2
    rw [e3] at hk2 hA
    rw [e2] at w1
    generalize c.ent (m - (k + 1) - c.snap.index) = e at *
    simp only [Ent.c_eq] at hA
    simp only [XU, seval, h0, h6, CS, g]
    refine (hA _).use ?_
    by_cases h2 : e.kind = 2
    · have g2 : (e.kind : Int) = 2 := by omega
      rw [if_pos h2] at hk2
      simp only [XU, seval, h0, h6, storeA, sets, setx, TS, g2, bytesP, intsP]
      exact ⟨_, by rw [hk2] at hpur; exact hpur _, by rw [hk2]; rfl⟩
    · have g2 : ¬ (e.kind : Int) = 2 := by omega
      rw [if_neg h2] at hk2
      simp only [XU, seval, h0, h6, storeA, sets, setx, TS, g2, bytesP, intsP, w1]
      exact ⟨hlt, hk2⟩
  rintro ρ s ⟨h0, hX2⟩
  simp only [XU, seval]
  refine x_dreg0 follow ?_ rfl
  simp only [XU, seval, h0, CS]
  exact ⟨_, by rw [hX2] at hpur; exact hpur _, by rw [hX2]⟩
theorem counted_pp {c : Core} {i : Nat} {σ : AState} (hf : c.fit) : callD Try.prog 36 [c.pp, .int .i64 (i : Int)] σ fun v s => s = σ ∧ v = cntP (c.counted i) :=
  callD.share (R := fun v => v = cntP (c.counted i)) (.cons c.fxd (.cons (.flat rfl) .nil)) (counted_st0 hf)
end Go.Proofs.Ythojhpjjkfjeiaa.Va
set_option maxRecDepth 100000
set_option maxHeartbeats 4000000
set_option linter.all false
namespace Go.Proofs.Ythojhpjjkfjeiaa.Va
open Go.Proofs
theorem ints_get {l : List Int} {i : Nat} (h : i < l.length) : (ofInts l)[i]? = some (.int .i64 l[i]) := by simp [ofInts, h]
theorem index_st0 {l : List Int} {x : Int} (hl : l.length ≤ 4611686018427387904) : callD Try.prog 76 [.psl (ofInts l) 0 l.length, .int .i64 x] st0 fun v _ => ∃ k : Int, v = .int .i64 k ∧ (0 ≤ k ↔ x ∈ l) := by
  refine cd_wp fn76 cf76 cl76 rfl ?_
  simp only [ac76]
  unfold ab76
  simp only [wpX_seq, wpX_skip, wpXK_normal]
  refine x_mid (fun ρ s => ρ.rd 0 = .psl (ofInts l) 0 l.length ∧ ρ.rd 1 = .int .i64 x) ?_ ?_
  · simp only [XU, seval]
  rintro ρ s ⟨h0, h1⟩
  rw [wpX_seq]
  refine x_mid (fun ρ s => x ∉ l) ?_ ?_
  · simp only [XU, seval, h0, h1]
    refine x_for (fun i ρ s => ρ.rd 8 = .int .i64 i ∧ ρ.rd 6 = .psl (ofInts l) 0 l.length ∧ ρ.rd 7 = .int .i64 l.length ∧ ρ.rd 0 = .psl (ofInts l) 0 l.length ∧ ρ.rd 1 = .int .i64 x ∧ x ∉ l.take i) l.length ?_ ?_
    · simp only [XU, seval, h0, h1]
      first | exact ⟨rfl, by simp⟩ | simp
    clear h0 h1
    rintro i ρ s hi ⟨h8, h6, h7, h0, h1, hn⟩
    by_cases hlt : i < l.length
    rotate_left
    · have : i = l.length := by omega
      subst this
      have hge : ¬ ((l.length : Nat) : Int) < ((l.length : Nat) : Int) := by omega
      rw [List.take_length] at hn
      simp only [XU, seval, h8, h6, h7, hge]
      exact hn
    have hr := lt_idx hlt
    have hlt' := hr.2
    have hw : IntKind.i64.wrap ((i : Int) + 1) = ((i + 1 : Nat) : Int) := wrap_succ (by omega)
    have hg := ints_get hlt
    have hmem : l[i] ∈ l := List.getElem_mem hlt
    have htk : l.take (i + 1) = l.take i ++ [l[i]] := by rw [List.take_add_one, List.getElem?_eq_getElem hlt]; rfl
    generalize l[i] = y at *
    by_cases hxy : x = y
    · simp only [XU, seval, h8, h6, h7, h0, h1, hlt', hr, hg, hxy]
      exact ⟨_, rfl, fun _ => hmem, fun _ => by omega⟩
    · simp only [XU, seval, h8, h6, h7, h0, h1, hlt', hr, hg, hxy, hw]
      refine ⟨hlt, ?_⟩
      rw [htk, List.mem_append, List.mem_singleton]
      rintro (h | h)
      · exact hn h
      · exact hxy h
  rintro ρ s hn
  simp only [XU, seval]
  exact ⟨_, rfl, fun h => absurd h (by decide), fun h => absurd h hn⟩
theorem index_ac {l : List Int} {x : Int} {y : AV} {σ : AState} (hl : l.length ≤ 4611686018427387904) (hy : Pur σ true y (.psl (ofInts l) 0 l.length)) : callD Try.prog 76 [y, .int .i64 x] σ fun v s => s = σ ∧ ∃ k : Int, v = .int .i64 k ∧ (0 ≤ k ↔ x ∈ l) :=
  callD.pure (.cons hy (.cons (.flat _ rfl) .nil)) ((index_st0 hl).mono fun v s ⟨k, e, h⟩ => ⟨_, by rw [e]; exact .flat _ rfl, k, rfl, h⟩)
theorem contains_st0 {l : List Int} {x : Int} (hl : l.length ≤ 4611686018427387904) : callD Try.prog 61 [.psl (ofInts l) 0 l.length, .int .i64 x] st0 fun v _ => v = .bool (decide (x ∈ l)) := by
  have hI := fun σ => index_ac (x := x) (σ := σ) hl (intsP_pur l)
  unfold intsP at hI
  refine cd_wp fn61 cf61 cl61 rfl ?_
  simp only [ac61]
  unfold ab61
  simp only [XU, seval]
  refine (hI _).mono ?_
  rintro v s ⟨rfl, k, rfl, hk⟩
  simp only [XU, seval]
  congr 1
  exact decide_eq_decide.2 hk
theorem contains_ac {l : List Int} {x : Int} {y : AV} {σ : AState} (hl : l.length ≤ 4611686018427387904) (hy : Pur σ true y (.psl (ofInts l) 0 l.length)) : callD Try.prog 61 [y, .int .i64 x] σ fun v s => s = σ ∧ v = .bool (decide (x ∈ l)) :=
  callD.pure (R := fun v => v = .bool (decide (x ∈ l))) (.cons hy (.cons (.flat _ rfl) .nil)) ((contains_st0 hl).mono fun v s e => ⟨_, by rw [e]; exact .flat _ rfl, rfl⟩)
/- ------------------------------------------------ quorums -/
def Core.quorum (c : Core) (is : Int → Bool) : Bool := decide ((c.counted c.last).1.length < 2 * (c.counted c.last).1.countP is)
theorem countP_take {l : List Int} {is : Int → Bool} {i : Nat} (h : i < l.length) : (l.take (i + 1)).countP is = (l.take i).countP is + (if is l[i] = true then 1 else 0) := by
  rw [List.take_add_one, List.getElem?_eq_getElem h, Option.toList, List.countP_append, List.countP_singleton]
theorem quorum_st0 {c : Core} {g : FuncId} {caps : List AV} {is : Int → Bool} (hf : c.fit) (hl : (c.counted c.last).1.length ≤ 1000)
    (hg : ∀ x ∈ (c.counted c.last).1, ∀ σ, callD Try.prog g (.int .i64 x :: caps) σ fun v s => s = σ ∧ v = .bool (is x)) :
    callD Try.prog 68 [c.pp, .fn g caps] st0 fun v _ => v = .bool (c.quorum is) := by
  have hL := fun σ => last_pp (σ := σ) hf
  have hC := fun σ => counted_pp (i := c.last) (σ := σ) hf
  unfold Core.quorum
  rw [Core.pp_eq] at *
  obtain ⟨m, at_⟩ : ∃ X, X = c.counted c.last := ⟨_, rfl⟩
  generalize c.counted c.last = X at *
  clear at_ m
  obtain ⟨m, at_⟩ := X
  unfold cntP at hC
  simp only at hC hl hg ⊢
  refine cd_wp fn68 cf68 cl68 rfl ?_
  simp only [ac68]
  unfold ab68
  simp only [wpX_seq, wpX_skip, wpXK_normal]
  refine x_mid (fun ρ s => ρ.rd 0 = .pptr (coreC c c.rf) 0 ∧ ρ.rd 1 = .fn g caps) ?_ ?_
  · simp only [XU, seval]
  rintro ρ s ⟨h0, h1⟩
  rw [wpX_seq]
  refine x_mid (fun ρ s => ρ.rd 0 = .pptr (coreC c c.rf) 0 ∧ ρ.rd 1 = .fn g caps ∧ ρ.rd 5 = intsP m) ?_ ?_
  · simp only [XU, seval]
    refine d_dreg follow [] rfl ?_
    generalize addSlots s.n 13 s [] = s1 at *
    simp only [XU, seval, DU, h0]
    refine (hL _).use ?_
    simp only [XU, seval, DU, h0]
    refine (hC _).use ?_
    simp only [XU, seval, DU, h0, h1]
    refine ⟨?_, ?_⟩
    · intro l hl; simp at hl
    · intro sl hsl; simp at hsl
  clear h0 h1
  rintro ρ s ⟨h0, h1, h5⟩
  rw [wpX_seq]
  refine x_mid (fun ρ s => ρ.rd 0 = .pptr (coreC c c.rf) 0 ∧ ρ.rd 1 = .fn g caps ∧ ρ.rd 5 = intsP m ∧ ρ.rd 7 = .int .i64 0) ?_ ?_
  · simp only [XU, seval, h0, h1, h5]
  clear h0 h1 h5
  rintro ρ s ⟨h0, h1, h5, h7⟩
  rw [wpX_seq]
  refine x_mid (fun ρ s => ρ.rd 5 = intsP m ∧ ρ.rd 7 = .int .i64 (m.countP is)) ?_ ?_
  · unfold intsP at *
    simp only [XU, seval, h0, h1, h5, h7]
    refine x_for (fun i ρ s => ρ.rd 23 = .int .i64 i ∧ ρ.rd 22 = .int .i64 m.length ∧ ρ.rd 21 = .psl (ofInts m) 0 m.length ∧ ρ.rd 5 = .psl (ofInts m) 0 m.length ∧ ρ.rd 1 = .fn g caps ∧ ρ.rd 7 = .int .i64 ((m.take i).countP is)) m.length ?_ ?_
    · simp only [XU, seval, h0, h1, h5, h7]
      first | done | rfl
    clear h0 h1 h5 h7
    rintro i ρ s hi ⟨h23, h22, h21, h5, h1, h7⟩
    by_cases hlt : i < m.length
    rotate_left
    · have : i = m.length := by omega
      subst this
      have hge : ¬ ((m.length : Nat) : Int) < ((m.length : Nat) : Int) := by omega
      rw [List.take_length] at h7
      simp only [XU, seval, h23, h22, h21, h5, h7, hge]
    have hr := lt_idx hlt
    have hlt' := hr.2
    have hw : IntKind.i64.wrap ((i : Int) + 1) = ((i + 1 : Nat) : Int) := wrap_succ (by omega)
    have hgt := ints_get hlt
    have hG := hg _ (List.getElem_mem hlt)
    have hct := countP_take (is := is) hlt
    have hle := List.countP_le_length (p := is) (l := m.take i)
    rw [List.length_take] at hle
    generalize m[i] = y at *
    generalize (m.take i).countP is = n at *
    have hw2 := wrapSucc (a := n) (by omega)
    cases hb : is y with
    | false =>
      rw [hb] at hG hct
      rw [hct]
      simp only [XU, seval, h23, h22, h21, h5, h1, h7, hlt', hr, hgt]
      refine (hG _).use ?_
      simp only [XU, seval, h23, h22, h21, h5, h1, h7, hw, Bool.false_eq_true, if_false]
      exact hlt
    | true =>
      rw [hb] at hG hct
      rw [hct]
      simp only [XU, seval, h23, h22, h21, h5, h1, h7, hlt', hr, hgt]
      refine (hG _).use ?_
      simp only [XU, seval, h23, h22, h21, h5, h1, h7, hw, hw2, if_true]
      exact hlt
  clear h0 h1 h5 h7
  rintro ρ s ⟨h5, h7⟩
  have hle := List.countP_le_length (p := is) (l := m)
  have hw : IntKind.i64.wrap (2 * ((m.countP is : Nat) : Int)) = ((2 * m.countP is : Nat) : Int) := by rw [wrap64 (by omega) (by omega)]; omega
  unfold intsP at h5
  simp only [XU, seval, h5, h7, hw]
  congr 1
  exact decide_eq_decide.2 (by omega)
/- Those who have a quorum's say. -/
theorem fx_box {a : AV} (h : Fxd a) : Fxd (.pptr [a] 0) := .pptr (.cons h .nil)
theorem adv_ac {c : Core} {k i : Nat} {σ : AState} (hk : k < 7) : callD Try.prog 77 [.int .i64 (k : Int), .pptr [c.pp] 0, .pptr [.int .i64 (i : Int)] 0] σ fun v s => s = σ ∧ v = .bool (decide ((k : Int) = c.id) || decide (i ≤ (c.peer k).match_)) := by
  refine callD.share (R := fun v => v = .bool (decide ((k : Int) = c.id) || decide (i ≤ (c.peer k).match_))) (.cons (.flat rfl) (.cons (fx_box c.fxd) (.cons (fx_box (.flat rfl)) .nil))) ?_
  have hr : (0 : Int) ≤ (k : Int) ∧ (k : Int) < 7 := by omega
  have hp := cp1 hk c c.rf
  rw [Core.pp_eq] at *
  refine cd_wp fn77 cf77 cl77 rfl ?_
  simp only [ac77]
  unfold ab77
  simp only [XU, seval]
  refine x_dreg0 follow ?_ rfl
  by_cases h1 : (k : Int) = (c.id : Int)
  · simp only [XU, seval, CS, h1]
    exact ⟨_, .flat _ rfl, by simp [h1]⟩
  · simp only [XU, seval, CS, h1, hr, hp]
    exact ⟨_, .flat _ rfl, by simp [h1]⟩
theorem cfm_ac {c : Core} {k : Nat} {w : Wait} {σ : AState} (hk : k < 7) : callD Try.prog 69 [.int .i64 (k : Int), .pptr [c.pp] 0, .pptr w.c 0] σ fun v s => s = σ ∧ v = .bool (decide ((k : Int) = c.id) || decide (w.seq ≤ (c.peer k).seq)) := by
  refine callD.share (R := fun v => v = .bool (decide ((k : Int) = c.id) || decide (w.seq ≤ (c.peer k).seq))) (.cons (.flat rfl) (.cons (fx_box c.fxd) (.cons (.pptr (Wait.fxd w)) .nil))) ?_
  have hr : (0 : Int) ≤ (k : Int) ∧ (k : Int) < 7 := by omega
  have hp := cp4 hk c c.rf
  rw [Core.pp_eq] at *
  unfold Wait.c
  refine cd_wp fn69 cf69 cl69 rfl ?_
  simp only [ac69]
  unfold ab69
  simp only [XU, seval]
  refine x_dreg0 follow ?_ rfl
  by_cases h1 : (k : Int) = (c.id : Int)
  · simp only [XU, seval, CS, h1]
    exact ⟨_, .flat _ rfl, by simp [h1]⟩
  · simp only [XU, seval, CS, h1, hr, hp]
    exact ⟨_, .flat _ rfl, by simp [h1]⟩
theorem win_ac {c : Core} {x : Int} {σ : AState} (hl : c.yes.length ≤ 1000) : callD Try.prog 86 [.int .i64 x, .pptr [c.pp] 0] σ fun v s => s = σ ∧ v = .bool (decide (x ∈ c.yes)) := by
  refine callD.share (R := fun v => v = .bool (decide (x ∈ c.yes))) (.cons (.flat rfl) (.cons (fx_box c.fxd) .nil)) ?_
  have hC := fun σ => contains_ac (x := x) (σ := σ) (by omega) (intsP_pur c.yes)
  unfold intsP at hC
  rw [Core.pp_eq] at *
  refine cd_wp fn86 cf86 cl86 rfl ?_
  simp only [ac86]
  unfold ab86
  simp only [XU, seval, CS, rf_yes]
  refine (hC _).use ?_
  simp only [XU, seval]
  exact ⟨_, .flat _ rfl, rfl⟩
/- Is it one of those that count, from what is committed on? -/
def Core.counts (c : Core) : Bool := (List.range (c.last + 1 - c.commit)).any fun d => decide ((c.id : Int) ∈ (c.counted (c.commit + d)).1)
theorem counts_st0 {c : Core} (hf : c.fit) (hl : ∀ i, (c.counted i).1.length ≤ 1000) (hcm : c.commit ≤ c.last) : callD Try.prog 80 [c.pp] st0 fun v _ => v = .bool c.counts := by
  have hL := fun σ => last_pp (σ := σ) hf
  have hC := fun i σ => counted_pp (i := i) (σ := σ) hf
  have hK := fun i σ => contains_ac (x := (c.id : Int)) (σ := σ) (l := (c.counted i).1) (by have := hl i; omega) (intsP_pur _)
  have hfit : c.last < 4611686018427387904 := hf
  obtain ⟨R, hR⟩ : ∃ R, R = c.counts := ⟨_, rfl⟩
  rw [← hR]
  have hyes : ∀ d, d < c.last + 1 - c.commit → decide ((c.id : Int) ∈ (c.counted (c.commit + d)).1) = true → R = true := fun d h1 h2 => by
    rw [hR]; unfold Core.counts; rw [List.any_eq_true]; exact ⟨d, List.mem_range.2 h1, h2⟩
  have hno : (∀ d, d < c.last + 1 - c.commit → decide ((c.id : Int) ∈ (c.counted (c.commit + d)).1) = false) → R = false := fun h => by
    rw [hR]; unfold Core.counts; rw [List.any_eq_false]; intro d hd; rw [h d (List.mem_range.1 hd)]; decide
  rw [Core.pp_eq] at *
  unfold cntP intsP at hC
  unfold intsP at hK
  refine cd_wp fn80 cf80 cl80 rfl ?_
  simp only [ac80]
  unfold ab80
  simp only [wpX_seq, wpX_skip, wpXK_normal]
  refine x_mid (fun ρ s => ρ.rd 0 = .pptr (coreC c c.rf) 0) ?_ ?_
  · simp only [XU, seval]
  rintro ρ s h0
  rw [wpX_seq]
  refine x_mid (fun ρ s => R = false) ?_ ?_
  · simp only [XU, seval, h0, CS]
    refine x_for (fun d ρ s => ρ.rd 0 = .pptr (coreC c c.rf) 0 ∧ ρ.rd 3 = .int .i64 ((c.commit + d : Nat) : Int) ∧ ∀ d', d' < d → decide ((c.id : Int) ∈ (c.counted (c.commit + d')).1) = false) (c.last + 1 - c.commit) ?_ ?_
    · simp only [XU, seval, h0, CS]
      first | exact ⟨rfl, fun d h => absurd h (by omega)⟩ | exact fun d h => absurd h (by omega)
    clear h0
    rintro d ρ s hd ⟨h0, h3, hn⟩
    by_cases hlt : d < c.last + 1 - c.commit
    rotate_left
    · have : d = c.last + 1 - c.commit := by omega
      subst this
      have e1 : c.commit + (c.last + 1 - c.commit) = c.last + 1 := by omega
      rw [e1] at h3
      generalize hL1 : c.last + 1 = i at *
      have g : ¬ (i : Int) ≤ (c.last : Int) := by omega
      simp only [XU, seval, h0, h3]
      refine (hL _).use ?_
      simp only [XU, seval, h0, h3, g]
      exact hno hn
    have hC := hC (c.commit + d)
    have hK := hK (c.commit + d)
    have hyes := hyes d hlt
    have hstep : ∀ d', d' < d + 1 → decide ((c.id : Int) ∈ (c.counted (c.commit + d)).1) = false → decide ((c.id : Int) ∈ (c.counted (c.commit + d')).1) = false := fun d' hd' hb => by
      rcases Nat.lt_or_ge d' d with h | h
      · exact hn d' h
      · have : d' = d := by omega
        rw [this]; exact hb
    have hsucc : c.commit + (d + 1) = c.commit + d + 1 := rfl
    rw [hsucc]
    have hil : c.commit + d ≤ c.last := by omega
    generalize c.commit + d = i at *
    generalize (c.counted i).1 = mem at *
    generalize (c.counted i).2 = at_ at *
    have g : (i : Int) ≤ (c.last : Int) := by omega
    have hw := wrapSucc (a := i) (by omega)
    cases hb : decide ((c.id : Int) ∈ mem) with
    | true =>
      rw [hb] at hK
      have e := hyes hb
      simp only [XU, seval, h0, h3]
      refine (hL _).use ?_
      simp only [XU, seval, h0, h3, g]
      refine (hC _).use ?_
      simp only [XU, seval, h0, h3, CS]
      refine (hK _).use ?_
      simp only [XU, seval, e]
    | false =>
      rw [hb] at hK
      simp only [XU, seval, h0, h3]
      refine (hL _).use ?_
      simp only [XU, seval, h0, h3, g]
      refine (hC _).use ?_
      simp only [XU, seval, h0, h3, CS]
      refine (hK _).use ?_
      simp only [XU, seval, h0, h3, hw]
      exact ⟨hlt, fun d' hd' => hstep d' hd' hb⟩
  rintro ρ s e
  simp only [XU, seval, e]
theorem counts_pp {c : Core} {σ : AState} (hf : c.fit) (hl : ∀ i, (c.counted i).1.length ≤ 1000) (hcm : c.commit ≤ c.last) : callD Try.prog 80 [c.pp] σ fun v s => s = σ ∧ v = .bool c.counts := pp_any rfl .nil (counts_st0 hf hl hcm)
end Go.Proofs.Ythojhpjjkfjeiaa.Va
set_option maxRecDepth 100000
set_option maxHeartbeats 4000000
set_option linter.all false
namespace Go.Proofs.Ythojhpjjkfjeiaa.Va
open Go.Proofs
/- Writing one cell of a row that is written out. -/
theorem setx0 (a v : AV) (l : List AV) : setx (a :: l) 0 v = v :: l := by simp [setx]
theorem setxS (a v : AV) (l : List AV) (n : Nat) : setx (a :: l) (n + 1) v = a :: setx l n v := by simp [setx]
theorem sets1 (cs : List AV) (i : Nat) (v : AV) : sets cs i [v] = setx cs i v := Eq.trans rfl rfl
def SX := And.intro @storeA.eq_1 (And.intro @sets.eq_1 (And.intro @sets.eq_2 (And.intro @setx0 @setxS)))
/- Whose a block is: tags. t: the core's own block, t + 1 .. t + 5: its rows. -/
structure CoreAt (σ : AState) (own : Nat → Nat) (t b : Nat) (c : Core) (R : Rws) : Prop where
  cb : σ.cells b = some (coreC c R)
  ob : own b = t
  bn : b < σ.n
  rl : RowP (fun k => own k = t + 1) σ R.l (rowc Ent.c c.l) c.l.length 4
  ry : RowP (fun k => own k = t + 2) σ R.yes (ofInts c.yes) c.yes.length 1
  rw : RowP (fun k => own k = t + 3) σ R.waits (rowc Wait.c c.waits) c.waits.length 3
  rr : RowP (fun k => own k = t + 4) σ R.reads (rowc Rd.c c.reads) c.reads.length 2
  ro : RowP (fun k => own k = t + 5) σ R.out (rowc Msg.c c.out) c.out.length 14
  pl : c.peers.length = 7
def Mine (t : Nat) (own : Nat → Nat) (k : Nat) : Prop := t ≤ own k ∧ own k < t + 10
/- What a call on the core with the tags t leaves as it was. -/
structure Turns (t : Nat) (own own' : Nat → Nat) (σ s : AState) : Prop where
  n : σ.n ≤ s.n
  ow : ∀ k, k < σ.n → own' k = own k
  keep : ∀ k, k < σ.n → ¬ Mine t own k → s.h.get k = σ.h.get k
theorem Turns.refl {t : Nat} {own : Nat → Nat} {σ : AState} : Turns t own own σ σ := ⟨Nat.le_refl _, fun _ _ => rfl, fun _ _ _ => rfl⟩
theorem Turns.trans {t : Nat} {own own' own'' : Nat → Nat} {σ s s' : AState} (h : Turns t own own' σ s) (h' : Turns t own' own'' s s') : Turns t own own'' σ s' :=
  ⟨Nat.le_trans h.n h'.n, fun k hk => (h'.ow k (Nat.lt_of_lt_of_le hk h.n)).trans (h.ow k hk),
   fun k hk hm => (h'.keep k (Nat.lt_of_lt_of_le hk h.n) (by unfold Mine at hm ⊢; rw [h.ow k hk]; exact hm)).trans (h.keep k hk hm)⟩
theorem Turns.keeps {t : Nat} {own : Nat → Nat} {σ s : AState} (h : Keeps σ.n σ s) : Turns t own own σ s := ⟨h.1, fun _ _ => rfl, fun k hk _ => h.2 k hk⟩
theorem Turns.cells {t : Nat} {own own' : Nat → Nat} {σ s : AState} (h : Turns t own own' σ s) {k : Nat} (hk : k < σ.n) (hm : own k < t ∨ t + 10 ≤ own k) : s.cells k = σ.cells k := get_cells (h.keep k hk fun e => by unfold Mine at e; omega)
/- What comes to be from now on belongs to nobody. -/
def loc (own : Nat → Nat) (n : Nat) (k : Nat) : Nat := if k < n then own k else 0
theorem loc_lt {own : Nat → Nat} {n k : Nat} (h : k < n) : loc own n k = own k := by unfold loc; rw [if_pos h]
theorem loc_ge {own : Nat → Nat} {n k : Nat} (h : n ≤ k) : loc own n k = 0 := by unfold loc; rw [if_neg (by omega)]
def tag (own : Nat → Nat) (n t : Nat) (k : Nat) : Nat := if k < n then own k else t
theorem tag_lt {own : Nat → Nat} {n k t : Nat} (h : k < n) : tag own n t k = own k := by unfold tag; rw [if_pos h]
theorem tag_ge {own : Nat → Nat} {n k t : Nat} (h : n ≤ k) : tag own n t k = t := by unfold tag; rw [if_neg (by omega)]
namespace CoreAt
variable {σ s : AState} {own own' : Nat → Nat} {t b : Nat} {c : Core} {R : Rws}
theorem own_ (h : CoreAt σ own t b c R) (he : ∀ k, k < σ.n → own' k = own k) : CoreAt σ own' t b c R :=
  ⟨h.cb, (he b h.bn).trans h.ob, h.bn, h.rl.mono fun k hk hn => (he k hn).trans hk, h.ry.mono fun k hk hn => (he k hn).trans hk, h.rw.mono fun k hk hn => (he k hn).trans hk, h.rr.mono fun k hk hn => (he k hn).trans hk, h.ro.mono fun k hk hn => (he k hn).trans hk, h.pl⟩
/- Blocks of others turn. -/
theorem keep (h : CoreAt σ own t b c R) (hn : σ.n ≤ s.n) (hk : ∀ k, k < σ.n → Mine t own k → s.cells k = σ.cells k) : CoreAt s own t b c R :=
  have m : ∀ j, j < 10 → ∀ k, k < σ.n → own k = t + j → s.cells k = σ.cells k := fun j hj k hkn e => hk k hkn (by unfold Mine; omega)
  ⟨(m 0 (by omega) b h.bn h.ob).trans h.cb, h.ob, Nat.lt_of_lt_of_le h.bn hn, h.rl.keep hn (m 1 (by omega)), h.ry.keep hn (m 2 (by omega)), h.rw.keep hn (m 3 (by omega)), h.rr.keep hn (m 4 (by omega)), h.ro.keep hn (m 5 (by omega)), h.pl⟩
theorem keeps (h : CoreAt σ own t b c R) (hk : Keeps σ.n σ s) : CoreAt s own t b c R := h.keep hk.1 fun k hk' _ => hk.cells hk'
theorem push (h : CoreAt σ own t b c R) (o : List AV) : CoreAt (σ.push (.cells o)) own t b c R := h.keeps ((Keeps.refl σ).push _)
theorem slots (h : CoreAt σ own t b c R) (m : Nat) (sl : List (Nat × List AV)) : CoreAt (addSlots σ.n m σ sl) own t b c R := h.keeps (slots_keep (Keeps.refl σ))
theorem put_other (h : CoreAt σ own t b c R) {q : Nat} (hq : own q < t ∨ t + 10 ≤ own q) (o : List AV) : CoreAt (σ.put q o) own t b c R :=
  h.keep (Nat.le_refl _) fun k hk hm => by
    have : k ≠ q := fun e => by subst e; unfold Mine at hm; omega
    rw [put_get, if_neg this]
/- A core's scalars turn. -/
theorem upd (h : CoreAt σ own t b c R) {c' : Core} (hl : c'.l = c.l) (hy : c'.yes = c.yes) (hw : c'.waits = c.waits) (hr : c'.reads = c.reads) (ho : c'.out = c.out) (hp : c'.peers.length = 7) : CoreAt (σ.put b (coreC c' R)) own t b c' R := by
  have ne : ∀ j, 0 < j → own b ≠ t + j := fun j hj => by rw [h.ob]; omega
  exact ⟨by rw [put_get, if_pos rfl], h.ob, h.bn, by rw [hl]; exact h.rl.put (ne 1 (by omega)) _, by rw [hy]; exact h.ry.put (ne 2 (by omega)) _, by rw [hw]; exact h.rw.put (ne 3 (by omega)) _, by rw [hr]; exact h.rr.put (ne 4 (by omega)) _, by rw [ho]; exact h.ro.put (ne 5 (by omega)) _, hp⟩
theorem turns_put (h : CoreAt σ own t b c R) (cs : List AV) : Turns t own own σ (σ.put b cs) :=
  ⟨Nat.le_refl _, fun _ _ => rfl, fun k hk hm => put_h fun e => hm (by subst e; unfold Mine; rw [h.ob]; omega)⟩
/- Seen as fixed data. -/
theorem pur (h : CoreAt σ own t b c R) : Pur σ true (.ptr b 0) c.pp := by
  have hp : PurL σ true (coreC c R) (coreC c c.rf) := by
    have e : ∀ R' : Rws, coreC c R' = (coreC c R').take 4 ++ ([R'.l] ++ ((coreC c R).drop 5).take 5 ++ ([R'.yes] ++ ((coreC c R).drop 11).take 36 ++ ([R'.waits] ++ ([R'.reads] ++ (((coreC c R).drop 49).take 3 ++ [R'.out]))))) := fun R' => rfl
    rw [e R, e c.rf]
    have f1 : ∀ a ∈ (coreC c R).take 4, Pur σ true a a := fun a ha => by
      simp only [coreC, List.take_succ_cons, List.take_zero, List.mem_cons, List.not_mem_nil, or_false] at ha
      rcases ha with rfl | rfl | rfl | rfl
      · exact .flat _ rfl
      · exact .flat _ rfl
      · exact intsP_pur _
      · exact bytesP_pur _
    have f2 : ∀ a ∈ ((coreC c R).drop 5).take 5, Pur σ true a a := flat_pur fun a ha => by
      simp only [coreC, List.drop_succ_cons, List.drop_zero, List.take_succ_cons, List.take_zero, List.mem_cons, List.not_mem_nil, or_false] at ha
      rcases ha with rfl | rfl | rfl | rfl | rfl <;> rfl
    have f3 : ∀ a ∈ ((coreC c R).drop 11).take 36, Pur σ true a a := flat_pur fun a ha => by
      simp only [coreC, List.drop_succ_cons, List.drop_zero, List.take_succ_cons, List.take_zero, List.mem_cons, List.not_mem_nil, or_false] at ha
      rcases ha with h | h | h | h | h | h | h | h | h | h | h | h | h | h | h | h | h | h | h | h | h | h | h | h | h | h | h | h | h | h | h | h | h | h | h | h <;> rw [h] <;> rfl
    have f4 : ∀ a ∈ ((coreC c R).drop 49).take 3, Pur σ true a a := flat_pur fun a ha => by
      simp only [coreC, List.drop_succ_cons, List.drop_zero, List.take_succ_cons, List.take_zero, List.mem_cons, List.not_mem_nil, or_false] at ha
      rcases ha with rfl | rfl | rfl <;> rfl
    exact .append (PurL.self f1) (.append (.append (.cons (h.rl.self (rowc_pur Ent.pur _)) .nil) (PurL.self f2)) (.append (.append (.cons (h.ry.self (ofInts_pur _)) .nil) (PurL.self f3))
      (.append (.cons (h.rw.self (rowc_pur Wait.pur _)) .nil) (.append (.cons (h.rr.self (rowc_pur Rd.pur _)) .nil) (.append (PurL.self f4) (.cons (h.ro.self (rowc_pur Msg.pur _)) .nil))))))
  exact .ptr b 0 53 _ _ h.cb (by rw [coreC_len]; omega) (coreC_len _ _) fun i hi hi' => by simpa using hp.2 i (by simpa using hi) hi'
/- A flat answer about fixed data is one about this core. -/
theorem any (h : CoreAt σ own t b c R) {f : FuncId} {args : List AV} {a : AV} (ha : a.flat = true) (hargs : ∀ x ∈ args, x.flat = true) (hc : callD Try.prog f (c.pp :: args) st0 fun v _ => v = a) : callD Try.prog f (.ptr b 0 :: args) σ fun v s => s = σ ∧ v = a :=
  callD.pure (R := fun v => v = a) (.cons h.pur (PurL.self fun x hx => .flat _ (hargs x hx))) (hc.mono fun v s e => ⟨a, by rw [e]; exact .flat _ ha, rfl⟩)
end CoreAt
theorem flat1 (k : IntKind) (n : Int) : ∀ x ∈ [AV.int k n], x.flat = true := fun x hx => by rw [List.mem_singleton.1 hx]; rfl
theorem flat0 : ∀ x ∈ ([] : List AV), x.flat = true := fun x hx => by cases hx
section
variable {σ : AState} {own : Nat → Nat} {t b : Nat} {c : Core} {R : Rws}
theorem last_o (h : CoreAt σ own t b c R) (hf : c.fit) : callD Try.prog 13 [.ptr b 0] σ fun v s => s = σ ∧ v = .int .i64 (c.last : Int) := h.any rfl flat0 (last_st0 hf)
theorem has_o (h : CoreAt σ own t b c R) {i : Nat} (hf : c.fit) : callD Try.prog 32 [.ptr b 0, .int .i64 (i : Int)] σ fun v s => s = σ ∧ v = .bool (c.has i) := h.any rfl (flat1 _ _) (has_st0 hf)
theorem termAt_o (h : CoreAt σ own t b c R) {i : Nat} (hf : c.fit) : callD Try.prog 39 [.ptr b 0, .int .i64 (i : Int)] σ fun v s => s = σ ∧ v = .int .i64 (c.termAt i : Int) := h.any rfl (flat1 _ _) (termAt_st0 hf)
theorem counts_o (h : CoreAt σ own t b c R) (hf : c.fit) (hl : ∀ i, (c.counted i).1.length ≤ 1000) (hcm : c.commit ≤ c.last) : callD Try.prog 80 [.ptr b 0] σ fun v s => s = σ ∧ v = .bool c.counts := h.any rfl flat0 (counts_st0 hf hl hcm)
end
/- ------------------------------------------------ clones -/
theorem nil_psl {cs : List AV} {n : Nat} (h : 0 < n) : evalEq .slice (.psl cs 0 n) .nils = some false := by
  cases n with
  | zero => omega
  | succ n => rfl
theorem ofU8s_len (l : Byts) : (ofU8s l).length = l.length := by simp [ofU8s]
theorem ofU8s_one (l : Byts) : (ofU8s l).all AV.one = true := by
  rw [List.all_eq_true]
  intro a ha
  unfold ofU8s at ha
  obtain ⟨x, _, rfl⟩ := List.mem_map.1 ha
  rfl
/- Clone of fixed data is that data. -/
theorem cloneB_ac {l : Byts} {σ : AState} (hl : l.length ≤ 1000000) : callD Try.prog 35 [bytesP l] σ fun v s => s = σ ∧ v = bytesP l := by
  refine callD.of (AC.share (R := fun v => v = bytesP l) (.cons (bytesP_fxd l) .nil) ?_)
  unfold bytesP
  have hrow : RowP (fun _ => True) (st0.push (.cells [])) (.sl 0 0 0 (some 0) 1) [] 0 1 := .of trivial (Nat.lt_succ_self _) (push_cells _ _) rfl
  by_cases h0 : 0 < l.length
  · obtain ⟨x, s, happ, hr, _, _⟩ := app_rowP (bytes := 1) hrow trivial (y := .psl (ofU8s l) 0 l.length) (k := l.length) rfl (firstA_psl' (by rw [ofU8s_len]; omega)) (ofU8s_one l) (by rw [ofU8s_len]; omega) (by omega)
    rw [Nat.zero_add, List.nil_append] at hr
    refine callD.ac ?_
    have hn := nil_psl (cs := ofU8s l) h0
    have h00 : ¬ l.length = 0 := by omega
    refine cd_wp fn35 cf35 cl35 rfl ?_
    simp only [ac35]
    unfold ab35
    simp only [XU, seval, hn, happ]
    exact ⟨_, hr.self fun a ha => .flat _ (ofU8s_mem ha), rfl⟩
  · have e : l = [] := List.eq_nil_of_length_eq_zero (by omega)
    subst e
    obtain ⟨x, s, happ, hr, _, _⟩ := app_rowP (bytes := 1) hrow trivial (y := .pse) (k := 0) (new := []) rfl rfl rfl rfl (by omega)
    rw [List.nil_append, Nat.zero_add] at hr
    refine AC.nil_split (pre := []) (post := []) (callD.ac ?_) (callD.ac ?_)
    · refine cd_wp fn35 cf35 cl35 rfl ?_
      simp only [ac35]
      unfold ab35
      simp only [XU, seval, evalEq]
      exact ⟨_, .nils _ _, rfl⟩
    · refine cd_wp fn35 cf35 cl35 rfl ?_
      simp only [ac35]
      unfold ab35
      simp only [XU, seval, evalEq, happ]
      exact ⟨_, hr.self (fun a ha => by cases ha), rfl⟩
theorem cloneI_ac {l : List Int} {σ : AState} (hl : l.length ≤ 1000000) : callD Try.prog 48 [intsP l] σ fun v s => s = σ ∧ v = intsP l := by
  refine callD.of (AC.share (R := fun v => v = intsP l) (.cons (intsP_fxd l) .nil) ?_)
  unfold intsP
  have hrow : RowP (fun _ => True) (st0.push (.cells [])) (.sl 0 0 0 (some 0) 1) [] 0 1 := .of trivial (Nat.lt_succ_self _) (push_cells _ _) rfl
  by_cases h0 : 0 < l.length
  · obtain ⟨x, s, happ, hr, _, _⟩ := app_rowP (bytes := 8) hrow trivial (y := .psl (ofInts l) 0 l.length) (k := l.length) rfl (firstA_psl' (by rw [ofInts_len]; omega)) (ofInts_one l) (by rw [ofInts_len]; omega) (by omega)
    rw [Nat.zero_add, List.nil_append] at hr
    refine callD.ac ?_
    have hn := nil_psl (cs := ofInts l) h0
    refine cd_wp fn48 cf48 cl48 rfl ?_
    simp only [ac48]
    unfold ab48
    simp only [XU, seval, hn, happ]
    exact ⟨_, hr.self fun a ha => .flat _ (ofInts_mem ha), rfl⟩
  · have e : l = [] := List.eq_nil_of_length_eq_zero (by omega)
    subst e
    obtain ⟨x, s, happ, hr, _, _⟩ := app_rowP (bytes := 8) hrow trivial (y := .pse) (k := 0) (new := []) rfl rfl rfl rfl (by omega)
    rw [List.nil_append, Nat.zero_add] at hr
    refine AC.nil_split (pre := []) (post := []) (callD.ac ?_) (callD.ac ?_)
    · refine cd_wp fn48 cf48 cl48 rfl ?_
      simp only [ac48]
      unfold ab48
      simp only [XU, seval, evalEq]
      exact ⟨_, .nils _ _, rfl⟩
    · refine cd_wp fn48 cf48 cl48 rfl ?_
      simp only [ac48]
      unfold ab48
      simp only [XU, seval, evalEq, happ]
      exact ⟨_, hr.self (fun a ha => by cases ha), rfl⟩
theorem twin_ac {e : Ent} {σ : AState} (hd : e.data.length ≤ 1000000) (hm : e.mem.length ≤ 1000000) : callD Try.prog 33 [.agg e.c] σ fun v s => s = σ ∧ v = .agg e.c := by
  refine callD.share (R := fun v => v = .agg e.c) (.cons (.agg (Ent.fxd e)) .nil) ?_
  have hB := fun σ => cloneB_ac (σ := σ) hd
  have hI := fun σ => cloneI_ac (σ := σ) hm
  have hpur := fun s => Ent.pur (s := s) e
  rw [Ent.c_eq] at *
  have sg4 : ∀ a b c d : AV, seg [a, b, c, d] 0 4 = [a, b, c, d] := fun _ _ _ _ => rfl
  unfold bytesP intsP at *
  refine cd_wp fn33 cf33 cl33 rfl ?_
  simp only [ac33]
  unfold ab33
  simp only [XU, seval]
  refine d_dreg follow [] rfl ?_
  have c0 : (addSlots ((st0.push (.cells [.int .i64 (e.term : Int), .int .i64 (e.kind : Int), .psl (ofU8s e.data) 0 e.data.length, .psl (ofInts e.mem) 0 e.mem.length])).push (.cells [.int .i64 0, .int .i64 0, .nils, .nils])).n 10 ((st0.push (.cells [.int .i64 (e.term : Int), .int .i64 (e.kind : Int), .psl (ofU8s e.data) 0 e.data.length, .psl (ofInts e.mem) 0 e.mem.length])).push (.cells [.int .i64 0, .int .i64 0, .nils, .nils])) []).cells 0 = some [.int .i64 (e.term : Int), .int .i64 (e.kind : Int), .psl (ofU8s e.data) 0 e.data.length, .psl (ofInts e.mem) 0 e.mem.length] := rfl
  have c1 : (addSlots ((st0.push (.cells [.int .i64 (e.term : Int), .int .i64 (e.kind : Int), .psl (ofU8s e.data) 0 e.data.length, .psl (ofInts e.mem) 0 e.mem.length])).push (.cells [.int .i64 0, .int .i64 0, .nils, .nils])).n 10 ((st0.push (.cells [.int .i64 (e.term : Int), .int .i64 (e.kind : Int), .psl (ofU8s e.data) 0 e.data.length, .psl (ofInts e.mem) 0 e.mem.length])).push (.cells [.int .i64 0, .int .i64 0, .nils, .nils])) []).cells 1 = some [.int .i64 0, .int .i64 0, .nils, .nils] := push_cells (st0.push (.cells [.int .i64 (e.term : Int), .int .i64 (e.kind : Int), .psl (ofU8s e.data) 0 e.data.length, .psl (ofInts e.mem) 0 e.mem.length])) [.int .i64 0, .int .i64 0, .nils, .nils]
  generalize addSlots ((st0.push (.cells [.int .i64 (e.term : Int), .int .i64 (e.kind : Int), .psl (ofU8s e.data) 0 e.data.length, .psl (ofInts e.mem) 0 e.mem.length])).push (.cells [.int .i64 0, .int .i64 0, .nils, .nils])).n 10 ((st0.push (.cells [.int .i64 (e.term : Int), .int .i64 (e.kind : Int), .psl (ofU8s e.data) 0 e.data.length, .psl (ofInts e.mem) 0 e.mem.length])).push (.cells [.int .i64 0, .int .i64 0, .nils, .nils])) [] = s1 at *
  simp only [XU, seval, DU, c0]
  refine (hB _).use ?_
  simp only [XU, seval, DU, c0]
  refine (hI _).use ?_
  simp only [XU, seval, DU, c0, SX]
  refine ⟨⟨?_, ?_⟩, ?_⟩
  · intro l hl c hc hf
    simp only [List.mem_cons, List.mem_nil_iff, List.not_mem_nil, or_false] at hl hc
    rcases hl with rfl | rfl <;> rcases hc with rfl | rfl | rfl | rfl | rfl <;> dsimp only at hf ⊢ <;> first
      | (exact absurd hf (by decide +kernel))
      | (simp only [XU, seval, c0, SX]; done)
  · intro sl hsl; simp at hsl
  simp only [XU, seval, c1, sg4, SX]
  exact ⟨_, .agg _ _ rfl fun i hi _ => hpur _ _ (List.getElem_mem hi), rfl⟩
end Go.Proofs.Ythojhpjjkfjeiaa.Va
