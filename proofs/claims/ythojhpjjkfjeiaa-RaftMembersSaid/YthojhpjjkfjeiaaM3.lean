/- Texts Rq7 to Rq11 of this claim, in one. Conditions: none. -/
import Derived.Test.YthojhpjjkfjeiaaM2
set_option maxRecDepth 100000
set_option maxHeartbeats 4000000
set_option linter.all false
namespace Go.Proofs.Ythojhpjjkfjeiaa.Va
open Go.Proofs
def Core.base (c : Core) : Msg := ⟨0, 0, 3, 0, c.last, c.termAt c.last, c.commit, c.seq, false, [], [], [], [], []⟩
def Ent.told (e : Ent) : Byts := if e.kind = 2 then idsS e.mem else e.data
def Msg.fill (m : Msg) (es : List Ent) : Msg := { m with terms := es.map Ent.term, kinds := es.map Ent.kind, entries := es.map Ent.told }
def Core.at_ (c : Core) (n : Nat) : Msg := { c.base with index := n - 1, last := c.termAt (n - 1) }
def Core.from_ (c : Core) (n : Nat) : List Ent := c.l.drop (n - 1 - c.snap.index)
def Core.tick1 (c : Core) (to : Nat) : Core := c.setp to { c.peer to with told := (c.peer to).told + 1 }
/- (No snapshots: they do not come about where none are kept.) -/
def Core.send (c : Core) (to : Nat) : Core :=
  if (c.peer to).heard = false ∨ 3 ≤ (c.peer to).told then c.say to c.base
  else if c.from_ (c.peer to).next = [] then c.say to (c.at_ (c.peer to).next)
  else (c.tick1 to).say to ((c.at_ (c.peer to).next).fill (c.from_ (c.peer to).next))
namespace Now
variable {σ s s' : AState} {own own' own'' : Nat → Nat} {t b : Nat} {c c' : Core} {R R' : Rws}
/- A local row grows. -/
theorem lapp (h : Now σ own t b own' c R s) (ht : 10 ≤ t) {j : Nat} (hj : 0 < j) (hj' : j < 10) {x y : AV} {c0 new : List AV} {n sz bytes : Nat} (hx : RowP (fun k => σ.n ≤ k ∧ own' k = j) s x c0 n sz) (hy : y.len = some 1) (hf : firstA s sz 1 y = some new) (hone : new.all AV.one = true) (hl : new.length = 1 * sz)
    (hb : (2 * (n + 1) + 1024) * bytes ≤ 140737488355328) : ∃ b9 cap s9 own9, appendA s sz bytes x y = some (.sl b9 0 (n + 1) cap sz, s9) ∧ RowP (fun k => σ.n ≤ k ∧ own9 k = j) s9 (.sl b9 0 (n + 1) cap sz) (c0 ++ new) (n + 1) sz ∧ Now σ own t b own9 c R s9 ∧ s.n ≤ s9.n ∧
      (∀ k, k < s.n → own' k ≠ j → s9.h.get k = s.h.get k) ∧ (∀ k, k < s.n → own9 k = own' k) := by
  have hx' : RowP (fun k => σ.n ≤ k ∧ tag own' s.n j k = j) s x c0 n sz := hx.mono fun k hk hn => ⟨hk.1, by rw [tag_lt hn]; exact hk.2⟩
  obtain ⟨b9, cap, s9, happ, hrow, hn9, hk9⟩ := app_rowS (bytes := bytes) hx' ⟨h.tr.n, tag_ge (Nat.le_refl _)⟩ hy hf hone hl (by omega) hb
  have hk : ∀ k, k < s.n → own' k ≠ j → s9.h.get k = s.h.get k := fun k hk hne => hk9 k hk fun e => hne ((tag_lt hk).symm.trans e.2)
  have hlt : ∀ k, k < s.n → loc (tag own' s.n j) s9.n k = own' k := fun k hk => by rw [loc_lt (by omega), tag_lt hk]
  have hold : ∀ k, k < σ.n → s9.h.get k = s.h.get k := fun k hk => hk9 k (Nat.lt_of_lt_of_le hk h.tr.n) fun e => by omega
  refine ⟨b9, cap, s9, loc (tag own' s.n j) s9.n, happ, hrow.mono fun k hk hn => ⟨hk.1, by rw [loc_lt hn]; exact hk.2⟩, ⟨⟨Nat.le_trans h.tr.n hn9, fun k hk => (hlt k (Nat.lt_of_lt_of_le hk h.tr.n)).trans (h.tr.ow k hk), fun k hk hm => (hold k hk).trans (h.tr.keep k hk hm)⟩, ?_⟩, hn9, hk, hlt⟩
  exact (h.co.own_ hlt).keep hn9 fun k hk' hm => get_cells (hk k hk' (by unfold Mine at hm; rw [hlt k hk'] at hm; omega))
theorem loc_ (h : Now σ own t b own' c R s) : Now σ own t b (loc own' s.n) c R s :=
  ⟨⟨h.tr.n, fun k hk => (loc_lt (Nat.lt_of_lt_of_le hk h.tr.n)).trans (h.tr.ow k hk), h.tr.keep⟩, h.co.own_ fun k hk => loc_lt hk⟩
/- Blocks that are not the core's turn, or go. -/
theorem but (h : Now σ own t b own' c R s) (ht : 10 ≤ t) (hn : s'.n = s.n) (hk : ∀ k, k < s.n → (k < σ.n ∨ 10 ≤ own' k) → s'.h.get k = s.h.get k) : Now σ own t b own' c R s' :=
  ⟨⟨by rw [hn]; exact h.tr.n, h.tr.ow, fun k hk' hm => (hk k (Nat.lt_of_lt_of_le hk' h.tr.n) (.inl hk')).trans (h.tr.keep k hk' hm)⟩,
   h.co.keep (by omega) fun k hk' hm => get_cells (hk k hk' (.inr (by unfold Mine at hm; omega)))⟩
end Now
section
variable {σ s : AState} {own own' : Nat → Nat} {t b q : Nat} {c : Core} {R : Rws} {m : Msg} {x y z : AV} {es : List Ent}
def msg0 (m : Msg) (x y z : AV) : List AV := [.int .i64 0, .int .i64 0, .int .i64 (m.kind : Int), .int .i64 0, .int .i64 (m.index : Int), .int .i64 (m.last : Int), .int .i64 (m.commit : Int), .int .i64 (m.seq : Int), .bool false, x, y, z, .nils, .nils]
theorem msg0_eq (m : Msg) (x y z : AV) : msg0 m x y z = [.int .i64 0, .int .i64 0, .int .i64 (m.kind : Int), .int .i64 0, .int .i64 (m.index : Int), .int .i64 (m.last : Int), .int .i64 (m.commit : Int), .int .i64 (m.seq : Int), .bool false, x, y, z, .nils, .nils] := Eq.trans rfl rfl
/- Entries, as a message under way holds them. -/
structure Held (σ : AState) (own' : Nat → Nat) (q : Nat) (m : Msg) (x y z : AV) (s : AState) (es : List Ent) : Prop where
  lo : σ.n ≤ q
  hi : q < s.n
  q0 : own' q = 0
  cs : s.cells q = some (msg0 m x y z)
  rx : RowP (fun k => σ.n ≤ k ∧ own' k = 1) s x (es.map fun e => .int .i64 (e.term : Int)) es.length 1
  ry : RowP (fun k => σ.n ≤ k ∧ own' k = 2) s y (es.map fun e => .int .i64 (e.kind : Int)) es.length 1
  rz : RowP (fun k => σ.n ≤ k ∧ own' k = 3) s z (es.map fun e => bytesP e.told) es.length 1
namespace Held
theorem keeps (h : Held σ own' q m x y z s es) {s' : AState} (hk : Keeps s.n s s') : Held σ own' q m x y z s' es :=
  ⟨h.lo, Nat.lt_of_lt_of_le h.hi hk.1, h.q0, (hk.cells h.hi).trans h.cs, h.rx.keep hk.1 fun k hk' _ => hk.cells hk', h.ry.keep hk.1 fun k hk' _ => hk.cells hk', h.rz.keep hk.1 fun k hk' _ => hk.cells hk'⟩
theorem slots (h : Held σ own' q m x y z s es) (k : Nat) (sl : List (Nat × List AV)) : Held σ own' q m x y z (addSlots s.n k s sl) es := h.keeps (slots_keep (Keeps.refl s))
theorem loc_ (h : Held σ own' q m x y z s es) : Held σ (loc own' s.n) q m x y z s es :=
  ⟨h.lo, h.hi, (loc_lt h.hi).trans h.q0, h.cs, h.rx.mono fun k hk hn => ⟨hk.1, (loc_lt hn).trans hk.2⟩, h.ry.mono fun k hk hn => ⟨hk.1, (loc_lt hn).trans hk.2⟩, h.rz.mono fun k hk hn => ⟨hk.1, (loc_lt hn).trans hk.2⟩⟩
theorem put_ (h : Held σ own' q m x y z s es) {w : Nat} (hw : ¬ w = q) (h0 : own' w = 0) (o : List AV) : Held σ own' q m x y z (s.put w o) es :=
  ⟨h.lo, h.hi, h.q0, by rw [put_get, if_neg fun e => hw e.symm]; exact h.cs, h.rx.put (by omega) o, h.ry.put (by omega) o, h.rz.put (by omega) o⟩
/- Nothing of it turns. -/
theorem but (h : Held σ own' q m x y z s es) {s' : AState} (hn : s'.n = s.n) (hk : ∀ k, k < s.n → own' k < 10 → s'.cells k = s.cells k) : Held σ own' q m x y z s' es :=
  ⟨h.lo, by rw [hn]; exact h.hi, h.q0, (hk q h.hi (by rw [h.q0]; omega)).trans h.cs, h.rx.keep (by omega) fun k hk' hp => hk k hk' (by omega), h.ry.keep (by omega) fun k hk' hp => hk k hk' (by omega), h.rz.keep (by omega) fun k hk' hp => hk k hk' (by omega)⟩
/- Frozen, it is a message. -/
theorem frz {N : Nat} {Q : Env → AState → Prop} {ρ : Env} (h : Held σ own' q m x y z s es) (hn : Now σ own t b own' c R s) (ht : 10 ≤ t) (hm : (m.fill es).src = 0 ∧ m.to = 0 ∧ m.term = 0 ∧ m.yes = false ∧ m.mem = [] ∧ m.data = [])
    (hq : ∀ s', Now σ own t b own' c R s' → q < s'.n → s'.cells q = some (m.fill es).c → Q ρ s') : Frz N Q ρ s := by
  have fin : ∀ s', s'.n = s.n → (∀ k, k ≠ q → ¬ (σ.n ≤ k ∧ own' k = 1) → ¬ (σ.n ≤ k ∧ own' k = 2) → ¬ (σ.n ≤ k ∧ own' k = 3) → s'.h.get k = s.h.get k) → s'.cells q = some (m.fill es).c → Q ρ s' := fun s' h1 h2 h3 => by
    have hlo := h.lo
    have hq0 := h.q0
    refine hq s' (hn.but ht h1 fun k hk hk' => h2 k (fun e => ?_) (fun e => ?_) (fun e => ?_) (fun e => ?_)) (by rw [h1]; exact h.hi) h3
    · subst e; omega
    · omega
    · omega
    · omega
  have hq0 := h.q0
  have n1 : ∀ j, 0 < j → ¬ (σ.n ≤ q ∧ own' q = j) := fun j hj => by omega
  refine Frz.trans (Frz.row h.rx h.cs (n1 1 (by omega)) (i := 9) rfl fun s1 a1 c1 k1 => ?_)
  refine Frz.trans (Frz.row (h.ry.keep (by omega) fun k _ hp => get_cells (k1 k (fun e => by subst e; omega) (by omega))) c1 (n1 2 (by omega)) (i := 10) rfl fun s2 a2 c2 k2 => ?_)
  refine Frz.trans (Frz.row (h.rz.keep (by omega) fun k _ hp => get_cells ((k2 k (fun e => by subst e; omega) (by omega)).trans (k1 k (fun e => by subst e; omega) (by omega)))) c2 (n1 3 (by omega)) (i := 11) rfl fun s3 a3 c3 k3 => ?_)
  refine Frz.trans (Frz.row (RowP.nil (fun _ => False) s3 1) c3 (fun e => e) (i := 12) rfl fun s4 a4 c4 k4 => ?_)
  refine Frz.row (RowP.nil (fun _ => False) s4 1) c4 (fun e => e) (i := 13) rfl fun s5 a5 c5 k5 => ?_
  refine fin s5 (by omega) (fun k hk h1 h2 h3 => ?_) (c5.trans (congrArg some ?_))
  · rw [k5 k hk (fun e => e), k4 k hk (fun e => e), k3 k hk h3, k2 k hk h2, k1 k hk h1]
  · obtain ⟨e1, e2, e3, e4, e5, e6⟩ := hm
    rw [Msg.c_eq, msg0_eq]
    unfold Msg.fill at e1 ⊢
    simp only at e1
    simp only [e1, e2, e3, e4, e5, e6, natsP, rowsP, intsP, bytesP, List.set_cons_zero, List.set_cons_succ, List.map_map, List.length_map]
    rfl
/- One entry more. -/
theorem more (h : Held σ own' q m x y z s es) (hn : Now σ own t b own' c R s) (ht : 10 ≤ t) (he : es.length ≤ 100000) {i j k : Nat} {e : Ent} (hi : s.cells i = some [.int .i64 (e.term : Int)]) (hj : s.cells j = some [.int .i64 (e.kind : Int)]) (hk : s.cells k = some [bytesP e.told])
    (li : i < s.n) (lj : j < s.n) (lk : k < s.n) (oi : own' i = 0) (oj : own' j = 0) (ok : own' k = 0) :
    ∃ b1 p1 s2 b2 p2 s3 b3 p3 s4 own4, appendA s 1 8 x (.sl i 0 1 (some 1) 1) = some ((.sl b1 0 (es.length + 1) p1 1), s2) ∧ appendA s2 1 8 y (.sl j 0 1 (some 1) 1) = some ((.sl b2 0 (es.length + 1) p2 1), s3) ∧ appendA s3 1 24 z (.sl k 0 1 (some 1) 1) = some ((.sl b3 0 (es.length + 1) p3 1), s4) ∧
      (∀ w, w < s.n → own' w = 0 → (w < s2.n ∧ s2.h.get w = s.h.get w) ∧ (w < s3.n ∧ s3.h.get w = s.h.get w) ∧ (w < s4.n ∧ s4.h.get w = s.h.get w)) ∧ (∀ x'' y'' z'', Now σ own t b own4 c R (((s4.put q x'').put q y'').put q z'')) ∧ (∀ x'' y'', Held σ own4 q m (.sl b1 0 (es.length + 1) p1 1) (.sl b2 0 (es.length + 1) p2 1) (.sl b3 0 (es.length + 1) p3 1) (((s4.put q x'').put q y'').put q (msg0 m (.sl b1 0 (es.length + 1) p1 1) (.sl b2 0 (es.length + 1) p2 1) (.sl b3 0 (es.length + 1) p3 1))) (es ++ [e])) := by
  obtain ⟨b1, cap1, s2, own2, ha1, hr1, hn2, l2, k2, o2⟩ := hn.lapp ht (j := 1) (by omega) (by omega) h.rx (y := .sl i 0 1 (some 1) 1) (new := [.int .i64 (e.term : Int)]) (bytes := 8) rfl (firstA_own hi (Nat.le_refl _)) rfl rfl (by omega)
  have c2 : ∀ w, w < s.n → own' w ≠ 1 → s2.cells w = s.cells w := fun w hw ho => get_cells (k2 w hw ho)
  have ry2 : RowP (fun k => σ.n ≤ k ∧ own2 k = 2) s2 y (es.map fun e => .int .i64 (e.kind : Int)) es.length 1 := (h.ry.mono fun k hp hk => ⟨hp.1, (o2 k hk).trans hp.2⟩).keep l2 fun k hk hp => c2 k hk (by rw [← o2 k hk, hp.2]; omega)
  have rz2 : RowP (fun k => σ.n ≤ k ∧ own2 k = 3) s2 z (es.map fun e => bytesP e.told) es.length 1 := (h.rz.mono fun k hp hk => ⟨hp.1, (o2 k hk).trans hp.2⟩).keep l2 fun k hk hp => c2 k hk (by rw [← o2 k hk, hp.2]; omega)
  obtain ⟨b2, cap2, s3, own3, ha2, hr2, hn3, l3, k3, o3⟩ := hn2.lapp ht (j := 2) (by omega) (by omega) ry2 (y := .sl j 0 1 (some 1) 1) (new := [.int .i64 (e.kind : Int)]) (bytes := 8) rfl (firstA_own ((c2 j lj (by omega)).trans hj) (Nat.le_refl _)) rfl rfl (by omega)
  have c3 : ∀ w, w < s2.n → own2 w ≠ 2 → s3.cells w = s2.cells w := fun w hw ho => get_cells (k3 w hw ho)
  have rx3 : RowP (fun k => σ.n ≤ k ∧ own3 k = 1) s3 _ _ _ 1 := (hr1.mono fun k hp hk => ⟨hp.1, (o3 k hk).trans hp.2⟩).keep l3 fun k hk hp => c3 k hk (by rw [← o3 k hk, hp.2]; omega)
  have rz3 : RowP (fun k => σ.n ≤ k ∧ own3 k = 3) s3 _ _ _ 1 := (rz2.mono fun k hp hk => ⟨hp.1, (o3 k hk).trans hp.2⟩).keep l3 fun k hk hp => c3 k hk (by rw [← o3 k hk, hp.2]; omega)
  have o23 : own2 k = 0 := (o2 k lk).trans ok
  obtain ⟨b3, cap3, s4, own4, ha3, hr3, hn4, l4, k4, o4⟩ := hn3.lapp ht (j := 3) (by omega) (by omega) rz3 (y := .sl k 0 1 (some 1) 1) (new := [bytesP e.told]) (bytes := 24) rfl (firstA_own (((c3 k (by omega) (by omega)).trans (c2 k lk (by omega))).trans hk) (Nat.le_refl _)) rfl rfl (by omega)
  have c4 : ∀ w, w < s3.n → own3 w ≠ 3 → s4.cells w = s3.cells w := fun w hw ho => get_cells (k4 w hw ho)
  have rx4 : RowP (fun k => σ.n ≤ k ∧ own4 k = 1) s4 _ _ _ 1 := (rx3.mono fun k hp hk => ⟨hp.1, (o4 k hk).trans hp.2⟩).keep l4 fun k hk hp => c4 k hk (by rw [← o4 k hk, hp.2]; omega)
  have ry4 : RowP (fun k => σ.n ≤ k ∧ own4 k = 2) s4 _ _ _ 1 := (hr2.mono fun k hp hk => ⟨hp.1, (o4 k hk).trans hp.2⟩).keep l4 fun k hk hp => c4 k hk (by rw [← o4 k hk, hp.2]; omega)
  have old : ∀ w, w < s.n → own2 w = own' w ∧ own3 w = own' w ∧ own4 w = own' w := fun w hw => ⟨o2 w hw, (o3 w (by omega)).trans (o2 w hw), ((o4 w (by omega)).trans (o3 w (by omega))).trans (o2 w hw)⟩
  have hq := old q h.hi
  have hq0 := h.q0
  have n4 : ∀ j, 0 < j → ¬ (σ.n ≤ q ∧ own4 q = j) := fun j hj => by omega
  refine ⟨_, _, s2, _, _, s3, _, _, s4, own4, ha1, ha2, ha3, fun w hw ho => ?_, fun x'' y'' z'' => ?_, fun x'' y'' => ⟨h.lo, ?_, by omega, by rw [put_get, if_pos rfl], ?_, ?_, ?_⟩⟩
  · have ow := old w hw
    have a2 := k2 w hw (by omega)
    have a3 := (k3 w (by omega) (by omega)).trans a2
    exact ⟨⟨by omega, a2⟩, ⟨by omega, a3⟩, by omega, (k4 w (by omega) (by omega)).trans a3⟩
  · exact ((hn4.local_ ht h.lo (by omega) _).local_ ht h.lo (by omega) _).local_ ht h.lo (by omega) _
  · have := h.hi
    show q < s4.n
    omega
  · rw [List.map_append, List.length_append]
    exact ((rx4.put (n4 1 (by omega)) _).put (n4 1 (by omega)) _).put (n4 1 (by omega)) _
  · rw [List.map_append, List.length_append]
    exact ((ry4.put (n4 2 (by omega)) _).put (n4 2 (by omega)) _).put (n4 2 (by omega)) _
  · rw [List.map_append, List.length_append]
    exact ((hr3.put (n4 3 (by omega)) _).put (n4 3 (by omega)) _).put (n4 3 (by omega)) _
end Held
end
end Go.Proofs.Ythojhpjjkfjeiaa.Va
set_option maxRecDepth 100000
set_option maxHeartbeats 4000000
set_option linter.all false
namespace Go.Proofs.Ythojhpjjkfjeiaa.Va
open Go.Proofs
/- Members that may be. -/
def mems (l : List Int) : Prop := l.length ≤ 7 ∧ ∀ x ∈ l, 0 ≤ x ∧ x < 7
/- A core that is well; n: how much room there is for more. -/
structure Core.Ok (c : Core) (n : Nat) : Prop where
  lt : c.last < 4611686018427380000
  ll : c.l.length ≤ 1000
  ld : ∀ e ∈ c.l, e.data.length ≤ 1000000 ∧ mems e.mem
  sm : mems c.snap.mem
  ol : c.out.length + n ≤ 1000
  yl : c.yes.length + n ≤ 1000
  np : c.role = 2 → ∀ to, to < 7 → to ≠ c.id → c.snap.index < (c.peer to).next ∧ (c.peer to).next ≤ c.last + 1
  cm : c.commit ≤ c.last
  wt : c.waits = []
  tm : c.term + n < 2305843009213693952
  pl : c.peers.length = 7
  s0 : c.snap.index = 0
  mp : c.role = 2 → ∀ k, k < 7 → (c.peer k).match_ ≤ c.last
theorem Core.Ok.fit {c : Core} {n : Nat} (h : c.Ok n) : c.fit := by have := h.lt; unfold Core.fit; omega
theorem Core.Ok.le {c : Core} {n m : Nat} (h : c.Ok n) (hm : m ≤ n) : c.Ok m := ⟨h.lt, h.ll, h.ld, h.sm, by have := h.ol; omega, by have := h.yl; omega, h.np, h.cm, h.wt, by have := h.tm; omega, h.pl, h.s0, h.mp⟩
theorem Core.Ok.cnt {c : Core} {n : Nat} (h : c.Ok n) : ∀ k, mems (c.cnt k).1 := by
  intro k
  induction k with
  | zero => exact h.sm
  | succ k ih =>
    rw [Core.cnt]
    by_cases hk : (c.ent k).kind = 2
    · rw [if_pos hk]
      by_cases hl : k < c.l.length
      · rw [ent_get hl]; exact (h.ld _ (List.getElem_mem hl)).2
      · have : c.ent k = ent0 := by unfold Core.ent; rw [List.getD_eq_getElem?_getD, List.getElem?_eq_none (by omega)]; rfl
        rw [this]; exact ⟨Nat.zero_le _, fun x hx => by cases hx⟩
    · rw [if_neg hk]; exact ih
theorem Core.Ok.counted {c : Core} {n : Nat} (h : c.Ok n) (i : Nat) : mems (c.counted i).1 := h.cnt _
section
variable {σ : AState} {own : Nat → Nat} {t b : Nat} {c : Core} {R : Rws}
theorem send_ac (h : CoreAt σ own t b c R) (ht : 10 ≤ t) {to : Nat} (hto : to < 7) {n : Nat} (hk : c.Ok n) (hn1 : c.snap.index < (c.peer to).next) (hn2 : (c.peer to).next < 4611686018427387904) : callD Try.prog 67 [.ptr b 0, .int .i64 (to : Int)] σ fun v s => v = .tup [] ∧ ∃ own' R', Now σ own t b own' (c.send to) R' s := by
  have n0 := Now.start h
  have hpl := h.pl
  have hfit := hk.fit
  obtain ⟨a, ha⟩ : ∃ a, a = 11 + to * 5 := ⟨_, rfl⟩
  have gto : (to : Int) < 7 := by omega
  have ha50 : a ≤ 50 := by omega
  have gto0 : (0 : Int) ≤ (to : Int) := by omega
  have p0 := cp0' hto c
  have p2 := cp2 hto c
  have p3 := cp3 hto c
  rw [← ha] at p0 p2 p3
  refine cd_s fn67 cf67 cl67 rfl ?_
  simp only [ac67]
  unfold ab67
  refine z_mid (fun ρ s => ρ.rd 0 = .ptr b 0 ∧ ρ.rd 1 = .int .i64 (to : Int) ∧ ρ.rd 4 = .ptr b a ∧ Now σ own t b (loc own σ.n) c R s) ?_ ?_
  · simp only [XU, seval, gto, gto0]
    exact ⟨by rw [ha], n0⟩
  clear n0 h
  rintro ρ s ⟨h0, h1, h4, n0⟩
  refine z_mid (fun ρ s => ρ.rd 0 = .ptr b 0 ∧ ρ.rd 1 = .int .i64 (to : Int) ∧ ρ.rd 4 = .ptr b a ∧ ∃ own' q, ρ.rd 5 = .ptr q 0 ∧ Now σ own t b own' c R s ∧ Held σ own' q c.base .nils .nils .nils s []) ?_ ?_
  · simp only [XU, seval]
    refine d_dreg follow [(21, [.int .i64 0, .int .i64 0, .int .i64 0, .int .i64 0, .int .i64 0, .int .i64 0, .int .i64 0, .int .i64 0, .bool false, .nils, .nils, .nils, .nils, .nils])] rfl ?_
    have n1 := (n0.loc_).slots 23 [(21, [.int .i64 0, .int .i64 0, .int .i64 0, .int .i64 0, .int .i64 0, .int .i64 0, .int .i64 0, .int .i64 0, .bool false, .nils, .nils, .nils, .nils, .nils])]
    have g21 := slots_get (s := s) (m := 23) [(21, [.int .i64 0, .int .i64 0, .int .i64 0, .int .i64 0, .int .i64 0, .int .i64 0, .int .i64 0, .int .i64 0, .bool false, .nils, .nils, .nils, .nils, .nils])] 21 _ rfl
    have cg := cells_of g21
    have hnA : (addSlots s.n 23 s [(21, [.int .i64 0, .int .i64 0, .int .i64 0, .int .i64 0, .int .i64 0, .int .i64 0, .int .i64 0, .int .i64 0, .bool false, .nils, .nils, .nils, .nils, .nils])]).n = s.n + 23 := rfl
    have hq0 : loc (loc own σ.n) s.n (s.n + 21) = 0 := loc_ge (by omega)
    have lo := n0.tr.n
    generalize addSlots s.n 23 s [(21, [.int .i64 0, .int .i64 0, .int .i64 0, .int .i64 0, .int .i64 0, .int .i64 0, .int .i64 0, .int .i64 0, .bool false, .nils, .nils, .nils, .nils, .nils])] = s1 at *
    have kb := n1.co.cb
    have hbq : ¬ b = s.n + 21 := fun e => by have := n1.co.ob; rw [e] at this; omega
    simp only [XU, seval, DU, h0, h1, kb, CS, SX]
    refine (last_o n1.co hfit).use ?_
    simp only [XU, seval, DU, h0, h1, kb, CS, SX]
    refine (last_o n1.co hfit).use ?_
    simp only [XU, seval, DU, h0, h1, kb, CS, SX]
    refine (termAt_o n1.co hfit).use ?_
    simp only [XU, seval, DU, h0, h1, kb, CS, SX, cg]
    refine ⟨⟨?_, ?_⟩, ?_⟩
    · intro l hl c hc hf
      simp only [List.mem_cons, List.mem_nil_iff, List.not_mem_nil, or_false] at hl hc
      rcases hl with rfl | rfl <;> rcases hc with rfl | rfl | rfl | rfl | rfl <;> dsimp only at hf ⊢ <;> first
        | (exact absurd hf (by decide +kernel))
        | (simp only [XU, seval, h0, h1, kb, CS, SX, hbq]; done)
    · intro sl hsl c hc hf
      simp only [List.mem_cons, List.mem_nil_iff, List.not_mem_nil, or_false] at hsl hc
      subst hsl
      rcases hc with rfl | rfl | rfl | rfl | rfl <;> dsimp only at hf ⊢ <;> first
        | (exact absurd hf (by decide +kernel))
        | exact ⟨by omega, g21⟩
    · simp only [XU, seval, h0, h1, h4]
      exact ⟨_, _, rfl, n1.local_ ht (by omega) hq0 _, ⟨by omega, by show s.n + 21 < s1.n; omega, hq0, by rw [put_get, if_pos rfl]; rfl, RowP.nil _ _ _, RowP.nil _ _ _, RowP.nil _ _ _⟩⟩
  clear n0 h0 h1 h4
  rintro ρ s ⟨h0, h1, h4, own1, q, h5, n1, hd⟩
  refine z_frz (fun ρ s => ρ.rd 0 = .ptr b 0 ∧ ρ.rd 1 = .int .i64 (to : Int) ∧ ρ.rd 5 = .ptr q 0 ∧ ∃ own' c2 m, Now σ own t b own' c2 R s ∧ s.cells q = some (Msg.c m) ∧ c2.out.length ≤ 100000 ∧ c.send to = c2.say to m) ?_ ?_
  rotate_left
  · clear h0 h1 h4 h5 n1 hd
    rintro ρ s ⟨h0, h1, h5, own2, c2, m, n2, cq, hol, he⟩
    refine z_wp ?_
    rw [he]
    have hS := say_ac n2.co ht (m := m) (to := to) hol
    rw [Msg.c_eq] at hS cq
    simp only [XU, seval, h0, h1, h5, cq, sg14]
    refine hS.mono ?_
    rintro v s' ⟨rfl, own', R', n3⟩
    simp only [XU, seval]
    exact ⟨_, _, n2.call n3⟩
  have hol := hk.ol
  have kb := n1.co.cb
  have hm0 : (c.base.fill []).src = 0 ∧ c.base.to = 0 ∧ c.base.term = 0 ∧ c.base.yes = false ∧ c.base.mem = [] ∧ c.base.data = [] := ⟨rfl, rfl, rfl, rfl, rfl, rfl⟩
  by_cases gh : (c.peer to).heard = false
  · have he : c.send to = c.say to (c.base.fill []) := by unfold Core.send; rw [if_pos (.inl gh)]; rfl
    simp only [XU, seval, h0, h4, kb, CS, p3, gh]
    refine hd.frz n1 ht hm0 fun s' n' _ c' => ?_
    simp only [XU, seval, h0, h1, h5]
    exact ⟨_, _, _, n', c', by omega, he⟩
  have gh : (c.peer to).heard = true := by simpa using gh
  by_cases gt : 3 ≤ (c.peer to).told
  · have gt' : (3 : Int) ≤ ((c.peer to).told : Int) := by omega
    have he : c.send to = c.say to (c.base.fill []) := by unfold Core.send; rw [if_pos (.inr gt)]; rfl
    simp only [XU, seval, h0, h4, kb, CS, p2, p3, gh, gt']
    refine hd.frz n1 ht hm0 fun s' n' _ c' => ?_
    simp only [XU, seval, h0, h1, h5]
    exact ⟨_, _, _, n', c', by omega, he⟩
  have gt' : ¬ (3 : Int) ≤ ((c.peer to).told : Int) := by omega
  simp only [XU, seval, h0, h4, kb, CS, p2, p3, gh, gt']
  refine x_dreg0 follow ?_ rfl
  have n2 := n1.slots 12 []
  have hd2 := hd.slots 12 []
  generalize addSlots s.n 12 s [] = s2 at *
  clear n1 hd kb
  have kb := n2.co.cb
  have gs : ¬ ((c.peer to).next : Int) ≤ (c.snap.index : Int) := by omega
  simp only [XU, seval, h0, h4, kb, CS, p0, gs]
  refine d_dreg follow [] rfl ?_
  have n3 := n2.slots 18 []
  have hd3 := hd2.slots 18 []
  generalize addSlots s2.n 18 s2 [] = s3 at *
  clear n2 hd2 kb
  have kb := n3.co.cb
  have kq := hd3.cs
  have hbq : ¬ b = q := fun e => by have := n3.co.ob; have := hd3.q0; rw [e] at *; omega
  have hqb : ¬ q = b := fun e => hbq e.symm
  rw [msg0_eq] at kq
  have w1 := wrapSub1 (a := (c.peer to).next) (by omega) (by omega)
  have hes : c.from_ (c.peer to).next = c.l.drop ((c.peer to).next - 1 - c.snap.index) := rfl
  have hne : ¬ ((c.peer to).heard = false ∨ 3 ≤ (c.peer to).told) := fun e => by rcases e with e | e; rw [gh] at e; cases e; exact gt e
  have hs0 : c.from_ (c.peer to).next = [] → c.send to = c.say to (((c.at_ (c.peer to).next)).fill []) := fun e => by unfold Core.send; rw [if_neg hne, if_pos e]; rfl
  have hs1 : c.from_ (c.peer to).next ≠ [] → c.send to = (c.tick1 to).say to (((c.at_ (c.peer to).next)).fill (c.from_ (c.peer to).next)) := fun e => by unfold Core.send; rw [if_neg hne, if_neg e]
  have hm1 : ∀ es, ((c.at_ (c.peer to).next).fill es).src = 0 ∧ (c.at_ (c.peer to).next).to = 0 ∧ (c.at_ (c.peer to).next).term = 0 ∧ (c.at_ (c.peer to).next).yes = false ∧ (c.at_ (c.peer to).next).mem = [] ∧ (c.at_ (c.peer to).next).data = [] := fun _ => ⟨rfl, rfl, rfl, rfl, rfl, rfl⟩
  have hm2 : ∀ x y z, msg0 (c.at_ (c.peer to).next) x y z = [.int .i64 0, .int .i64 0, .int .i64 3, .int .i64 0, .int .i64 (((c.peer to).next - 1 : Nat) : Int), .int .i64 (c.termAt ((c.peer to).next - 1) : Int), .int .i64 (c.commit : Int), .int .i64 (c.seq : Int), .bool false, x, y, z, .nils, .nils] := fun _ _ _ => rfl
  have hm3 : ∀ x y z, msg0 c.base x y z = [.int .i64 0, .int .i64 0, .int .i64 3, .int .i64 0, .int .i64 (c.last : Int), .int .i64 (c.termAt c.last : Int), .int .i64 (c.commit : Int), .int .i64 (c.seq : Int), .bool false, x, y, z, .nils, .nils] := fun _ _ _ => rfl
  rw [← msg0_eq, hm3] at kq
  simp only [XU, seval, DU, h0, h4, h5, kb, CS, p0, w1, SX]
  refine (termAt_o n3.co hfit).use ?_
  simp only [XU, seval, DU, h0, h4, h5, kb, CS, p0, w1, SX, kq]
  refine ⟨⟨?_, ?_⟩, ?_⟩
  · intro l hl c hc hf
    simp only [List.mem_cons, List.mem_nil_iff, List.not_mem_nil, or_false] at hl hc
    rcases hl with rfl | rfl <;> rcases hc with rfl | rfl | rfl | rfl <;> dsimp only at hf ⊢ <;> first
      | (exact absurd hf (by decide +kernel))
      | (simp only [XU, seval, h0, h4, h5, kb, CS, p0, SX, hbq]; done)
  · intro sl hsl; simp at hsl
  have n4 := fun x y => (n3.local_ ht hd3.lo hd3.q0 x).local_ ht hd3.lo hd3.q0 y
  have hd4 : ∀ x, Held σ own1 q (c.at_ (c.peer to).next) .nils .nils .nils ((s3.put q x).put q (msg0 (c.at_ (c.peer to).next) .nils .nils .nils)) [] := fun x => ⟨hd3.lo, hd3.hi, hd3.q0, by rw [put_get, if_pos rfl], RowP.nil _ _ _, RowP.nil _ _ _, RowP.nil _ _ _⟩
  simp only [hm2] at hd4
  obtain ⟨m1, em1⟩ : ∃ m1, m1 = c.at_ (c.peer to).next := ⟨_, rfl⟩
  obtain ⟨es, ees⟩ : ∃ es, es = c.from_ (c.peer to).next := ⟨_, rfl⟩
  rw [← em1] at hd4 hm1
  rw [← em1, ← ees] at hs0 hs1
  have hlen : es.length = c.l.length - ((c.peer to).next - 1 - c.snap.index) := by rw [ees, hes, List.length_drop]
  have hll := hk.ll
  simp only [XU, seval, hbq, CS, p0]
  refine x_for (fun k ρ s => ρ.rd 0 = .ptr b 0 ∧ ρ.rd 1 = .int .i64 (to : Int) ∧ ρ.rd 4 = .ptr b a ∧ ρ.rd 5 = .ptr q 0 ∧ ρ.rd 6 = .int .i64 (((c.peer to).next + k : Nat) : Int) ∧ ∃ own' x y z, Now σ own t b own' c R s ∧ Held σ own' q m1 x y z s (es.take k)) es.length ?_ ?_
  · simp only [XU, seval, h0, h1, h4, h5]
    exact ⟨_, _, _, _, n4 _ _, hd4 _⟩
  clear n3 hd3 kb kq h0 h1 h4 h5 n4 hd4
  rintro k ρ s hkn ⟨h0, h1, h4, h5, h6, own2, x, y, z, n3, hd3⟩
  by_cases hlt : k < es.length
  rotate_left
  · have : k = es.length := by omega
    subst this
    rw [List.take_length] at hd3
    have hge : ¬ (((c.peer to).next + es.length : Nat) : Int) ≤ (c.last : Int) := by unfold Core.last; omega
    have kb := n3.co.cb
    have kq := hd3.cs
    rw [msg0_eq] at kq
    obtain ⟨N, hN⟩ : ∃ N, N = (c.peer to).next + es.length := ⟨_, rfl⟩
    rw [← hN] at h6 hge
    simp only [XU, seval, h0, h1, h4, h5, h6]
    refine (last_o n3.co hfit).use ?_
    by_cases he0 : es = []
    · have hle0 : es.length = 0 := by rw [he0]; rfl
      rcases hd3.rz.form with ez | ⟨bz, cz, ez⟩
      · subst ez
        simp only [XU, seval, h0, h1, h4, h5, h6, hge, kq]
        refine hd3.frz n3 ht (hm1 es) fun s' n' _ c' => ?_
        simp only [XU, seval, h0, h1, h5]
        exact ⟨_, _, _, n', c', by omega, by rw [he0]; exact hs0 he0⟩
      · subst ez
        simp only [XU, seval, h0, h1, h4, h5, h6, hge, kq, hle0]
        refine hd3.frz n3 ht (hm1 es) fun s' n' _ c' => ?_
        simp only [XU, seval, h0, h1, h5]
        exact ⟨_, _, _, n', c', by omega, by rw [he0]; exact hs0 he0⟩
    have hle1 : (0 : Int) < (es.length : Int) := by have := List.length_pos_iff.2 he0; omega
    have w2 := wrapSucc (a := (c.peer to).told) (by omega)
    have p2' := fun R x => sp2 hto hpl R x
    simp only [← ha] at p2'
    have hbq : ¬ b = q := fun e => by have := n3.co.ob; have := hd3.q0; rw [e] at *; omega
    have n4 := n3.upd (c' := c.tick1 to) rfl rfl rfl rfl rfl (by show (c.peers.set to _).length = 7; rw [List.length_set]; exact hpl)
    have hd4 := hd3.but (s' := s.put b (coreC (c.tick1 to) R)) rfl fun k _ hk => by
      have : ¬ k = b := fun e => by have := n3.co.ob; rw [e] at hk; omega
      rw [put_get, if_neg this]
    have hs1 := hs1 he0
    obtain ⟨bz, cz, ez⟩ : ∃ bz cz, z = .sl bz 0 es.length cz 1 := by
      rcases hd3.rz.form with ez | e
      · have := hd3.rz.len.1
        rw [ez] at this
        have h0 : es.length = 0 := (Option.some.inj this).symm
        omega
      · exact e
    subst ez
    have ht1 : ∀ (h : to < 7), coreC (c.setp to { c.peer to with told := (c.peer to).told + 1 }) R = coreC (c.tick1 to) R := fun _ => rfl
    simp only [XU, seval, h0, h1, h4, h5, h6, hge, kq, hle1, kb, ha50, p2, w2, storeA, sets1, p2', CS]
    refine hd4.frz n4 ht (hm1 es) fun s' n' _ c' => ?_
    simp only [XU, seval, h0, h1, h5]
    exact ⟨_, _, _, n', c', by show c.out.length ≤ _; omega, hs1⟩
  have hlast : c.last = c.snap.index + c.l.length := rfl
  have hfl : c.last < 4611686018427387904 := hfit
  obtain ⟨N, hN⟩ : ∃ N, N = (c.peer to).next + k := ⟨_, rfl⟩
  have gle : (N : Int) ≤ (c.last : Int) := by omega
  rw [← hN] at h6
  have hA := at_o n3.co (i := N) hfit (by omega) (by omega)
  obtain ⟨e, he⟩ : ∃ e, e = c.ent (N - c.snap.index - 1) := ⟨_, rfl⟩
  rw [← he] at hA
  have hel : e = c.l[N - c.snap.index - 1]'(by omega) := by rw [he, ent_get]
  have hed := hk.ld e (by rw [hel]; exact List.getElem_mem _)
  have htk : es.take (k + 1) = es.take k ++ [e] := by
    rw [List.take_add_one, List.getElem?_eq_getElem hlt]
    have : es[k] = e := by
      rw [hel]
      simp only [ees, hes, List.getElem_drop]
      congr 1
      omega
    rw [this]; rfl
  have hT := fun σ => twin_ac (e := e) (σ := σ) hed.1 (Nat.le_trans hed.2.1 (by omega))
  have hI := fun σ => ids_ac (l := e.mem) (σ := σ) (Nat.le_trans hed.2.1 (by omega))
  have wN := wrapSucc (a := N) (by omega)
  have hN1 : (c.peer to).next + (k + 1) = N + 1 := by omega
  simp only [Ent.c_eq] at hA hT
  simp only [XU, seval, h0, h1, h4, h5, h6]
  refine (last_o n3.co hfit).use ?_
  simp only [XU, seval, h0, h1, h4, h5, h6]
  rw [decide_eq_true gle, Br_true, wpX_skip, wpXK_normal, wpX_seq, wpX_block, wpX_seq]
  refine x_mid (fun ρ s => ρ.rd 0 = .ptr b 0 ∧ ρ.rd 1 = .int .i64 (to : Int) ∧ ρ.rd 4 = .ptr b a ∧ ρ.rd 5 = .ptr q 0 ∧ ρ.rd 6 = .int .i64 (N : Int) ∧ ∃ own' w, ρ.rd 7 = .ptr w 0 ∧ w < s.n ∧ σ.n ≤ w ∧ ¬ w = q ∧ own' w = 0 ∧ Now σ own t b own' c R s ∧ Held σ own' q m1 x y z s (es.take k) ∧ s.cells w = some [.int .i64 (e.term : Int), .int .i64 (e.kind : Int), bytesP e.data, intsP e.mem]) ?_ ?_
  · simp only [XU, seval, h0, h1, h4, h5, h6]
    refine hA.mono ?_
    intro v s2 hv
    obtain ⟨hv, hk2⟩ := hv
    subst hv
    simp only [XU, seval]
    refine (hT _).use ?_
    simp only [XU, seval, h0, h1, h4, h5, h6, SX, PS]
    have lo := (n3.tr.n)
    have l2 := hk2.1
    have hq := hd3.hi
    have hw0 : loc own2 s2.n s2.n = 0 := loc_ge (Nat.le_refl _)
    have n4 := ((n3.keeps hk2).loc_).push [.int .i64 0, .int .i64 0, .nils, .nils]
    have hd4 := ((hd3.keeps hk2).loc_).keeps ((Keeps.refl s2).push (.cells [.int .i64 0, .int .i64 0, .nils, .nils]))
    exact ⟨_, _, rfl, Nat.lt_succ_self _, by omega, by omega, hw0, n4.local_ ht (by omega) hw0 _, hd4.put_ (by omega) hw0 _, if_pos rfl⟩
  clear h0 h1 h4 h5 h6 n3 hd3 hA hT
  rintro ρ s ⟨h0, h1, h4, h5, h6, own3, w, h7, hws, hwl, hwq, hw0, n3, hd3, cw⟩
  rw [wpX_seq]
  refine x_mid (fun ρ s => ρ.rd 0 = .ptr b 0 ∧ ρ.rd 1 = .int .i64 (to : Int) ∧ ρ.rd 4 = .ptr b a ∧ ρ.rd 5 = .ptr q 0 ∧ ρ.rd 6 = .int .i64 (N : Int) ∧ ρ.rd 7 = .ptr w 0 ∧ w < s.n ∧ Now σ own t b own3 c R s ∧ Held σ own3 q m1 x y z s (es.take k) ∧ s.cells w = some [.int .i64 (e.term : Int), .int .i64 (e.kind : Int), bytesP e.told, intsP e.mem]) ?_ ?_
  · by_cases hk2 : e.kind = 2
    · have g : (e.kind : Int) = 2 := by omega
      have et : e.told = idsS e.mem := by unfold Ent.told; rw [if_pos hk2]
      rw [et]
      simp only [XU, seval, h0, h1, h4, h5, h6, h7, cw, g]
      refine (hI _).use ?_
      simp only [XU, seval, h0, h1, h4, h5, h6, h7, cw, SX, bytesP]
      exact ⟨hws, n3.local_ ht hwl hw0 _, hd3.put_ hwq hw0 _, by rw [g]⟩
    · have g : ¬ (e.kind : Int) = 2 := by omega
      have et : e.told = e.data := by unfold Ent.told; rw [if_neg hk2]
      rw [et]
      simp only [XU, seval, h0, h1, h4, h5, h6, h7, cw, g]
      exact ⟨hws, n3, hd3⟩
  clear h0 h1 h4 h5 h6 h7 n3 hd3 cw hws
  rintro ρ s ⟨h0, h1, h4, h5, h6, h7, hws, n3, hd3, cw⟩
  have eb : bytesP e.told = .psl (ofU8s e.told) 0 e.told.length := rfl
  rw [eb] at cw
  simp only [XU, seval]
  refine d_dreg follow [(4, [.int .i64 (e.term : Int)]), (10, [.int .i64 (e.kind : Int)]), (16, [.psl (ofU8s e.told) 0 e.told.length])] rfl ?_
  have n4 := (n3.loc_).slots 24 [(4, [.int .i64 (e.term : Int)]), (10, [.int .i64 (e.kind : Int)]), (16, [.psl (ofU8s e.told) 0 e.told.length])]
  have hd4 := (hd3.loc_).slots 24 [(4, [.int .i64 (e.term : Int)]), (10, [.int .i64 (e.kind : Int)]), (16, [.psl (ofU8s e.told) 0 e.told.length])]
  have g4 := slots_get (s := s) (m := 24) [(4, [.int .i64 (e.term : Int)]), (10, [.int .i64 (e.kind : Int)]), (16, [.psl (ofU8s e.told) 0 e.told.length])] 4 _ rfl
  have g10 := slots_get (s := s) (m := 24) [(4, [.int .i64 (e.term : Int)]), (10, [.int .i64 (e.kind : Int)]), (16, [.psl (ofU8s e.told) 0 e.told.length])] 10 _ rfl
  have g16 := slots_get (s := s) (m := 24) [(4, [.int .i64 (e.term : Int)]), (10, [.int .i64 (e.kind : Int)]), (16, [.psl (ofU8s e.told) 0 e.told.length])] 16 _ rfl
  have c4 := cells_of g4
  have c10 := cells_of g10
  have c16 := cells_of g16
  have cw1 : (addSlots s.n 24 s [(4, [.int .i64 (e.term : Int)]), (10, [.int .i64 (e.kind : Int)]), (16, [.psl (ofU8s e.told) 0 e.told.length])]).cells w = _ := (slots_old _ hws).trans cw
  have hnA : (addSlots s.n 24 s [(4, [.int .i64 (e.term : Int)]), (10, [.int .i64 (e.kind : Int)]), (16, [.psl (ofU8s e.told) 0 e.told.length])]).n = s.n + 24 := rfl
  have o4 : ∀ i, loc own3 s.n (s.n + i) = 0 := fun i => loc_ge (by omega)
  have ow : loc own3 s.n w = 0 := (loc_lt hws).trans hw0
  generalize addSlots s.n 24 s [(4, [.int .i64 (e.term : Int)]), (10, [.int .i64 (e.kind : Int)]), (16, [.psl (ofU8s e.told) 0 e.told.length])] = s1 at *
  have hesl : (es.take k).length ≤ 100000 := by rw [List.length_take]; omega
  have lo := hd4.lo
  have hqs := hd3.hi
  obtain ⟨b1, q1, s2, b2, q2, s3, b3, q3, s4, own4, ha1, ha2, ha3, hold, hnow, hheld⟩ := hd4.more n4 ht hesl c4 c10 c16 (by omega) (by omega) (by omega) (o4 4) (o4 10) (o4 16)
  have kq := hd4.cs
  have hoq := hold q hd4.hi hd4.q0
  have how := hold w (by omega) ow
  have kq2 := (get_cells hoq.1.2).trans kq
  have kq3 := (get_cells hoq.2.1.2).trans kq
  have kq4 := (get_cells hoq.2.2.2).trans kq
  have kw2 := (get_cells how.1.2).trans cw1
  have kw3 := (get_cells how.2.1.2).trans cw1
  have kw4 := (get_cells how.2.2.2).trans cw1
  have hg : ∀ i cs, i < 24 → s1.h.get (s.n + i) = some (.cells cs) → (s.n + i < s1.n ∧ s1.h.get (s.n + i) = some (.cells cs)) ∧ (s.n + i < s2.n ∧ s2.h.get (s.n + i) = some (.cells cs)) ∧ (s.n + i < s3.n ∧ s3.h.get (s.n + i) = some (.cells cs)) ∧ (s.n + i < s4.n ∧ s4.h.get (s.n + i) = some (.cells cs)) ∧
      ∀ X Y Z, (s.n + i < (s4.put q X).n ∧ (s4.put q X).h.get (s.n + i) = some (.cells cs)) ∧ (s.n + i < ((s4.put q X).put q Y).n ∧ ((s4.put q X).put q Y).h.get (s.n + i) = some (.cells cs)) ∧ (s.n + i < (((s4.put q X).put q Y).put q Z).n ∧ (((s4.put q X).put q Y).put q Z).h.get (s.n + i) = some (.cells cs)) := fun i cs hi hc => by
    have h1 := hold (s.n + i) (by omega) (o4 i)
    have hne : s.n + i ≠ q := by omega
    refine ⟨⟨by omega, hc⟩, ⟨h1.1.1, h1.1.2.trans hc⟩, ⟨h1.2.1.1, h1.2.1.2.trans hc⟩, ⟨h1.2.2.1, h1.2.2.2.trans hc⟩, fun X Y Z => ⟨⟨h1.2.2.1, ?_⟩, ⟨h1.2.2.1, ?_⟩, ⟨h1.2.2.1, ?_⟩⟩⟩
    · rw [put_h hne]; exact h1.2.2.2.trans hc
    · rw [put_h hne, put_h hne]; exact h1.2.2.2.trans hc
    · rw [put_h hne, put_h hne, put_h hne]; exact h1.2.2.2.trans hc
  rw [msg0_eq] at kq kq2 kq3 kq4
  simp only [XU, seval, DU, h0, h1, h4, h5, h6, h7, kq, cw1, fillA, PS]
  simp only [XU, seval, DU, ha1, kq2, kw2, h0, h1, h4, h5, h6, h7, fillA, PS]
  simp only [XU, seval, DU, ha2, kq3, kw3, h0, h1, h4, h5, h6, h7, fillA, PS]
  simp only [XU, seval, DU, ha3, kq4, kw4, h0, h1, h4, h5, h6, h7, SX]
  have hwq' : ¬ q = w := fun e => hwq e.symm
  refine ⟨⟨?_, ?_⟩, hlt, ?_, ?_⟩
  · intro l hl c hc hf
    simp only [List.mem_cons, List.mem_nil_iff, List.not_mem_nil, or_false] at hl hc
    rcases hl with rfl | rfl | rfl | rfl | rfl | rfl <;> rcases hc with rfl | rfl | rfl | rfl | rfl | rfl | rfl <;> dsimp only at hf ⊢ <;> first
      | (exact absurd hf (by decide +kernel))
      | (simp only [XU, seval, kq, kq2, kq3, kq4, cw1, kw2, kw3, kw4, hwq, hwq']; done)
  · intro sl hsl c hc hf
    simp only [List.mem_cons, List.mem_nil_iff, List.not_mem_nil, or_false] at hsl hc
    rcases hsl with rfl | rfl | rfl <;> rcases hc with rfl | rfl | rfl | rfl | rfl | rfl | rfl <;> dsimp only at hf ⊢ <;> first
      | (exact absurd hf (by decide +kernel))
      | exact (hg _ _ (by omega) (by assumption)).1
      | exact (hg _ _ (by omega) (by assumption)).2.1
      | exact (hg _ _ (by omega) (by assumption)).2.2.1
      | exact (hg _ _ (by omega) (by assumption)).2.2.2.1
      | exact ((hg _ _ (by omega) (by assumption)).2.2.2.2 _ _ _).1
      | exact ((hg _ _ (by omega) (by assumption)).2.2.2.2 _ _ _).2.1
      | exact ((hg _ _ (by omega) (by assumption)).2.2.2.2 _ _ _).2.2
  · rw [wN, hN1]
  · rw [htk]
    simp only [msg0_eq] at hheld
    exact ⟨_, _, _, _, hnow _ _ _, hheld _ _⟩
end
end Go.Proofs.Ythojhpjjkfjeiaa.Va
set_option maxRecDepth 100000
set_option maxHeartbeats 4000000
set_option linter.all false
namespace Go.Proofs.Ythojhpjjkfjeiaa.Va
open Go.Proofs
/- A core that has said some more. -/
structure Core.Said (c c' : Core) (j : Nat) : Prop where
  e : ∃ p o, c' = { c with peers := p, out := o } ∧ o.length ≤ c.out.length + j
  pl : c'.peers.length = 7
  pe : ∀ k, ∃ t, c'.peer k = { c.peer k with told := t }
theorem Core.Said.refl {c : Core} (h : c.peers.length = 7) : c.Said c 0 := ⟨⟨c.peers, c.out, rfl, Nat.le_refl _⟩, h, fun k => ⟨(c.peer k).told, rfl⟩⟩
theorem Core.Said.trans {c c' c'' : Core} {i j : Nat} (h : c.Said c' i) (h' : c'.Said c'' j) : c.Said c'' (i + j) := by
  obtain ⟨⟨p, o, rfl, ho⟩, hp, he⟩ := h
  obtain ⟨⟨p', o', rfl, ho'⟩, hp', he'⟩ := h'
  refine ⟨⟨p', o', rfl, by simp only at ho'; omega⟩, hp', fun k => ?_⟩
  obtain ⟨t, e⟩ := he k
  obtain ⟨t', e'⟩ := he' k
  exact ⟨t', by rw [e', e]⟩
theorem Core.Said.ok {c c' : Core} {j n : Nat} (h : c.Said c' j) (hk : c.Ok (n + j)) : c'.Ok n := by
  obtain ⟨⟨p, o, rfl, ho⟩, hp, he⟩ := h
  have h1 := hk.ol
  have h2 := hk.yl
  have h3 := hk.tm
  refine ⟨hk.lt, hk.ll, hk.ld, hk.sm, by simp only; omega, by simp only; omega, fun hr to h7 hid => ?_, hk.cm, hk.wt, by simp only; omega, hp, hk.s0, fun hr k h7 => ?_⟩
  · obtain ⟨t, e⟩ := he to
    rw [e]
    exact hk.np hr to h7 hid
  · obtain ⟨t, e⟩ := he k
    rw [e]
    exact hk.mp hr k h7
theorem setp_said {c : Core} (h : c.peers.length = 7) {to t : Nat} (hto : to < 7) : c.Said (c.setp to { c.peer to with told := t }) 0 := by
  refine ⟨⟨_, c.out, rfl, Nat.le_refl _⟩, by unfold Core.setp; rw [List.length_set]; exact h, fun k => ?_⟩
  rw [setp_get h hto]
  by_cases e : k = to
  · rw [if_pos e, e]; exact ⟨t, rfl⟩
  · rw [if_neg e]; exact ⟨_, rfl⟩
theorem say_said {c : Core} (h : c.peers.length = 7) {to : Nat} {m : Msg} : c.Said (c.say to m) 1 := ⟨⟨c.peers, _, rfl, by rw [List.length_append]; exact Nat.le_refl _⟩, h, fun k => ⟨(c.peer k).told, rfl⟩⟩
theorem send_said {c : Core} (h : c.peers.length = 7) {to : Nat} (hto : to < 7) : c.Said (c.send to) 1 := by
  unfold Core.send
  split
  · exact say_said h
  · split
    · exact say_said h
    · have h1 := setp_said h (to := to) (t := (c.peer to).told + 1) hto
      have h2 := say_said (c := c.tick1 to) h1.pl (to := to) (m := (c.at_ (c.peer to).next).fill (c.from_ (c.peer to).next))
      exact h1.trans h2
def Core.tellN (c : Core) : Nat → Core
  | 0 => c
  | k + 1 => if k = c.id then c.tellN k else (c.tellN k).send k
def Core.tell (c : Core) : Core := c.tellN 7
theorem tellN_said {c : Core} (h : c.peers.length = 7) : ∀ k, k ≤ 7 → c.Said (c.tellN k) k := by
  intro k
  induction k with
  | zero => intro _; exact .refl h
  | succ k ih =>
    intro hk
    have h1 := ih (by omega)
    unfold Core.tellN
    split
    · obtain ⟨⟨p, o, e, ho⟩, h2, h3⟩ := h1
      exact ⟨⟨p, o, e, by omega⟩, h2, h3⟩
    · exact h1.trans (send_said h1.pl (by omega))
theorem tell_said {c : Core} (h : c.peers.length = 7) : c.Said c.tell 7 := tellN_said h 7 (Nat.le_refl _)
section
variable {σ : AState} {own : Nat → Nat} {t b : Nat} {c : Core} {R : Rws} {n : Nat}
theorem Core.Said.same {c' : Core} {j : Nat} (h : c.Said c' j) : c'.id = c.id ∧ c'.role = c.role ∧ c'.term = c.term ∧ c'.last = c.last ∧ c'.commit = c.commit ∧ c'.snap = c.snap ∧ c'.l = c.l := by
  obtain ⟨⟨p, o, rfl, ho⟩, hp, he⟩ := h
  exact ⟨rfl, rfl, rfl, rfl, rfl, rfl, rfl⟩
theorem tell_ac (h : CoreAt σ own t b c R) (ht : 10 ≤ t) (hk : c.Ok (n + 7)) (hr : c.role = 2) : callD Try.prog 50 [.ptr b 0] σ fun v s => v = .tup [] ∧ ∃ own' R', Now σ own t b own' c.tell R' s := by
  have n0 := Now.start h
  have hS := tellN_said hk.pl
  unfold Core.tell
  refine cd_wp fn50 cf50 cl50 rfl ?_
  simp only [ac50]
  unfold ab50
  simp only [XU, seval]
  refine x_for (fun k ρ s => ρ.rd 0 = .ptr b 0 ∧ ρ.rd 3 = .int .i64 (k : Int) ∧ ∃ own' R', Now σ own t b own' (c.tellN k) R' s) 7 ?_ ?_
  · simp only [XU, seval]
    exact ⟨_, _, n0⟩
  clear n0
  rintro k ρ s hk7 ⟨h0, h3, own1, R1, n1⟩
  by_cases hlt : k < 7
  rotate_left
  · have : k = 7 := by omega
    subst this
    simp only [XU, seval, h0, h3]
    exact ⟨_, _, n1⟩
  have g1 : (k : Int) < 7 := by omega
  have hS' := hS k hk7
  have hsame := hS'.same
  have w1 := wrapSucc (a := k) (by omega)
  have hnext : c.tellN (k + 1) = if k = c.id then c.tellN k else (c.tellN k).send k := rfl
  have hkk : (c.tellN k).Ok n := by
    have := hk.le (m := n + k) (by omega)
    exact hS'.ok this
  rw [hnext]
  generalize c.tellN k = d at *
  have kb := n1.co.cb
  by_cases hid : k = c.id
  · have g2 : (d.id : Int) = (k : Int) := by rw [hsame.1]; omega
    rw [if_pos hid]
    simp only [XU, seval, h0, h3, g1, kb, CS, g2, w1]
    exact ⟨hlt, _, _, n1⟩
  · have g2 : ¬ (k : Int) = (d.id : Int) := by rw [hsame.1]; omega
    rw [if_neg hid]
    have hnp := hkk.np (by rw [hsame.2.1]; exact hr) k hlt (by rw [hsame.1]; exact hid)
    have hlt' := hkk.lt
    simp only [XU, seval, h0, h3, g1, kb, CS, g2]
    refine (send_ac n1.co ht hlt hkk hnp.1 (by omega)).mono ?_
    rintro v s' ⟨rfl, own', R', n2⟩
    simp only [XU, seval, h0, h3, w1]
    exact ⟨hlt, _, _, n1.call n2⟩
/- A call that turns the core, used (no cases in a large context: those take minutes). -/
theorem _root_.Go.Proofs.Ythojhpjjkfjeiaa.Va.callD.now {P : Program} {f : FuncId} {args : List AV} {a : AV} {k : AV → AState → Prop} (h : callD P f args σ fun v s => v = a ∧ ∃ own' R', Now σ own t b own' c R' s) (hk : ∀ s own' R', Now σ own t b own' c R' s → k a s) : callD P f args σ k :=
  h.mono fun v s e => by
    obtain ⟨rfl, own', R', n⟩ := e
    exact hk s own' R' n
/- How far a leader may commit. -/
def Core.hasIt (c : Core) (i : Nat) (x : Int) : Bool := decide (x = c.id) || decide (i ≤ (c.peer x.toNat).match_)
def Core.advGo (c : Core) : Nat → Core
  | 0 => c
  | i + 1 => if c.commit < i + 1 ∧ c.role = 2 ∧ c.termAt (i + 1) = c.term then (if c.quorum (c.hasIt (i + 1)) = true then (Core.tell { c with commit := i + 1 }).leave else c.advGo i) else c
def Core.advance (c : Core) : Core := c.advGo c.last
theorem quorum_o (h : CoreAt σ own t b c R) (hk : c.Ok n) {g : FuncId} {caps caps' : List AV} {is : Int → Bool} (hp : PurL σ true caps caps') (hg : ∀ k : Nat, k < 7 → ∀ σ, callD Try.prog g (.int .i64 (k : Int) :: caps') σ fun v s => s = σ ∧ v = .bool (is (k : Int))) :
    callD Try.prog 68 [.ptr b 0, .fn g caps] σ fun v s => s = σ ∧ v = .bool (c.quorum is) := by
  refine callD.pure (R := fun v => v = .bool (c.quorum is)) (.cons h.pur (.cons (.fn _ _ _ hp.1 hp.2) .nil)) ((quorum_st0 hk.fit (Nat.le_trans (hk.counted _).1 (by omega)) fun x hx σ => ?_).mono fun v s e => ⟨_, by rw [e]; exact .flat _ rfl, rfl⟩)
  have hx := (hk.counted _).2 x hx
  have e : x = (x.toNat : Int) := by omega
  rw [e]
  exact hg _ (by omega) σ
end
end Go.Proofs.Ythojhpjjkfjeiaa.Va
set_option maxRecDepth 100000
set_option maxHeartbeats 800000
set_option linter.all false
namespace Go.Proofs.Ythojhpjjkfjeiaa.Va
open Go.Proofs
section
variable {σ : AState} {own : Nat → Nat} {t b : Nat} {c : Core} {R : Rws} {n : Nat}
theorem advance_ac (h : CoreAt σ own t b c R) (ht : 10 ≤ t) (hk : c.Ok (n + 7)) : callD Try.prog 63 [.ptr b 0] σ fun v s => v = .tup [] ∧ ∃ own' R', Now σ own t b own' c.advance R' s := by
  have n0 := Now.start h
  have hlt := hk.lt
  obtain ⟨X, hX⟩ : ∃ X, X = c.advance := ⟨_, rfl⟩
  rw [← hX]
  unfold Core.advance at hX
  obtain ⟨lst, hlst⟩ : ∃ l, l = c.last := ⟨_, rfl⟩
  rw [← hlst] at hX hlt
  have hb := h.bn
  refine cd_wp fn63 cf63 cl63 rfl ?_
  simp only [ac63]
  unfold ab63
  simp only [XU, seval]
  refine (last_o (n0.push _).co hk.fit).use ?_
  rw [← hlst]
  simp only [XU, seval, SX]
  refine x_for (fun k ρ s => ∃ own' B1 B2, ρ.rd 1 = .ptr B1 0 ∧ ρ.rd 2 = .ptr B2 0 ∧ Now σ own t b own' c R s ∧ σ.n ≤ B1 ∧ B1 < s.n ∧ own' B1 = 0 ∧ s.cells B1 = some [.ptr b 0] ∧ σ.n ≤ B2 ∧ B2 < s.n ∧ own' B2 = 0 ∧ s.cells B2 = some [.int .i64 ((lst - k : Nat) : Int)] ∧ X = c.advGo (lst - k)) lst ?_ ?_
  · simp only [XU, seval]
    have o1 : loc own σ.n σ.n = 0 := loc_ge (Nat.le_refl _)
    have o2 : loc own σ.n (σ.n + 1) = 0 := loc_ge (Nat.le_succ _)
    exact ⟨_, _, _, rfl, rfl, ((n0.push _).push _).local_ ht (Nat.le_succ _) o2 _, Nat.le_refl _, by omega, o1, by rw [if_neg (by omega), if_neg (by omega), if_pos rfl], by omega, by omega, o2, by rw [if_pos rfl]; rfl, hX⟩
  clear n0 hX
  rintro k ρ s hkl ⟨own1, B1, B2, r1, r2, n1, lo1, hi1, z1, c1, lo2, hi2, z2, c2, hX⟩
  obtain ⟨i, hi⟩ : ∃ i, i = lst - k := ⟨_, rfl⟩
  rw [← hi] at c2 hX
  simp only [XU, seval]
  refine d_dreg follow [] rfl ?_
  have n2 := n1.slots 25 []
  have d1 : (addSlots s.n 25 s []).cells B1 = _ := (slots_old _ hi1).trans c1
  have d2 : (addSlots s.n 25 s []).cells B2 = _ := (slots_old _ hi2).trans c2
  have hi1' : B1 < (addSlots s.n 25 s []).n := by simp only [addSlots]; omega
  have hi2' : B2 < (addSlots s.n 25 s []).n := by simp only [addSlots]; omega
  generalize addSlots s.n 25 s [] = s1 at *
  clear n1 c1 c2 hi1 hi2
  have kb := n2.co.cb
  by_cases g1 : c.commit < i
  rotate_left
  · have g1' : ¬ (c.commit : Int) < (i : Int) := by omega
    have hXc : X = c := by
      rw [hX]
      cases i with
      | zero => rfl
      | succ i => rw [Core.advGo, if_neg fun e => g1 e.1]
    simp only [XU, seval, DU, r1, r2, d1, d2, kb, CS, g1']
    refine ⟨⟨?_, ?_⟩, ?_⟩
    · intro l hl c hc hf
      simp only [List.mem_cons, List.mem_nil_iff, List.not_mem_nil, or_false] at hl hc
      (repeat' (first | (rcases hl with rfl | hl) | (rcases hl with rfl))) <;> (repeat' (first | (rcases hc with rfl | hc) | (rcases hc with rfl))) <;> dsimp only at hf ⊢ <;> first
        | (exact absurd hf (by decide +kernel))
        | (simp only [XU, seval, d1, d2, kb, CS, g1']; done)
    · intro sl hsl; simp at hsl
    · rw [hXc]; exact ⟨_, _, n2⟩
  have g1' : (c.commit : Int) < (i : Int) := by omega
  obtain ⟨j, hj⟩ : ∃ j, i = j + 1 := ⟨i - 1, by omega⟩
  by_cases g2 : c.role = 2
  rotate_left
  · have g2' : ¬ (c.role : Int) = 2 := by omega
    have hXc : X = c := by rw [hX, hj, Core.advGo, if_neg fun e => g2 e.2.1]
    simp only [XU, seval, DU, r1, r2, d1, d2, kb, CS, g1', g2']
    refine ⟨⟨?_, ?_⟩, ?_⟩
    · intro l hl c hc hf
      simp only [List.mem_cons, List.mem_nil_iff, List.not_mem_nil, or_false] at hl hc
      (repeat' (first | (rcases hl with rfl | hl) | (rcases hl with rfl))) <;> (repeat' (first | (rcases hc with rfl | hc) | (rcases hc with rfl))) <;> dsimp only at hf ⊢ <;> first
        | (exact absurd hf (by decide +kernel))
        | (simp only [XU, seval, d1, d2, kb, CS, g1', g2']; done)
    · intro sl hsl; simp at hsl
    · rw [hXc]; exact ⟨_, _, n2⟩
  have g2' : (c.role : Int) = 2 := by omega
  have hT := termAt_o n2.co (i := i) hk.fit
  by_cases g3 : c.termAt i = c.term
  rotate_left
  · have g3' : ¬ (c.termAt i : Int) = (c.term : Int) := by omega
    have hXc : X = c := by rw [hX, hj, Core.advGo, if_neg fun e => g3 (by rw [hj]; exact e.2.2)]
    simp only [XU, seval, DU, r1, r2, d1, d2, kb, CS, g1', g2']
    refine hT.use ?_
    simp only [XU, seval, DU, r1, r2, d1, d2, kb, CS, g1', g2', g3']
    refine ⟨⟨?_, ?_⟩, ?_⟩
    · intro l hl c hc hf
      simp only [List.mem_cons, List.mem_nil_iff, List.not_mem_nil, or_false] at hl hc
      (repeat' (first | (rcases hl with rfl | hl) | (rcases hl with rfl))) <;> (repeat' (first | (rcases hc with rfl | hc) | (rcases hc with rfl))) <;> dsimp only at hf ⊢ <;> first
        | (exact absurd hf (by decide +kernel))
        | (simp only [XU, seval, d1, d2, kb, CS, g1', g2', g3']; done)
    · intro sl hsl; simp at hsl
    · rw [hXc]; exact ⟨_, _, n2⟩
  have g3' : (c.termAt i : Int) = (c.term : Int) := by omega
  simp only [XU, seval, DU, r1, r2, d1, d2, kb, CS, g1', g2']
  refine hT.use ?_
  simp only [XU, seval, DU, r1, r2, d1, d2, kb, CS, g1', g2', g3']
  refine ⟨⟨?_, ?_⟩, ?_⟩
  · intro l hl c hc hf
    simp only [List.mem_cons, List.mem_nil_iff, List.not_mem_nil, or_false] at hl hc
    (repeat' (first | (rcases hl with rfl | hl) | (rcases hl with rfl))) <;> (repeat' (first | (rcases hc with rfl | hc) | (rcases hc with rfl))) <;> dsimp only at hf ⊢ <;> first
      | (exact absurd hf (by decide +kernel))
      | (simp only [XU, seval, d1, d2, kb, CS, g1', g2', g3']; done)
  · intro sl hsl; simp at hsl
  have one : ∀ (x y : AV), Pur s1 true x y → ∀ i (hi : 0 + i < [x].length) (hi' : i < [y].length), Pur s1 true [x][0 + i] [y][i] := fun x y h i hi hi' => by
    have : i = 0 := by simp only [List.length_singleton] at hi'; omega
    subst this
    exact h
  have hp : PurL s1 true [.ptr B1 0, .ptr B2 0] [.pptr [c.pp] 0, .pptr [.int .i64 (i : Int)] 0] := .cons (.ptr B1 0 1 _ _ d1 (Nat.le_refl _) rfl (one _ _ n2.co.pur)) (.cons (.ptr B2 0 1 _ _ d2 (Nat.le_refl _) rfl (one _ _ (.flat _ rfl))) .nil)
  have hQ := quorum_o n2.co hk (is := c.hasIt i) hp fun k hk7 σ => adv_ac (c := c) (i := i) (σ := σ) hk7
  have hXi : X = if c.quorum (c.hasIt i) = true then (Core.tell { c with commit := i }).leave else c.advGo j := by
    rw [hX, hj, Core.advGo, if_pos ⟨by omega, g2, by rw [← hj]; exact g3⟩]
  refine hQ.use ?_
  have hil : i ≤ c.last := by omega
  cases hq : c.quorum (c.hasIt i) with
  | true =>
    rw [if_pos hq] at hXi
    have n3 := n2.upd (c' := { c with commit := i }) rfl rfl rfl rfl rfl n2.co.pl
    have hk3 : Core.Ok { c with commit := i } (n + 7) := ⟨hk.lt, hk.ll, hk.ld, hk.sm, hk.ol, hk.yl, hk.np, hil, hk.wt, hk.tm, hk.pl, hk.s0, hk.mp⟩
    have hne1 : ¬ B1 = b := fun e => by have := n2.co.ob; rw [e] at z1; omega
    have hne2 : ¬ B2 = b := fun e => by have := n2.co.ob; rw [e] at z2; omega
    simp only [XU, seval, r1, r2, d1, d2, kb, CS, storeA, sets1, hne1]
    refine (tell_ac n3.co ht hk3 g2).now fun s2 own2 R2 n4 => ?_
    have e1 : s2.cells B1 = some [.ptr b 0] := (n4.tr.cells hi1' (by omega)).trans (by rw [put_get, if_neg hne1]; exact d1)
    simp only [XU, seval, r1, e1]
    have hS := (tell_said (c := { c with commit := i }) hk.pl)
    have hk4 : (Core.tell { c with commit := i }).Ok n := hS.ok hk3
    refine (leave_ac n4.co hk4.fit (Nat.le_trans (hk4.counted _).1 (by omega))).now fun s3 own3 R3 n5 => ?_
    simp only [XU, seval]
    rw [hXi]
    exact ⟨_, _, (n3.call n4).call n5⟩
  | false =>
    rw [if_neg (by rw [hq]; decide)] at hXi
    have w1 := wrapSub1 (a := i) (by omega) (by omega)
    have hkj : lst - (k + 1) = j := by omega
    have hij : i - 1 = j := by omega
    rw [hij] at w1
    simp only [XU, seval, r1, r2, d1, d2, w1, SX]
    have o1 : loc own1 s1.n B1 = 0 := (loc_lt hi1').trans z1
    have o2 : loc own1 s1.n s1.n = 0 := loc_ge (Nat.le_refl _)
    have lo := n2.tr.n
    have ne1 : ¬ B1 = s1.n := by omega
    exact ⟨by omega, _, _, _, rfl, rfl, (((n2.loc_).push _).local_ ht lo o2 _).local_ ht lo o2 _, lo1, by omega, o1, by rw [if_neg ne1, if_neg ne1, if_neg ne1]; exact d1, lo, Nat.lt_succ_self _, o2, by rw [if_pos rfl, hkj], by rw [hkj]; exact hXi⟩
end
end Go.Proofs.Ythojhpjjkfjeiaa.Va
set_option maxRecDepth 100000
set_option maxHeartbeats 800000
set_option linter.all false
namespace Go.Proofs.Ythojhpjjkfjeiaa.Va
open Go.Proofs
theorem Core.Ok.follow {c : Core} {n t : Nat} (h : c.Ok n) (ht : t + n < 2305843009213693952) : (c.follow t).Ok n := by
  have htm := h.tm
  unfold Core.follow
  simp only
  split <;> split <;> exact ⟨h.lt, h.ll, h.ld, h.sm, h.ol, h.yl, (fun e => nomatch e), h.cm, rfl, (by first | exact ht | exact htm), h.pl, h.s0, (fun e => nomatch e)⟩
theorem Core.Ok.leave {c : Core} {n : Nat} (h : c.Ok n) : c.leave.Ok n := by
  unfold Core.leave
  split
  · exact h.follow h.tm
  · exact h
theorem Core.Ok.tell {c : Core} {n : Nat} (h : c.Ok (n + 7)) : c.tell.Ok n := (tell_said h.pl).ok h
theorem Core.Ok.commit {c : Core} {n i : Nat} (h : c.Ok n) (hi : i ≤ c.last) : Core.Ok { c with commit := i } n := ⟨h.lt, h.ll, h.ld, h.sm, h.ol, h.yl, h.np, hi, h.wt, h.tm, h.pl, h.s0, h.mp⟩
theorem Core.Ok.advGo {c : Core} {n : Nat} (h : c.Ok (n + 7)) : ∀ i, i ≤ c.last → (c.advGo i).Ok n := by
  intro i
  induction i with
  | zero => intro _; exact h.le (by omega)
  | succ i ih =>
    intro hi
    unfold Core.advGo
    split
    · split
      · exact (h.commit hi).tell.leave
      · exact ih (by omega)
    · exact h.le (by omega)
theorem Core.Ok.advance {c : Core} {n : Nat} (h : c.Ok (n + 7)) : c.advance.Ok n := h.advGo _ (Nat.le_refl _)
theorem Core.Ok.send {c : Core} {n to : Nat} (h : c.Ok (n + 1)) (hto : to < 7) : (c.send to).Ok n := (send_said h.pl hto).ok h
theorem follow_id {c : Core} {t : Nat} : (c.follow t).id = c.id := by
  unfold Core.follow
  simp only
  split <;> split <;> rfl
theorem leave_id {c : Core} : c.leave.id = c.id := by
  unfold Core.leave
  split
  · exact follow_id
  · rfl
theorem advGo_id {c : Core} (h : c.peers.length = 7) : ∀ i, (c.advGo i).id = c.id := by
  intro i
  induction i with
  | zero => rfl
  | succ i ih =>
    unfold Core.advGo
    split
    · split
      · exact leave_id.trans (tell_said (c := { c with commit := i + 1 }) h).same.1
      · exact ih
    · rfl
theorem advance_id {c : Core} (h : c.peers.length = 7) : c.advance.id = c.id := advGo_id h _
/- What a peer is said to have. -/
theorem Core.Ok.setp {c : Core} {n k : Nat} {p : Peer} (h : c.Ok n) (hk : k < 7) (h1 : c.role = 2 → k ≠ c.id → c.snap.index < p.next ∧ p.next ≤ c.last + 1) (h2 : c.role = 2 → p.match_ ≤ c.last) : (c.setp k p).Ok n := by
  refine ⟨h.lt, h.ll, h.ld, h.sm, h.ol, h.yl, fun hr to h7 hid => ?_, h.cm, h.wt, h.tm, by unfold Core.setp; rw [List.length_set]; exact h.pl, h.s0, fun hr j h7 => ?_⟩
  · rw [setp_get h.pl hk]
    split
    · rename_i e; subst e; exact h1 hr hid
    · exact h.np hr to h7 hid
  · rw [setp_get h.pl hk]
    split
    · exact h2 hr
    · exact h.mp hr j h7
section
variable {σ : AState} {own : Nat → Nat} {t b : Nat} {c : Core} {R : Rws} {n : Nat}
theorem confirm_ac (h : CoreAt σ own t b c R) (hw : c.waits = []) : callD Try.prog 51 [.ptr b 0] σ fun v s => v = .tup [] ∧ ∃ own' R', Now σ own t b own' c R' s := by
  have n0 := (Now.start h).push [.ptr b 0]
  have c1 : (σ.push (.cells [.ptr b 0])).cells σ.n = _ := push_cells _ _
  have kb := n0.co.cb
  have hf := h.rw
  rw [hw] at hf
  have hform := hf.form
  refine cd_wp fn51 cf51 cl51 rfl ?_
  simp only [ac51]
  unfold ab51
  simp only [XU, seval]
  refine x_for (fun k ρ s => ρ.rd 1 = .ptr σ.n 0 ∧ s = σ.push (.cells [.ptr b 0])) 0 ?_ ?_
  · simp only [XU, seval]
  generalize σ.push (.cells [.ptr b 0]) = s1 at *
  rintro k ρ s hk0 ⟨r1, rfl⟩
  rcases hform with e | ⟨bz, cz, e⟩
  · simp only [XU, seval, r1, c1, kb, CS, e]
    exact ⟨_, _, n0⟩
  · simp only [XU, seval, r1, c1, kb, CS, e, List.length_nil]
    exact ⟨_, _, n0⟩
end
end Go.Proofs.Ythojhpjjkfjeiaa.Va
