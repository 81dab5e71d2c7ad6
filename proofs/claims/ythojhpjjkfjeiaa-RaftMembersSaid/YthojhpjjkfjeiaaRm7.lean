/- What RaftMembers asks, from a few computations. Conditions: none. -/
import Derived.Test.YthojhpjjkfjeiaaMA
set_option maxRecDepth 100000
set_option maxHeartbeats 1000000
set_option linter.all false
namespace Go.Proofs.Ythojhpjjkfjeiaa.Va
open Go.Proofs
/- The members after so many changes. -/
def reach : Nat → List (List Int)
  | 0 => [[0, 1, 2]]
  | 1 => [[0, 2], [0, 1], [0, 1, 2, 3], [0, 1, 2, 4]]
  | 2 => [[0, 1, 2], [0], [0, 2, 3], [0, 2, 4], [0, 1, 3], [0, 1, 4], [0, 1, 2, 3, 4]]
  | 3 => [[0, 1], [0, 2], [0, 3], [0, 4], [0, 1, 2, 3], [0, 1, 2, 4], [0, 1, 3, 4], [0, 2, 3, 4]]
  | _ => [[0], [0, 1, 2], [0, 1, 3], [0, 1, 4], [0, 2, 3], [0, 2, 4], [0, 3, 4], [0, 1, 2, 3, 4]]
def hd (k : Nat) (now : List Int) : Ent := if k = 0 then ⟨2, 0, [], []⟩ else ⟨2, 2, [], now⟩
def togB (k : Nat) (now : List Int) (x : Nat) : Bool := decide (x = 0) || (decide (tog now x ∈ reach (k + 1)) && validS (tog now x) && oneOff now (tog now x) && decide (tog now x ≠ []))
def reachB (k : Nat) : Bool := (reach k).all fun now => decide (now.length ≤ 5) && decide ((0 : Int) ∈ now) && (List.range 5).all fun x => togB k now x
theorem reach_all : (List.range 4).all reachB = true := by kernel_rfl
theorem reach_ok {k : Nat} (hk : k < 4) {now : List Int} (hn : now ∈ reach k) : now.length ≤ 5 ∧ (0 : Int) ∈ now ∧ ∀ x, 1 ≤ x → x < 5 → tog now x ∈ reach (k + 1) ∧ validS (tog now x) = true ∧ oneOff now (tog now x) = true ∧ tog now x ≠ [] := by
  have h1 := List.all_eq_true.1 reach_all k (List.mem_range.2 hk)
  unfold reachB at h1
  have h2 := List.all_eq_true.1 h1 now hn
  rw [Bool.and_eq_true, Bool.and_eq_true, decide_eq_true_eq, decide_eq_true_eq] at h2
  refine ⟨h2.1.1, h2.1.2, fun x h0 h5 => ?_⟩
  have h3 := List.all_eq_true.1 h2.2 x (List.mem_range.2 h5)
  unfold togB at h3
  simp only [Bool.or_eq_true, Bool.and_eq_true, decide_eq_true_eq] at h3
  obtain ⟨⟨⟨e1, e2⟩, e3⟩, e4⟩ := h3.resolve_left (by omega)
  exact ⟨e1, e2, e3, e4⟩
structure SChk (a : Nat) : Prop where
  s0 : ∀ E b made, sL E a b 0 made false = sR E a b 0 made false 1
  s1 : ∀ E b made, sL E a b 1 made false = sR E a b 1 made false 2
  s2 : ∀ E b made, sL E a b 2 made true = sR E a b 2 made true 0
  ok : ∀ E b r made, (List.range 5).all (fun i => ((mst (lo E a) a b r made).core i).okB 14) = true
def PChk (c p d b k : Nat) : Prop := ∀ E D made, (reach k).map (fun s => pL E D made p (hd k s) d c b (b % 3)) = (reach k).map (fun s => pR E D made p (hd k s) d c b (b % 3))
def CChk (a b k : Nat) : Prop := ∀ E made, (reach k).map (fun l => cL E made a b (b % 3) l) = (reach k).map (fun l => cR E made a b (b % 3) l)
def GChk : Prop := ((grpM.rounds 100, grpM.roundsB 100, (grpM.roundsP 100).map (·.1)) : Res) = (mst [⟨2, 0, [], []⟩] 1 80 2 0, true, (grpM.roundsP 100).map (·.2))
structure AllChk : Prop where
  g : GChk
  s : ∀ a, 1 ≤ a → a ≤ 17 → SChk a
  p : ∀ c i k u p d, 1 ≤ c → c ≤ 3 → i ≤ 3 → k + u ≤ i → (k = 0 → u = i) → d = c * u → p + d = c * i + k → PChk c p d (80 + 10 * i + 100 * k) k
  c : ∀ c i k, c ≤ 3 → i ≤ 3 → k ≤ i → CChk (1 + c * (i + 1) + k) (90 + 10 * i + 100 * k) (k + 1)
theorem three' {A B C : Type} {a a' : A} {b b' : B} {c c' : C} (h : (a, b, c) = (a', b', c')) : a = a' ∧ b = b' ∧ c = c' := by
  cases h
  exact ⟨rfl, rfl, rfl⟩
theorem map_at {A B : Type} {f g : A → B} : ∀ {l : List A}, l.map f = l.map g → ∀ x ∈ l, f x = g x := by
  intro l
  induction l with
  | nil => intro _ x hx; cases hx
  | cons a l ih =>
    intro h x hx
    simp only [List.map_cons, List.cons.injEq] at h
    rcases List.mem_cons.1 hx with e | e
    · rw [e]; exact h.1
    · exact ih h.2 x e
/- ------------------------------------------------ rounds -/
def Goes (g g' : Grp) (n : Nat) : Prop := g.rounds n = g' ∧ g.roundsB n = true ∧ ∀ p ∈ g.roundsP n, p.1 = p.2
theorem Goes.zero (g : Grp) : Goes g g 0 := ⟨rfl, rfl, fun p hp => (by cases hp)⟩
theorem Goes.one {g g' g'' : Grp} {n : Nat} (h : Goes g g' n) (h1 : g'.quiet = g'') (h2 : g'.quietB = true) (h3 : ∀ p ∈ g'.quietP, p.1 = p.2) : Goes g g'' (n + 1) := by
  obtain ⟨e1, e2, e3⟩ := h
  have r : g.rounds (n + 1) = (g.rounds n).quiet := rfl
  refine ⟨by rw [r, e1, h1], ?_, fun p hp => ?_⟩
  · unfold Grp.roundsB
    rw [e2, e1, h2]
    rfl
  · unfold Grp.roundsP at hp
    rw [e1] at hp
    rcases List.mem_append.1 hp with hp | hp
    · exact e3 p hp
    · exact h3 p hp
theorem Goes.trans {g g' : Grp} {m : Nat} (h : Goes g g' m) : ∀ {n : Nat} {g'' : Grp}, Goes g' g'' n → Goes g g'' (m + n) := by
  intro n
  induction n with
  | zero => intro g'' h'; rw [← h'.1]; exact h
  | succ n ih =>
    intro g'' h'
    obtain ⟨e1, e2, e3⟩ := h'
    unfold Grp.roundsB at e2
    rw [Bool.and_eq_true] at e2
    have hi : Goes g (g'.rounds n) (m + n) := ih ⟨rfl, e2.1, fun p hp => e3 p (by unfold Grp.roundsP; exact List.mem_append_left _ hp)⟩
    exact hi.one e1 e2.2 fun p hp => e3 p (by unfold Grp.roundsP; exact List.mem_append_right _ hp)
/- ------------------------------------------------ a group that stands still -/
section
variable {l : List Ent} {a b r made : Nat}
theorem mst_lead : (mst l a b r made).core 0 = mLead l a b := rfl
theorem mst_core {i : Nat} (h : i < 4) : (mst l a b r made).core (i + 1) = mCore l a r (i + 1) := by
  unfold mst Grp.core
  simp only [List.getD_cons_succ]
  rw [List.getD_eq_getElem?_getD]
  simp [h]
theorem mst_off {i : Nat} (h : 4 ≤ i) : (mst l a b r made).core (i + 1) = core0 := by
  unfold mst Grp.core
  simp only [List.getD_cons_succ]
  rw [List.getD_eq_getElem?_getD, List.getElem?_eq_none (by simp; omega)]
  rfl
theorem mst_role : ∀ i, i < 5 → (((mst l a b r made).core i).role = 2 ↔ i = 0) := by
  intro i hi
  cases i with
  | zero => exact ⟨fun _ => rfl, fun _ => rfl⟩
  | succ i =>
    rw [mst_core (by omega)]
    constructor
    · intro e; exact absurd e (by unfold mCore; simp)
    · intro e; omega
theorem mst_l {i : Nat} (h : i < 5) : ((mst l a b r made).core i).l = l ∧ ((mst l a b r made).core i).commit = a ∧ ((mst l a b r made).core i).snap = ⟨0, 0, [0, 1, 2], []⟩ ∧ ((mst l a b r made).core i).term = 2 := by
  cases i with
  | zero => exact ⟨rfl, rfl, rfl, rfl⟩
  | succ i => rw [mst_core (by omega)]; exact ⟨rfl, rfl, rfl, rfl⟩
theorem mst_beat : ∀ i, ((mst l a b r made).core i).role = 2 → ((mst l a b r made).core i).beat = b := by
  intro i h
  cases i with
  | zero => rfl
  | succ i =>
    rcases Nat.lt_or_ge i 4 with hi | hi
    · rw [mst_core hi] at h; exact absurd h (by unfold mCore; simp)
    · rw [mst_off hi] at h; exact absurd h (by unfold core0; simp)
theorem mst_beats (hb : b < 1000000) : ∀ i, ((mst l a b r made).core i).beat < 2305843009213693952 := by
  intro i
  cases i with
  | zero => show b < _; omega
  | succ i =>
    rcases Nat.lt_or_ge i 4 with hi | hi
    · rw [mst_core hi]; show 0 < _; omega
    · rw [mst_off hi]; show 0 < _; omega
end
theorem mst_quiet {a : Nat} (h : SChk a) {E : Nat → Ent} {b made : Nat} (hb : b < 100000) :
    (mst (lo E a) a b (b % 3) made).quiet = mst (lo E a) a (b + 1) ((b + 1) % 3) made ∧ (mst (lo E a) a b (b % 3) made).quietB = true ∧ ∀ p ∈ (mst (lo E a) a b (b % 3) made).quietP, p.1 = p.2 := by
  have fin : ∀ r hb' r', decide ((b + 1) % 3 = 0) = hb' → sL E a b r made hb' = sR E a b r made hb' r' →
      (mst (lo E a) a b r made).quiet = mst (lo E a) a (b + 1) r' made ∧ (mst (lo E a) a b r made).quietB = true ∧ ∀ p ∈ (mst (lo E a) a b r made).quietP, p.1 = p.2 := fun r hb' r' ha he => by
    obtain ⟨e1, e2, e3⟩ := quietA_eq (a := hb') (g := mst (lo E a) a b r made) (fun i hi => by rw [mst_beat i hi]; exact ha) (mst_beats (by omega))
    obtain ⟨f1, f2, f3⟩ := three' he
    refine ⟨e1.trans f1, e2 f2, ?_⟩
    rw [e3]
    exact sameP_ok f3
  rcases (by omega : b % 3 = 0 ∨ b % 3 = 1 ∨ b % 3 = 2) with e | e | e
  · rw [e, show (b + 1) % 3 = 1 by omega]
    exact fin 0 false 1 (decide_eq_false (by omega)) (h.s0 E b made)
  · rw [e, show (b + 1) % 3 = 2 by omega]
    exact fin 1 false 2 (decide_eq_false (by omega)) (h.s1 E b made)
  · rw [e, show (b + 1) % 3 = 0 by omega]
    exact fin 2 true 0 (decide_eq_true (by omega)) (h.s2 E b made)
theorem mst_goes {a : Nat} (h : SChk a) {E : Nat → Ent} {b made : Nat} : ∀ n, b + n < 10000 → Goes (mst (lo E a) a b (b % 3) made) (mst (lo E a) a (b + n) ((b + n) % 3) made) n := by
  intro n
  induction n with
  | zero => intro _; exact Goes.zero _
  | succ n ih =>
    intro hb
    obtain ⟨q1, q2, q3⟩ := mst_quiet h (E := E) (b := b + n) (made := made) (by omega)
    exact (ih (by omega)).one q1 q2 q3
/- ------------------------------------------------ logs -/
theorem lo_len (E : Nat → Ent) (a : Nat) : (lo E a).length = a := by simp [lo]
theorem lp_len {E : Nat → Ent} {D : Nat → Byts} {p d : Nat} {h : Ent} : (lp E D p h d).length = p + 1 + d := by simp [lp, lo, ldat]; omega
theorem lo_of {l : List Ent} {a : Nat} (hl : l.length = a) (h : ∀ e ∈ l, e.term = 2) : l = lo (fun j => l.getD j ent0) a := by
  unfold lo
  refine List.ext_getElem (by simp [hl]) fun i h1 h2 => ?_
  have h3 := h _ (List.getElem_mem h1)
  simp only [List.getElem_map, List.getElem_range, List.getD_eq_getElem?_getD, List.getElem?_eq_getElem h1, Option.getD_some]
  generalize l[i] = e at *
  cases e
  simp only at h3
  rw [h3]
theorem lp_term {E : Nat → Ent} {D : Nat → Byts} {p d : Nat} {h : Ent} (hh : h.term = 2) : ∀ e ∈ lp E D p h d, e.term = 2 := by
  intro e he
  unfold lp lo ldat at he
  rcases List.mem_append.1 he with he | he
  · obtain ⟨j, _, rfl⟩ := List.mem_map.1 he; rfl
  · rcases List.mem_cons.1 he with he | he
    · rw [he]; exact hh
    · obtain ⟨j, _, rfl⟩ := List.mem_map.1 he; rfl
theorem lp_kind {E : Nat → Ent} {D : Nat → Byts} {p d : Nat} {h : Ent} {n : Nat} (hn : n < d) : ((lp E D p h d).getD (p + 1 + n) ent0).kind = 1 := by
  unfold lp
  rw [List.getD_eq_getElem?_getD, List.getElem?_append_right (by rw [lo_len]; omega), lo_len, show p + 1 + n - p = n + 1 by omega, List.getElem?_cons_succ]
  simp [ldat, hn]
theorem lp_head {E : Nat → Ent} {D : Nat → Byts} {p d : Nat} {h : Ent} : (lp E D p h d).getD p ent0 = h := by
  unfold lp
  rw [List.getD_eq_getElem?_getD, List.getElem?_append_right (by rw [lo_len]; omega), lo_len, Nat.sub_self]
  rfl
theorem cnt_lp {c : Core} {E : Nat → Ent} {D : Nat → Byts} {p d : Nat} {h : Ent} (hl : c.l = lp E D p h d) : ∀ n, n ≤ d → c.cnt (p + 1 + n) = c.cnt (p + 1) := by
  intro n
  induction n with
  | zero => intro _; rfl
  | succ n ih =>
    intro hn
    have : c.cnt (p + 1 + (n + 1)) = if (c.ent (p + 1 + n)).kind = 2 then ((c.ent (p + 1 + n)).mem, c.snap.index + (p + 1 + n) + 1) else c.cnt (p + 1 + n) := rfl
    rw [this]
    have hk : (c.ent (p + 1 + n)).kind = 1 := by unfold Core.ent; rw [hl]; exact lp_kind hn
    rw [if_neg (by rw [hk]; decide)]
    exact ih (by omega)
theorem counted_lp {c : Core} {E : Nat → Ent} {D : Nat → Byts} {p d k : Nat} {now : List Int} (hl : c.l = lp E D p (hd k now) d) (hs : c.snap = ⟨0, 0, [0, 1, 2], []⟩) (hk : k = 0 → p = 0 ∧ now = [0, 1, 2]) :
    (c.counted c.last).1 = now ∧ (c.counted c.last).2 ≤ p + 1 := by
  have hlast : c.last = p + 1 + d := by unfold Core.last; rw [hs, hl, lp_len]; simp
  have h1 : c.counted c.last = c.cnt (p + 1) := by
    unfold Core.counted
    rw [hlast, hs, Nat.min_self]
    exact cnt_lp hl d (Nat.le_refl _)
  have h2 : c.cnt (p + 1) = if (hd k now).kind = 2 then ((hd k now).mem, c.snap.index + p + 1) else c.cnt p := by
    show (if (c.ent p).kind = 2 then ((c.ent p).mem, c.snap.index + p + 1) else c.cnt p) = _
    have : c.ent p = hd k now := by unfold Core.ent; rw [hl]; exact lp_head
    rw [this]
  rw [h1, h2]
  unfold hd
  by_cases e : k = 0
  · obtain ⟨e1, e2⟩ := hk e
    rw [if_pos e, if_neg (by simp), e1, e2]
    show c.snap.mem = _ ∧ c.snap.index ≤ _
    rw [hs]
    exact ⟨rfl, Nat.zero_le _⟩
  · rw [if_neg e, if_pos rfl, hs]
    exact ⟨rfl, by show 0 + p + 1 ≤ p + 1; omega⟩
end Go.Proofs.Ythojhpjjkfjeiaa.Va
