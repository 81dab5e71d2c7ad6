/- Texts Rm8 to RmY of this claim, in one. Conditions: none. -/
import Derived.Test.YthojhpjjkfjeiaaRm7
import Derived.Test.YthojhpjjkfjeiaaMB
import Derived.Test.YthojhpjjkfjeiaaMC
import Derived.Test.YthojhpjjkfjeiaaMD
import Derived.Test.YthojhpjjkfjeiaaME
import Derived.Test.YthojhpjjkfjeiaaRmW
set_option maxRecDepth 100000
set_option maxHeartbeats 1000000
set_option linter.all false
namespace Go.Proofs.Ythojhpjjkfjeiaa.Va
open Go.Proofs
theorem prMB_at {g : Grp} {D : Nat → Byts} : ∀ k, Grp.prMB g D k = true → ∀ i, i < k → (g.prM D i).dat.propB (D i) = true := by
  intro k
  induction k with
  | zero => intro _ i hi; omega
  | succ k ih =>
    intro h i hi
    unfold Grp.prMB at h
    rw [Bool.and_eq_true] at h
    by_cases e : i = k
    · subst e; exact h.2
    · exact ih h.1 i (by omega)
theorem prMP_at {g : Grp} {D : Nat → Byts} : ∀ k, (∀ p ∈ Grp.prMP g D k, p.1 = p.2) → ∀ i, i < k → ∀ p ∈ (g.prM D i).dat.propP (D i), p.1 = p.2 := by
  intro k
  induction k with
  | zero => intro _ i hi; omega
  | succ k ih =>
    intro h i hi
    unfold Grp.prMP at h
    by_cases e : i = k
    · subst e; exact fun p hp => h p (List.mem_append_right _ hp)
    · exact ih (fun p hp => h p (List.mem_append_left _ hp)) i (by omega)
theorem lp_eq {E : Nat → Ent} {D D' : Nat → Byts} {p d : Nat} {h : Ent} (he : ∀ j, j < d → D j = D' j) : lp E D p h d = lp E D' p h d := by
  unfold lp ldat
  rw [List.map_congr_left fun j hj => by rw [he j (List.mem_range.1 hj)]]
theorem hd_term (k : Nat) (now : List Int) : (hd k now).term = 2 := by unfold hd; split <;> rfl
theorem mst_goes' {a : Nat} (h : SChk a) {l : List Ent} (hl : l.length = a) (ht : ∀ e ∈ l, e.term = 2) {b made : Nat} (n : Nat) (hb : b + n < 10000) : Goes (mst l a b (b % 3) made) (mst l a (b + n) ((b + n) % 3) made) n := by
  have e := lo_of hl ht
  rw [e]
  exact mst_goes h n hb
/- The proposals. -/
structure PropsTo (c : Nat) (g g' : Grp) : Prop where
  pb : ∀ j, j < c → (g.prM (datM g.made) j).dat.propB (datM g.made j) = true
  pp : ∀ j, j < c → ∀ p ∈ (g.prM (datM g.made) j).dat.propP (datM g.made j), p.1 = p.2
  go : Goes (g.rdM c) g' 10
theorem props_of {c p d b k made : Nat} {now : List Int} {E : Nat → Ent} {D : Nat → Byts} (hS : SChk (p + 1 + (d + c))) (hP : 1 ≤ c → PChk c p d b k) (hn : now ∈ reach k) (hb : b < 1000) :
    ∃ D', PropsTo c (mst (lp E D p (hd k now) d) (p + 1 + d) b (b % 3) made) (mst (lp E D' p (hd k now) (d + c)) (p + 1 + (d + c)) (b + 10) ((b + 10) % 3) (made + c)) := by
  by_cases h0 : c = 0
  · subst h0
    exact ⟨D, fun j hj => absurd hj (by omega), fun j hj => absurd hj (by omega), mst_goes' hS lp_len (lp_term (hd_term k now)) 10 (by omega)⟩
  · obtain ⟨D', hD'⟩ : ∃ D' : Nat → Byts, D' = fun j => if j < d then D j else datM made (j - d) := ⟨_, rfl⟩
    refine ⟨D', ?_⟩
    have e1 : lp E D p (hd k now) d = lp E D' p (hd k now) d := lp_eq fun j hj => by rw [hD']; simp only [if_pos hj]
    have e2 : (fun j => D' (d + j)) = datM made := by
      funext j
      rw [hD']
      simp only
      rw [if_neg (by omega), Nat.add_sub_cancel_left]
    have e3 := map_at (hP (by omega) E D' made) now hn
    obtain ⟨f1, f2, f3⟩ := three' e3
    rw [e2] at f1 f2 f3
    rw [Nat.add_assoc (p + 1) d c] at f1
    rw [e1]
    have e4 : mst (lp E D' p (hd k now) d) (p + 1 + d) b (b % 3) made = pG E D' p (hd k now) d c b (b % 3) made := rfl
    rw [e4]
    have e5 : (pG E D' p (hd k now) d c b (b % 3) made).made = made := rfl
    generalize hg : pG E D' p (hd k now) d c b (b % 3) made = g at *
    rw [Bool.and_eq_true] at f2
    have f4 := sameP_ok f3
    have g0 : Goes (g.prM (datM made) c) (mst (lp E D' p (hd k now) (d + c)) (p + 1 + (d + c)) (b + 3) ((b + 3) % 3) (made + c)) 3 := ⟨f1, f2.2, fun q hq => f4 q (List.mem_append_right _ hq)⟩
    refine ⟨?_, ?_, ?_⟩
    · rw [e5]; exact prMB_at c f2.1
    · rw [e5]; exact prMP_at c fun q hq => f4 q (List.mem_append_left _ hq)
    · unfold Grp.rdM
      rw [e5]
      exact g0.trans (mst_goes' hS lp_len (lp_term (hd_term k now)) 7 (by omega))
/- A change. -/
theorem mst_chM {l : List Ent} {a b r made : Nat} {m : List Int} : (mst l a b r made).chM m = (mst l a b r made).setc 0 (((mst l a b r made).core 0).lay ⟨0, 2, [], m⟩) := rfl
theorem termAt_mst {l : List Ent} {a b : Nat} (hl : l.length = a) (ha : 1 ≤ a) (ht : ∀ e ∈ l, e.term = 2) : (mLead l a b).termAt a = 2 := by
  unfold Core.termAt
  rw [if_neg (by show ¬ a = 0; omega)]
  have : (mLead l a b).has a = true := by
    unfold Core.has Core.last
    show (decide (0 < a) && decide (a ≤ 0 + l.length)) = true
    rw [decide_eq_true (by omega), decide_eq_true (by omega)]; rfl
  rw [if_pos this]
  show (l.getD (a - 0 - 1) ent0).term = 2
  rw [List.getD_eq_getElem?_getD, List.getElem?_eq_getElem (by omega)]
  exact ht _ (List.getElem_mem _)
theorem change_of {E : Nat → Ent} {D : Nat → Byts} {p d k b : Nat} {now m : List Int} (hk : k = 0 → p = 0 ∧ now = [0, 1, 2]) (hv : validS m = true) (ho : oneOff now m = true) (ha : p + 1 + d < 56) :
    (mLead (lp E D p (hd k now) d) (p + 1 + d) b).change m = (((mLead (lp E D p (hd k now) d) (p + 1 + d) b).last + 1, 0), (mLead (lp E D p (hd k now) d) (p + 1 + d) b).lay ⟨0, 2, [], m⟩) := by
  have hc := counted_lp (c := mLead (lp E D p (hd k now) d) (p + 1 + d) b) rfl rfl hk
  have ht := termAt_mst (b := b) (lp_len (E := E) (D := D) (p := p) (d := d) (h := hd k now)) (by omega) (lp_term (hd_term k now))
  have hl := lp_len (E := E) (D := D) (p := p) (d := d) (h := hd k now)
  unfold Core.change Core.may Core.busy
  rw [hc.1, hv, ho]
  have hcm : (mLead (lp E D p (hd k now) d) (p + 1 + d) b).commit = p + 1 + d := rfl
  have htm : (mLead (lp E D p (hd k now) d) (p + 1 + d) b).term = 2 := rfl
  have hll : (mLead (lp E D p (hd k now) d) (p + 1 + d) b).l.length = p + 1 + d := hl
  rw [hcm, ht, htm, hll, if_neg (by decide), decide_eq_false (by have := hc.2; omega), if_neg (by decide), if_neg (by omega)]
theorem ch_of {E : Nat → Ent} {D : Nat → Byts} {p d k b made : Nat} {now m : List Int} (hS : SChk (p + 1 + d)) (hS' : SChk (p + 1 + d + 1)) (hC : CChk (p + 1 + d) b (k + 1)) (hk : k = 0 → p = 0 ∧ now = [0, 1, 2]) (hv : validS m = true) (ho : oneOff now m = true) (hm : m ∈ reach (k + 1)) (ha : p + 1 + d < 56) (hb : b < 1000) :
    ChOk (mst (lp E D p (hd k now) d) (p + 1 + d) b (b % 3) made) m ∧ ∃ E', (((mst (lp E D p (hd k now) d) (p + 1 + d) b (b % 3) made).chM m).told 0).rounds 100 = mst (lp E' D (p + 1 + d) (hd (k + 1) m) 0) (p + 1 + d + 1) (b + 100) ((b + 100) % 3) made := by
  have hch := change_of (E := E) (D := D) (p := p) (d := d) (k := k) (b := b) hk hv ho ha
  have e := lo_of (lp_len (E := E) (D := D) (p := p) (d := d) (h := hd k now)) (lp_term (hd_term k now))
  rw [e] at hch ⊢
  clear e
  generalize (fun j => (lp E D p (hd k now) d).getD j ent0) = E' at *
  generalize p + 1 + d = a at *
  obtain ⟨f1, f2, f3⟩ := three' (map_at (hC E' made) m hm)
  have e4 : (mst (lo E' a) a b (b % 3) made).chM m = cG E' a b (b % 3) made m := rfl
  have hlast : lo E' a ++ [⟨2, 2, [], m⟩] = lp E' D a (hd (k + 1) m) 0 := by
    unfold hd
    rw [if_neg (by omega)]
    rfl
  have f4 := sameP_ok f3
  rw [Bool.and_eq_true] at f2
  have g0 : Goes ((cG E' a b (b % 3) made m).told 0) (mst (lo E' a ++ [⟨2, 2, [], m⟩]) (a + 1) (b + 3) ((b + 3) % 3) made) 3 := ⟨f1, f2.2, fun q hq => f4 q (List.mem_append_right _ hq)⟩
  rw [hlast] at g0
  have g1 := g0.trans (mst_goes' hS' (l := lp E' D a (hd (k + 1) m) 0) lp_len (lp_term (hd_term _ m)) (made := made) 97 (by omega))
  have hB := f2.1
  unfold Grp.chB at hB
  simp only [Bool.and_eq_true, Bool.or_eq_true, decide_eq_true_eq] at hB
  obtain ⟨⟨⟨hB1, hB2⟩, hB3⟩, hB4⟩ := hB
  have hok : ∀ (a b r : Nat) (l : List Ent), SChk a → l.length = a → (∀ e ∈ l, e.term = 2) → ∀ i, i < 5 → ((mst l a b r made).core i).okB 14 = true := fun a b r l hS hl ht i hi => by
    have := hS.ok (fun j => l.getD j ent0) b r made
    rw [← lo_of hl ht] at this
    exact List.all_eq_true.1 this i (List.mem_range.2 hi)
  refine ⟨⟨rfl, memS_range_of hv, rfl, hok _ _ _ _ hS (lo_len E' a) (fun e he => by obtain ⟨j, _, rfl⟩ := List.mem_map.1 he; rfl) 0 (by omega), hch, ?_, ?_, ?_, ?_, ?_, ?_, ?_, ?_, ?_, ?_, ?_⟩, E', ?_⟩
  · rw [e4]; exact hB3
  · rw [e4]; exact hB2
  · intro h1; rw [e4]; exact hB4.resolve_left (by omega)
  · rw [e4]; exact hB1
  · rw [e4]; exact fun q hq => f4 q (List.mem_append_left _ hq)
  · rw [e4]; exact g1.2.1
  · rw [e4]; exact g1.2.2
  · rw [e4, g1.1]; exact mst_role
  · rw [e4, g1.1]; intro i hi; rw [(mst_l hi).2.1, (mst_l (i := 0) (by omega)).2.1]
  · rw [e4, g1.1]; exact hok _ _ _ _ hS' lp_len (lp_term (hd_term _ m))
  · rw [e4, g1.1]
    intro i hi
    exact (counted_lp (mst_l hi).1 (mst_l hi).2.2.1 (fun e => absurd e (by omega))).1
  · rw [e4]; exact g1.1
/- What is so ahead of step i. -/
def St (c i : Nat) (g : Grp) (now : List Int) : Prop :=
  ∃ k u p d E D, k + u ≤ i ∧ (k = 0 → u = i) ∧ d = c * u ∧ p + d = c * i + k ∧ now ∈ reach k ∧ g = mst (lp E D p (hd k now) d) (p + 1 + d) (80 + 10 * i + 100 * k) ((80 + 10 * i + 100 * k) % 3) (c * i)
theorem mul_le {c i n : Nat} (hc : c ≤ 3) (hi : i ≤ n) : c * i ≤ 3 * n := Nat.mul_le_mul hc hi
theorem mem_of (H : AllChk) (c : Nat) (hc : c ≤ 3) : MemOk c (St c) := by
  obtain ⟨G1, G2, G3⟩ := three' H.g
  have one : ∀ i g now, i < 4 → St c i g now → ∃ k u p d E D, k + u ≤ i ∧ (k = 0 → u = i) ∧ d = c * u ∧ p + d = c * i + k ∧ now ∈ reach k ∧ PropsTo c g (mst (lp E D p (hd k now) (d + c)) (p + 1 + (d + c)) (80 + 10 * i + 100 * k + 10) ((80 + 10 * i + 100 * k + 10) % 3) (c * i + c)) ∧ g.n = 5 ∧ (∀ i, i < 5 → ((g.core i).role = 2 ↔ i = 0)) ∧ g.made ≤ 1000 := fun i g now hi h => by
    obtain ⟨k, u, p, d, E, D, h1, h2, h3, h4, h5, rfl⟩ := h
    have hm := mul_le hc (show i ≤ 3 by omega)
    obtain ⟨D', hp⟩ := props_of (c := c) (p := p) (d := d) (b := 80 + 10 * i + 100 * k) (k := k) (made := c * i) (E := E) (D := D) (H.s (p + 1 + (d + c)) (by omega) (by omega)) (fun h => H.p c i k u p d h hc (by omega) h1 h2 h3 h4) h5 (by omega)
    exact ⟨k, u, p, d, E, D', h1, h2, h3, h4, h5, hp, rfl, mst_role, by show c * i ≤ 1000; omega⟩
  refine ⟨G2, sameP_ok G3, ?_, fun i g now hi h => ?_, fun i g now hi h => ?_, fun i g now hi h => ?_, fun i g now x hi h hx0 hx5 => ?_⟩
  · rw [G1]
    exact ⟨0, 0, 0, 0, fun _ => ent0, fun _ => [], by omega, fun _ => rfl, rfl, rfl, List.mem_cons_self, rfl⟩
  · obtain ⟨k, u, p, d, E, D, h1, h2, h3, h4, h5, hp, hn, hr, hm⟩ := one i g now hi h
    exact ⟨hn, hr, hm, hp.pb, hp.pp, hp.go.2.1, hp.go.2.2⟩
  · obtain ⟨k, u, p, d, E, D, h1, h2, h3, h4, h5, rfl⟩ := h
    obtain ⟨r1, r2, r3⟩ := reach_ok (k := k) (by omega) h5
    exact ⟨r1, r2, fun x h0 h5 => (r3 x h0 h5).2.2.2⟩
  · obtain ⟨k, u, p, d, E, D, h1, h2, h3, h4, h5, hp, _⟩ := one i g now hi h
    rw [hp.go.1]
    refine ⟨k, u + 1, p, d + c, E, D, by omega, fun e => by rw [h2 e], by rw [h3, Nat.mul_succ], by rw [Nat.mul_succ]; omega, h5, ?_⟩
    rw [show 80 + 10 * (i + 1) + 100 * k = 80 + 10 * i + 100 * k + 10 by omega, Nat.mul_succ]
  · obtain ⟨k, u, p, d, E, D, h1, h2, h3, h4, h5, hp, _⟩ := one i g now hi h
    rw [hp.go.1]
    obtain ⟨r1, r2, r3⟩ := reach_ok (k := k) (by omega) h5
    obtain ⟨t1, t2, t3, t4⟩ := r3 x hx0 hx5
    have hm := mul_le hc (show i ≤ 3 by omega)
    have hcc := H.c c i k hc (by omega) (by omega)
    rw [Nat.mul_succ, show 1 + (c * i + c) + k = p + 1 + (d + c) by omega, show 90 + 10 * i + 100 * k = 80 + 10 * i + 100 * k + 10 by omega] at hcc
    have hk0 : k = 0 → p = 0 ∧ now = [0, 1, 2] := fun e => by
      subst e
      have := h2 rfl
      subst this
      refine ⟨by omega, ?_⟩
      simpa [reach] using h5
    obtain ⟨c1, E', c2⟩ := ch_of (E := E) (D := D) (p := p) (d := d + c) (k := k) (b := 80 + 10 * i + 100 * k + 10) (made := c * i + c) (H.s _ (by omega) (by omega)) (H.s _ (by omega) (by omega)) hcc hk0 t2 t3 t1 (by omega) (by omega)
    refine ⟨c1, ?_⟩
    rw [c2]
    refine ⟨k + 1, 0, p + 1 + (d + c), 0, E', D, by omega, fun e => absurd e (by omega), rfl, by rw [Nat.mul_succ]; omega, t1, ?_⟩
    rw [show 80 + 10 * (i + 1) + 100 * (k + 1) = 80 + 10 * i + 100 * k + 10 + 100 by omega, Nat.mul_succ]
end Go.Proofs.Ythojhpjjkfjeiaa.Va
set_option maxRecDepth 1000000
set_option maxHeartbeats 4000000
set_option linter.all false
namespace Go.Proofs.Ythojhpjjkfjeiaa.Va
open Go.Proofs

theorem ms_all (a : Nat) (h1 : 1 ≤ a) (h2 : a ≤ 17) : SChk a := by
  rcases (by omega : a = 1 ∨ a = 2 ∨ a = 3 ∨ a = 4 ∨ a = 5 ∨ a = 6 ∨ a = 7 ∨ a = 8 ∨ a = 9 ∨ a = 10 ∨ a = 11 ∨ a = 12 ∨ a = 13 ∨ a = 14 ∨ a = 15 ∨ a = 16 ∨ a = 17) with rfl | rfl | rfl | rfl | rfl | rfl | rfl | rfl | rfl | rfl | rfl | rfl | rfl | rfl | rfl | rfl | rfl
  · exact ms_1
  · exact ms_2
  · exact ms_3
  · exact ms_4
  · exact ms_5
  · exact ms_6
  · exact ms_7
  · exact ms_8
  · exact ms_9
  · exact ms_10
  · exact ms_11
  · exact ms_12
  · exact ms_13
  · exact ms_14
  · exact ms_15
  · exact ms_16
  · exact ms_17
theorem mp_all (c i k u p d : Nat) (h1 : 1 ≤ c) (h2 : c ≤ 3) (h3 : i ≤ 3) (h4 : k + u ≤ i) (h5 : k = 0 → u = i) (h6 : d = c * u) (h7 : p + d = c * i + k) : PChk c p d (80 + 10 * i + 100 * k) k := by
  obtain rfl : p = c * i + k - c * u := by omega
  subst h6
  have hi : i = 0 ∨ i = 1 ∨ i = 2 ∨ i = 3 := by omega
  have hk : k = 0 ∨ k = 1 ∨ k = 2 ∨ k = 3 := by omega
  have hu : u = 0 ∨ u = 1 ∨ u = 2 ∨ u = 3 := by omega
  have hc : c = 1 ∨ c = 2 ∨ c = 3 := by omega
  clear h7
  rcases hi with rfl | rfl | rfl | rfl <;> rcases hk with rfl | rfl | rfl | rfl <;> try omega
  · rcases hu with rfl | rfl | rfl | rfl <;> try omega
    · rcases hc with rfl | rfl | rfl
      · exact mp_1_0_0_0
      · exact mp_2_0_0_0
      · exact mp_3_0_0_0
  · rcases hu with rfl | rfl | rfl | rfl <;> try omega
    · rcases hc with rfl | rfl | rfl
      · exact mp_1_1_0_1
      · exact mp_2_1_0_1
      · exact mp_3_1_0_1
  · rcases hu with rfl | rfl | rfl | rfl <;> try omega
    · rcases hc with rfl | rfl | rfl
      · exact mp_1_1_1_0
      · exact mp_2_1_1_0
      · exact mp_3_1_1_0
  · rcases hu with rfl | rfl | rfl | rfl <;> try omega
    · rcases hc with rfl | rfl | rfl
      · exact mp_1_2_0_2
      · exact mp_2_2_0_2
      · exact mp_3_2_0_2
  · rcases hu with rfl | rfl | rfl | rfl <;> try omega
    · rcases hc with rfl | rfl | rfl
      · exact mp_1_2_1_0
      · exact mp_2_2_1_0
      · exact mp_3_2_1_0
    · rcases hc with rfl | rfl | rfl
      · exact mp_1_2_1_1
      · exact mp_2_2_1_1
      · exact mp_3_2_1_1
  · rcases hu with rfl | rfl | rfl | rfl <;> try omega
    · rcases hc with rfl | rfl | rfl
      · exact mp_1_2_2_0
      · exact mp_2_2_2_0
      · exact mp_3_2_2_0
  · rcases hu with rfl | rfl | rfl | rfl <;> try omega
    · rcases hc with rfl | rfl | rfl
      · exact mp_1_3_0_3
      · exact mp_2_3_0_3
      · exact mp_3_3_0_3
  · rcases hu with rfl | rfl | rfl | rfl <;> try omega
    · rcases hc with rfl | rfl | rfl
      · exact mp_1_3_1_0
      · exact mp_2_3_1_0
      · exact mp_3_3_1_0
    · rcases hc with rfl | rfl | rfl
      · exact mp_1_3_1_1
      · exact mp_2_3_1_1
      · exact mp_3_3_1_1
    · rcases hc with rfl | rfl | rfl
      · exact mp_1_3_1_2
      · exact mp_2_3_1_2
      · exact mp_3_3_1_2
  · rcases hu with rfl | rfl | rfl | rfl <;> try omega
    · rcases hc with rfl | rfl | rfl
      · exact mp_1_3_2_0
      · exact mp_2_3_2_0
      · exact mp_3_3_2_0
    · rcases hc with rfl | rfl | rfl
      · exact mp_1_3_2_1
      · exact mp_2_3_2_1
      · exact mp_3_3_2_1
  · rcases hu with rfl | rfl | rfl | rfl <;> try omega
    · rcases hc with rfl | rfl | rfl
      · exact mp_1_3_3_0
      · exact mp_2_3_3_0
      · exact mp_3_3_3_0
theorem mc_all (c i k : Nat) (h1 : c ≤ 3) (h2 : i ≤ 3) (h3 : k ≤ i) : CChk (1 + c * (i + 1) + k) (90 + 10 * i + 100 * k) (k + 1) := by
  have hi : i = 0 ∨ i = 1 ∨ i = 2 ∨ i = 3 := by omega
  have hk : k = 0 ∨ k = 1 ∨ k = 2 ∨ k = 3 := by omega
  have hc : c = 0 ∨ c = 1 ∨ c = 2 ∨ c = 3 := by omega
  rcases hi with rfl | rfl | rfl | rfl <;> rcases hk with rfl | rfl | rfl | rfl <;> try omega
  · rcases hc with rfl | rfl | rfl | rfl
    · exact mc_0_0_0
    · exact mc_1_0_0
    · exact mc_2_0_0
    · exact mc_3_0_0
  · rcases hc with rfl | rfl | rfl | rfl
    · exact mc_0_1_0
    · exact mc_1_1_0
    · exact mc_2_1_0
    · exact mc_3_1_0
  · rcases hc with rfl | rfl | rfl | rfl
    · exact mc_0_1_1
    · exact mc_1_1_1
    · exact mc_2_1_1
    · exact mc_3_1_1
  · rcases hc with rfl | rfl | rfl | rfl
    · exact mc_0_2_0
    · exact mc_1_2_0
    · exact mc_2_2_0
    · exact mc_3_2_0
  · rcases hc with rfl | rfl | rfl | rfl
    · exact mc_0_2_1
    · exact mc_1_2_1
    · exact mc_2_2_1
    · exact mc_3_2_1
  · rcases hc with rfl | rfl | rfl | rfl
    · exact mc_0_2_2
    · exact mc_1_2_2
    · exact mc_2_2_2
    · exact mc_3_2_2
  · rcases hc with rfl | rfl | rfl | rfl
    · exact mc_0_3_0
    · exact mc_1_3_0
    · exact mc_2_3_0
    · exact mc_3_3_0
  · rcases hc with rfl | rfl | rfl | rfl
    · exact mc_0_3_1
    · exact mc_1_3_1
    · exact mc_2_3_1
    · exact mc_3_3_1
  · rcases hc with rfl | rfl | rfl | rfl
    · exact mc_0_3_2
    · exact mc_1_3_2
    · exact mc_2_3_2
    · exact mc_3_3_2
  · rcases hc with rfl | rfl | rfl | rfl
    · exact mc_0_3_3
    · exact mc_1_3_3
    · exact mc_2_3_3
    · exact mc_3_3_3
theorem mem_all : AllChk := ⟨mg_0, ms_all, mp_all, mc_all⟩
end Go.Proofs.Ythojhpjjkfjeiaa.Va
set_option maxRecDepth 100000
set_option linter.all false
namespace Go.Proofs.Ythojhpjjkfjeiaa.Va
open Go.Proofs
theorem raftMembers_all {l : List Int} {dat : Int} : AC Try.prog 4 [.psl (ofInts l) 0 l.length, .int .i64 dat] st0 fun v _ => v = .bool true := (raftMembers_ac fun c hc => mem_of mem_all c hc).ac
end Go.Proofs.Ythojhpjjkfjeiaa.Va
