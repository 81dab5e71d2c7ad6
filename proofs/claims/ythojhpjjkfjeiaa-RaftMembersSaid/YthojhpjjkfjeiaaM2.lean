/- Texts Rq4 to Rq6 of this claim, in one. Conditions: none. -/
import Derived.Test.YthojhpjjkfjeiaaM1
set_option maxRecDepth 100000
set_option maxHeartbeats 4000000
set_option linter.all false
namespace Go.Proofs.Ythojhpjjkfjeiaa.Va
open Go.Proofs
/- Where a walk over a core has come to. -/
structure Now (σ : AState) (own : Nat → Nat) (t b : Nat) (own' : Nat → Nat) (c : Core) (R : Rws) (s : AState) : Prop where
  tr : Turns t own own' σ s
  co : CoreAt s own' t b c R
namespace Now
variable {σ s s' : AState} {own own' own'' : Nat → Nat} {t b : Nat} {c c' : Core} {R R' : Rws}
theorem start (h : CoreAt σ own t b c R) : Now σ own t b (loc own σ.n) c R σ := ⟨⟨Nat.le_refl _, fun k hk => loc_lt hk, fun _ _ _ => rfl⟩, h.own_ fun k hk => loc_lt hk⟩
theorem call (h : Now σ own t b own' c R s) (h' : Now s own' t b own'' c' R' s') : Now σ own t b own'' c' R' s' := ⟨h.tr.trans h'.tr, h'.co⟩
theorem keeps (h : Now σ own t b own' c R s) (hk : Keeps s.n s s') : Now σ own t b own' c R s' := ⟨h.tr.trans (Turns.keeps hk), h.co.keeps hk⟩
theorem push (h : Now σ own t b own' c R s) (o : List AV) : Now σ own t b own' c R (s.push (.cells o)) := h.keeps ((Keeps.refl s).push _)
theorem slots (h : Now σ own t b own' c R s) (m : Nat) (sl : List (Nat × List AV)) : Now σ own t b own' c R (addSlots s.n m s sl) := h.keeps (slots_keep (Keeps.refl s))
/- A local block turns. -/
theorem local_ (h : Now σ own t b own' c R s) (ht : 10 ≤ t) {q : Nat} (hq : σ.n ≤ q) (h0 : own' q = 0) (o : List AV) : Now σ own t b own' c R (s.put q o) :=
  ⟨⟨h.tr.n, h.tr.ow, fun k hk hm => (put_h (by omega)).trans (h.tr.keep k hk hm)⟩, h.co.put_other (by omega) o⟩
theorem upd (h : Now σ own t b own' c R s) {c' : Core} (hl : c'.l = c.l := by rfl) (hy : c'.yes = c.yes := by rfl) (hw : c'.waits = c.waits := by rfl) (hr : c'.reads = c.reads := by rfl) (ho : c'.out = c.out := by rfl) (hp : c'.peers.length = 7) : Now σ own t b own' c' R (s.put b (coreC c' R)) :=
  ⟨h.tr.trans (h.co.turns_put _), h.co.upd hl hy hw hr ho hp⟩

theorem nil_l (h : Now σ own t b own' c R s) : Now σ own t b own' { c with l := [] } { R with l := .nils } (s.put b (coreC c { R with l := .nils })) := by
  have ne : ∀ j, 0 < j → own' b ≠ t + j := fun j hj => by rw [h.co.ob]; omega
  refine ⟨h.tr.trans (h.co.turns_put _), by rw [put_get, if_pos rfl]; rfl, h.co.ob, h.co.bn, ?_, ?_, ?_, ?_, ?_, h.co.pl⟩
  · exact RowP.nil _ _ _
  · exact h.co.ry.put (ne 2 (by omega)) _
  · exact h.co.rw.put (ne 3 (by omega)) _
  · exact h.co.rr.put (ne 4 (by omega)) _
  · exact h.co.ro.put (ne 5 (by omega)) _
theorem app_l (h : Now σ own t b own' c R s) (ht : 10 ≤ t) (m : Ent) (hc : c.l.length ≤ 100000) : ∃ b9 cap9 s9, appendA (s.push (.cells m.c)) 4 64 R.l (.sl s.n 0 1 (some 1) 4) = some (.sl b9 0 (c.l.length + 1) cap9 4, s9) ∧ s9.cells b = some (coreC c R) ∧
    Now σ own t b (loc (tag own' s.n (t + 1)) s9.n) { c with l := c.l ++ [m] } { R with l := .sl b9 0 (c.l.length + 1) cap9 4 } (s9.put b (coreC c { R with l := .sl b9 0 (c.l.length + 1) cap9 4 })) ∧ (∀ q, q < s.n → own' q = 0 → s9.cells q = s.cells q) ∧ s.n < s9.n := by
  have h1 := h.co.own_ (own' := tag own' s.n (t + 1)) fun k hk => tag_lt hk
  obtain ⟨b9, cap9, s9, happ, hrow9, hn9, hk9⟩ := app_lit (bytes := 64) h1.rl (fun k hk => tag_ge hk) (new := m.c) (k := 1) rfl rfl (by omega) (by omega)
  have hkeep : ∀ k, k < s.n → own' k ≠ t + 1 → s9.h.get k = s.h.get k := fun k hk hne => hk9 k hk (by rw [tag_lt hk]; exact hne)
  have hkc : ∀ k, k < s.n → own' k ≠ t + 1 → s9.cells k = s.cells k := fun k hk hne => get_cells (hkeep k hk hne)
  have hb9 : s9.cells b = some (coreC c R) := (hkc b h.co.bn (by rw [h.co.ob]; omega)).trans h.co.cb
  have lt9 : ∀ k, k < s.n → loc (tag own' s.n (t + 1)) s9.n k = own' k := fun k hk => by rw [loc_lt (by omega), tag_lt hk]
  have ne : ∀ i, 0 < i → loc (tag own' s.n (t + 1)) s9.n b ≠ t + i := fun i hi => by rw [lt9 b h.co.bn, h.co.ob]; omega
  refine ⟨b9, cap9, s9, happ, hb9, ⟨⟨Nat.le_trans h.tr.n (Nat.le_of_lt hn9), fun k hk => (lt9 k (Nat.lt_of_lt_of_le hk h.tr.n)).trans (h.tr.ow k hk), fun k hk hm => ?_⟩, by rw [put_get, if_pos rfl]; rfl, (lt9 b h.co.bn).trans h.co.ob, Nat.lt_trans h.co.bn hn9, ?_, ?_, ?_, ?_, ?_, h.co.pl⟩, fun q hq h0 => hkc q hq (by omega), hn9⟩
  · have hks : k < s.n := Nat.lt_of_lt_of_le hk h.tr.n
    have hm' : ¬ (t ≤ own' k ∧ own' k < t + 10) := by rw [h.tr.ow k hk]; exact hm
    have hkb : k ≠ b := fun e => hm' (by subst e; rw [h.co.ob]; omega)
    exact ((put_h hkb).trans (hkeep k hks (by omega))).trans (h.tr.keep k hk hm)
  · have hr : RowP (fun k => loc (tag own' s.n (t + 1)) s9.n k = t + 1) s9 (.sl b9 0 (c.l.length + 1) cap9 4) (rowc Ent.c (c.l ++ [m])) (c.l ++ [m]).length 4 := by
      rw [rowc_append, rowc_one, List.length_append]
      exact hrow9.mono fun k hk hn => by rw [loc_lt hn]; exact hk
    exact hr.put (ne 1 (by omega)) _
  · exact ((h.co.ry.mono fun k hk hn => (lt9 k hn).trans hk).keep (Nat.le_of_lt hn9) fun k hk hp => hkc k hk (by rw [lt9 k hk] at hp; omega)).put (ne 2 (by omega)) _
  · exact ((h.co.rw.mono fun k hk hn => (lt9 k hn).trans hk).keep (Nat.le_of_lt hn9) fun k hk hp => hkc k hk (by rw [lt9 k hk] at hp; omega)).put (ne 3 (by omega)) _
  · exact ((h.co.rr.mono fun k hk hn => (lt9 k hn).trans hk).keep (Nat.le_of_lt hn9) fun k hk hp => hkc k hk (by rw [lt9 k hk] at hp; omega)).put (ne 4 (by omega)) _
  · exact ((h.co.ro.mono fun k hk hn => (lt9 k hn).trans hk).keep (Nat.le_of_lt hn9) fun k hk hp => hkc k hk (by rw [lt9 k hk] at hp; omega)).put (ne 5 (by omega)) _
theorem nil_yes (h : Now σ own t b own' c R s) : Now σ own t b own' { c with yes := [] } { R with yes := .nils } (s.put b (coreC c { R with yes := .nils })) := by
  have ne : ∀ j, 0 < j → own' b ≠ t + j := fun j hj => by rw [h.co.ob]; omega
  refine ⟨h.tr.trans (h.co.turns_put _), by rw [put_get, if_pos rfl]; rfl, h.co.ob, h.co.bn, ?_, ?_, ?_, ?_, ?_, h.co.pl⟩
  · exact h.co.rl.put (ne 1 (by omega)) _
  · exact RowP.nil _ _ _
  · exact h.co.rw.put (ne 3 (by omega)) _
  · exact h.co.rr.put (ne 4 (by omega)) _
  · exact h.co.ro.put (ne 5 (by omega)) _
theorem app_yes (h : Now σ own t b own' c R s) (ht : 10 ≤ t) (m : Int) (hc : c.yes.length ≤ 100000) : ∃ b9 cap9 s9, appendA (s.push (.cells [.int .i64 m])) 1 8 R.yes (.sl s.n 0 1 (some 1) 1) = some (.sl b9 0 (c.yes.length + 1) cap9 1, s9) ∧ s9.cells b = some (coreC c R) ∧
    Now σ own t b (loc (tag own' s.n (t + 2)) s9.n) { c with yes := c.yes ++ [m] } { R with yes := .sl b9 0 (c.yes.length + 1) cap9 1 } (s9.put b (coreC c { R with yes := .sl b9 0 (c.yes.length + 1) cap9 1 })) ∧ (∀ q, q < s.n → own' q = 0 → s9.cells q = s.cells q) ∧ s.n < s9.n := by
  have h1 := h.co.own_ (own' := tag own' s.n (t + 2)) fun k hk => tag_lt hk
  obtain ⟨b9, cap9, s9, happ, hrow9, hn9, hk9⟩ := app_lit (bytes := 8) h1.ry (fun k hk => tag_ge hk) (new := [.int .i64 m]) (k := 1) rfl rfl (by omega) (by omega)
  have hkeep : ∀ k, k < s.n → own' k ≠ t + 2 → s9.h.get k = s.h.get k := fun k hk hne => hk9 k hk (by rw [tag_lt hk]; exact hne)
  have hkc : ∀ k, k < s.n → own' k ≠ t + 2 → s9.cells k = s.cells k := fun k hk hne => get_cells (hkeep k hk hne)
  have hb9 : s9.cells b = some (coreC c R) := (hkc b h.co.bn (by rw [h.co.ob]; omega)).trans h.co.cb
  have lt9 : ∀ k, k < s.n → loc (tag own' s.n (t + 2)) s9.n k = own' k := fun k hk => by rw [loc_lt (by omega), tag_lt hk]
  have ne : ∀ i, 0 < i → loc (tag own' s.n (t + 2)) s9.n b ≠ t + i := fun i hi => by rw [lt9 b h.co.bn, h.co.ob]; omega
  refine ⟨b9, cap9, s9, happ, hb9, ⟨⟨Nat.le_trans h.tr.n (Nat.le_of_lt hn9), fun k hk => (lt9 k (Nat.lt_of_lt_of_le hk h.tr.n)).trans (h.tr.ow k hk), fun k hk hm => ?_⟩, by rw [put_get, if_pos rfl]; rfl, (lt9 b h.co.bn).trans h.co.ob, Nat.lt_trans h.co.bn hn9, ?_, ?_, ?_, ?_, ?_, h.co.pl⟩, fun q hq h0 => hkc q hq (by omega), hn9⟩
  · have hks : k < s.n := Nat.lt_of_lt_of_le hk h.tr.n
    have hm' : ¬ (t ≤ own' k ∧ own' k < t + 10) := by rw [h.tr.ow k hk]; exact hm
    have hkb : k ≠ b := fun e => hm' (by subst e; rw [h.co.ob]; omega)
    exact ((put_h hkb).trans (hkeep k hks (by omega))).trans (h.tr.keep k hk hm)
  · exact ((h.co.rl.mono fun k hk hn => (lt9 k hn).trans hk).keep (Nat.le_of_lt hn9) fun k hk hp => hkc k hk (by rw [lt9 k hk] at hp; omega)).put (ne 1 (by omega)) _
  · have hr : RowP (fun k => loc (tag own' s.n (t + 2)) s9.n k = t + 2) s9 (.sl b9 0 (c.yes.length + 1) cap9 1) (ofInts (c.yes ++ [m])) (c.yes ++ [m]).length 1 := by
      have e : ofInts (c.yes ++ [m]) = ofInts c.yes ++ [.int .i64 m] := by simp [ofInts]
      rw [e, List.length_append]
      exact hrow9.mono fun k hk hn => by rw [loc_lt hn]; exact hk
    exact hr.put (ne 2 (by omega)) _
  · exact ((h.co.rw.mono fun k hk hn => (lt9 k hn).trans hk).keep (Nat.le_of_lt hn9) fun k hk hp => hkc k hk (by rw [lt9 k hk] at hp; omega)).put (ne 3 (by omega)) _
  · exact ((h.co.rr.mono fun k hk hn => (lt9 k hn).trans hk).keep (Nat.le_of_lt hn9) fun k hk hp => hkc k hk (by rw [lt9 k hk] at hp; omega)).put (ne 4 (by omega)) _
  · exact ((h.co.ro.mono fun k hk hn => (lt9 k hn).trans hk).keep (Nat.le_of_lt hn9) fun k hk hp => hkc k hk (by rw [lt9 k hk] at hp; omega)).put (ne 5 (by omega)) _
theorem nil_waits (h : Now σ own t b own' c R s) : Now σ own t b own' { c with waits := [] } { R with waits := .nils } (s.put b (coreC c { R with waits := .nils })) := by
  have ne : ∀ j, 0 < j → own' b ≠ t + j := fun j hj => by rw [h.co.ob]; omega
  refine ⟨h.tr.trans (h.co.turns_put _), by rw [put_get, if_pos rfl]; rfl, h.co.ob, h.co.bn, ?_, ?_, ?_, ?_, ?_, h.co.pl⟩
  · exact h.co.rl.put (ne 1 (by omega)) _
  · exact h.co.ry.put (ne 2 (by omega)) _
  · exact RowP.nil _ _ _
  · exact h.co.rr.put (ne 4 (by omega)) _
  · exact h.co.ro.put (ne 5 (by omega)) _
theorem app_waits (h : Now σ own t b own' c R s) (ht : 10 ≤ t) (m : Wait) (hc : c.waits.length ≤ 100000) : ∃ b9 cap9 s9, appendA (s.push (.cells m.c)) 3 24 R.waits (.sl s.n 0 1 (some 1) 3) = some (.sl b9 0 (c.waits.length + 1) cap9 3, s9) ∧ s9.cells b = some (coreC c R) ∧
    Now σ own t b (loc (tag own' s.n (t + 3)) s9.n) { c with waits := c.waits ++ [m] } { R with waits := .sl b9 0 (c.waits.length + 1) cap9 3 } (s9.put b (coreC c { R with waits := .sl b9 0 (c.waits.length + 1) cap9 3 })) ∧ (∀ q, q < s.n → own' q = 0 → s9.cells q = s.cells q) ∧ s.n < s9.n := by
  have h1 := h.co.own_ (own' := tag own' s.n (t + 3)) fun k hk => tag_lt hk
  obtain ⟨b9, cap9, s9, happ, hrow9, hn9, hk9⟩ := app_lit (bytes := 24) h1.rw (fun k hk => tag_ge hk) (new := m.c) (k := 1) rfl rfl (by omega) (by omega)
  have hkeep : ∀ k, k < s.n → own' k ≠ t + 3 → s9.h.get k = s.h.get k := fun k hk hne => hk9 k hk (by rw [tag_lt hk]; exact hne)
  have hkc : ∀ k, k < s.n → own' k ≠ t + 3 → s9.cells k = s.cells k := fun k hk hne => get_cells (hkeep k hk hne)
  have hb9 : s9.cells b = some (coreC c R) := (hkc b h.co.bn (by rw [h.co.ob]; omega)).trans h.co.cb
  have lt9 : ∀ k, k < s.n → loc (tag own' s.n (t + 3)) s9.n k = own' k := fun k hk => by rw [loc_lt (by omega), tag_lt hk]
  have ne : ∀ i, 0 < i → loc (tag own' s.n (t + 3)) s9.n b ≠ t + i := fun i hi => by rw [lt9 b h.co.bn, h.co.ob]; omega
  refine ⟨b9, cap9, s9, happ, hb9, ⟨⟨Nat.le_trans h.tr.n (Nat.le_of_lt hn9), fun k hk => (lt9 k (Nat.lt_of_lt_of_le hk h.tr.n)).trans (h.tr.ow k hk), fun k hk hm => ?_⟩, by rw [put_get, if_pos rfl]; rfl, (lt9 b h.co.bn).trans h.co.ob, Nat.lt_trans h.co.bn hn9, ?_, ?_, ?_, ?_, ?_, h.co.pl⟩, fun q hq h0 => hkc q hq (by omega), hn9⟩
  · have hks : k < s.n := Nat.lt_of_lt_of_le hk h.tr.n
    have hm' : ¬ (t ≤ own' k ∧ own' k < t + 10) := by rw [h.tr.ow k hk]; exact hm
    have hkb : k ≠ b := fun e => hm' (by subst e; rw [h.co.ob]; omega)
    exact ((put_h hkb).trans (hkeep k hks (by omega))).trans (h.tr.keep k hk hm)
  · exact ((h.co.rl.mono fun k hk hn => (lt9 k hn).trans hk).keep (Nat.le_of_lt hn9) fun k hk hp => hkc k hk (by rw [lt9 k hk] at hp; omega)).put (ne 1 (by omega)) _
  · exact ((h.co.ry.mono fun k hk hn => (lt9 k hn).trans hk).keep (Nat.le_of_lt hn9) fun k hk hp => hkc k hk (by rw [lt9 k hk] at hp; omega)).put (ne 2 (by omega)) _
  · have hr : RowP (fun k => loc (tag own' s.n (t + 3)) s9.n k = t + 3) s9 (.sl b9 0 (c.waits.length + 1) cap9 3) (rowc Wait.c (c.waits ++ [m])) (c.waits ++ [m]).length 3 := by
      rw [rowc_append, rowc_one, List.length_append]
      exact hrow9.mono fun k hk hn => by rw [loc_lt hn]; exact hk
    exact hr.put (ne 3 (by omega)) _
  · exact ((h.co.rr.mono fun k hk hn => (lt9 k hn).trans hk).keep (Nat.le_of_lt hn9) fun k hk hp => hkc k hk (by rw [lt9 k hk] at hp; omega)).put (ne 4 (by omega)) _
  · exact ((h.co.ro.mono fun k hk hn => (lt9 k hn).trans hk).keep (Nat.le_of_lt hn9) fun k hk hp => hkc k hk (by rw [lt9 k hk] at hp; omega)).put (ne 5 (by omega)) _
theorem nil_reads (h : Now σ own t b own' c R s) : Now σ own t b own' { c with reads := [] } { R with reads := .nils } (s.put b (coreC c { R with reads := .nils })) := by
  have ne : ∀ j, 0 < j → own' b ≠ t + j := fun j hj => by rw [h.co.ob]; omega
  refine ⟨h.tr.trans (h.co.turns_put _), by rw [put_get, if_pos rfl]; rfl, h.co.ob, h.co.bn, ?_, ?_, ?_, ?_, ?_, h.co.pl⟩
  · exact h.co.rl.put (ne 1 (by omega)) _
  · exact h.co.ry.put (ne 2 (by omega)) _
  · exact h.co.rw.put (ne 3 (by omega)) _
  · exact RowP.nil _ _ _
  · exact h.co.ro.put (ne 5 (by omega)) _
theorem app_reads (h : Now σ own t b own' c R s) (ht : 10 ≤ t) (m : Rd) (hc : c.reads.length ≤ 100000) : ∃ b9 cap9 s9, appendA (s.push (.cells m.c)) 2 16 R.reads (.sl s.n 0 1 (some 1) 2) = some (.sl b9 0 (c.reads.length + 1) cap9 2, s9) ∧ s9.cells b = some (coreC c R) ∧
    Now σ own t b (loc (tag own' s.n (t + 4)) s9.n) { c with reads := c.reads ++ [m] } { R with reads := .sl b9 0 (c.reads.length + 1) cap9 2 } (s9.put b (coreC c { R with reads := .sl b9 0 (c.reads.length + 1) cap9 2 })) ∧ (∀ q, q < s.n → own' q = 0 → s9.cells q = s.cells q) ∧ s.n < s9.n := by
  have h1 := h.co.own_ (own' := tag own' s.n (t + 4)) fun k hk => tag_lt hk
  obtain ⟨b9, cap9, s9, happ, hrow9, hn9, hk9⟩ := app_lit (bytes := 16) h1.rr (fun k hk => tag_ge hk) (new := m.c) (k := 1) rfl rfl (by omega) (by omega)
  have hkeep : ∀ k, k < s.n → own' k ≠ t + 4 → s9.h.get k = s.h.get k := fun k hk hne => hk9 k hk (by rw [tag_lt hk]; exact hne)
  have hkc : ∀ k, k < s.n → own' k ≠ t + 4 → s9.cells k = s.cells k := fun k hk hne => get_cells (hkeep k hk hne)
  have hb9 : s9.cells b = some (coreC c R) := (hkc b h.co.bn (by rw [h.co.ob]; omega)).trans h.co.cb
  have lt9 : ∀ k, k < s.n → loc (tag own' s.n (t + 4)) s9.n k = own' k := fun k hk => by rw [loc_lt (by omega), tag_lt hk]
  have ne : ∀ i, 0 < i → loc (tag own' s.n (t + 4)) s9.n b ≠ t + i := fun i hi => by rw [lt9 b h.co.bn, h.co.ob]; omega
  refine ⟨b9, cap9, s9, happ, hb9, ⟨⟨Nat.le_trans h.tr.n (Nat.le_of_lt hn9), fun k hk => (lt9 k (Nat.lt_of_lt_of_le hk h.tr.n)).trans (h.tr.ow k hk), fun k hk hm => ?_⟩, by rw [put_get, if_pos rfl]; rfl, (lt9 b h.co.bn).trans h.co.ob, Nat.lt_trans h.co.bn hn9, ?_, ?_, ?_, ?_, ?_, h.co.pl⟩, fun q hq h0 => hkc q hq (by omega), hn9⟩
  · have hks : k < s.n := Nat.lt_of_lt_of_le hk h.tr.n
    have hm' : ¬ (t ≤ own' k ∧ own' k < t + 10) := by rw [h.tr.ow k hk]; exact hm
    have hkb : k ≠ b := fun e => hm' (by subst e; rw [h.co.ob]; omega)
    exact ((put_h hkb).trans (hkeep k hks (by omega))).trans (h.tr.keep k hk hm)
  · exact ((h.co.rl.mono fun k hk hn => (lt9 k hn).trans hk).keep (Nat.le_of_lt hn9) fun k hk hp => hkc k hk (by rw [lt9 k hk] at hp; omega)).put (ne 1 (by omega)) _
  · exact ((h.co.ry.mono fun k hk hn => (lt9 k hn).trans hk).keep (Nat.le_of_lt hn9) fun k hk hp => hkc k hk (by rw [lt9 k hk] at hp; omega)).put (ne 2 (by omega)) _
  · exact ((h.co.rw.mono fun k hk hn => (lt9 k hn).trans hk).keep (Nat.le_of_lt hn9) fun k hk hp => hkc k hk (by rw [lt9 k hk] at hp; omega)).put (ne 3 (by omega)) _
  · have hr : RowP (fun k => loc (tag own' s.n (t + 4)) s9.n k = t + 4) s9 (.sl b9 0 (c.reads.length + 1) cap9 2) (rowc Rd.c (c.reads ++ [m])) (c.reads ++ [m]).length 2 := by
      rw [rowc_append, rowc_one, List.length_append]
      exact hrow9.mono fun k hk hn => by rw [loc_lt hn]; exact hk
    exact hr.put (ne 4 (by omega)) _
  · exact ((h.co.ro.mono fun k hk hn => (lt9 k hn).trans hk).keep (Nat.le_of_lt hn9) fun k hk hp => hkc k hk (by rw [lt9 k hk] at hp; omega)).put (ne 5 (by omega)) _
theorem nil_out (h : Now σ own t b own' c R s) : Now σ own t b own' { c with out := [] } { R with out := .nils } (s.put b (coreC c { R with out := .nils })) := by
  have ne : ∀ j, 0 < j → own' b ≠ t + j := fun j hj => by rw [h.co.ob]; omega
  refine ⟨h.tr.trans (h.co.turns_put _), by rw [put_get, if_pos rfl]; rfl, h.co.ob, h.co.bn, ?_, ?_, ?_, ?_, ?_, h.co.pl⟩
  · exact h.co.rl.put (ne 1 (by omega)) _
  · exact h.co.ry.put (ne 2 (by omega)) _
  · exact h.co.rw.put (ne 3 (by omega)) _
  · exact h.co.rr.put (ne 4 (by omega)) _
  · exact RowP.nil _ _ _
theorem app_out (h : Now σ own t b own' c R s) (ht : 10 ≤ t) (m : Msg) (hc : c.out.length ≤ 100000) : ∃ b9 cap9 s9, appendA (s.push (.cells m.c)) 14 192 R.out (.sl s.n 0 1 (some 1) 14) = some (.sl b9 0 (c.out.length + 1) cap9 14, s9) ∧ s9.cells b = some (coreC c R) ∧
    Now σ own t b (loc (tag own' s.n (t + 5)) s9.n) { c with out := c.out ++ [m] } { R with out := .sl b9 0 (c.out.length + 1) cap9 14 } (s9.put b (coreC c { R with out := .sl b9 0 (c.out.length + 1) cap9 14 })) ∧ (∀ q, q < s.n → own' q = 0 → s9.cells q = s.cells q) ∧ s.n < s9.n := by
  have h1 := h.co.own_ (own' := tag own' s.n (t + 5)) fun k hk => tag_lt hk
  obtain ⟨b9, cap9, s9, happ, hrow9, hn9, hk9⟩ := app_lit (bytes := 192) h1.ro (fun k hk => tag_ge hk) (new := m.c) (k := 1) rfl rfl (by omega) (by omega)
  have hkeep : ∀ k, k < s.n → own' k ≠ t + 5 → s9.h.get k = s.h.get k := fun k hk hne => hk9 k hk (by rw [tag_lt hk]; exact hne)
  have hkc : ∀ k, k < s.n → own' k ≠ t + 5 → s9.cells k = s.cells k := fun k hk hne => get_cells (hkeep k hk hne)
  have hb9 : s9.cells b = some (coreC c R) := (hkc b h.co.bn (by rw [h.co.ob]; omega)).trans h.co.cb
  have lt9 : ∀ k, k < s.n → loc (tag own' s.n (t + 5)) s9.n k = own' k := fun k hk => by rw [loc_lt (by omega), tag_lt hk]
  have ne : ∀ i, 0 < i → loc (tag own' s.n (t + 5)) s9.n b ≠ t + i := fun i hi => by rw [lt9 b h.co.bn, h.co.ob]; omega
  refine ⟨b9, cap9, s9, happ, hb9, ⟨⟨Nat.le_trans h.tr.n (Nat.le_of_lt hn9), fun k hk => (lt9 k (Nat.lt_of_lt_of_le hk h.tr.n)).trans (h.tr.ow k hk), fun k hk hm => ?_⟩, by rw [put_get, if_pos rfl]; rfl, (lt9 b h.co.bn).trans h.co.ob, Nat.lt_trans h.co.bn hn9, ?_, ?_, ?_, ?_, ?_, h.co.pl⟩, fun q hq h0 => hkc q hq (by omega), hn9⟩
  · have hks : k < s.n := Nat.lt_of_lt_of_le hk h.tr.n
    have hm' : ¬ (t ≤ own' k ∧ own' k < t + 10) := by rw [h.tr.ow k hk]; exact hm
    have hkb : k ≠ b := fun e => hm' (by subst e; rw [h.co.ob]; omega)
    exact ((put_h hkb).trans (hkeep k hks (by omega))).trans (h.tr.keep k hk hm)
  · exact ((h.co.rl.mono fun k hk hn => (lt9 k hn).trans hk).keep (Nat.le_of_lt hn9) fun k hk hp => hkc k hk (by rw [lt9 k hk] at hp; omega)).put (ne 1 (by omega)) _
  · exact ((h.co.ry.mono fun k hk hn => (lt9 k hn).trans hk).keep (Nat.le_of_lt hn9) fun k hk hp => hkc k hk (by rw [lt9 k hk] at hp; omega)).put (ne 2 (by omega)) _
  · exact ((h.co.rw.mono fun k hk hn => (lt9 k hn).trans hk).keep (Nat.le_of_lt hn9) fun k hk hp => hkc k hk (by rw [lt9 k hk] at hp; omega)).put (ne 3 (by omega)) _
  · exact ((h.co.rr.mono fun k hk hn => (lt9 k hn).trans hk).keep (Nat.le_of_lt hn9) fun k hk hp => hkc k hk (by rw [lt9 k hk] at hp; omega)).put (ne 4 (by omega)) _
  · have hr : RowP (fun k => loc (tag own' s.n (t + 5)) s9.n k = t + 5) s9 (.sl b9 0 (c.out.length + 1) cap9 14) (rowc Msg.c (c.out ++ [m])) (c.out ++ [m]).length 14 := by
      rw [rowc_append, rowc_one, List.length_append]
      exact hrow9.mono fun k hk hn => by rw [loc_lt hn]; exact hk
    exact hr.put (ne 5 (by omega)) _
end Now
/- ------------------------------------------------ small steps of a core -/
theorem wrapI {n : Int} (h : -9223372036854775808 ≤ n) (h' : n < 9223372036854775808) : IntKind.i64.wrap n = n := by
  have e : IntKind.i64.wrap n = if n % 18446744073709551616 ≥ 9223372036854775808 then n % 18446744073709551616 - 18446744073709551616 else n % 18446744073709551616 := by simp [IntKind.wrap, IntKind.bits, IntKind.signed]
  rw [e]; split <;> omega
theorem ei_rem (k : IntKind) (a b : Int) (h : b ≠ 0) : evalInt .rem k a b = some (.int k (a.tmod b)) := by
  have : evalInt .rem k a b = if b = 0 then none else some (.int k (a.tmod b)) := rfl
  rw [this, if_neg h]
theorem tmod_lt (a : Int) : -10 < a.tmod 10 ∧ a.tmod 10 < 10 := by
  have h1 := Int.tmod_lt_of_pos a (show (0 : Int) < 10 by decide)
  have h2 := Int.lt_tmod_of_pos a (show (0 : Int) < 10 by decide)
  exact ⟨h2, h1⟩
def waitN (draw : Int) : Int := 10 + (draw.tmod 10 + 10).tmod 10
def Core.wait (c : Core) (draw : Int) : Core := { c with left := waitN draw }
section
variable {σ : AState} {own : Nat → Nat} {t b : Nat} {c : Core} {R : Rws}
theorem wait_ac (h : σ.cells b = some (coreC c R)) {d : Int} : callD Try.prog 49 [.ptr b 0, .int .i64 d] σ fun v s => s = σ.put b (coreC (c.wait d) R) ∧ v = .tup [] := by
  have e1 := ei_rem .i64 d 10 (by decide)
  have e2 := ei_rem .i64 (d.tmod 10 + 10) 10 (by decide)
  have b1 := tmod_lt d
  have b2 := tmod_lt (d.tmod 10 + 10)
  have w1 : IntKind.i64.wrap (d.tmod 10 + 10) = d.tmod 10 + 10 := wrapI (by omega) (by omega)
  have w2 : IntKind.i64.wrap (10 + (d.tmod 10 + 10).tmod 10) = 10 + (d.tmod 10 + 10).tmod 10 := wrapI (by omega) (by omega)
  refine cd_wp fn49 cf49 cl49 rfl ?_
  simp only [ac49]
  unfold ab49
  simp only [XU, seval, e1, e2, w1, w2, h, storeA, sets1, CS]
  rfl
def Core.follow (c : Core) (term : Nat) : Core :=
  let c1 := if c.term < term then { c with term := term, vote := -1 } else c
  let c2 := if c1.role = 2 then c1.wait c1.draw else c1
  { c2 with role := 0, waits := [] }
theorem follow_ac (h : CoreAt σ own t b c R) {term : Nat} : callD Try.prog 82 [.ptr b 0, .int .i64 (term : Int)] σ fun v s => v = .tup [] ∧ ∃ own' R', Now σ own t b own' (c.follow term) R' s := by
  have n0 := Now.start h
  have hcb := h.cb
  obtain ⟨c1, hc1⟩ : ∃ c1, c1 = (if c.term < term then { c with term := term, vote := -1 } else c) := ⟨_, rfl⟩
  obtain ⟨c2, hc2⟩ : ∃ c2, c2 = (if c1.role = 2 then c1.wait c1.draw else c1) := ⟨_, rfl⟩
  have hres : c.follow term = { c2 with role := 0, waits := [] } := by rw [hc2, hc1]; rfl
  rw [hres]
  have two : ∀ s, Now σ own t b (loc own σ.n) c1 R s → Now σ own t b (loc own σ.n) c2 R (s.put b (coreC c2 R)) := fun s hs => by
    rw [hc2]; split
    · exact hs.upd (c' := c1.wait c1.draw) rfl rfl rfl rfl rfl hs.co.pl
    · exact hs.upd rfl rfl rfl rfl rfl hs.co.pl
  refine cd_wp fn82 cf82 cl82 rfl ?_
  simp only [ac82]
  unfold ab82
  rw [wpX_seq]
  refine x_mid (fun ρ s => ρ.rd 0 = .ptr b 0 ∧ Now σ own t b (loc own σ.n) c1 R s) ?_ ?_
  · by_cases g : c.term < term
    · have g' : (c.term : Int) < (term : Int) := by omega
      rw [if_pos g] at hc1
      subst hc1
      simp only [XU, seval, hcb, CS, g', storeA, sets1]
      exact (n0.upd (c' := { c with term := term }) rfl rfl rfl rfl rfl h.pl).upd (c' := { c with term := term, vote := -1 }) rfl rfl rfl rfl rfl h.pl
    · have g' : ¬ (c.term : Int) < (term : Int) := by omega
      rw [if_neg g] at hc1
      subst hc1
      simp only [XU, seval, hcb, CS, g', storeA, sets1]
      exact n0
  clear n0 hcb
  rintro ρ s ⟨h0, n1⟩
  have hcb := n1.co.cb
  rw [wpX_seq]
  refine x_mid (fun ρ s => ρ.rd 0 = .ptr b 0 ∧ Now σ own t b (loc own σ.n) c2 R s) ?_ ?_
  · by_cases g : c1.role = 2
    · have g' : (c1.role : Int) = 2 := by omega
      rw [if_pos g] at hc2
      subst hc2
      simp only [XU, seval, h0, hcb, CS, g']
      refine (wait_ac hcb).use ?_
      simp only [XU, seval, h0]
      exact n1.upd rfl rfl rfl rfl rfl n1.co.pl
    · have g' : ¬ (c1.role : Int) = 2 := by omega
      rw [if_neg g] at hc2
      subst hc2
      simp only [XU, seval, h0, hcb, CS, g']
      exact n1
  clear two hc2 hc1 hcb n1 h0
  rintro ρ s ⟨h0, n2⟩
  have hcb := n2.co.cb
  simp only [XU, seval, h0, hcb, CS, storeA, sets1]
  exact ⟨_, _, (n2.upd (c' := { c2 with role := 0 }) rfl rfl rfl rfl rfl n2.co.pl).nil_waits⟩
end
end Go.Proofs.Ythojhpjjkfjeiaa.Va
set_option maxRecDepth 100000
set_option maxHeartbeats 4000000
set_option linter.all false
namespace Go.Proofs.Ythojhpjjkfjeiaa.Va
open Go.Proofs
theorem sg14 (a b c d e f g h i j k l m n : AV) : seg [a, b, c, d, e, f, g, h, i, j, k, l, m, n] 0 14 = [a, b, c, d, e, f, g, h, i, j, k, l, m, n] := Eq.trans rfl rfl
theorem sg4 (a b c d : AV) : seg [a, b, c, d] 0 4 = [a, b, c, d] := Eq.trans rfl rfl
theorem one_bytesP (l : Byts) : (bytesP l).one = true := Eq.trans rfl rfl
theorem one_intsP (l : List Int) : (intsP l).one = true := Eq.trans rfl rfl
theorem one_natsP (l : List Nat) : (natsP l).one = true := Eq.trans rfl rfl
theorem one_rowsP (l : List Byts) : (rowsP l).one = true := Eq.trans rfl rfl
theorem cells_bytesP (l : Byts) : (bytesP l).cells = [bytesP l] := Eq.trans rfl rfl
theorem cells_intsP (l : List Int) : (intsP l).cells = [intsP l] := Eq.trans rfl rfl
theorem cells_natsP (l : List Nat) : (natsP l).cells = [natsP l] := Eq.trans rfl rfl
theorem cells_rowsP (l : List Byts) : (rowsP l).cells = [rowsP l] := Eq.trans rfl rfl
def PS := And.intro (And.intro @one_bytesP @one_intsP) (And.intro (And.intro @one_natsP @one_rowsP) (And.intro (And.intro @cells_bytesP @cells_intsP) (And.intro @cells_natsP @cells_rowsP)))
def Msg.by_ (m : Msg) (src to term : Nat) : Msg := { m with src := src, to := to, term := term }
def Core.say (c : Core) (to : Nat) (m : Msg) : Core := { c with out := c.out ++ [m.by_ c.id to c.term] }
section
variable {σ : AState} {own : Nat → Nat} {t b : Nat} {c : Core} {R : Rws}
theorem say_ac (h : CoreAt σ own t b c R) (ht : 10 ≤ t) {m : Msg} {to : Nat} (hc : c.out.length ≤ 100000) : callD Try.prog 79 [.ptr b 0, .int .i64 (to : Int), .agg m.c] σ fun v s => v = .tup [] ∧ ∃ own' R', Now σ own t b own' (c.say to m) R' s := by
  have n0 := (Now.start h).push m.c
  have cq0 : (σ.push (.cells m.c)).cells σ.n = some m.c := push_cells _ _
  have hq0 : loc own σ.n σ.n = 0 := loc_ge (Nat.le_refl _)
  unfold Core.say
  obtain ⟨m', hm'⟩ : ∃ m', m' = m.by_ c.id to c.term := ⟨_, rfl⟩
  rw [← hm']
  have hmc : m'.c = [.int .i64 (c.id : Int), .int .i64 (to : Int), .int .i64 (m.kind : Int), .int .i64 (c.term : Int), .int .i64 (m.index : Int), .int .i64 (m.last : Int), .int .i64 (m.commit : Int), .int .i64 (m.seq : Int), .bool m.yes, natsP m.terms, natsP m.kinds, rowsP m.entries, intsP m.mem, bytesP m.data] := by rw [hm']; rfl
  have hcc : m.c = [.int .i64 (m.src : Int), .int .i64 (m.to : Int), .int .i64 (m.kind : Int), .int .i64 (m.term : Int), .int .i64 (m.index : Int), .int .i64 (m.last : Int), .int .i64 (m.commit : Int), .int .i64 (m.seq : Int), .bool m.yes, natsP m.terms, natsP m.kinds, rowsP m.entries, intsP m.mem, bytesP m.data] := Msg.c_eq m
  have hone : m.c.all AV.one = true := rfl
  refine cd_wp fn79 cf79 cl79 rfl ?_
  simp only [ac79]
  unfold ab79
  rw [wpX_seq]
  refine x_mid (fun ρ s => ρ.rd 0 = .ptr b 0 ∧ ρ.rd 1 = .int .i64 (to : Int) ∧ ρ.rd 5 = .ptr σ.n 0 ∧ σ.n < s.n ∧ loc own σ.n σ.n = 0 ∧ Now σ own t b (loc own σ.n) c R s ∧ s.cells σ.n = some m.c) ?_ ?_
  · simp only [XU, seval, hone]
    exact ⟨by omega, hq0, n0⟩
  clear n0 cq0 hq0
  generalize loc own σ.n = own1
  rintro ρ s ⟨h0, h1, h5, hqn, hq0, n0, cq⟩
  rw [wpX_seq]
  refine x_mid (fun ρ s => ρ.rd 0 = .ptr b 0 ∧ ρ.rd 5 = .ptr σ.n 0 ∧ σ.n < s.n ∧ Now σ own t b own1 c R s ∧ s.cells σ.n = some m'.c) ?_ ?_
  · simp only [XU, seval]
    refine d_dreg follow [] rfl ?_
    have n1 := n0.slots 15 []
    have kq : (addSlots s.n 15 s []).cells σ.n = _ := cq
    have hqn1 : σ.n < (addSlots s.n 15 s []).n := by simp only [addSlots]; omega
    generalize addSlots s.n 15 s [] = s1 at *
    have kb := n1.co.cb
    have hbq : ¬ b = σ.n := fun e => by have := n1.co.ob; rw [e] at this; omega
    rw [hcc] at kq
    simp only [XU, seval, DU, h0, h1, h5, kb, CS, kq, SX]
    refine ⟨⟨?_, ?_⟩, ?_⟩
    · intro l hl c hc hf
      simp only [List.mem_cons, List.mem_nil_iff, List.not_mem_nil, or_false] at hl hc
      rcases hl with rfl | rfl <;> rcases hc with rfl | rfl | rfl | rfl <;> dsimp only at hf ⊢ <;> first
        | (exact absurd hf (by decide +kernel))
        | (simp only [XU, seval, kb, CS, hbq, SX]; done)
    · intro sl hsl; simp at hsl
    exact ⟨hqn1, ((n1.local_ ht (Nat.le_refl _) hq0 _).local_ ht (Nat.le_refl _) hq0 _).local_ ht (Nat.le_refl _) hq0 _, by rw [hmc]⟩
  clear n0 cq h0 h1 h5 hqn
  rintro ρ s ⟨h0, h5, hqn, n0, cq⟩
  simp only [XU, seval]
  refine d_dreg follow [] rfl ?_
  have n1 := n0.slots 11 []
  have kq : (addSlots s.n 11 s []).cells σ.n = _ := cq
  have hqn1 : σ.n < (addSlots s.n 11 s []).n := by simp only [addSlots]; omega
  generalize addSlots s.n 11 s [] = s1 at *
  have kb := n1.co.cb
  obtain ⟨b9, cap9, s9, happ, hb9, n9, hk9, hn9⟩ := n1.app_out ht m' hc
  have cq9 := (hk9 σ.n hqn1 hq0).trans kq
  have nb : ¬ b = s1.n := by have := n1.co.bn; omega
  have nq : ¬ σ.n = s1.n := by omega
  rw [hmc] at kq cq9 happ
  simp only [XU, seval, DU, h0, h5, kb, CS, kq, sg14, fillA, PS]
  simp only [XU, seval, DU, happ, hb9, h0, CS, storeA, sets1]
  refine ⟨⟨?_, ?_⟩, ?_⟩
  · intro l hl c hc hf
    simp only [List.mem_cons, List.mem_nil_iff, List.not_mem_nil, or_false] at hl hc
    rcases hl with rfl | rfl <;> rcases hc with rfl | rfl | rfl | rfl <;> dsimp only at hf ⊢ <;> first
      | (exact absurd hf (by decide +kernel))
      | (simp only [XU, seval, kb, CS, kq, hb9, cq9, nb, nq, sg14]; done)
  · intro sl hsl; simp at hsl
  exact ⟨_, _, n9⟩
def Core.add (c : Core) (e : Ent) : Core := { c with l := c.l ++ [e] }
theorem add_ac (h : CoreAt σ own t b c R) (ht : 10 ≤ t) {e : Ent} (hc : c.l.length ≤ 100000) (hd : e.data.length ≤ 1000000) (hm : e.mem.length ≤ 1000000) : callD Try.prog 62 [.ptr b 0, .agg e.c] σ fun v s => v = .tup [] ∧ ∃ own' R', Now σ own t b own' (c.add e) R' s := by
  have n0 := (Now.start h).push e.c
  have cq0 : (σ.push (.cells e.c)).cells σ.n = some e.c := push_cells _ _
  have hq0 : loc own σ.n σ.n = 0 := loc_ge (Nat.le_refl _)
  have hT := fun σ => twin_ac (e := e) (σ := σ) hd hm
  have hone : e.c.all AV.one = true := rfl
  have hec := Ent.c_eq e
  unfold Core.add
  refine cd_wp fn62 cf62 cl62 rfl ?_
  simp only [ac62]
  unfold ab62
  rw [wpX_seq]
  refine x_mid (fun ρ s => ρ.rd 0 = .ptr b 0 ∧ ρ.rd 3 = .ptr σ.n 0 ∧ σ.n < s.n ∧ loc own σ.n σ.n = 0 ∧ Now σ own t b (loc own σ.n) c R s ∧ s.cells σ.n = some e.c) ?_ ?_
  · simp only [XU, seval, hone]
    exact ⟨by omega, hq0, n0⟩
  clear n0 cq0 hq0
  generalize loc own σ.n = own1
  rintro ρ s ⟨h0, h3, hqn, hq0, n0, cq⟩
  simp only [XU, seval]
  refine d_dreg follow [] rfl ?_
  have n1 := n0.slots 12 []
  have kq : (addSlots s.n 12 s []).cells σ.n = _ := cq
  have hqn1 : σ.n < (addSlots s.n 12 s []).n := by simp only [addSlots]; omega
  generalize addSlots s.n 12 s [] = s1 at *
  have kb := n1.co.cb
  obtain ⟨b9, cap9, s9, happ, hb9, n9, hk9, hn9⟩ := n1.app_l ht e hc
  have cq9 := (hk9 σ.n hqn1 hq0).trans kq
  have nb : ¬ b = s1.n := by have := n1.co.bn; omega
  have nq : ¬ σ.n = s1.n := by omega
  rw [hec] at kq cq9 happ
  simp only [hec] at hT
  simp only [XU, seval, DU, h0, h3, kb, CS, kq, sg4]
  refine (hT _).use ?_
  simp only [XU, seval, DU, h0, kb, CS, kq, fillA, PS]
  simp only [XU, seval, DU, happ, hb9, h0, CS, storeA, sets1]
  refine ⟨⟨?_, ?_⟩, ?_⟩
  · intro l hl c hc hf
    simp only [List.mem_cons, List.mem_nil_iff, List.not_mem_nil, or_false] at hl hc
    rcases hl with rfl | rfl <;> rcases hc with rfl | rfl | rfl | rfl | rfl <;> dsimp only at hf ⊢ <;> first
      | (exact absurd hf (by decide +kernel))
      | (simp only [XU, seval, kb, CS, kq, hb9, cq9, nb, nq, sg4]; done)
  · intro sl hsl; simp at hsl
  exact ⟨_, _, n9⟩
end
/- Numbers as bytes, and back. -/
theorem wrapB (n : Int) : IntKind.u8.wrap n = n % 256 := by
  simp [IntKind.wrap, IntKind.bits, IntKind.signed]
def b8 (n : Int) : UInt8 := UInt8.ofNat (IntKind.u8.wrap n).toNat
theorem b8_eq (n : Int) : IntKind.u8.wrap n = (b8 n).toNat := by
  have h := wrapB n
  have : 0 ≤ n % 256 ∧ n % 256 < 256 := by omega
  unfold b8
  rw [UInt8.toNat_ofNat']
  omega
def idsS (l : List Int) : Byts := l.map b8
def memS (l : Byts) : List Int := l.map fun x => (x.toNat : Int)
theorem ids_st0 {l : List Int} (hl : l.length ≤ 1000000) : callD Try.prog 60 [intsP l] st0 fun v s => ∃ a, Pur s true v a ∧ a = bytesP (idsS l) := by
  unfold intsP bytesP
  refine cd_wp fn60 cf60 cl60 rfl ?_
  simp only [ac60]
  unfold ab60
  simp only [wpX_seq, wpX_skip, wpXK_normal]
  refine x_mid (fun ρ s => ρ.rd 0 = .psl (ofInts l) 0 l.length) ?_ ?_
  · simp only [XU, seval]
  rintro ρ s h0
  rw [wpX_seq]
  refine x_mid (fun ρ s => ρ.rd 0 = .psl (ofInts l) 0 l.length ∧ ρ.rd 3 = .nils) ?_ ?_
  · simp only [XU, seval, h0]
  clear h0
  rintro ρ s ⟨h0, h3⟩
  rw [wpX_seq]
  refine x_mid (fun ρ s => ∃ x, ρ.rd 3 = x ∧ RowP (fun _ => True) s x (ofU8s (idsS l)) (idsS l).length 1) ?_ ?_
  · simp only [XU, seval, h0, h3]
    refine x_for (fun i ρ s => ρ.rd 8 = .int .i64 i ∧ ρ.rd 7 = .int .i64 l.length ∧ ρ.rd 6 = .psl (ofInts l) 0 l.length ∧ ∃ x, ρ.rd 3 = x ∧ RowP (fun _ => True) s x (ofU8s (idsS (l.take i))) (idsS (l.take i)).length 1) l.length ?_ ?_
    · simp only [XU, seval, h0, h3]
      first | exact ⟨rfl, _, rfl, RowP.nil _ _ _⟩ | exact ⟨_, rfl, RowP.nil _ _ _⟩ | exact RowP.nil _ _ _
    clear h0 h3
    rintro i ρ s hi ⟨h8, h7, h6, x, h3, hrow⟩
    by_cases hlt : i < l.length
    rotate_left
    · have : i = l.length := by omega
      subst this
      have hge : ¬ ((l.length : Nat) : Int) < ((l.length : Nat) : Int) := by omega
      rw [List.take_length] at hrow
      simp only [XU, seval, h8, h7, h6, h3, hge]
      exact ⟨_, rfl, hrow⟩
    have hr := lt_idx hlt
    have hlt' := hr.2
    have hw : IntKind.i64.wrap ((i : Int) + 1) = ((i + 1 : Nat) : Int) := wrap_succ (by omega)
    have hg := ints_get hlt
    have hst : idsS (l.take (i + 1)) = idsS (l.take i) ++ [b8 l[i]] := by unfold idsS; rw [List.take_add_one, List.getElem?_eq_getElem hlt, List.map_append]; rfl
    have hlen : (idsS (l.take i)).length ≤ 1000000 := by unfold idsS; simp; omega
    rw [hst]
    generalize idsS (l.take i) = m at *
    generalize l[i] = y at *
    obtain ⟨b9, cap9, s9, happ, hrow9, hn9, hk9⟩ := app_lit (bytes := 1) hrow (fun _ _ => trivial) (new := [.int .u8 (b8 y).toNat]) (k := 1) rfl rfl (by omega) (by omega)
    simp only [XU, seval, h8, h7, h6, h3, hlt', hr, hg, b8_eq, fillA]
    simp only [XU, seval, happ, h8, h7, h6, hw]
    refine ⟨hlt, _, rfl, ?_⟩
    have e : ofU8s (m ++ [b8 y]) = ofU8s m ++ [.int .u8 (b8 y).toNat] := by simp [ofU8s]
    rw [e, List.length_append]
    exact hrow9
  rintro ρ s ⟨x, h3, hrow⟩
  simp only [XU, seval, h3]
  exact ⟨_, hrow.self fun a ha => .flat _ (ofU8s_mem ha), rfl⟩
theorem ids_ac {l : List Int} {σ : AState} (hl : l.length ≤ 1000000) : callD Try.prog 60 [intsP l] σ fun v s => s = σ ∧ v = bytesP (idsS l) :=
  callD.share (R := fun v => v = bytesP (idsS l)) (.cons (intsP_fxd l) .nil) (ids_st0 hl)
theorem u8_get {l : Byts} {i : Nat} (h : i < l.length) : (ofU8s l)[i]? = some (.int .u8 (l[i].toNat : Int)) := by simp [ofU8s, h]
theorem mem_st0 {l : Byts} (hl : l.length ≤ 1000000) : callD Try.prog 74 [bytesP l] st0 fun v s => ∃ a, Pur s true v a ∧ a = intsP (memS l) := by
  unfold intsP bytesP
  refine cd_wp fn74 cf74 cl74 rfl ?_
  simp only [ac74]
  unfold ab74
  simp only [wpX_seq, wpX_skip, wpXK_normal]
  refine x_mid (fun ρ s => ρ.rd 0 = .psl (ofU8s l) 0 l.length) ?_ ?_
  · simp only [XU, seval]
  rintro ρ s h0
  rw [wpX_seq]
  refine x_mid (fun ρ s => ρ.rd 0 = .psl (ofU8s l) 0 l.length ∧ ρ.rd 3 = .nils) ?_ ?_
  · simp only [XU, seval, h0]
  clear h0
  rintro ρ s ⟨h0, h3⟩
  rw [wpX_seq]
  refine x_mid (fun ρ s => ∃ x, ρ.rd 3 = x ∧ RowP (fun _ => True) s x (ofInts (memS l)) (memS l).length 1) ?_ ?_
  · simp only [XU, seval, h0, h3]
    refine x_for (fun i ρ s => ρ.rd 8 = .int .i64 i ∧ ρ.rd 7 = .int .i64 l.length ∧ ρ.rd 6 = .psl (ofU8s l) 0 l.length ∧ ∃ x, ρ.rd 3 = x ∧ RowP (fun _ => True) s x (ofInts (memS (l.take i))) (memS (l.take i)).length 1) l.length ?_ ?_
    · simp only [XU, seval, h0, h3]
      first | exact ⟨rfl, _, rfl, RowP.nil _ _ _⟩ | exact ⟨_, rfl, RowP.nil _ _ _⟩ | exact RowP.nil _ _ _
    clear h0 h3
    rintro i ρ s hi ⟨h8, h7, h6, x, h3, hrow⟩
    by_cases hlt : i < l.length
    rotate_left
    · have : i = l.length := by omega
      subst this
      have hge : ¬ ((l.length : Nat) : Int) < ((l.length : Nat) : Int) := by omega
      rw [List.take_length] at hrow
      simp only [XU, seval, h8, h7, h6, h3, hge]
      exact ⟨_, rfl, hrow⟩
    have hr := lt_idx hlt
    have hlt' := hr.2
    have hw : IntKind.i64.wrap ((i : Int) + 1) = ((i + 1 : Nat) : Int) := wrap_succ (by omega)
    have hg := u8_get hlt
    have hst : memS (l.take (i + 1)) = memS (l.take i) ++ [(l[i].toNat : Int)] := by unfold memS; rw [List.take_add_one, List.getElem?_eq_getElem hlt, List.map_append]; rfl
    have hlen : (memS (l.take i)).length ≤ 1000000 := by unfold memS; simp; omega
    have hw2 : IntKind.i64.wrap ((l[i].toNat : Nat) : Int) = ((l[i].toNat : Nat) : Int) := wrapN (by have := l[i].toNat_lt; omega)
    rw [hst]
    generalize memS (l.take i) = m at *
    generalize l[i] = y at *
    obtain ⟨b9, cap9, s9, happ, hrow9, hn9, hk9⟩ := app_lit (bytes := 8) hrow (fun _ _ => trivial) (new := [.int .i64 (y.toNat : Int)]) (k := 1) rfl rfl (by omega) (by omega)
    simp only [XU, seval, h8, h7, h6, h3, hlt', hr, hg, hw2, fillA]
    simp only [XU, seval, happ, h8, h7, h6, hw]
    refine ⟨hlt, _, rfl, ?_⟩
    have e : ofInts (m ++ [(y.toNat : Int)]) = ofInts m ++ [.int .i64 (y.toNat : Int)] := by simp [ofInts]
    rw [e, List.length_append]
    exact hrow9
  rintro ρ s ⟨x, h3, hrow⟩
  simp only [XU, seval, h3]
  exact ⟨_, hrow.self fun a ha => .flat _ (ofInts_mem ha), rfl⟩
theorem mem_ac {l : Byts} {σ : AState} (hl : l.length ≤ 1000000) : callD Try.prog 74 [bytesP l] σ fun v s => s = σ ∧ v = intsP (memS l) :=
  callD.share (R := fun v => v = intsP (memS l)) (.cons (bytesP_fxd l) .nil) (mem_st0 hl)
end Go.Proofs.Ythojhpjjkfjeiaa.Va
set_option maxRecDepth 100000
set_option maxHeartbeats 4000000
set_option linter.all false
namespace Go.Proofs.Ythojhpjjkfjeiaa.Va
open Go.Proofs
section
variable {σ : AState} {own : Nat → Nat} {t b : Nat} {c : Core} {R : Rws}
theorem at_o (h : CoreAt σ own t b c R) {i : Nat} (hf : c.fit) (h1 : c.snap.index < i) (h2 : i ≤ c.last) : callD Try.prog 34 [.ptr b 0, .int .i64 (i : Int)] σ fun v s => v = .agg (c.ent (i - c.snap.index - 1)).c ∧ Keeps σ.n σ s := by
  unfold Core.fit Core.last at *
  have w1 := wrapSub (a := i) (b := c.snap.index) (by omega) (by omega)
  have w2 := wrapSub1 (a := i - c.snap.index) (by omega) (by omega)
  obtain ⟨k, hk⟩ : ∃ k, k = i - c.snap.index - 1 := ⟨_, rfl⟩
  rw [← hk] at w2 ⊢
  have hkl : k < c.l.length := by omega
  have hr := lt_idx hkl
  obtain ⟨bl, cap, cs, hS⟩ := h.rl.some (by omega)
  have hrow := hS.row hkl
  rw [rowc_seg Ent.c_len hkl] at hrow
  have hfit := hrow.1
  have hall := hrow.2
  have hbl := hS.eq
  have hcs := hS.cells
  have hbln := hS.lt
  rw [ent_get hkl]
  generalize c.l[k] = e at *
  rw [Ent.c_eq] at *
  have hcb := h.cb
  have hbn := h.bn
  refine cd_wp fn34 cf34 cl34 rfl ?_
  simp only [ac34]
  unfold ab34
  simp only [XU, seval]
  refine d_dreg follow [] rfl ?_
  have c0 : (addSlots (σ.push (.cells [.int .i64 0, .int .i64 0, .nils, .nils])).n 15 (σ.push (.cells [.int .i64 0, .int .i64 0, .nils, .nils])) []).cells σ.n = some [.int .i64 0, .int .i64 0, .nils, .nils] := push_cells _ _
  have k1 : Keeps σ.n σ (addSlots (σ.push (.cells [.int .i64 0, .int .i64 0, .nils, .nils])).n 15 (σ.push (.cells [.int .i64 0, .int .i64 0, .nils, .nils])) []) := slots_keep ((Keeps.refl σ).push _)
  generalize addSlots (σ.push (.cells [.int .i64 0, .int .i64 0, .nils, .nils])).n 15 (σ.push (.cells [.int .i64 0, .int .i64 0, .nils, .nils])) [] = s1 at *
  have kb := (k1.cells hbn).trans hcb
  have kbl := (k1.cells hbln).trans hcs
  have nb : ¬ b = σ.n := by omega
  have nbl : ¬ bl = σ.n := by omega
  simp only [XU, seval, DU, kb, CS, hbl, kbl, w1, w2, hr, hfit, hall, c0, SX, sg4, PS]
  refine ⟨⟨?_, ?_⟩, ?_⟩
  · intro l hl c hc hf
    simp only [List.mem_cons, List.mem_nil_iff, List.not_mem_nil, or_false] at hl hc
    rcases hl with rfl | rfl | rfl <;> rcases hc with rfl | rfl <;> dsimp only at hf ⊢ <;> first
      | (exact absurd hf (by decide +kernel))
      | (simp only [XU, seval, kb, CS, hbl, kbl, hr, hfit, hall, nb, nbl]; done)
  · intro sl hsl; simp at hsl
  exact k1.put (Nat.le_refl _) _
theorem counted_o (h : CoreAt σ own t b c R) {i : Nat} (hf : c.fit) : callD Try.prog 36 [.ptr b 0, .int .i64 (i : Int)] σ fun v s => v = cntP (c.counted i) ∧ Keeps σ.n σ s := by
  have hfit : c.last < 4611686018427387904 := hf
  obtain ⟨m, hm⟩ : ∃ m, m = min i c.last := ⟨_, rfl⟩
  have hres : c.counted i = c.cnt (m - c.snap.index) := by rw [hm]; rfl
  rw [hres]
  have hmn := mn2 i c.last
  rw [← hm] at hmn
  have hml : m ≤ c.last := by omega
  generalize hX : c.cnt (m - c.snap.index) = X at *
  unfold cntP at *
  refine cd_wp fn36 cf36 cl36 rfl ?_
  simp only [ac36]
  unfold ab36
  simp only [wpX_seq, wpX_skip, wpXK_normal]
  refine x_mid (fun ρ s => ρ.rd 0 = .ptr b 0 ∧ ρ.rd 1 = .int .i64 (i : Int) ∧ s = σ) ?_ ?_
  · simp only [XU, seval]
  rintro ρ s ⟨h0, h1, rfl⟩
  rw [wpX_seq]
  refine x_mid (fun ρ s' => ρ.rd 0 = .ptr b 0 ∧ X = (c.snap.mem, c.snap.index) ∧ Keeps s.n s s') ?_ ?_
  · simp only [XU, seval, h0, h1]
    refine (last_o h hf).use ?_
    simp only [XU, seval, h0, h1, hmn]
    refine x_for (fun k ρ s' => ρ.rd 0 = .ptr b 0 ∧ ρ.rd 6 = .int .i64 ((m - k : Nat) : Int) ∧ X = c.cnt (m - k - c.snap.index) ∧ Keeps s.n s s') (m - c.snap.index) ?_ ?_
    · simp only [XU, seval, h0, h1]
      first | exact ⟨rfl, hX.symm, Keeps.refl _⟩ | exact ⟨hX.symm, Keeps.refl _⟩
    clear h0 h1
    rintro k ρ s' hk ⟨h0, h6, hk2, hks⟩
    have h' := h.keeps hks
    have hcb := h'.cb
    by_cases hlt : k < m - c.snap.index
    rotate_left
    · have g : ¬ (c.snap.index : Int) < ((m - k : Nat) : Int) := by omega
      have e0 : m - k - c.snap.index = 0 := by omega
      rw [e0] at hk2
      simp only [XU, seval, h0, h6, hcb, CS, g]
      exact ⟨hk2, hks⟩
    have g : (c.snap.index : Int) < ((m - k : Nat) : Int) := by omega
    have hA := at_o h' (i := m - k) hf (by omega) (by omega)
    have w1 := wrapSub1 (a := m - k) (by omega) (by omega)
    have e1 : m - k - c.snap.index = (m - k - c.snap.index - 1) + 1 := by omega
    have e2 : m - k - 1 = m - (k + 1) := by omega
    have e3 : m - k - c.snap.index - 1 = m - (k + 1) - c.snap.index := by omega
    have e4 : c.snap.index + (m - k - c.snap.index - 1) + 1 = m - k := by omega
    rw [e1, Core.cnt, e4] at hk2
    rw [e3] at hk2 hA
    rw [e2] at w1
    generalize c.ent (m - (k + 1) - c.snap.index) = e at *
    simp only [Ent.c_eq] at hA
    simp only [XU, seval, h0, h6, hcb, CS, g]
    refine hA.mono ?_
    intro v s2 hv
    obtain ⟨hv, hk2'⟩ := hv
    subst hv
    have hkk : Keeps s.n s s2 := hks.trans (hk2'.mono hks.1)
    have hkp : ∀ x, Keeps s.n s (((s2.push (.cells [.int .i64 0, .int .i64 0, .nils, .nils])).put s2.n x)) := fun x => (hkk.push _).put (hkk.1) _
    by_cases h2 : e.kind = 2
    · have g2 : (e.kind : Int) = 2 := by omega
      rw [if_pos h2] at hk2
      simp only [XU, seval, h0, h6, SX, PS, g2]
      exact ⟨by rw [hk2], hkp _⟩
    · have g2 : ¬ (e.kind : Int) = 2 := by omega
      rw [if_neg h2] at hk2
      simp only [XU, seval, h0, h6, SX, PS, g2, w1]
      exact ⟨hlt, hk2, hkp _⟩
  clear h0 h1
  rintro ρ s' ⟨h0, hX2, hks⟩
  have h' := (h.keeps hks).slots 12 []
  have hk' : Keeps s.n s (addSlots s'.n 12 s' []) := slots_keep hks
  simp only [XU, seval]
  refine x_dreg0 follow ?_ rfl
  have hcb := h'.cb
  generalize addSlots s'.n 12 s' [] = s2 at *
  simp only [XU, seval, h0, hcb, CS]
  exact ⟨by rw [hX2], hk'⟩
def Core.leave (c : Core) : Core := if (c.counted c.last).2 ≤ c.commit ∧ (c.id : Int) ∉ (c.counted c.last).1 then c.follow c.term else c
theorem leave_ac (h : CoreAt σ own t b c R) (hf : c.fit) (hl : (c.counted c.last).1.length ≤ 1000) : callD Try.prog 78 [.ptr b 0] σ fun v s => v = .tup [] ∧ ∃ own' R', Now σ own t b own' c.leave R' s := by
  have n0 := Now.start h
  unfold Core.leave
  refine cd_wp fn78 cf78 cl78 rfl ?_
  simp only [ac78]
  unfold ab78
  rw [wpX_seq]
  refine x_mid (fun ρ s => ρ.rd 0 = .ptr b 0 ∧ ρ.rd 2 = intsP (c.counted c.last).1 ∧ ρ.rd 3 = .int .i64 ((c.counted c.last).2 : Int) ∧ Now σ own t b (loc own σ.n) c R s) ?_ ?_
  · simp only [XU, seval]
    refine d_dreg follow [] rfl ?_
    have n1 := n0.slots 13 []
    generalize addSlots σ.n 13 σ [] = s1 at *
    simp only [XU, seval, DU]
    refine (last_o n1.co hf).use ?_
    simp only [XU, seval, DU]
    refine (counted_o n1.co hf).mono ?_
    intro v s2 hv
    obtain ⟨hv, hk⟩ := hv
    subst hv
    unfold cntP
    simp only [XU, seval, DU]
    refine ⟨⟨?_, ?_⟩, ?_⟩
    · intro l hl; simp at hl
    · intro sl hsl; simp at hsl
    exact n1.keeps hk
  clear n0
  rintro ρ s ⟨h0, h2, h3, n1⟩
  generalize c.counted c.last = X at *
  obtain ⟨m, at_⟩ := X
  simp only at h2 h3 hl ⊢
  have hcb := n1.co.cb
  by_cases g : at_ ≤ c.commit
  rotate_left
  · have g' : ¬ (at_ : Int) ≤ (c.commit : Int) := by omega
    rw [if_neg (by omega)]
    simp only [XU, seval, h0, h2, h3, hcb, CS, g']
    exact ⟨_, _, n1⟩
  have g' : (at_ : Int) ≤ (c.commit : Int) := by omega
  have hC := contains_ac (x := (c.id : Int)) (σ := s) (l := m) (by omega) (intsP_pur m)
  by_cases hin : (c.id : Int) ∈ m
  · rw [decide_eq_true hin] at hC
    rw [if_neg (fun e => e.2 hin)]
    simp only [XU, seval, h0, h2, h3, hcb, CS, g']
    refine hC.use ?_
    simp only [XU, seval]
    exact ⟨_, _, n1⟩
  · rw [decide_eq_false hin] at hC
    rw [if_pos ⟨g, hin⟩]
    simp only [XU, seval, h0, h2, h3, hcb, CS, g']
    refine hC.use ?_
    simp only [XU, seval, h0, hcb, CS]
    refine (follow_ac n1.co).mono ?_
    rintro v s' ⟨rfl, own', R', n2⟩
    simp only [XU, seval]
    exact ⟨_, _, n1.call n2⟩
end
end Go.Proofs.Ythojhpjjkfjeiaa.Va
