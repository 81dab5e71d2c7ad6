/- Texts Rq16 to Rq21 of this claim, in one. Conditions: none. -/
import Derived.Test.YthojhpjjkfjeiaaM4
import Derived.Test.YthojhpjjkfjeiaaRf2
set_option maxRecDepth 100000
set_option maxHeartbeats 800000
set_option linter.all false
namespace Go.Proofs.Ythojhpjjkfjeiaa.Va
open Go.Proofs
def Core.tickL (c : Core) (d : Int) : Core := { c with draw := d, beat := c.beat + 1 }
def Core.tickF (c : Core) (d : Int) : Core := { c with draw := d, left := c.left - 1 }
def Core.tick (c : Core) (d : Int) : Core :=
  if c.role = 2 then (if (c.beat + 1) % 3 = 0 then (c.tickL d).tell else c.tickL d)
  else (if c.left - 1 ≤ 0 then ((c.tickF d).wait d).stand else c.tickF d)
section
variable {σ : AState} {own : Nat → Nat} {t b : Nat} {c : Core} {R : Rws} {n : Nat}
theorem tick_ac (h : CoreAt σ own t b c R) (ht : 10 ≤ t) (hk : c.Ok (n + 22)) {d : Int} (hb : c.beat < 2305843009213693952) (hl : -1000 ≤ c.left ∧ c.left ≤ 1000) : callD Try.prog 53 [.ptr b 0, .int .i64 d] σ fun v s => v = .tup [] ∧ ∃ own' R', Now σ own t b own' (c.tick d) R' s := by
  have n0 := Now.start h
  have kb := n0.co.cb
  unfold Core.tick
  refine cd_wp fn53 cf53 cl53 rfl ?_
  simp only [ac53]
  unfold ab53
  by_cases hr : c.role = 2
  · rw [if_pos hr]
    have g : (c.role : Int) = 2 := by omega
    have w1 := wrapSucc (a := c.beat) (by omega)
    have hkL : (c.tickL d).Ok (n + 22) := ⟨hk.lt, hk.ll, hk.ld, hk.sm, hk.ol, hk.yl, hk.np, hk.cm, hk.wt, hk.tm, hk.pl, hk.s0, hk.mp⟩
    have n2 := (n0.upd (c' := { c with draw := d }) rfl rfl rfl rfl rfl h.pl).upd (c' := { c with draw := d, beat := c.beat + 1 }) rfl rfl rfl rfl rfl h.pl
    have e1 := ei_rem .i64 ((c.beat + 1 : Nat) : Int) 3 (by decide)
    have e2 : (((c.beat + 1 : Nat) : Int).tmod 3) = (((c.beat + 1) % 3 : Nat) : Int) := by rw [Int.tmod_eq_emod_of_nonneg (by omega)]; omega
    rw [e2] at e1
    obtain ⟨B, hB⟩ : ∃ B, B = c.beat + 1 := ⟨_, rfl⟩
    have hLd : c.tickL d = { c with draw := d, beat := B } := by rw [hB]; rfl
    rw [← hB] at w1 e1 n2 ⊢
    by_cases h3 : B % 3 = 0
    · rw [if_pos h3]
      have g3 : ((B % 3 : Nat) : Int) = 0 := by omega
      generalize hM : B % 3 = M at *
      simp only [XU, seval, kb, CS, g, w1, e1, storeA, sets1, g3]
      generalize AState.put (AState.put σ b _) b _ = s4 at n2 ⊢
      rw [← hLd] at n2
      refine (tell_ac n2.co ht (hkL.le (m := n + 7) (by omega)) hr).now fun s5 own5 R5 n5 => ?_
      simp only [XU, seval]
      exact ⟨_, _, n2.call n5⟩
    · rw [if_neg h3]
      have g3 : ¬ ((B % 3 : Nat) : Int) = 0 := by omega
      generalize hM : B % 3 = M at *
      simp only [XU, seval, kb, CS, g, w1, e1, storeA, sets1, g3]
      rw [hLd]
      exact ⟨_, _, n2⟩
  · rw [if_neg hr]
    have g : ¬ (c.role : Int) = 2 := by omega
    have n2 := (n0.upd (c' := { c with draw := d }) rfl rfl rfl rfl rfl h.pl).upd (c' := { c with draw := d, left := c.left - 1 }) rfl rfl rfl rfl rfl h.pl
    obtain ⟨L, hL⟩ : ∃ L, L = c.left - 1 := ⟨_, rfl⟩
    have hF : c.tickF d = { c with draw := d, left := L } := by rw [hL]; rfl
    have w1 : IntKind.i64.wrap (c.left - 1) = L := by rw [hL]; exact wrapI (by omega) (by omega)
    rw [← hL] at n2 ⊢
    by_cases h3 : L ≤ 0
    · rw [if_pos h3]
      simp only [XU, seval, kb, CS, g, w1, storeA, sets1, h3]
      generalize AState.put (AState.put σ b _) b _ = s4 at n2 ⊢
      rw [← hF] at n2
      have hW := wait_ac n2.co.cb (d := d)
      have n3 := n2.upd (c' := (c.tickF d).wait d) rfl rfl rfl rfl rfl h.pl
      have hkW : ((c.tickF d).wait d).Ok (n + 22) := ⟨hk.lt, hk.ll, hk.ld, hk.sm, hk.ol, hk.yl, hk.np, hk.cm, hk.wt, hk.tm, hk.pl, hk.s0, hk.mp⟩
      refine callD.use hW ?_
      generalize AState.put s4 b _ = s5 at n3 ⊢
      generalize (c.tickF d).wait d = f at *
      simp only [XU, seval]
      refine (stand_ac n3.co ht hkW).now fun s6 own6 R6 n6 => ?_
      simp only [XU, seval]
      exact ⟨_, _, n3.call n6⟩
    · rw [if_neg h3]
      simp only [XU, seval, kb, CS, g, w1, storeA, sets1, h3]
      rw [hF]
      exact ⟨_, _, n2⟩
end
end Go.Proofs.Ythojhpjjkfjeiaa.Va
set_option maxRecDepth 100000
set_option maxHeartbeats 800000
set_option linter.all false
namespace Go.Proofs.Ythojhpjjkfjeiaa.Va
open Go.Proofs
section
variable {σ : AState} {own : Nat → Nat} {t b : Nat} {c : Core} {R : Rws} {n : Nat}
theorem role_ac (h : CoreAt σ own t b c R) : callD Try.prog 29 [.ptr b 0] σ fun v s => s = σ ∧ v = .int .i64 (c.role : Int) := by
  have kb := h.cb
  refine cd_wp fn29 cf29 cl29 rfl ?_
  simp only [ac29]
  unfold ab29
  simp only [XU, seval, kb, CS]
theorem term_ac (h : CoreAt σ own t b c R) : callD Try.prog 44 [.ptr b 0] σ fun v s => s = σ ∧ v = .int .i64 (c.term : Int) := by
  have kb := h.cb
  refine cd_wp fn44 cf44 cl44 rfl ?_
  simp only [ac44]
  unfold ab44
  simp only [XU, seval, kb, CS]
theorem commit_ac (h : CoreAt σ own t b c R) : callD Try.prog 21 [.ptr b 0] σ fun v s => s = σ ∧ v = .int .i64 (c.commit : Int) := by
  have kb := h.cb
  refine cd_wp fn21 cf21 cl21 rfl ?_
  simp only [ac21]
  unfold ab21
  simp only [XU, seval, kb, CS]
/- The messages: their row is the caller's from now on. -/
theorem out_ac (h : CoreAt σ own t b c R) : callD Try.prog 42 [.ptr b 0] σ fun v s => s = σ.put b (coreC c { R with out := .nils }) ∧ v = R.out := by
  have kb := h.cb
  refine cd_wp fn42 cf42 cl42 rfl ?_
  simp only [ac42]
  unfold ab42
  simp only [XU, seval, kb, CS, storeA, sets1]
theorem reads_ac (h : CoreAt σ own t b c R) : callD Try.prog 26 [.ptr b 0] σ fun v s => s = σ.put b (coreC c { R with reads := .nils }) ∧ v = R.reads := by
  have kb := h.cb
  refine cd_wp fn26 cf26 cl26 rfl ?_
  simp only [ac26]
  unfold ab26
  simp only [XU, seval, kb, CS, storeA, sets1]
theorem snap_ac (h : CoreAt σ own t b c R) (hd : c.snap.data.length ≤ 1000000) : callD Try.prog 16 [.ptr b 0] σ fun v s => v = .tup [.int .i64 (c.snap.index : Int), bytesP c.snap.data] ∧ Keeps σ.n σ s := by
  have hC := fun σ => cloneB_ac (σ := σ) hd
  refine cd_wp fn16 cf16 cl16 rfl ?_
  simp only [ac16]
  unfold ab16
  simp only [XU, seval]
  refine d_dreg follow [] rfl ?_
  have n1 := h.slots 13 []
  have k1 : Keeps σ.n σ (addSlots σ.n 13 σ []) := slots_keep (Keeps.refl σ)
  generalize addSlots σ.n 13 σ [] = s1 at *
  have kb := n1.cb
  simp only [XU, seval, DU, kb, CS]
  refine (hC _).use ?_
  simp only [XU, seval, DU, kb, CS]
  refine ⟨⟨?_, ?_⟩, ?_⟩
  · intro l hl c hc hf
    simp only [List.mem_cons, List.mem_nil_iff, List.not_mem_nil, or_false] at hl hc
    (repeat' (first | (rcases hl with rfl | hl) | (rcases hl with rfl))) <;> (repeat' (first | (rcases hc with rfl | hc) | (rcases hc with rfl))) <;> dsimp only at hf ⊢ <;> first
      | (exact absurd hf (by decide +kernel))
      | (simp only [XU, seval, kb, CS]; done)
  · intro sl hsl; simp at hsl
  exact k1
end
end Go.Proofs.Ythojhpjjkfjeiaa.Va
set_option maxRecDepth 100000
set_option maxHeartbeats 800000
set_option linter.all false
namespace Go.Proofs.Ythojhpjjkfjeiaa.Va
open Go.Proofs
def Core.lay (c : Core) (e : Ent) : Core := (c.add { e with term := c.term }).tell.advance
section
variable {σ : AState} {own : Nat → Nat} {t b : Nat} {c : Core} {R : Rws} {n : Nat}
theorem lay_ac (h : CoreAt σ own t b c R) (ht : 10 ≤ t) (hk : c.Ok (n + 14)) (hl : c.l.length < 999) (hr : c.role = 2) {e : Ent} (hd : e.data.length ≤ 1000000 ∧ mems e.mem) : callD Try.prog 41 [.ptr b 0, .agg e.c] σ fun v s => v = .int .i64 ((c.last + 1 : Nat) : Int) ∧ ∃ own' R', Now σ own t b own' (c.lay e) R' s := by
  have n0 := (Now.start h).push e.c
  have cq0 : (σ.push (.cells e.c)).cells σ.n = some e.c := push_cells _ _
  have hq0 : loc own σ.n σ.n = 0 := loc_ge (Nat.le_refl _)
  have hone : e.c.all AV.one = true := rfl
  have hlt := hk.lt
  obtain ⟨e1, he1⟩ : ∃ e1 : Ent, e1 = { e with term := c.term } := ⟨_, rfl⟩
  have hd1 : e1.data.length ≤ 1000000 ∧ mems e1.mem := by rw [he1]; exact hd
  have hadd : (c.add e1).Ok (n + 14) := hk.add hl hd1
  have hlast : (c.add e1).last = c.last + 1 := by unfold Core.add Core.last; simp only [List.length_append, List.length_singleton]; omega
  have hro : (c.add e1).role = 2 := hr
  unfold Core.lay
  rw [← he1]
  refine cd_wp fn41 cf41 cl41 rfl ?_
  simp only [ac41]
  unfold ab41
  rw [wpX_seq]
  refine x_mid (fun ρ s => ρ.rd 0 = .ptr b 0 ∧ ρ.rd 3 = .ptr σ.n 0 ∧ σ.n < s.n ∧ loc own σ.n σ.n = 0 ∧ Now σ own t b (loc own σ.n) c R s ∧ s.cells σ.n = some e.c) ?_ ?_
  · simp only [XU, seval, hone]
    exact ⟨by omega, hq0, n0⟩
  clear n0 cq0 hq0 h hone
  generalize loc own σ.n = own1
  rintro ρ s ⟨h0, h3, hqn, hq0, n0, cq⟩
  rw [wpX_seq]
  refine x_mid (fun ρ s => ρ.rd 0 = .ptr b 0 ∧ ρ.rd 3 = .ptr σ.n 0 ∧ σ.n < s.n ∧ Now σ own t b own1 c R s ∧ s.cells σ.n = some e1.c) ?_ ?_
  · have kb := n0.co.cb
    rw [Ent.c_eq] at cq
    simp only [XU, seval, h0, h3, kb, CS, cq, SX]
    exact ⟨hqn, n0.local_ ht (Nat.le_refl _) hq0 _, by rw [he1, Ent.c_eq]⟩
  clear h0 h3 hqn n0 cq
  rintro ρ s ⟨h0, h3, hqn, n0, cq⟩
  rw [wpX_seq]
  refine x_mid (fun ρ s => ∃ own' R', ρ.rd 0 = .ptr b 0 ∧ Now σ own t b own' (c.add e1) R' s) ?_ ?_
  · simp only [XU, seval]
    refine d_dreg follow [] rfl ?_
    have n1 := n0.slots 5 []
    have d1 : (addSlots s.n 5 s []).cells σ.n = _ := (slots_old _ hqn).trans cq
    have hq1 : σ.n < (addSlots s.n 5 s []).n := by simp only [addSlots]; omega
    generalize addSlots s.n 5 s [] = s1 at *
    have hA := add_ac n1.co ht (e := e1) (by omega) hd1.1 (Nat.le_trans hd1.2.1 (by omega))
    rw [Ent.c_eq] at d1 hA
    simp only [XU, seval, DU, h0, h3, d1, sg4]
    refine hA.now fun s2 own2 R2 n2 => ?_
    have e2 := (n2.tr.cells hq1 (by omega)).trans d1
    simp only [XU, seval, DU, h0, h3]
    refine ⟨⟨?_, ?_⟩, ?_⟩
    · intro l hl c hc hf
      simp only [List.mem_cons, List.mem_nil_iff, List.not_mem_nil, or_false] at hl hc
      (repeat' (first | (rcases hl with rfl | hl) | (rcases hl with rfl))) <;> (repeat' (first | (rcases hc with rfl | hc) | (rcases hc with rfl))) <;> dsimp only at hf ⊢ <;> first
        | (exact absurd hf (by decide +kernel))
        | (simp only [XU, seval, h0, h3, d1, e2, sg4]; done)
    · intro sl hsl; simp at hsl
    exact ⟨_, _, n1.call n2⟩
  clear h0 h3 hqn n0 cq
  rintro ρ s ⟨own2, R2, h0, n0⟩
  generalize c.add e1 = f at *
  simp only [XU, seval, h0]
  refine (last_o n0.co hadd.fit).use ?_
  rw [hlast]
  simp only [XU, seval, h0]
  refine (tell_ac n0.co ht (hadd.le (m := n + 7 + 7) (by omega)) hro).now fun s5 own5 R5 n5 => ?_
  have hk5 := (hadd.le (m := n + 7 + 7) (by omega)).tell
  generalize f.tell = f5 at *
  simp only [XU, seval, h0]
  refine (advance_ac n5.co ht hk5).now fun s6 own6 R6 n6 => ?_
  simp only [XU, seval]
  exact ⟨_, _, (n0.call n5).call n6⟩
theorem full_ac (h : CoreAt σ own t b c R) : callD Try.prog 40 [.ptr b 0] σ fun v s => s = σ ∧ v = .bool (decide (56 ≤ c.l.length)) := by
  have kb := h.cb
  have hd : decide ((56 : Int) ≤ (c.l.length : Int)) = decide (56 ≤ c.l.length) := decide_eq_decide.2 (by omega)
  rcases h.rl.form with ef | ⟨bf, cf, ef⟩
  · have h0 : c.l.length = 0 := by
      have := h.rl.len.1
      rw [ef] at this
      exact (Option.some.inj this).symm
    refine cd_wp fn40 cf40 cl40 rfl ?_
    simp only [ac40]
    unfold ab40
    simp only [XU, seval, kb, CS, ef, h0]
  · refine cd_wp fn40 cf40 cl40 rfl ?_
    simp only [ac40]
    unfold ab40
    simp only [XU, seval, kb, CS, ef, hd]
theorem propose_ac (h : CoreAt σ own t b c R) (ht : 10 ≤ t) (hk : c.Ok (n + 14)) (hl : c.l.length < 56) (hr : c.role = 2) {data : Byts} (hd : data.length ≤ 700) : callD Try.prog 23 [.ptr b 0, bytesP data] σ fun v s => v = .tup [.int .i64 ((c.last + 1 : Nat) : Int), .int .i64 0] ∧ ∃ own' R', Now σ own t b own' (c.lay ⟨0, 1, data, []⟩) R' s := by
  have kb := h.cb
  have g : (c.role : Int) = 2 := by omega
  have g7 : ¬ (700 : Int) < (data.length : Int) := by omega
  have hF := full_ac h
  rw [decide_eq_false (by omega)] at hF
  have hL : callD Try.prog 41 ([.ptr b 0] ++ [.agg [.int .i64 0, .int .i64 1, bytesP data, .nils]]) σ fun v s => v = .int .i64 ((c.last + 1 : Nat) : Int) ∧ ∃ own' R', Now σ own t b own' (c.lay ⟨0, 1, data, []⟩) R' s := by
    refine callD.weak (pre := [.ptr b 0]) (lay_ac h ht hk (by omega) hr (e := ⟨0, 1, data, []⟩) ⟨by show data.length ≤ _; omega, Nat.zero_le _, fun x hx => by cases hx⟩) fun K x => wk_agg rfl fun i hi hi' => ?_
    match i, hi with
    | 0, _ => exact .inl rfl
    | 1, _ => exact .inl rfl
    | 2, _ => exact .inl rfl
    | 3, _ => exact .inr ⟨rfl, _, _, rfl⟩
  unfold bytesP at *
  refine cd_wp fn23 cf23 cl23 rfl ?_
  simp only [ac23]
  unfold ab23
  simp only [XU, seval, kb, CS, g, g7]
  refine callD.use hF ?_
  simp only [XU, seval]
  refine hL.now fun s2 own2 R2 n2 => ?_
  simp only [XU, seval]
  exact ⟨_, _, n2⟩
end
end Go.Proofs.Ythojhpjjkfjeiaa.Va
set_option maxRecDepth 100000
set_option maxHeartbeats 800000
set_option linter.all false
namespace Go.Proofs.Ythojhpjjkfjeiaa.Va
open Go.Proofs
section
variable {σ : AState} {own : Nat → Nat} {t b : Nat} {c : Core} {R : Rws} {n : Nat}
theorem entry_ac (h : CoreAt σ own t b c R) (hk : c.Ok n) {i : Nat} (h1 : c.snap.index < i) (h2 : i ≤ c.last) {e : Ent} (he : e = c.ent (i - c.snap.index - 1)) : callD Try.prog 15 [.ptr b 0, .int .i64 (i : Int)] σ fun v s => v = .tup [.agg [.int .i64 (i : Int), .int .i64 (e.term : Int), .int .i64 (e.kind : Int), bytesP e.data, intsP e.mem], .bool true] ∧ Keeps σ.n σ s := by
  have hfit := hk.fit
  have hh : c.has i = true := by unfold Core.has; simp [h1, h2]
  have hel : e = c.l[i - c.snap.index - 1]'(by unfold Core.last at h2; omega) := by rw [he, ent_get]
  have hed := hk.ld e (by rw [hel]; exact List.getElem_mem _)
  have k0 : Keeps σ.n σ (σ.push (.cells [.int .i64 0, .int .i64 0, .int .i64 0, .nils, .nils])) := (Keeps.refl σ).push _
  have n0 := h.push [.int .i64 0, .int .i64 0, .int .i64 0, .nils, .nils]
  have c0 : (σ.push (.cells [.int .i64 0, .int .i64 0, .int .i64 0, .nils, .nils])).cells σ.n = some [.int .i64 0, .int .i64 0, .int .i64 0, .nils, .nils] := push_cells _ _
  have l0 : σ.n < (σ.push (.cells [.int .i64 0, .int .i64 0, .int .i64 0, .nils, .nils])).n := Nat.lt_succ_self _
  have hH := has_o n0 (i := i) hfit
  rw [hh] at hH
  have hA := at_o n0 (i := i) hfit h1 h2
  rw [← he] at hA
  have hT := fun σ => twin_ac (e := e) (σ := σ) hed.1 (Nat.le_trans hed.2.1 (by omega))
  simp only [Ent.c_eq] at hA hT
  refine cd_wp fn15 cf15 cl15 rfl ?_
  simp only [ac15]
  unfold ab15
  simp only [XU, seval]
  generalize σ.push (.cells [.int .i64 0, .int .i64 0, .int .i64 0, .nils, .nils]) = s1 at *
  refine callD.use hH ?_
  simp only [XU, seval]
  refine hA.kept fun s2 k2 => ?_
  have c2 := (k2.cells l0).trans c0
  have l2 := Nat.lt_of_lt_of_le l0 k2.1
  have ne : ¬ σ.n = s2.n := by omega
  have K2 := k0.trans (k2.mono (Nat.le_of_lt l0))
  simp only [XU, seval]
  refine (hT _).use ?_
  simp only [XU, seval, SX, PS, ne, c2, bytesP, intsP]
  exact ⟨rfl, ((K2.push _).put (by omega) _).put (Nat.le_refl _) _⟩
end
end Go.Proofs.Ythojhpjjkfjeiaa.Va
set_option maxRecDepth 100000
set_option maxHeartbeats 800000
set_option linter.all false
namespace Go.Proofs.Ythojhpjjkfjeiaa.Va
open Go.Proofs
theorem valid_d {l : List Int} {σ : AState} (hl : l.length ≤ 1000) : callD Try.prog 37 [intsP l] σ fun v s => s = σ ∧ v = .bool (validS l) := callD.of (valid_ac hl (intsP_pur l))
/- The entry at a place of a message. -/
def Msg.ent (m : Msg) (i : Nat) : Ent :=
  if m.kinds.getD i 0 = 2 then ⟨m.terms.getD i 0, 2, [], memS (m.entries.getD i [])⟩ else ⟨m.terms.getD i 0, m.kinds.getD i 0, m.entries.getD i [], []⟩
def Msg.n (m : Msg) : Nat := m.entries.length
def Core.putS (c : Core) (m : Msg) (i : Nat) : Bool := decide (m.index + 1 + i ≤ c.commit) || (c.has (m.index + 1 + i) && decide (c.termAt (m.index + 1 + i) = m.terms.getD i 0))
def Core.putN (c : Core) (m : Msg) : Nat → Core
  | 0 => c
  | i + 1 => if (c.putN m i).putS m i = true then c.putN m i else (c.putN m i).add (m.ent i)
/- An entry that is not skipped goes behind the last one, and there is room. -/
def Core.putOk (c : Core) (m : Msg) : Nat → Bool
  | 0 => true
  | i + 1 => c.putOk m i && ((c.putN m i).putS m i || (decide (m.index + 1 + i = (c.putN m i).last + 1) && (decide ((c.putN m i).l.length < 64) && (decide (m.kinds.getD i 0 ≠ 2) || validS (memS (m.entries.getD i []))))))
def Core.put (c : Core) (m : Msg) : Core × Nat × Bool :=
  if c.last < m.index then (c, c.last, false)
  else if c.commit < m.index ∧ c.termAt m.index ≠ m.last then (c, m.index - 1, false)
  else (c.putN m m.n, max (m.index + m.n) c.commit, true)
def Core.putC (d : Core) (m : Msg) (i : Nat) : Bool := d.putS m i || (decide (m.index + 1 + i = d.last + 1) && (decide (d.l.length < 64) && (decide (m.kinds.getD i 0 ≠ 2) || validS (memS (m.entries.getD i [])))))
theorem putOk_at {c : Core} {m : Msg} : ∀ N, c.putOk m N = true → ∀ i, i < N → (c.putN m i).putC m i = true := by
  intro N
  induction N with
  | zero => intro _ i hi; omega
  | succ N ih =>
    intro h i hi
    unfold Core.putOk at h
    rw [Bool.and_eq_true] at h
    by_cases e : i = N
    · subst e; exact h.2
    · exact ih h.1 i (by omega)
theorem memS_range {l : Byts} (h : validS (memS l) = true) : mems (memS l) := by
  have hf := valid_few h
  refine ⟨hf.2, fun x hx => ?_⟩
  unfold validS at h
  rw [Bool.and_eq_true] at h
  obtain ⟨k, hk, e⟩ := List.getElem_of_mem hx
  have hu : okUp (memS l) (k + 1) = true := by
    cases hc : okUp (memS l) (k + 1) with
    | true => rfl
    | false => have := okUp_le hc (k := (memS l).length) (by omega); rw [this] at h; cases h.1
  rw [okUp, Bool.and_eq_true] at hu
  have h2 := hu.2
  unfold okAt at h2
  simp only [Bool.and_eq_true, decide_eq_true_eq] at h2
  have e' : mAt (memS l) k = x := by unfold mAt; simp [hk, ← e]
  rw [e'] at h2
  exact ⟨h2.1, h2.2.1⟩
theorem Core.Ok.putN {c : Core} {m : Msg} {n N : Nat} (h : c.Ok n) (hp : c.putOk m N = true) (hd : ∀ i, i < N → (m.entries.getD i []).length ≤ 1000000) : ∀ i, i ≤ N → (c.putN m i).Ok n := by
  intro i
  induction i with
  | zero => intro _; exact h
  | succ i ih =>
    intro hi
    have h1 := ih (by omega)
    have hc := putOk_at N hp i (by omega)
    unfold Core.putN
    split
    · exact h1
    · rename_i hs
      have hs : (c.putN m i).putS m i = false := by simpa using hs
      unfold Core.putC at hc
      rw [hs, Bool.false_or, Bool.and_eq_true, Bool.and_eq_true, Bool.or_eq_true] at hc
      obtain ⟨hc1, hc2, hc3⟩ := hc
      simp only [decide_eq_true_eq] at hc1 hc2 hc3
      refine h1.add (by omega) ?_
      unfold Msg.ent
      by_cases hk : m.kinds.getD i 0 = 2
      · rw [if_pos hk]
        exact ⟨Nat.zero_le _, memS_range (hc3.resolve_left fun e => e hk)⟩
      · rw [if_neg hk]
        exact ⟨hd i (by omega), Nat.zero_le _, fun x hx => by cases hx⟩
end Go.Proofs.Ythojhpjjkfjeiaa.Va
set_option maxRecDepth 100000
set_option maxHeartbeats 8000000
set_option linter.all false
namespace Go.Proofs.Ythojhpjjkfjeiaa.Va
open Go.Proofs
theorem mn3 (a b c : Nat) : minMaxA false (.int .i64 (a : Int)) [.int .i64 (b : Int), .int .i64 (c : Int)] = some (.int .i64 ((min (min a b) c : Nat) : Int)) := by
  simp only [minMaxA]
  by_cases h : b < a
  · by_cases h2 : c < b
    · simp [h, h2, Nat.min_eq_right (Nat.le_of_lt h), Nat.min_eq_right (Nat.le_of_lt h2)]
    · simp [h, h2, Nat.min_eq_right (Nat.le_of_lt h), Nat.min_eq_left (Nat.le_of_not_lt h2)]
  · by_cases h2 : c < a
    · simp [h, h2, Nat.min_eq_left (Nat.le_of_not_lt h), Nat.min_eq_right (Nat.le_of_lt h2)]
    · simp [h, h2, Nat.min_eq_left (Nat.le_of_not_lt h), Nat.min_eq_left (Nat.le_of_not_lt h2)]
/- A halt behind a region or a loop. -/
theorem d_mid {P : Program} {N : Nat} {a b : ACode} {Q : AExit → Env → AState → Prop} {ρ : Env} {σ : AState} (M : Env → AState → Prop) (h1 : DSim P N a (midQ M Q) ρ σ) (h2 : ∀ ρ σ, M ρ σ → wpX P N b Q ρ σ) : DSim P N a (wpXK P N b Q) ρ σ := by
  refine h1.mono fun e ρ σ h => ?_
  cases e with
  | normal => exact h2 _ _ h
  | exit i => exact h
  | ret => exact h
section
variable {σ : AState} {own : Nat → Nat} {t b : Nat} {c : Core} {R : Rws} {n : Nat}
theorem put_ac (h : CoreAt σ own t b c R) (ht : 10 ≤ t) (hk : c.Ok n) {m : Msg} (hi : m.index < 4611686018427380000) (hl1 : m.terms.length = m.n) (hl2 : m.kinds.length = m.n) (hln : m.n ≤ 100) (hd : ∀ i, i < m.n → (m.entries.getD i []).length ≤ 1000000) (hp : c.putOk m m.n = true) :
    callD Try.prog 88 [.ptr b 0, .agg m.c] σ fun v s => v = .tup [.int .i64 ((c.put m).2.1 : Int), .bool (c.put m).2.2] ∧ ∃ own' R', Now σ own t b own' (c.put m).1 R' s := by
  have n0 := (Now.start h).push m.c
  have cq0 : (σ.push (.cells m.c)).cells σ.n = some m.c := push_cells _ _
  have hq0 : loc own σ.n σ.n = 0 := loc_ge (Nat.le_refl _)
  have hone : m.c.all AV.one = true := rfl
  have hfit := hk.fit
  have hlt := hk.lt
  refine cd_wp fn88 cf88 cl88 rfl ?_
  simp only [ac88]
  unfold ab88
  rw [wpX_seq]
  refine x_mid (fun ρ s => ρ.rd 0 = .ptr b 0 ∧ ρ.rd 3 = .ptr σ.n 0 ∧ σ.n < s.n ∧ loc own σ.n σ.n = 0 ∧ Now σ own t b (loc own σ.n) c R s ∧ s.cells σ.n = some m.c) ?_ ?_
  · simp only [XU, seval, hone]
    exact ⟨by omega, hq0, n0⟩
  clear n0 cq0 hq0 h hone
  generalize loc own σ.n = own1
  rintro ρ s ⟨h0, h3, hqn, hq0, n0, cq⟩
  have hmn := mn3 m.n m.n m.n
  rw [Nat.min_self, Nat.min_self] at hmn
  have hlr : m.entries.length = m.n := rfl
  rw [wpX_seq]
  refine x_mid (fun ρ s => ρ.rd 0 = .ptr b 0 ∧ ρ.rd 3 = .ptr σ.n 0 ∧ ρ.rd 6 = .int .i64 (m.n : Int) ∧ σ.n < s.n ∧ Now σ own t b own1 c R s ∧ s.cells σ.n = some m.c) ?_ ?_
  · rw [Msg.c_eq] at cq
    unfold natsP rowsP at cq
    simp only [XU, seval, h0, h3, cq, hl1, hl2, hlr, hmn]
    exact ⟨hqn, n0, by rw [Msg.c_eq]; unfold natsP rowsP; rw [hl1, hl2, hlr]⟩
  clear h0 h3 hqn n0 cq
  rintro ρ s ⟨h0, h3, h6, hqn, n0, cq⟩
  have fin : ∀ {k s' own' R' c'}, Now σ own t b own' c' R' s' → c.put m = k → c' = k.1 → True := fun _ _ _ => trivial
  rw [wpX_seq]
  refine x_mid (fun ρ s => ρ.rd 0 = .ptr b 0 ∧ ρ.rd 3 = .ptr σ.n 0 ∧ ρ.rd 6 = .int .i64 (m.n : Int) ∧ σ.n < s.n ∧ Now σ own t b own1 c R s ∧ s.cells σ.n = some m.c ∧ c.put m = (c.putN m m.n, max (m.index + m.n) c.commit, true)) ?_ ?_
  · simp only [XU, seval]
    refine d_dreg follow [] rfl ?_
    have n1 := n0.slots 8 []
    have d1 : (addSlots s.n 8 s []).cells σ.n = _ := (slots_old _ hqn).trans cq
    have d0 := d1
    have hq1 : σ.n < (addSlots s.n 8 s []).n := by simp only [addSlots]; omega
    rw [Msg.c_eq] at d1
    generalize addSlots s.n 8 s [] = s1 at *
    have kb1 := n1.co.cb
    by_cases g1 : c.last < m.index
    · have g1' : (c.last : Int) < (m.index : Int) := by omega
      have hput : c.put m = (c, c.last, false) := by unfold Core.put; rw [if_pos g1]
      rw [hput]
      simp only [XU, seval, DU, h0, h3, d1]
      refine (last_o n1.co hfit).use ?_
      simp only [XU, seval, DU, h0, h3, d1, g1']
      refine ⟨⟨?_, ?_⟩, ?_⟩
      · intro l hl c hc hf
        simp only [List.mem_cons, List.mem_nil_iff, List.not_mem_nil, or_false] at hl hc
        (repeat' (first | (rcases hl with rfl | hl) | (rcases hl with rfl))) <;> (repeat' (first | (rcases hc with rfl | hc) | (rcases hc with rfl))) <;> dsimp only at hf ⊢ <;> first
          | (exact absurd hf (by decide +kernel))
          | (simp only [XU, seval, h0, h3, d1]; done)
      · intro sl hsl; simp at hsl
      refine (last_o n1.co hfit).use ?_
      simp only [XU, seval]
      exact ⟨_, _, n1⟩
    have g1' : ¬ (c.last : Int) < (m.index : Int) := by omega
    simp only [XU, seval, DU, h0, h3, d1]
    refine (last_o n1.co hfit).use ?_
    simp only [XU, seval, DU, h0, h3, d1, g1']
    refine ⟨⟨?_, ?_⟩, ?_⟩
    · intro l hl c hc hf
      simp only [List.mem_cons, List.mem_nil_iff, List.not_mem_nil, or_false] at hl hc
      (repeat' (first | (rcases hl with rfl | hl) | (rcases hl with rfl))) <;> (repeat' (first | (rcases hc with rfl | hc) | (rcases hc with rfl))) <;> dsimp only at hf ⊢ <;> first
        | (exact absurd hf (by decide +kernel))
        | (simp only [XU, seval, h0, h3, d1]; done)
    · intro sl hsl; simp at hsl
    refine d_dreg follow [] rfl ?_
    have n2 := n1.slots 19 []
    have e1 : (addSlots s1.n 19 s1 []).cells σ.n = _ := (slots_old _ hq1).trans d1
    have e0 : (addSlots s1.n 19 s1 []).cells σ.n = _ := (slots_old _ hq1).trans d0
    have hq2 : σ.n < (addSlots s1.n 19 s1 []).n := by simp only [addSlots]; omega
    generalize addSlots s1.n 19 s1 [] = s2 at *
    have kb := n2.co.cb
    have hT := termAt_o n2.co (i := m.index) hfit
    by_cases g2 : c.commit < m.index
    rotate_left
    · have g2' : ¬ (c.commit : Int) < (m.index : Int) := by omega
      have hput : c.put m = (c.putN m m.n, max (m.index + m.n) c.commit, true) := by unfold Core.put; rw [if_neg g1, if_neg fun e => g2 e.1]
      simp only [XU, seval, DU, h0, h3, e1, kb, CS, g2']
      refine ⟨⟨?_, ?_⟩, ?_⟩
      · intro l hl c hc hf
        simp only [List.mem_cons, List.mem_nil_iff, List.not_mem_nil, or_false] at hl hc
        (repeat' (first | (rcases hl with rfl | hl) | (rcases hl with rfl))) <;> (repeat' (first | (rcases hc with rfl | hc) | (rcases hc with rfl))) <;> dsimp only at hf ⊢ <;> first
          | (exact absurd hf (by decide +kernel))
          | (simp only [XU, seval, h0, h3, e1, kb, CS, g2']; done)
      · intro sl hsl; simp at hsl
      simp only [XU, seval, h0, h3, h6]
      exact ⟨hq2, n2, by rw [Msg.c_eq], hput⟩
    have g2' : (c.commit : Int) < (m.index : Int) := by omega
    by_cases g3 : c.termAt m.index = m.last
    · have g3' : (c.termAt m.index : Int) = (m.last : Int) := by omega
      have hput : c.put m = (c.putN m m.n, max (m.index + m.n) c.commit, true) := by unfold Core.put; rw [if_neg g1, if_neg fun e => e.2 g3]
      simp only [XU, seval, DU, h0, h3, e1, kb, CS, g2']
      refine hT.use ?_
      simp only [XU, seval, DU, h0, h3, e1, kb, CS, g2', g3']
      refine ⟨⟨?_, ?_⟩, ?_⟩
      · intro l hl c hc hf
        simp only [List.mem_cons, List.mem_nil_iff, List.not_mem_nil, or_false] at hl hc
        (repeat' (first | (rcases hl with rfl | hl) | (rcases hl with rfl))) <;> (repeat' (first | (rcases hc with rfl | hc) | (rcases hc with rfl))) <;> dsimp only at hf ⊢ <;> first
          | (exact absurd hf (by decide +kernel))
          | (simp only [XU, seval, h0, h3, e1, kb, CS, g2', g3']; done)
      · intro sl hsl; simp at hsl
      simp only [XU, seval, h0, h3, h6]
      exact ⟨hq2, n2, by rw [Msg.c_eq], hput⟩
    · have g3' : ¬ (c.termAt m.index : Int) = (m.last : Int) := by omega
      have hput : c.put m = (c, m.index - 1, false) := by unfold Core.put; rw [if_neg g1, if_pos ⟨g2, g3⟩]
      have w1 := wrapSub1 (a := m.index) (by omega) (by omega)
      rw [hput]
      simp only [XU, seval, DU, h0, h3, e1, kb, CS, g2']
      refine hT.use ?_
      simp only [XU, seval, DU, h0, h3, e1, kb, CS, g2', g3']
      refine ⟨⟨?_, ?_⟩, ?_⟩
      · intro l hl c hc hf
        simp only [List.mem_cons, List.mem_nil_iff, List.not_mem_nil, or_false] at hl hc
        (repeat' (first | (rcases hl with rfl | hl) | (rcases hl with rfl))) <;> (repeat' (first | (rcases hc with rfl | hc) | (rcases hc with rfl))) <;> dsimp only at hf ⊢ <;> first
          | (exact absurd hf (by decide +kernel))
          | (simp only [XU, seval, h0, h3, e1, kb, CS, g2', g3']; done)
      · intro sl hsl; simp at hsl
      simp only [XU, seval, h0, h3, e1, w1]
      exact ⟨_, _, n2⟩
  clear h0 h3 h6 hqn n0 cq fin hmn
  rintro ρ s ⟨h0, h3, h6, hqn, n0, cq, hput⟩
  rw [hput]
  obtain ⟨N, hN⟩ : ∃ N, N = m.n := ⟨_, rfl⟩
  rw [← hN] at h6 hl1 hl2 hlr hln hp hput ⊢
  rw [wpX_seq]
  refine x_mid (fun ρ s => ρ.rd 0 = .ptr b 0 ∧ ρ.rd 3 = .ptr σ.n 0 ∧ ρ.rd 6 = .int .i64 (N : Int) ∧ σ.n < s.n ∧ ∃ own' R', Now σ own t b own' (c.putN m N) R' s ∧ s.cells σ.n = some m.c) ?_ ?_
  · simp only [XU, seval, h6]
    refine x_for (fun i ρ s => ρ.rd 0 = .ptr b 0 ∧ ρ.rd 3 = .ptr σ.n 0 ∧ ρ.rd 6 = .int .i64 (N : Int) ∧ ρ.rd 54 = .int .i64 (N : Int) ∧ ρ.rd 55 = .int .i64 (i : Int) ∧ σ.n < s.n ∧ ∃ own' R', Now σ own t b own' (c.putN m i) R' s ∧ own' σ.n = 0 ∧ s.cells σ.n = some m.c ∧ c.putOk m N = true) N ?_ ?_
    · simp only [XU, seval, h0, h3, h6]
      exact ⟨hqn, _, _, n0, hq0, cq, hp⟩
    clear h0 h3 h6 hqn n0 cq hq0
    rintro i ρ s hiN ⟨h0, h3, h6, h54, h55, hqn, own2, R2, n1, hq0, cq, _⟩
    by_cases hlt : i < N
    rotate_left
    · have : i = N := by omega
      subst this
      have hge : ¬ ((i : Nat) : Int) < ((i : Nat) : Int) := by omega
      simp only [XU, seval, h0, h3, h6, h54, h55, hge]
      exact ⟨hqn, _, _, n1, cq⟩
    have hOk := hk.putN hp (fun i hi => hd i (by omega)) i hiN
    have hC := putOk_at N hp i hlt
    have hnext : c.putN m (i + 1) = if (c.putN m i).putS m i = true then c.putN m i else (c.putN m i).add (m.ent i) := rfl
    rw [hnext]
    generalize c.putN m i = d at *
    obtain ⟨A, hA⟩ : ∃ A, A = m.index + 1 + i := ⟨_, rfl⟩
    have w1 := wrapSucc (a := m.index) (by omega)
    have w2 : IntKind.i64.wrap (((m.index + 1 : Nat) : Int) + (i : Int)) = (A : Int) := by rw [hA]; exact wrapAdd (by omega)
    have wi := wrapSucc (a := i) (by omega)
    have gi : (i : Int) < (N : Int) := by omega
    obtain ⟨M1, hM1⟩ : ∃ M1, M1 = m.index + 1 := ⟨_, rfl⟩
    rw [← hM1] at w1 w2
    have cq' := cq
    rw [Msg.c_eq] at cq'
    simp only [XU, seval, h0, h3, h6, h54, h55, gi, cq', w1, w2]
    refine d_dreg follow [] rfl ?_
    have n2 := n1.slots 26 []
    have d2 : (addSlots s.n 26 s []).cells σ.n = _ := (slots_old _ hqn).trans cq
    have e2 : (addSlots s.n 26 s []).cells σ.n = _ := (slots_old _ hqn).trans cq'
    have hq2 : σ.n < (addSlots s.n 26 s []).n := by simp only [addSlots]; omega
    generalize addSlots s.n 26 s [] = s2 at *
    have kb := n2.co.cb
    by_cases g1 : A ≤ d.commit
    · have g1' : (A : Int) ≤ (d.commit : Int) := by omega
      have hS : d.putS m i = true := by unfold Core.putS; rw [← hM1] at hA; rw [hM1] at hA; simp [← hA, g1]
      rw [if_pos hS]
      simp only [XU, seval, DU, h0, h3, h6, h54, h55, kb, CS, g1']
      refine ⟨⟨?_, ?_⟩, ?_⟩
      · intro l hl c hc hf
        simp only [List.mem_cons, List.mem_nil_iff, List.not_mem_nil, or_false] at hl hc
        (repeat' (first | (rcases hl with rfl | hl) | (rcases hl with rfl))) <;> (repeat' (first | (rcases hc with rfl | hc) | (rcases hc with rfl))) <;> dsimp only at hf ⊢ <;> first
          | (exact absurd hf (by decide +kernel))
          | (simp only [XU, seval, h0, h3, kb, CS, g1']; done)
      · intro sl hsl; simp at hsl
      simp only [XU, seval, h0, h3, h6, h54, h55, wi]
      exact ⟨hlt, hq2, _, _, n2, hq0, d2, hp⟩
    have g1' : ¬ (A : Int) ≤ (d.commit : Int) := by omega
    have hH := has_o n2.co (i := A) hOk.fit
    have hT := termAt_o n2.co (i := A) hOk.fit
    have ht9 : (m.terms.map fun n : Nat => AV.int .i64 (n : Int))[i]? = some (.int .i64 (m.terms.getD i 0 : Int)) := by simp [hl1, hlt]
    have hr := lt_idx (show i < N from hlt)
    unfold natsP rowsP at e2
    rw [hl1, hl2, hlr] at e2
    have hpS : d.putS m i = (d.has A && decide (d.termAt A = m.terms.getD i 0)) := by unfold Core.putS; rw [← hA, decide_eq_false g1, Bool.false_or]
    have hlst : d.has A = true → A ≤ d.last := fun e => by unfold Core.has at e; simp at e; exact e.2
    cases hh : d.has A with
    | true =>
      have hS : d.putS m i = true := by
        unfold Core.putC at hC
        rw [Bool.or_eq_true, Bool.and_eq_true] at hC
        rcases hC with e | e
        · exact e
        · have := e.1
          rw [← hA, decide_eq_true_eq] at this
          have := hlst hh
          omega
      have h3' : d.termAt A = m.terms.getD i 0 := by rw [hpS, hh, Bool.true_and, decide_eq_true_eq] at hS; exact hS
      rw [if_pos hS]
      rw [hh] at hH
      rw [h3'] at hT
      generalize m.terms.getD i 0 = T at *
      simp only [XU, seval, DU, h0, h3, h6, h54, h55, kb, CS, g1']
      refine hH.use ?_
      simp only [XU, seval, DU, h0, h3, h6, h54, h55, kb, CS, g1']
      refine hT.use ?_
      simp only [XU, seval, DU, h0, h3, h6, h54, h55, kb, CS, g1', e2, hr, ht9]
      refine ⟨⟨?_, ?_⟩, ?_⟩
      · intro l hl c hc hf
        simp only [List.mem_cons, List.mem_nil_iff, List.not_mem_nil, or_false] at hl hc
        (repeat' (first | (rcases hl with rfl | hl) | (rcases hl with rfl))) <;> (repeat' (first | (rcases hc with rfl | hc) | (rcases hc with rfl))) <;> dsimp only at hf ⊢ <;> first
          | (exact absurd hf (by decide +kernel))
          | (simp only [XU, seval, h0, h3, kb, CS, g1', e2, hr, ht9]; done)
      · intro sl hsl; simp at hsl
      simp only [XU, seval, h0, h3, h6, h54, h55, wi]
      exact ⟨hlt, hq2, _, _, n2, hq0, e2.symm.trans d2, hp⟩
    | false =>
      have hS : ¬ d.putS m i = true := by rw [hpS, hh, Bool.false_and]; decide
      rw [if_neg hS]
      rw [hh] at hH
      simp only [XU, seval, DU, h0, h3, h6, h54, h55, kb, CS, g1']
      refine hH.use ?_
      simp only [XU, seval, DU, h0, h3, h6, h54, h55, kb, CS, g1']
      refine ⟨⟨?_, ?_⟩, ?_⟩
      · intro l hl c hc hf
        simp only [List.mem_cons, List.mem_nil_iff, List.not_mem_nil, or_false] at hl hc
        (repeat' (first | (rcases hl with rfl | hl) | (rcases hl with rfl))) <;> (repeat' (first | (rcases hc with rfl | hc) | (rcases hc with rfl))) <;> dsimp only at hf ⊢ <;> first
          | (exact absurd hf (by decide +kernel))
          | (simp only [XU, seval, h0, h3, kb, CS, g1', e2, hr, ht9]; done)
      · intro sl hsl; simp at hsl
      have ht10 : (m.kinds.map fun n : Nat => AV.int .i64 (n : Int))[i]? = some (.int .i64 (m.kinds.getD i 0 : Int)) := by simp [hl2, hlt]
      have ht11 : (m.entries.map bytesP)[i]? = some (bytesP (m.entries.getD i [])) := by
        have : i < m.entries.length := by omega
        simp [this]
      have hdi := hd i (by omega)
      have hCf : A = d.last + 1 ∧ d.l.length < 64 ∧ (m.kinds.getD i 0 ≠ 2 ∨ validS (memS (m.entries.getD i [])) = true) := by
        unfold Core.putC at hC
        rw [Bool.not_eq_true] at hS
        rw [hS, Bool.false_or, Bool.and_eq_true, Bool.and_eq_true, Bool.or_eq_true, ← hA] at hC
        simpa using hC
      have hme : m.ent i = if m.kinds.getD i 0 = 2 then ⟨m.terms.getD i 0, 2, [], memS (m.entries.getD i [])⟩ else ⟨m.terms.getD i 0, m.kinds.getD i 0, m.entries.getD i [], []⟩ := rfl
      rw [hme]
      generalize m.terms.getD i 0 = T at *
      generalize m.kinds.getD i 0 = Kd at *
      generalize m.entries.getD i [] = D at *
      refine d_mid (fun ρ s => ρ.rd 0 = .ptr b 0 ∧ ρ.rd 3 = .ptr σ.n 0 ∧ ρ.rd 6 = .int .i64 (N : Int) ∧ ρ.rd 54 = .int .i64 (N : Int) ∧ ρ.rd 55 = .int .i64 (i : Int) ∧ ρ.rd 7 = .int .i64 (i : Int) ∧ ρ.rd 8 = .int .i64 (A : Int) ∧ σ.n < s.n ∧ ∃ own' w, ρ.rd 9 = .ptr w 0 ∧ σ.n ≤ w ∧ w < s.n ∧ ¬ w = σ.n ∧ own' w = 0 ∧ own' σ.n = 0 ∧ Now σ own t b own' d R2 s ∧ s.cells σ.n = some m.c ∧ s.cells w = some [.int .i64 (T : Int), .int .i64 (Kd : Int), bytesP D, .nils]) ?_ ?_
      · refine d_dreg follow [] rfl ?_
        have n3 := n2.slots 18 []
        have d3 : (addSlots s2.n 18 s2 []).cells σ.n = _ := (slots_old _ hq2).trans d2
        have e3 : (addSlots s2.n 18 s2 []).cells σ.n = _ := (slots_old _ hq2).trans e2
        have hq3 : σ.n < (addSlots s2.n 18 s2 []).n := by simp only [addSlots]; omega
        generalize addSlots s2.n 18 s2 [] = s3 at *
        clear kb d2 e2 cq cq' hH hT n1 n2
        simp only [XU, seval, DU, h0, h3, e3, hr, ht9, ht10, ht11, bytesP, PS, SX]
        have hne : ¬ σ.n = s3.n := by omega
        refine ⟨⟨?_, ?_⟩, h6, h54, h55, by omega, loc own2 s3.n, s3.n, rfl, Nat.le_of_lt hq3, by omega, fun e => hne e.symm, loc_ge (Nat.le_refl _), (loc_lt hq3).trans hq0, (n3.loc_.push _).local_ ht (Nat.le_of_lt hq3) (loc_ge (Nat.le_refl _)) _, ?_, ?_⟩
        · intro l hl c hc hf
          simp only [List.mem_cons, List.mem_nil_iff, List.not_mem_nil, or_false] at hl hc
          (repeat' (first | (rcases hl with rfl | hl) | (rcases hl with rfl))) <;> (repeat' (first | (rcases hc with rfl | hc) | (rcases hc with rfl))) <;> dsimp only at hf ⊢ <;> first
            | (exact absurd hf (by decide +kernel))
            | (simp only [XU, seval, h0, h3, e3, hr, ht9, ht10, ht11, bytesP, PS, SX, hne]; done)
        · intro sl hsl; simp at hsl
        · rw [if_neg hne, if_neg hne, Msg.c_eq]
          unfold natsP rowsP bytesP
          rw [hl1, hl2, hlr]
        · rw [if_pos rfl]
      clear h0 h3 h6 h54 h55 hqn n1 n2 cq cq' d2 e2 hH hT kb hq0 hq2
      rintro ρ s ⟨h0, h3, h6, h54, h55, h7, h8, hqn, own', w, h9, lw, hw, hne, ow, oq, n1, cq, cw⟩
      obtain ⟨hc1, hc2, hc3⟩ := hCf
      have w8 := wrapSub1 (a := A) (by omega) (by omega)
      have cq' := cq
      rw [Msg.c_eq] at cq'
      unfold natsP rowsP at cq'
      rw [hl1, hl2, hlr] at cq'
      obtain ⟨e, he⟩ : ∃ e : Ent, e = if Kd = 2 then ⟨T, 2, [], memS D⟩ else ⟨T, Kd, D, []⟩ := ⟨_, rfl⟩
      rw [← he]
      rw [wpX_seq]
      refine x_mid (fun ρ s => ρ.rd 0 = .ptr b 0 ∧ ρ.rd 3 = .ptr σ.n 0 ∧ ρ.rd 6 = .int .i64 (N : Int) ∧ ρ.rd 54 = .int .i64 (N : Int) ∧ ρ.rd 55 = .int .i64 (i : Int) ∧ ρ.rd 8 = .int .i64 (A : Int) ∧ ρ.rd 9 = .ptr w 0 ∧ σ.n < s.n ∧ w < s.n ∧ Now σ own t b own' d R2 s ∧ s.cells σ.n = some m.c ∧ (e.data.length ≤ 1000000 ∧ mems e.mem) ∧ ∃ x y, s.cells w = some [.int .i64 (e.term : Int), .int .i64 (e.kind : Int), x, y] ∧ AV.one x = true ∧ AV.one y = true ∧ (x = bytesP e.data ∨ x = .nils ∧ e.data = []) ∧ (y = intsP e.mem ∨ y = .nils ∧ e.mem = [])) ?_ ?_
      · by_cases hK : Kd = 2
        · have hKi : (Kd : Int) = 2 := by omega
          rw [if_pos hK] at he
          have hv : validS (memS D) = true := hc3.resolve_left fun e => e hK
          have hv7 := valid_few hv
          have hne' : ¬ σ.n = w := fun e => hne e.symm
          simp only [XU, seval, h0, h3, h6, h54, h55, h7, h8, h9, cw, cq', hKi, hr, ht11]
          refine (mem_ac hdi).use ?_
          unfold intsP
          simp only [XU, seval, h9, cw, hne, SX, PS]
          refine (valid_d (by omega)).use ?_
          rw [hv]
          simp only [XU, seval, h0, h3, h6, h54, h55, h7, h8, h9, cq, hne']
          subst he
          exact ⟨hqn, hw, (n1.local_ ht lw ow _).local_ ht lw ow _, ⟨Nat.zero_le _, memS_range hv⟩, _, _, by rw [hK], rfl, rfl, .inr ⟨rfl, rfl⟩, .inl rfl⟩
        · have hKi : ¬ (Kd : Int) = 2 := by omega
          rw [if_neg hK] at he
          simp only [XU, seval, h0, h3, h6, h54, h55, h7, h8, h9, cw, hKi]
          subst he
          exact ⟨hqn, hw, n1, cq, ⟨hdi, Nat.zero_le _, fun x hx => by cases hx⟩, _, _, rfl, rfl, rfl, .inl rfl, .inr ⟨rfl, rfl⟩⟩
      clear h0 h3 h6 h54 h55 h7 h8 h9 hqn hw n1 cq cw cq' he
      rintro ρ s ⟨h0, h3, h6, h54, h55, h8, h9, hqn, hw, n1, cq, ⟨hed, hem⟩, x, y, cw, ox, oy, wx, wy⟩
      have hl7 : ¬ (64 : Int) ≤ (d.l.length : Int) := by omega
      rw [wpX_seq]
      refine x_mid (fun ρ' s' => s' = s ∧ ρ'.rd 0 = .ptr b 0 ∧ ρ'.rd 3 = .ptr σ.n 0 ∧ ρ'.rd 6 = .int .i64 (N : Int) ∧ ρ'.rd 54 = .int .i64 (N : Int) ∧ ρ'.rd 55 = .int .i64 (i : Int) ∧ ρ'.rd 9 = .ptr w 0) ?_ ?_
      · simp only [XU, seval, h0, h8]
        refine (has_o n1.co (i := A) hOk.fit).use ?_
        rw [hh]
        simp only [XU, seval, h0, h3, h6, h54, h55, h9]
      clear h0 h3 h6 h54 h55 h8 h9
      rintro ρ s' ⟨hs', h0, h3, h6, h54, h55, h9⟩
      rw [hs']
      clear hs'
      rw [wpX_seq]
      refine x_mid (fun ρ' s' => s' = s ∧ ρ'.rd 0 = .ptr b 0 ∧ ρ'.rd 3 = .ptr σ.n 0 ∧ ρ'.rd 6 = .int .i64 (N : Int) ∧ ρ'.rd 54 = .int .i64 (N : Int) ∧ ρ'.rd 55 = .int .i64 (i : Int) ∧ ρ'.rd 9 = .ptr w 0) ?_ ?_
      · have kb := n1.co.cb
        rcases n1.co.rl.form with ef | ⟨bf, cf, ef⟩
        · simp only [XU, seval, h0, kb, CS, ef, h3, h6, h54, h55, h9]
        · simp only [XU, seval, h0, kb, CS, ef, hl7, h3, h6, h54, h55, h9]
      clear h0 h3 h6 h54 h55 h9
      rintro ρ s' ⟨hs', h0, h3, h6, h54, h55, h9⟩
      rw [hs']
      clear hs'
      simp only [XU, seval]
      refine d_dreg follow [] rfl ?_
      have n2 := n1.slots 5 []
      have d2 : (addSlots s.n 5 s []).cells σ.n = _ := (slots_old _ hqn).trans cq
      have e2 : (addSlots s.n 5 s []).cells w = _ := (slots_old _ hw).trans cw
      have hq2 : σ.n < (addSlots s.n 5 s []).n := by simp only [addSlots]; omega
      have hw2 : w < (addSlots s.n 5 s []).n := by simp only [addSlots]; omega
      generalize addSlots s.n 5 s [] = s2 at *
      have hA' : callD Try.prog 62 ([.ptr b 0] ++ [.agg [.int .i64 (e.term : Int), .int .i64 (e.kind : Int), x, y]]) s2 fun v s => v = .tup [] ∧ ∃ own9 R', Now s2 own' t b own9 (d.add e) R' s := by
        refine callD.weak (pre := [.ptr b 0]) (add_ac n2.co ht (e := e) (by omega) hed (by have := hem.1; omega)) fun K x' => ?_
        rw [Ent.c_eq]
        refine wk_agg rfl fun i hi hi' => ?_
        match i, hi with
        | 0, _ => exact .inl rfl
        | 1, _ => exact .inl rfl
        | 2, _ =>
          rcases wx with rfl | ⟨rfl, hw⟩
          · exact .inl rfl
          · rw [hw]; exact .inr ⟨rfl, _, _, rfl⟩
        | 3, _ =>
          rcases wy with rfl | ⟨rfl, hw⟩
          · exact .inl rfl
          · rw [hw]; exact .inr ⟨rfl, _, _, rfl⟩
      simp only [XU, seval, DU, h0, h9, e2, sg4]
      refine hA'.now fun s3 own3 R3 n3 => ?_
      have e3 := (n3.tr.cells hw2 (by omega)).trans e2
      have d3 := (n3.tr.cells hq2 (by omega)).trans d2
      simp only [XU, seval, DU, h0, h9]
      refine ⟨⟨?_, ?_⟩, ?_⟩
      · intro l hl c hc hf
        simp only [List.mem_cons, List.mem_nil_iff, List.not_mem_nil, or_false] at hl hc
        (repeat' (first | (rcases hl with rfl | hl) | (rcases hl with rfl))) <;> (repeat' (first | (rcases hc with rfl | hc) | (rcases hc with rfl))) <;> dsimp only at hf ⊢ <;> first
          | (exact absurd hf (by decide +kernel))
          | (simp only [XU, seval, h0, h9, e2, e3, sg4]; done)
      · intro sl hsl; simp at hsl
      simp only [XU, seval, h0, h3, h6, h54, h55, wi]
      exact ⟨hlt, Nat.lt_of_lt_of_le hq2 n3.tr.n, _, _, n2.call n3, (n3.tr.ow _ hq2).trans oq, d3, hp⟩
  clear h0 h3 h6 hqn n0 cq hq0
  rintro ρ s ⟨h0, h3, h6, hqn, own2, R2, n0, cq⟩
  have hpc : ∀ i, (c.putN m i).commit = c.commit := by
    intro i
    induction i with
    | zero => rfl
    | succ i ih => unfold Core.putN; split; exact ih; exact ih
  have hpc := hpc N
  simp only [XU, seval]
  refine d_dreg follow [] rfl ?_
  have n1 := n0.slots 11 []
  have d1 : (addSlots s.n 11 s []).cells σ.n = _ := (slots_old _ hqn).trans cq
  generalize addSlots s.n 11 s [] = s1 at *
  generalize c.putN m N = d at *
  have kb := n1.co.cb
  have w1 : IntKind.i64.wrap ((m.index : Int) + (N : Int)) = ((m.index + N : Nat) : Int) := wrapAdd (by omega)
  have hm := mx2 (m.index + N) c.commit
  generalize m.index + N = A at *
  rw [Msg.c_eq] at d1
  rw [← hpc] at hm ⊢
  simp only [XU, seval, DU, h0, h3, h6, d1, kb, CS, w1, hm]
  refine ⟨⟨?_, ?_⟩, ?_⟩
  · intro l hl c hc hf
    simp only [List.mem_cons, List.mem_nil_iff, List.not_mem_nil, or_false] at hl hc
    (repeat' (first | (rcases hl with rfl | hl) | (rcases hl with rfl))) <;> (repeat' (first | (rcases hc with rfl | hc) | (rcases hc with rfl))) <;> dsimp only at hf ⊢ <;> first
      | (exact absurd hf (by decide +kernel))
      | (simp only [XU, seval, h0, h3, h6, d1, kb, CS]; done)
  · intro sl hsl; simp at hsl
  exact ⟨_, _, n1⟩
end
end Go.Proofs.Ythojhpjjkfjeiaa.Va
