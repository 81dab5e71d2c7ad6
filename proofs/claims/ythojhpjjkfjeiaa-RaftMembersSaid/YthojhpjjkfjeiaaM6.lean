/- Texts Rq22 to Rq25 of this claim, in one. Conditions: none. -/
import Derived.Test.YthojhpjjkfjeiaaM5
set_option maxRecDepth 100000
set_option maxHeartbeats 4000000
set_option linter.all false
namespace Go.Proofs.Ythojhpjjkfjeiaa.Va
open Go.Proofs
def Core.take1 (c : Core) : Core := Core.wait { c with role := 0 } c.draw
def Core.upto (r : Core × Nat × Bool) (m : Msg) : Core := if r.2.2 = true then { r.1 with commit := max r.1.commit (min m.commit r.2.1) } else r.1
def Core.take (c : Core) (m : Msg) : Core :=
  if m.term < c.term then c.say m.src (.small 4 c.last 0 0 false)
  else (Core.upto (c.take1.put m) m).say m.src (.small 4 (c.take1.put m).2.1 0 m.seq (c.take1.put m).2.2)
theorem putN_out {c : Core} {m : Msg} : ∀ i, (c.putN m i).out = c.out := by
  intro i
  induction i with
  | zero => rfl
  | succ i ih => unfold Core.putN; split; exact ih; exact ih
theorem put_out {c : Core} {m : Msg} : (c.put m).1.out = c.out := by
  unfold Core.put
  split
  · rfl
  split
  · rfl
  · exact putN_out _
theorem mnx (a b c : Nat) : minMaxA false (.int .i64 (a : Int)) [.int .i64 (b : Int)] = some (.int .i64 ((min a b : Nat) : Int)) := by
  simp only [minMaxA]
  by_cases h : b < a
  · simp [h, Nat.min_eq_right (Nat.le_of_lt h)]
  · simp [h, Nat.min_eq_left (Nat.le_of_not_lt h)]
section
variable {σ : AState} {own : Nat → Nat} {t b : Nat} {c : Core} {R : Rws} {n : Nat}
theorem take_ac (h : CoreAt σ own t b c R) (ht : 10 ≤ t) (hk : c.Ok n) {m : Msg} (hk5 : m.kind ≠ 5) (hi : m.index < 4611686018427380000) (hl1 : m.terms.length = m.n) (hl2 : m.kinds.length = m.n) (hln : m.n ≤ 100) (hd : ∀ i, i < m.n → (m.entries.getD i []).length ≤ 1000000) (hp : m.term < c.term ∨ c.take1.putOk m m.n = true) :
    callD Try.prog 84 [.ptr b 0, .agg m.c] σ fun v s => v = .tup [] ∧ ∃ own' R', Now σ own t b own' (c.take m) R' s := by
  have n0 := (Now.start h).push m.c
  have cq0 : (σ.push (.cells m.c)).cells σ.n = some m.c := push_cells _ _
  have hq0 : loc own σ.n σ.n = 0 := loc_ge (Nat.le_refl _)
  have hone : m.c.all AV.one = true := rfl
  have hol := hk.ol
  have hfit := hk.fit
  have hk1 : c.take1.Ok n := ⟨hk.lt, hk.ll, hk.ld, hk.sm, hk.ol, hk.yl, (fun e => nomatch e), hk.cm, hk.wt, hk.tm, hk.pl, hk.s0, (fun e => nomatch e)⟩
  unfold Core.take
  refine cd_wp fn84 cf84 cl84 rfl ?_
  simp only [ac84]
  unfold ab84
  rw [wpX_seq]
  refine x_mid (fun ρ s => ρ.rd 0 = .ptr b 0 ∧ ρ.rd 3 = .ptr σ.n 0 ∧ σ.n < s.n ∧ loc own σ.n σ.n = 0 ∧ Now σ own t b (loc own σ.n) c R s ∧ s.cells σ.n = some m.c) ?_ ?_
  · simp only [XU, seval, hone]
    exact ⟨by omega, hq0, n0⟩
  clear n0 cq0 hq0 h hone
  generalize loc own σ.n = own1
  rintro ρ s ⟨h0, h3, hqn, hq0, n0, cq⟩
  by_cases g1 : m.term < c.term
  · have g1' : (m.term : Int) < (c.term : Int) := by omega
    rw [if_pos g1]
    simp only [XU, seval]
    refine d_dreg follow [] rfl ?_
    have n1 := n0.slots 7 []
    have d1 : (addSlots s.n 7 s []).cells σ.n = _ := (slots_old _ hqn).trans cq
    have hq1 : σ.n < (addSlots s.n 7 s []).n := by simp only [addSlots]; omega
    generalize addSlots s.n 7 s [] = s1 at *
    rw [Msg.c_eq] at d1
    have kb := n1.co.cb
    simp only [XU, seval, DU, h0, h3, d1, kb, CS, g1']
    refine ⟨⟨?_, ?_⟩, ?_⟩
    · intro l hl c hc hf
      simp only [List.mem_cons, List.mem_nil_iff, List.not_mem_nil, or_false] at hl hc
      (repeat' (first | (rcases hl with rfl | hl) | (rcases hl with rfl))) <;> (repeat' (first | (rcases hc with rfl | hc) | (rcases hc with rfl))) <;> dsimp only at hf ⊢ <;> first
        | (exact absurd hf (by decide +kernel))
        | (simp only [XU, seval, h0, h3, d1, kb, CS, g1']; done)
    · intro sl hsl; simp at hsl
    refine d_dreg follow [] rfl ?_
    have n2 := n1.slots 9 []
    have d2 : (addSlots s1.n 9 s1 []).cells σ.n = _ := (slots_old _ hq1).trans d1
    have hq2 : σ.n < (addSlots s1.n 9 s1 []).n := by simp only [addSlots]; omega
    generalize addSlots s1.n 9 s1 [] = s2 at *
    simp only [XU, seval, DU, h0, h3, d2]
    refine (last_o n2.co hfit).use ?_
    simp only [XU, seval, DU, h0, h3, d2]
    refine (say_raw n2.co ht 4 c.last 0 0 false (by omega)).now fun s3 own3 R3 n3 => ?_
    have d3 := (n3.tr.cells hq2 (by omega)).trans d2
    refine ⟨⟨?_, ?_⟩, ?_⟩
    · intro l hl c hc hf
      simp only [List.mem_cons, List.mem_nil_iff, List.not_mem_nil, or_false] at hl hc
      (repeat' (first | (rcases hl with rfl | hl) | (rcases hl with rfl))) <;> (repeat' (first | (rcases hc with rfl | hc) | (rcases hc with rfl))) <;> dsimp only at hf ⊢ <;> first
        | (exact absurd hf (by decide +kernel))
        | (simp only [XU, seval, h0, h3, d2, d3]; done)
    · intro sl hsl; simp at hsl
    exact ⟨(fun i h => nomatch h), .tup [], rfl, rfl, _, _, n2.call n3⟩
  have g1' : ¬ (m.term : Int) < (c.term : Int) := by omega
  rw [if_neg g1]
  rw [wpX_seq]
  refine x_mid (fun ρ s => ρ.rd 0 = .ptr b 0 ∧ ρ.rd 3 = .ptr σ.n 0 ∧ σ.n < s.n ∧ Now σ own t b own1 c R s ∧ s.cells σ.n = some m.c) ?_ ?_
  · simp only [XU, seval]
    refine d_dreg follow [] rfl ?_
    have n1 := n0.slots 7 []
    have d1 : (addSlots s.n 7 s []).cells σ.n = _ := (slots_old _ hqn).trans cq
    have hq1 : σ.n < (addSlots s.n 7 s []).n := by simp only [addSlots]; omega
    generalize addSlots s.n 7 s [] = s1 at *
    rw [Msg.c_eq] at d1
    have kb := n1.co.cb
    simp only [XU, seval, DU, h0, h3, d1, kb, CS, g1']
    refine ⟨⟨?_, ?_⟩, ?_⟩
    · intro l hl c hc hf
      simp only [List.mem_cons, List.mem_nil_iff, List.not_mem_nil, or_false] at hl hc
      (repeat' (first | (rcases hl with rfl | hl) | (rcases hl with rfl))) <;> (repeat' (first | (rcases hc with rfl | hc) | (rcases hc with rfl))) <;> dsimp only at hf ⊢ <;> first
        | (exact absurd hf (by decide +kernel))
        | (simp only [XU, seval, h0, h3, d1, kb, CS, g1']; done)
    · intro sl hsl; simp at hsl
    exact ⟨hq1, n1, by rw [Msg.c_eq]⟩
  clear h0 h3 hqn n0 cq
  rintro ρ s ⟨h0, h3, hqn, n0, cq⟩
  rw [wpX_seq]
  refine x_mid (fun ρ s => ρ.rd 0 = .ptr b 0 ∧ ρ.rd 3 = .ptr σ.n 0 ∧ σ.n < s.n ∧ Now σ own t b own1 { c with role := 0 } R s ∧ s.cells σ.n = some m.c) ?_ ?_
  · have kb := n0.co.cb
    have hbq : ¬ σ.n = b := fun e => by have := n0.co.ob; rw [← e] at this; omega
    simp only [XU, seval, h0, h3, kb, CS, storeA, sets1, cq, hbq]
    exact ⟨hqn, n0.upd (c' := { c with role := 0 }) rfl rfl rfl rfl rfl n0.co.pl⟩
  clear h0 h3 hqn n0 cq
  rintro ρ s ⟨h0, h3, hqn, n0, cq⟩
  rw [wpX_seq]
  refine x_mid (fun ρ s => ρ.rd 0 = .ptr b 0 ∧ ρ.rd 3 = .ptr σ.n 0 ∧ σ.n < s.n ∧ Now σ own t b own1 c.take1 R s ∧ s.cells σ.n = some m.c) ?_ ?_
  · have kb := n0.co.cb
    have hbq : ¬ σ.n = b := fun e => by have := n0.co.ob; rw [← e] at this; omega
    have hW := wait_ac n0.co.cb (d := c.draw)
    have n2 := n0.upd (c' := c.take1) rfl rfl rfl rfl rfl n0.co.pl
    have cq2 := (show (s.put b (coreC (Core.wait { c with role := 0 } c.draw) R)).cells σ.n = s.cells σ.n by rw [put_get, if_neg hbq]).trans cq
    have hqn2 : σ.n < (s.put b (coreC (Core.wait { c with role := 0 } c.draw) R)).n := hqn
    have n2 : Now σ own t b own1 c.take1 R (s.put b (coreC (Core.wait { c with role := 0 } c.draw) R)) := n2
    simp only [XU, seval, h0, h3, kb, CS]
    refine callD.use hW ?_
    generalize s.put b (coreC (Core.wait { c with role := 0 } c.draw) R) = s2 at *
    simp only [XU, seval, h0, h3]
    exact ⟨hqn2, n2, cq2⟩
  clear h0 h3 hqn n0 cq
  rintro ρ s ⟨h0, h3, hqn, n0, cq⟩
  have hp := hp.resolve_left g1
  generalize c.take1 = d at *
  have hP := fun s (n0 : CoreAt s own1 t b d R) => put_ac n0 ht hk1 hi hl1 hl2 hln hd hp
  have ho : (d.put m).1.out.length ≤ 100000 := by rw [put_out]; have := hk1.ol; omega
  generalize d.put m = P at *
  obtain ⟨f, at_, is⟩ := P
  simp only at ho hP ⊢
  rw [wpX_seq]
  refine x_mid (fun ρ s' => s' = s ∧ ρ.rd 0 = .ptr b 0 ∧ ρ.rd 3 = .ptr σ.n 0) ?_ ?_
  · simp only [XU, seval, h0, h3]
  clear h0 h3
  rintro ρ s' ⟨hs', h0, h3⟩
  rw [hs']
  clear hs'
  have hk5' : ¬ (m.kind : Int) = 5 := by omega
  rw [wpX_seq]
  refine x_mid (fun ρ s => ρ.rd 0 = .ptr b 0 ∧ ρ.rd 3 = .ptr σ.n 0 ∧ ρ.rd 4 = .int .i64 (at_ : Int) ∧ ρ.rd 5 = .bool is ∧ σ.n < s.n ∧ ∃ own' R', Now σ own t b own' f R' s ∧ own' σ.n = 0 ∧ s.cells σ.n = some m.c) ?_ ?_
  · have hP := hP _ n0.co
    have cq' := cq
    rw [Msg.c_eq] at cq' hP
    simp only [XU, seval, h0, h3, cq', hk5', sg14]
    refine hP.now fun s2 own2 R2 n2 => ?_
    have cq2 := (n2.tr.cells hqn (by omega)).trans cq
    simp only [XU, seval, h0, h3]
    exact ⟨Nat.lt_of_lt_of_le hqn n2.tr.n, _, _, n0.call n2, (n2.tr.ow _ hqn).trans hq0, cq2⟩
  clear h0 h3 hqn n0 cq hP hq0
  rintro ρ s ⟨h0, h3, h4, h5, hqn, own2, R2, n0, hq0, cq⟩
  rw [wpX_seq]
  refine x_mid (fun ρ s => ρ.rd 0 = .ptr b 0 ∧ ρ.rd 3 = .ptr σ.n 0 ∧ ρ.rd 4 = .int .i64 (at_ : Int) ∧ ρ.rd 5 = .bool is ∧ σ.n < s.n ∧ ∃ own' R', Now σ own t b own' (Core.upto (f, at_, is) m) R' s ∧ s.cells σ.n = some m.c) ?_ ?_
  · unfold Core.upto
    simp only
    cases is with
    | false =>
      rw [if_neg (by decide)]
      simp only [XU, seval, h0, h3, h4, h5]
      exact ⟨hqn, _, _, n0, cq⟩
    | true =>
      rw [if_pos rfl]
      simp only [XU, seval, h5]
      refine d_dreg follow [] rfl ?_
      have n1 := n0.slots 13 []
      have d1 : (addSlots s.n 13 s []).cells σ.n = _ := (slots_old _ hqn).trans cq
      have hq1 : σ.n < (addSlots s.n 13 s []).n := by simp only [addSlots]; omega
      generalize addSlots s.n 13 s [] = s1 at *
      rw [Msg.c_eq] at d1
      have kb := n1.co.cb
      have hbq : ¬ σ.n = b := fun e => by have := n1.co.ob; rw [← e] at this; omega
      have m1 := mnx m.commit at_ 0
      generalize min m.commit at_ = X at *
      have m2 := mx2 f.commit X
      generalize max f.commit X = Y at *
      simp only [XU, seval, DU, h0, h3, h4, d1, kb, CS, m1, m2, storeA, sets1]
      refine ⟨⟨?_, ?_⟩, ?_⟩
      · intro l hl c hc hf
        simp only [List.mem_cons, List.mem_nil_iff, List.not_mem_nil, or_false] at hl hc
        (repeat' (first | (rcases hl with rfl | hl) | (rcases hl with rfl))) <;> (repeat' (first | (rcases hc with rfl | hc) | (rcases hc with rfl))) <;> dsimp only at hf ⊢ <;> first
          | (exact absurd hf (by decide +kernel))
          | (simp only [XU, seval, h0, h3, h4, d1, kb, CS, hbq]; done)
      · intro sl hsl; simp at hsl
      simp only [XU, seval, h0, h3, h4, h5]
      exact ⟨hq1, _, _, n1.upd (c' := { f with commit := Y }) rfl rfl rfl rfl rfl n1.co.pl, by rw [if_neg hbq, Msg.c_eq]⟩
  clear h0 h3 h4 h5 hqn n0 cq
  rintro ρ s ⟨h0, h3, h4, h5, hqn, own3, R3, n0, cq⟩
  have ho2 : (Core.upto (f, at_, is) m).out.length ≤ 100000 := by unfold Core.upto; split <;> exact ho
  generalize Core.upto (f, at_, is) m = f2 at *
  rw [Msg.c_eq] at cq
  simp only [XU, seval, h0, h3, h4, h5, cq]
  refine (say_raw n0.co ht 4 at_ 0 m.seq is ho2).now fun s3 own4 R4 n3 => ?_
  simp only [XU, seval]
  exact ⟨_, _, n0.call n3⟩
end
end Go.Proofs.Ythojhpjjkfjeiaa.Va
set_option maxRecDepth 100000
set_option maxHeartbeats 1000000
set_option linter.all false
namespace Go.Proofs.Ythojhpjjkfjeiaa.Va
open Go.Proofs
def Core.step1 (c : Core) (m : Msg) : Core := if c.term < m.term then c.follow m.term else c
def Core.got (c : Core) (m : Msg) : Core := if c.role = 1 ∧ m.term = c.term ∧ m.yes = true then Core.win { c with yes := c.yes ++ [(m.src : Int)] } else c
def Core.heard (c : Core) (m : Msg) : Core := if c.role = 2 ∧ m.term = c.term then c.hear m else c
/- A message of a kind that there is, but snapshots. -/
def Core.stepK (d : Core) (m : Msg) : Core := if m.kind = 1 then d.vouch m else if m.kind = 2 then d.got m else if m.kind = 3 then d.take m else d.heard m
def Core.step (c : Core) (m : Msg) : Core := (c.step1 m).stepK m
theorem ex3 {A B C : Type} {P : A → B → C → Prop} {G : Prop} (h : ∃ a b c, P a b c) (k : ∀ a b c, P a b c → G) : G := by
  obtain ⟨a, b, c, h⟩ := h
  exact k a b c h
theorem step1_id {c : Core} {m : Msg} : (c.step1 m).id = c.id := by
  unfold Core.step1
  split
  · exact follow_id
  · rfl
section
variable {σ : AState} {own : Nat → Nat} {t b : Nat} {c : Core} {R : Rws} {n : Nat}
theorem step_ac (h : CoreAt σ own t b c R) (ht : 10 ≤ t) (hk : c.Ok (n + 15)) {m : Msg} (htm : m.term + (n + 15) < 2305843009213693952) (hto : m.to = c.id) (hs : m.src < 7) (hid : m.src ≠ c.id) (hkd : m.kind = 1 ∨ m.kind = 2 ∨ m.kind = 3 ∨ m.kind = 4)
    (hi : m.index < 4611686018427380000) (hl1 : m.terms.length = m.n) (hl2 : m.kinds.length = m.n) (hln : m.n ≤ 100) (hd : ∀ i, i < m.n → (m.entries.getD i []).length ≤ 1000000) (hp : m.kind = 3 → m.term < (c.step1 m).term ∨ (c.step1 m).take1.putOk m m.n = true) :
    callD Try.prog 72 [.ptr b 0, .agg m.c] σ fun v s => v = .tup [] ∧ ∃ own' R', Now σ own t b own' (c.step m) R' s := by
  have n0 := (Now.start h).push m.c
  have cq0 : (σ.push (.cells m.c)).cells σ.n = some m.c := push_cells _ _
  have hq0 : loc own σ.n σ.n = 0 := loc_ge (Nat.le_refl _)
  have hone : m.c.all AV.one = true := rfl
  have hk1 : (c.step1 m).Ok (n + 15) := by
    unfold Core.step1
    split
    · exact hk.follow htm
    · exact hk
  have hid1 := step1_id (c := c) (m := m)
  unfold Core.step
  refine cd_wp fn72 cf72 cl72 rfl ?_
  simp only [ac72]
  unfold ab72
  rw [wpX_seq]
  refine x_mid (fun ρ s => ρ.rd 0 = .ptr b 0 ∧ ρ.rd 3 = .ptr σ.n 0 ∧ σ.n < s.n ∧ loc own σ.n σ.n = 0 ∧ Now σ own t b (loc own σ.n) c R s ∧ s.cells σ.n = some m.c) ?_ ?_
  · simp only [XU, seval, hone]
    exact ⟨by omega, hq0, n0⟩
  clear n0 cq0 hq0 h hone
  generalize loc own σ.n = own1
  rintro ρ s ⟨h0, h3, hqn, hq0, n0, cq⟩
  rw [wpX_seq]
  refine x_mid (fun ρ s => ρ.rd 0 = .ptr b 0 ∧ ρ.rd 3 = .ptr σ.n 0 ∧ σ.n < s.n ∧ Now σ own t b own1 c R s ∧ s.cells σ.n = some m.c) ?_ ?_
  · have g1 : (m.to : Int) = (c.id : Int) := by omega
    have g2 : ¬ (m.src : Int) = (c.id : Int) := by omega
    have g3 : ¬ (m.src : Int) < 0 := by omega
    have g4 : ¬ (7 : Int) ≤ (m.src : Int) := by omega
    simp only [XU, seval]
    refine d_dreg follow [] rfl ?_
    have n1 := n0.slots 26 []
    have d1 : (addSlots s.n 26 s []).cells σ.n = _ := (slots_old _ hqn).trans cq
    have hq1 : σ.n < (addSlots s.n 26 s []).n := by simp only [addSlots]; omega
    generalize addSlots s.n 26 s [] = s1 at *
    rw [Msg.c_eq] at d1
    have kb := n1.co.cb
    simp only [XU, seval, DU, h0, h3, d1, kb, CS, g1, g2, g3, g4]
    refine ⟨⟨?_, ?_⟩, ?_⟩
    · intro l hl c hc hf
      simp only [List.mem_cons, List.mem_nil_iff, List.not_mem_nil, or_false] at hl hc
      (repeat' (first | (rcases hl with rfl | hl) | (rcases hl with rfl))) <;> (repeat' (first | (rcases hc with rfl | hc) | (rcases hc with rfl))) <;> dsimp only at hf ⊢ <;> first
        | (exact absurd hf (by decide +kernel))
        | (simp only [XU, seval, h0, h3, d1, kb, CS, g1, g2, g3, g4]; done)
    · intro sl hsl; simp at hsl
    exact ⟨hq1, n1, by rw [Msg.c_eq, g1]⟩
  clear h0 h3 hqn n0 cq
  rintro ρ s ⟨h0, h3, hqn, n0, cq⟩
  rw [wpX_seq]
  refine x_mid (fun ρ s => ρ.rd 0 = .ptr b 0 ∧ ρ.rd 3 = .ptr σ.n 0 ∧ σ.n < s.n ∧ ∃ own' R', Now σ own t b own' (c.step1 m) R' s ∧ own' σ.n = 0 ∧ s.cells σ.n = some m.c) ?_ ?_
  · have g0 : decide ((c.term : Int) < (m.term : Int)) = decide (c.term < m.term) := decide_eq_decide.2 (by omega)
    simp only [XU, seval]
    refine d_dreg follow [] rfl ?_
    have n1 := n0.slots 7 []
    have d1 : (addSlots s.n 7 s []).cells σ.n = _ := (slots_old _ hqn).trans cq
    have d0 := d1
    have hq1 : σ.n < (addSlots s.n 7 s []).n := by simp only [addSlots]; omega
    generalize addSlots s.n 7 s [] = s1 at *
    rw [Msg.c_eq] at d1
    have kb := n1.co.cb
    unfold Core.step1
    by_cases g1 : c.term < m.term
    · have g1' : (c.term : Int) < (m.term : Int) := by omega
      rw [if_pos g1]
      simp only [XU, seval, DU, h0, h3, d1, kb, CS, g1']
      refine ⟨⟨?_, ?_⟩, ?_⟩
      · intro l hl c hc hf
        simp only [List.mem_cons, List.mem_nil_iff, List.not_mem_nil, or_false] at hl hc
        (repeat' (first | (rcases hl with rfl | hl) | (rcases hl with rfl))) <;> (repeat' (first | (rcases hc with rfl | hc) | (rcases hc with rfl))) <;> dsimp only at hf ⊢ <;> first
          | (exact absurd hf (by decide +kernel))
          | (simp only [XU, seval, h0, h3, d1, kb, CS, g1']; done)
      · intro sl hsl; simp at hsl
      refine (follow_ac n1.co (term := m.term)).now fun s2 own2 R2 n2 => ?_
      have d2 := (n2.tr.cells hq1 (by omega)).trans d0
      simp only [XU, seval, h0, h3]
      exact ⟨Nat.lt_of_lt_of_le hq1 n2.tr.n, _, _, n1.call n2, (n2.tr.ow _ hq1).trans hq0, d2⟩
    · have g1' : ¬ (c.term : Int) < (m.term : Int) := by omega
      rw [if_neg g1]
      simp only [XU, seval, DU, h0, h3, d1, kb, CS, g1']
      refine ⟨⟨?_, ?_⟩, ?_⟩
      · intro l hl c hc hf
        simp only [List.mem_cons, List.mem_nil_iff, List.not_mem_nil, or_false] at hl hc
        (repeat' (first | (rcases hl with rfl | hl) | (rcases hl with rfl))) <;> (repeat' (first | (rcases hc with rfl | hc) | (rcases hc with rfl))) <;> dsimp only at hf ⊢ <;> first
          | (exact absurd hf (by decide +kernel))
          | (simp only [XU, seval, h0, h3, d1, kb, CS, g1']; done)
      · intro sl hsl; simp at hsl
      exact ⟨hq1, _, _, n1, hq0, by rw [Msg.c_eq]⟩
  clear h0 h3 hqn n0 cq hq0 hto
  rw [← hid1] at hid
  generalize c.step1 m = d at *
  rintro ρ s ⟨h0, h3, hqn, own2, R2, n0, hq0, cq⟩
  have cq' := cq
  rw [Msg.c_eq] at cq'
  have kb := n0.co.cb
  unfold Core.stepK
  rcases hkd with e | e | e | e
  · have g1 : (m.kind : Int) = 1 := by omega
    rw [if_pos e]
    simp only [XU, seval, h0, h3, cq', g1, sg14]
    have hV := vouch_ac n0.co ht hk1 (m := m)
    rw [Msg.c_eq, g1] at hV
    refine hV.now fun s2 own3 R3 n2 => ?_
    simp only [XU, seval]
    exact ⟨_, _, n0.call n2⟩
  · have g1 : (m.kind : Int) = 2 := by omega
    rw [if_neg (by omega), if_pos e]
    simp only [XU, seval, h0, h3, cq', g1]
    refine d_dreg follow [] rfl ?_
    have n1 := n0.slots 18 []
    have d1 : (addSlots s.n 18 s []).cells σ.n = _ := (slots_old _ hqn).trans cq'
    have hq1 : σ.n < (addSlots s.n 18 s []).n := by simp only [addSlots]; omega
    clear kb cq' cq
    generalize addSlots s.n 18 s [] = s1 at *
    have kb := n1.co.cb
    unfold Core.got
    by_cases gr : d.role = 1
    rotate_left
    · have gr' : ¬ (d.role : Int) = 1 := by omega
      rw [if_neg fun e => gr e.1]
      simp only [XU, seval, DU, h0, h3, d1, kb, CS, gr']
      refine ⟨⟨?_, ?_⟩, ?_⟩
      · intro l hl c hc hf
        simp only [List.mem_cons, List.mem_nil_iff, List.not_mem_nil, or_false] at hl hc
        (repeat' (first | (rcases hl with rfl | hl) | (rcases hl with rfl))) <;> (repeat' (first | (rcases hc with rfl | hc) | (rcases hc with rfl))) <;> dsimp only at hf ⊢ <;> first
          | (exact absurd hf (by decide +kernel))
          | (simp only [XU, seval, h0, h3, d1, kb, CS, gr']; done)
      · intro sl hsl; simp at hsl
      exact ⟨_, _, n1⟩
    have gr' : (d.role : Int) = 1 := by omega
    by_cases gt : m.term = d.term
    rotate_left
    · have gt' : ¬ (m.term : Int) = (d.term : Int) := by omega
      rw [if_neg fun e => gt e.2.1]
      simp only [XU, seval, DU, h0, h3, d1, kb, CS, gr', gt']
      refine ⟨⟨?_, ?_⟩, ?_⟩
      · intro l hl c hc hf
        simp only [List.mem_cons, List.mem_nil_iff, List.not_mem_nil, or_false] at hl hc
        (repeat' (first | (rcases hl with rfl | hl) | (rcases hl with rfl))) <;> (repeat' (first | (rcases hc with rfl | hc) | (rcases hc with rfl))) <;> dsimp only at hf ⊢ <;> first
          | (exact absurd hf (by decide +kernel))
          | (simp only [XU, seval, h0, h3, d1, kb, CS, gr', gt']; done)
      · intro sl hsl; simp at hsl
      exact ⟨_, _, n1⟩
    have gt' : (m.term : Int) = (d.term : Int) := by omega
    by_cases gy : m.yes = true
    rotate_left
    · rw [if_neg fun e => gy e.2.2]
      rw [Bool.not_eq_true] at gy
      rw [gy] at d1
      simp only [XU, seval, DU, h0, h3, d1, kb, CS, gr', gt']
      refine ⟨⟨?_, ?_⟩, ?_⟩
      · intro l hl c hc hf
        simp only [List.mem_cons, List.mem_nil_iff, List.not_mem_nil, or_false] at hl hc
        (repeat' (first | (rcases hl with rfl | hl) | (rcases hl with rfl))) <;> (repeat' (first | (rcases hc with rfl | hc) | (rcases hc with rfl))) <;> dsimp only at hf ⊢ <;> first
          | (exact absurd hf (by decide +kernel))
          | (simp only [XU, seval, h0, h3, d1, kb, CS, gr', gt']; done)
      · intro sl hsl; simp at hsl
      exact ⟨_, _, n1⟩
    rw [if_pos ⟨gr, gt, gy⟩]
    rw [gy] at d1
    simp only [XU, seval, DU, h0, h3, d1, kb, CS, gr', gt']
    refine ⟨⟨?_, ?_⟩, ?_⟩
    · intro l hl c hc hf
      simp only [List.mem_cons, List.mem_nil_iff, List.not_mem_nil, or_false] at hl hc
      (repeat' (first | (rcases hl with rfl | hl) | (rcases hl with rfl))) <;> (repeat' (first | (rcases hc with rfl | hc) | (rcases hc with rfl))) <;> dsimp only at hf ⊢ <;> first
        | (exact absurd hf (by decide +kernel))
        | (simp only [XU, seval, h0, h3, d1, kb, CS, gr', gt']; done)
    · intro sl hsl; simp at hsl
    refine d_dreg follow [] rfl ?_
    have n2 := n1.slots 12 []
    have d2 : (addSlots s1.n 12 s1 []).cells σ.n = _ := (slots_old _ hq1).trans d1
    have hq2 : σ.n < (addSlots s1.n 12 s1 []).n := by simp only [addSlots]; omega
    clear kb
    generalize addSlots s1.n 12 s1 [] = s2 at *
    have kb := n2.co.cb
    have hyl := hk1.yl
    have hap := n2.app_yes ht (m.src : Int) (by omega)
    apply ex3 hap
    clear hap
    intro b9 cap9 s9 h9
    have happ := h9.1
    have hb9 := h9.2.1
    have n9 := h9.2.2.1
    have hk9 := h9.2.2.2.1
    have hn9 := h9.2.2.2.2
    clear h9
    have cq9 := (hk9 σ.n hq2 hq0).trans d2
    have nb : ¬ b = s2.n := by have := n2.co.bn; omega
    have nq : ¬ σ.n = s2.n := by omega
    have hkw : Core.Ok { d with yes := d.yes ++ [(m.src : Int)] } (n + 14) := ⟨hk1.lt, hk1.ll, hk1.ld, hk1.sm, (by have := hk1.ol; show d.out.length + _ ≤ _; omega), (by show (d.yes ++ [(m.src : Int)]).length + _ ≤ _; rw [List.length_append, List.length_singleton]; omega), hk1.np, hk1.cm, hk1.wt, (by have := hk1.tm; show d.term + _ < _; omega), hk1.pl, hk1.s0, hk1.mp⟩
    simp only [XU, seval, DU, h0, h3, d2, kb, CS, SX]
    simp only [XU, seval, DU, happ, hb9, h0, CS, storeA, sets1]
    refine ⟨⟨?_, ?_⟩, ?_⟩
    · intro l hl c hc hf
      simp only [List.mem_cons, List.mem_nil_iff, List.not_mem_nil, or_false] at hl hc
      (repeat' (first | (rcases hl with rfl | hl) | (rcases hl with rfl))) <;> (repeat' (first | (rcases hc with rfl | hc) | (rcases hc with rfl))) <;> dsimp only at hf ⊢ <;> first
        | (exact absurd hf (by decide +kernel))
        | (simp only [XU, seval, h0, h3, kb, CS, d2, hb9, cq9, nb, nq]; done)
    · intro sl hsl; simp at hsl
    generalize AState.put s9 b _ = s10 at n9 ⊢
    clear hb9 happ cq9 hk9 kb d2
    generalize loc (tag own2 s2.n (t + 2)) s9.n = own9 at *
    generalize ({ d with yes := d.yes ++ [(m.src : Int)] } : Core) = dd at *
    refine (win1_ac n9.co ht hkw).now fun s5 own5 R5 n5 => ?_
    simp only [XU, seval]
    exact ⟨_, _, n9.call n5⟩
  · have g1 : (m.kind : Int) = 3 := by omega
    rw [if_neg (by omega), if_neg (by omega), if_pos e]
    simp only [XU, seval, h0, h3, cq', g1, sg14]
    have hV := take_ac n0.co ht hk1 (m := m) (by omega) hi hl1 hl2 hln hd (hp e)
    rw [Msg.c_eq, g1] at hV
    refine hV.now fun s2 own3 R3 n2 => ?_
    simp only [XU, seval]
    exact ⟨_, _, n0.call n2⟩
  · have g1 : (m.kind : Int) = 4 := by omega
    rw [if_neg (by omega), if_neg (by omega), if_neg (by omega)]
    simp only [XU, seval, h0, h3, cq', g1]
    refine d_dreg follow [] rfl ?_
    have n1 := n0.slots 14 []
    have d1 : (addSlots s.n 14 s []).cells σ.n = _ := (slots_old _ hqn).trans cq'
    have hq1 : σ.n < (addSlots s.n 14 s []).n := by simp only [addSlots]; omega
    clear kb cq' cq
    generalize addSlots s.n 14 s [] = s1 at *
    have kb := n1.co.cb
    unfold Core.heard
    by_cases gr : d.role = 2
    rotate_left
    · have gr' : ¬ (d.role : Int) = 2 := by omega
      rw [if_neg fun e => gr e.1]
      simp only [XU, seval, DU, h0, h3, d1, kb, CS, gr']
      refine ⟨⟨?_, ?_⟩, ?_⟩
      · intro l hl c hc hf
        simp only [List.mem_cons, List.mem_nil_iff, List.not_mem_nil, or_false] at hl hc
        (repeat' (first | (rcases hl with rfl | hl) | (rcases hl with rfl))) <;> (repeat' (first | (rcases hc with rfl | hc) | (rcases hc with rfl))) <;> dsimp only at hf ⊢ <;> first
          | (exact absurd hf (by decide +kernel))
          | (simp only [XU, seval, h0, h3, d1, kb, CS, gr']; done)
      · intro sl hsl; simp at hsl
      exact ⟨_, _, n1⟩
    have gr' : (d.role : Int) = 2 := by omega
    by_cases gt : m.term = d.term
    rotate_left
    · have gt' : ¬ (m.term : Int) = (d.term : Int) := by omega
      rw [if_neg fun e => gt e.2]
      simp only [XU, seval, DU, h0, h3, d1, kb, CS, gr', gt']
      refine ⟨⟨?_, ?_⟩, ?_⟩
      · intro l hl c hc hf
        simp only [List.mem_cons, List.mem_nil_iff, List.not_mem_nil, or_false] at hl hc
        (repeat' (first | (rcases hl with rfl | hl) | (rcases hl with rfl))) <;> (repeat' (first | (rcases hc with rfl | hc) | (rcases hc with rfl))) <;> dsimp only at hf ⊢ <;> first
          | (exact absurd hf (by decide +kernel))
          | (simp only [XU, seval, h0, h3, d1, kb, CS, gr', gt']; done)
      · intro sl hsl; simp at hsl
      exact ⟨_, _, n1⟩
    have gt' : (m.term : Int) = (d.term : Int) := by omega
    rw [if_pos ⟨gr, gt⟩]
    have hV := hear_ac n1.co ht (hk1.le (m := n + 8) (by omega)) gr (m := m) hs hid (by omega)
    rw [Msg.c_eq, gt'] at hV
    simp only [XU, seval, DU, h0, h3, d1, kb, CS, gr', gt']
    refine ⟨⟨?_, ?_⟩, ?_⟩
    · intro l hl c hc hf
      simp only [List.mem_cons, List.mem_nil_iff, List.not_mem_nil, or_false] at hl hc
      (repeat' (first | (rcases hl with rfl | hl) | (rcases hl with rfl))) <;> (repeat' (first | (rcases hc with rfl | hc) | (rcases hc with rfl))) <;> dsimp only at hf ⊢ <;> first
        | (exact absurd hf (by decide +kernel))
        | (simp only [XU, seval, h0, h3, d1, kb, CS, gr', gt']; done)
    · intro sl hsl; simp at hsl
    simp only [XU, seval, h0, h3, d1, sg14]
    refine hV.now fun s5 own5 R5 n5 => ?_
    simp only [XU, seval]
    exact ⟨_, _, n1.call n5⟩
end
end Go.Proofs.Ythojhpjjkfjeiaa.Va
set_option maxRecDepth 100000
set_option maxHeartbeats 1000000
set_option linter.all false
namespace Go.Proofs.Ythojhpjjkfjeiaa.Va
open Go.Proofs
theorem e_down {i : Nat} (h : i < 8) : IntKind.i64.wrap (8 * (7 - (i : Int))) = ((8 * (7 - i) : Nat) : Int) := by
  rcases (by omega : i = 0 ∨ i = 1 ∨ i = 2 ∨ i = 3 ∨ i = 4 ∨ i = 5 ∨ i = 6 ∨ i = 7) with rfl | rfl | rfl | rfl | rfl | rfl | rfl | rfl <;> rfl
theorem e_pred {i : Nat} (h : i < 8) : IntKind.i64.wrap (7 - (i : Int) - 1) = 7 - ((i + 1 : Nat) : Int) := by
  rcases (by omega : i = 0 ∨ i = 1 ∨ i = 2 ∨ i = 3 ∨ i = 4 ∨ i = 5 ∨ i = 6 ∨ i = 7) with rfl | rfl | rfl | rfl | rfl | rfl | rfl | rfl <;> rfl
theorem e_shn (n : Int) {k : Nat} (h : k ≤ 64) : evalShift .shr .i64 n (k : Nat) = some (.int .i64 (n / 2 ^ k)) := by
  simp only [evalShift, IntKind.bits]
  rw [if_neg (by omega), Int.toNat_natCast, Nat.min_eq_left h, Int.fdiv_eq_ediv_of_nonneg _ (Int.le_of_lt (Int.pow_pos (by decide)))]
theorem ofU8s_length (l : Byts) : (ofU8s l).length = l.length := by simp [ofU8s]
/- A row of one's own of so many flat things. -/
def Raw (p : Nat → Prop) (s : AState) (x : AV) (n : Nat) : Prop := ∃ L, RowP p s x L n 1 ∧ ∀ a ∈ L, a.flat = true
theorem Raw.nil {p : Nat → Prop} {s : AState} : Raw p s .nils 0 := ⟨[], RowP.nil _ _ _, fun a h => by cases h⟩
theorem Raw.push1 {p : Nat → Prop} {s : AState} {x : AV} {n : Nat} (h : Raw p s x n) (o : List AV) : Raw p (s.push (.cells o)) x n := by
  obtain ⟨L, h1, h2⟩ := h
  exact ⟨L, h1.push o, h2⟩
theorem Raw.mono {p q : Nat → Prop} {s : AState} {x : AV} {n : Nat} (h : Raw p s x n) (hq : ∀ b, p b → b < s.n → q b) : Raw q s x n := by
  obtain ⟨L, h1, h2⟩ := h
  exact ⟨L, h1.mono hq, h2⟩
theorem Raw.pur {p : Nat → Prop} {s : AState} {x : AV} {n : Nat} {al : Bool} (h : Raw p s x n) : ∃ L, Pur s al x (.psl L 0 n) ∧ L.length = n := by
  obtain ⟨L, h1, h2⟩ := h
  exact ⟨L, h1.pur al rfl fun i hi _ => .flat _ (h2 _ (List.getElem_mem hi)), by rw [h1.len.2, Nat.mul_one]⟩
theorem Raw.form {p : Nat → Prop} {s : AState} {x : AV} {n : Nat} (h : Raw p s x n) : x.len = some n := by
  obtain ⟨L, h1, h2⟩ := h
  exact h1.len.1
theorem Raw.app {p : Nat → Prop} {s : AState} {x w : AV} {n : Nat} (h : Raw p s x n) (hp : ∀ b, s.n ≤ b → p b) (hw : w.flat = true) (ho : w.one = true) (hn : n ≤ 10000000) :
    ∃ b cap u, appendA (s.push (.cells [w])) 1 1 x (.sl s.n 0 1 (some 1) 1) = some (.sl b 0 (n + 1) cap 1, u) ∧ Raw p u (.sl b 0 (n + 1) cap 1) (n + 1) ∧ s.n < u.n ∧ ∀ k, k < s.n → ¬ p k → u.cells k = s.cells k := by
  obtain ⟨L, h1, h2⟩ := h
  obtain ⟨b, cap, u, g1, g2, g3, g4⟩ := app_lit (bytes := 1) h1 hp (new := [w]) (k := 1) (by simp [ho]) rfl (by omega) (by omega)
  refine ⟨b, cap, u, g1, ⟨_, g2, fun a ha => ?_⟩, g3, fun k hk hnp => get_cells (g4 k hk hnp)⟩
  rcases List.mem_append.1 ha with e | e
  · exact h2 a e
  · rw [List.mem_singleton.1 e]; exact hw
theorem Raw.more {p : Nat → Prop} {s : AState} {x y : AV} {n k : Nat} {new : List AV} (h : Raw p s x n) (hp : p s.n) (hy : y.len = some k) (hf : firstA s 1 k y = some new) (ho : new.all AV.one = true) (hfl : ∀ a ∈ new, a.flat = true) (hl : new.length = k) (hn : n + k ≤ 10000000) :
    ∃ x' u, appendA s 1 1 x y = some (x', u) ∧ Raw p u x' (n + k) ∧ s.n ≤ u.n ∧ ∀ k, k < s.n → ¬ p k → u.cells k = s.cells k := by
  obtain ⟨L, h1, h2⟩ := h
  obtain ⟨x', u, g1, g2, g3, g4⟩ := app_rowP (bytes := 1) h1 hp hy hf ho (by omega) (by omega)
  refine ⟨x', u, g1, ⟨_, g2, fun a ha => ?_⟩, g3, fun k hk hnp => get_cells (g4 k hk hnp)⟩
  rcases List.mem_append.1 ha with e | e
  · exact h2 a e
  · exact hfl a e
section
variable {σ : AState} {x : AV} {n : Nat}
theorem putB_ac {p : Nat → Prop} (h : Raw p σ x n) (hp : ∀ b, σ.n ≤ b → p b) (l : List Int) (hl : l.length ≤ 10) (hn : n ≤ 1000000) : callD Try.prog 58 [x, .sl σ.n 0 l.length (some l.length) 1] (σ.push (.cells (ofInts l))) fun v s => Raw p s v (n + 8 * l.length) ∧ σ.n < s.n ∧ ∀ k, k < σ.n → ¬ p k → s.cells k = σ.cells k := by
  have h0 : Raw (fun b => p b ∧ b ≠ σ.n) (σ.push (.cells (ofInts l))) x n := (h.mono (q := fun b => p b ∧ b ≠ σ.n) fun b hpb hb => ⟨hpb, Nat.ne_of_lt hb⟩).push1 _
  have hq : (σ.push (.cells (ofInts l))).cells σ.n = some (ofInts l) := push_cells _ _
  have hqn : σ.n < (σ.push (.cells (ofInts l))).n := Nat.lt_succ_self _
  have hkk : ∀ k, k < σ.n → ¬ p k → (σ.push (.cells (ofInts l))).cells k = σ.cells k := fun k hk _ => by rw [push_get, if_neg (by omega)]
  generalize σ.push (.cells (ofInts l)) = s0 at *
  have hge : ∀ s : AState, σ.n < s.n → ∀ b, s.n ≤ b → p b ∧ b ≠ σ.n := fun s hs b hb => ⟨hp b (by omega), by omega⟩
  clear h
  refine cd_wp fn58 cf58 cl58 rfl ?_
  simp only [ac58]
  unfold ab58
  rw [wpX_seq]
  refine x_mid (fun ρ s => s = s0 ∧ ρ.rd 0 = x ∧ ρ.rd 1 = .sl σ.n 0 l.length (some l.length) 1) ?_ ?_
  · simp only [XU, seval]
  rintro ρ s ⟨hs, h1, h2⟩
  rw [hs]
  clear hs
  rw [wpX_seq]
  refine x_mid (fun ρ s => ∃ y, ρ.rd 0 = y ∧ Raw (fun b => p b ∧ b ≠ σ.n) s y (n + 8 * l.length) ∧ σ.n < s.n ∧ ∀ k, k < σ.n → ¬ p k → s.cells k = σ.cells k) ?_ ?_
  · simp only [XU, seval, h1, h2]
    refine x_for (fun i ρ s => ρ.rd 8 = .sl σ.n 0 l.length (some l.length) 1 ∧ ρ.rd 9 = .int .i64 (l.length : Int) ∧ ρ.rd 10 = .int .i64 (i : Int) ∧ σ.n < s.n ∧ s.cells σ.n = some (ofInts l) ∧ (∀ k, k < σ.n → ¬ p k → s.cells k = σ.cells k) ∧ ∃ y, ρ.rd 0 = y ∧ Raw (fun b => p b ∧ b ≠ σ.n) s y (n + 8 * i)) l.length ?_ ?_
    · simp only [XU, seval, h1, h2]
      exact ⟨hqn, hq, hkk, _, rfl, h0⟩
    clear h1 h2 h0 hq hqn hkk
    rintro i ρ s hi ⟨h8, h9, h10, hqn, hq, hkk, y, h0, hr⟩
    by_cases hlt : i < l.length
    rotate_left
    · have : i = l.length := by omega
      subst this
      have hge : ¬ ((l.length : Nat) : Int) < ((l.length : Nat) : Int) := by omega
      simp only [XU, seval, h8, h9, h10, h0, hge]
      exact ⟨_, rfl, hr, hqn, hkk⟩
    have gi : (i : Int) < (l.length : Int) := by omega
    have hx := lt_idx hlt
    have hg := ints_get hlt
    have hw : IntKind.i64.wrap ((i : Int) + 1) = ((i + 1 : Nat) : Int) := wrapSucc (by omega)
    generalize l[i] = z at *
    simp only [XU, seval, h8, h9, h10, h0, gi, hx, hg, hq]
    refine x_for (fun j ρ s => ρ.rd 8 = .sl σ.n 0 l.length (some l.length) 1 ∧ ρ.rd 9 = .int .i64 (l.length : Int) ∧ ρ.rd 10 = .int .i64 (i : Int) ∧ ρ.rd 6 = .int .i64 z ∧ ρ.rd 7 = .int .i64 (7 - (j : Int)) ∧ σ.n < s.n ∧ s.cells σ.n = some (ofInts l) ∧ (∀ k, k < σ.n → ¬ p k → s.cells k = σ.cells k) ∧ ∃ y, ρ.rd 0 = y ∧ Raw (fun b => p b ∧ b ≠ σ.n) s y (n + 8 * i + j)) 8 ?_ ?_
    · simp only [XU, seval, h8, h9, h10, h0]
      exact ⟨hqn, hq, hkk, _, rfl, hr⟩
    clear h8 h9 h10 h0 hr hqn hq hkk
    rintro j ρ s hj ⟨h8, h9, h10, h6, h7, hqn, hq, hkk, y, h0, hr⟩
    by_cases hlt8 : j < 8
    rotate_left
    · have : j = 8 := by omega
      subst this
      have hge : ¬ (0 : Int) ≤ 7 - ((8 : Nat) : Int) := by omega
      simp only [XU, seval, h8, h9, h10, h0, h6, h7, hge, hw]
      exact ⟨hlt, hqn, hq, hkk, _, rfl, hr⟩
    have gj : (0 : Int) ≤ 7 - (j : Int) := by omega
    have hs := e_shn z (k := 8 * (7 - j)) (by omega)
    obtain ⟨b, cap, u, happ, hr', hn', hk'⟩ := hr.app (hge s hqn) (w := .int .u8 (IntKind.u8.wrap (z / 2 ^ (8 * (7 - j))))) rfl rfl (by omega)
    have hq' := (hk' σ.n hqn (fun e => e.2 rfl)).trans hq
    have hkk' : ∀ k, k < σ.n → ¬ p k → u.cells k = σ.cells k := fun k hk hnp => (hk' k (by omega) fun e => hnp e.1).trans (hkk k hk hnp)
    simp only [XU, seval, h8, h9, h10, h0, h6, h7, gj, e_down hlt8, hs]
    simp only [XU, seval, happ, h8, h9, h10, h6, h7, e_pred hlt8]
    exact ⟨hlt8, by omega, hq', hkk', _, rfl, hr'⟩
  rintro ρ s ⟨y, h0, hr, hqn, hkk⟩
  simp only [XU, seval, h0]
  exact ⟨hr.mono fun _ h _ => h.1, hqn, hkk⟩
/- Bytes that are fixed data, their length ahead. -/
theorem layB_ac {p : Nat → Prop} (h : Raw p σ x n) (hp : ∀ b, σ.n ≤ b → p b) {m : Byts} (hn : n ≤ 900000) (hm : m.length ≤ 1000000) : callD Try.prog 59 [x, bytesP m] σ fun v s => Raw p s v (n + 8 + m.length) ∧ σ.n ≤ s.n ∧ ∀ k, k < σ.n → ¬ p k → s.cells k = σ.cells k := by
  have hP := putB_ac h hp [(m.length : Int)] (by simp) (by omega)
  have hc : ofInts [(m.length : Int)] = [.int .i64 (m.length : Int)] := rfl
  rw [hc] at hP
  unfold bytesP
  refine cd_wp fn59 cf59 cl59 rfl ?_
  simp only [ac59]
  unfold ab59
  simp only [XU, seval, fillA]
  refine hP.mono fun v s hr => ?_
  obtain ⟨hr, hn1, hk1⟩ := hr
  obtain ⟨x', u, happ, hr', hn2, hk2⟩ := hr.more (y := .psl (ofU8s m) 0 m.length) (k := m.length) (hp _ (by omega)) rfl (firstA_psl' (by rw [ofU8s_length, Nat.mul_one])) (ofU8s_one m) (fun a ha => ofU8s_mem ha) (ofU8s_length m) (by simp; omega)
  simp only [XU, seval, happ]
  exact ⟨hr', by omega, fun k hk hnp => (hk2 k (by omega) hnp).trans (hk1 k hk hnp)⟩
def Ent.size (e : Ent) : Nat := 32 + e.data.length + e.mem.length
def sizes (l : List Ent) : Nat := (l.map Ent.size).foldr (· + ·) 0
theorem sizes_take {l : List Ent} {i : Nat} (h : i < l.length) : sizes (l.take (i + 1)) = sizes (l.take i) + l[i].size := by
  have : ∀ (a : List Ent) (e : Ent), sizes (a ++ [e]) = sizes a + e.size := fun a e => by
    induction a with
    | nil => simp [sizes]
    | cons x a ih => simp only [sizes, List.cons_append, List.map_cons, List.foldr_cons] at ih ⊢; omega
  rw [List.take_add_one, List.getElem?_eq_getElem h]
  exact this _ _
theorem sizes_le {l : List Ent} (i : Nat) : sizes (l.take i) ≤ sizes l := by
  induction l generalizing i with
  | nil => simp
  | cons a l ih =>
    cases i with
    | zero => simp [sizes]
    | succ i => have := ih i; simp only [sizes, List.take_succ_cons, List.map_cons, List.foldr_cons] at this ⊢; omega
def Core.size (c : Core) : Nat := 80 + c.snap.mem.length + c.snap.data.length + sizes c.l
theorem save_st0 {c : Core} (hs : c.size ≤ 110000) (hl : c.l.length ≤ 1000) : callD Try.prog 30 [c.pp] st0 fun v s => ∃ a, Pur s false v a ∧ ∃ L, a = .psl L 0 L.length ∧ L.length ≤ 110000 := by
  unfold Core.size at hs
  rw [Core.pp_eq]
  refine cd_wp fn30 cf30 cl30 rfl ?_
  simp only [ac30]
  unfold ab30
  rw [wpX_seq]
  refine x_mid (fun ρ s => ρ.rd 0 = .pptr (coreC c c.rf) 0 ∧ s = st0) ?_ ?_
  · simp only [XU, seval]
  rintro ρ s ⟨h0, hs0⟩
  rw [hs0]
  clear hs0
  have hrl : c.rf.l = .psl (rowc Ent.c c.l) 0 c.l.length := rfl
  have hids : (idsS c.snap.mem).length = c.snap.mem.length := by simp [idsS]
  rw [wpX_seq]
  refine x_mid (fun ρ s => ρ.rd 0 = .pptr (coreC c c.rf) 0 ∧ ∃ y, ρ.rd 3 = y ∧ Raw (fun _ => True) s y 48) ?_ ?_
  · simp only [XU, seval]
    refine d_dreg follow [] rfl ?_
    generalize addSlots st0.n 30 st0 [] = s1 at *
    simp only [XU, seval, DU, h0, CS]
    refine (putB_ac (n := 0) (p := fun _ => True) .nil (fun _ _ => trivial) [(c.id : Int), (c.term : Int), c.vote, (c.commit : Int), (c.snap.index : Int), (c.snap.term : Int)] (by simp) (by omega)).mono fun v s hr => ?_
    simp only [XU, seval, DU]
    refine ⟨⟨?_, ?_⟩, ?_⟩
    · intro l hl c hc hf
      simp only [List.mem_cons, List.mem_nil_iff, List.not_mem_nil, or_false] at hl hc
      (repeat' (first | (rcases hl with rfl | hl) | (rcases hl with rfl))) <;> (repeat' (first | (rcases hc with rfl | hc) | (rcases hc with rfl))) <;> dsimp only at hf ⊢ <;> first
        | (exact absurd hf (by decide +kernel))
        | (simp only [XU, seval, h0, CS]; done)
    · intro sl hsl; simp at hsl
    simp only [XU, seval, h0]
    exact ⟨_, rfl, hr.1⟩
  clear h0
  rintro ρ s ⟨h0, y, h3, hr⟩
  rw [wpX_seq]
  refine x_mid (fun ρ s => ρ.rd 0 = .pptr (coreC c c.rf) 0 ∧ ∃ y, ρ.rd 3 = y ∧ Raw (fun _ => True) s y (56 + c.snap.mem.length)) ?_ ?_
  · simp only [XU, seval, h0, h3, CS]
    refine (ids_ac (by omega)).use ?_
    simp only [XU, seval, h0, h3, CS]
    refine (layB_ac hr (fun _ _ => trivial) (by omega) (by omega)).mono fun v s hr => ?_
    rw [hids] at hr
    simp only [XU, seval, h0]
    exact ⟨_, rfl, by have e : 56 + c.snap.mem.length = 48 + 8 + c.snap.mem.length := by omega
                      rw [e]; exact hr.1⟩
  clear h0 h3 hr
  rintro ρ s ⟨h0, y, h3, hr⟩
  rw [wpX_seq]
  refine x_mid (fun ρ s => ρ.rd 0 = .pptr (coreC c c.rf) 0 ∧ ∃ y, ρ.rd 3 = y ∧ Raw (fun _ => True) s y (64 + c.snap.mem.length + c.snap.data.length)) ?_ ?_
  · simp only [XU, seval, h0, h3, CS]
    refine (layB_ac hr (fun _ _ => trivial) (by omega) (by omega)).mono fun v s hr => ?_
    simp only [XU, seval, h0]
    exact ⟨_, rfl, by have e : 64 + c.snap.mem.length + c.snap.data.length = 56 + c.snap.mem.length + 8 + c.snap.data.length := by omega
                      rw [e]; exact hr.1⟩
  clear h0 h3 hr
  rintro ρ s ⟨h0, y, h3, hr⟩
  rw [wpX_seq]
  refine x_mid (fun ρ s => ρ.rd 0 = .pptr (coreC c c.rf) 0 ∧ ∃ y, ρ.rd 3 = y ∧ Raw (fun _ => True) s y (72 + c.snap.mem.length + c.snap.data.length)) ?_ ?_
  · have hP := putB_ac hr (fun _ _ => trivial) [(c.l.length : Int)] (by simp) (by omega)
    have hc : ofInts [(c.l.length : Int)] = [.int .i64 (c.l.length : Int)] := rfl
    rw [hc] at hP
    simp only [XU, seval, h0, h3, CS, hrl, fillA]
    refine hP.mono fun v s hr => ?_
    simp only [XU, seval, h0]
    exact ⟨_, rfl, by have e : 72 + c.snap.mem.length + c.snap.data.length = 64 + c.snap.mem.length + c.snap.data.length + 8 * [(c.l.length : Int)].length := by simp; omega
                      rw [e]; exact hr.1⟩
  clear h0 h3 hr
  rintro ρ s ⟨h0, y, h3, hr⟩
  obtain ⟨B, hB⟩ : ∃ B, B = 72 + c.snap.mem.length + c.snap.data.length := ⟨_, rfl⟩
  rw [← hB] at hr
  rw [wpX_seq]
  refine x_mid (fun ρ s => ∃ y, ρ.rd 3 = y ∧ Raw (fun _ => True) s y (B + sizes c.l)) ?_ ?_
  · simp only [XU, seval, h0, h3, CS, hrl]
    refine x_for (fun i ρ s => ρ.rd 66 = .psl (rowc Ent.c c.l) 0 c.l.length ∧ ρ.rd 67 = .int .i64 (c.l.length : Int) ∧ ρ.rd 68 = .int .i64 (i : Int) ∧ ∃ y, ρ.rd 3 = y ∧ Raw (fun _ => True) s y (B + sizes (c.l.take i))) c.l.length ?_ ?_
    · simp only [XU, seval, h0, h3]
      exact ⟨_, rfl, hr⟩
    clear h0 h3 hr
    rintro i ρ s hi ⟨h66, h67, h68, y, h3, hr⟩
    by_cases hlt : i < c.l.length
    rotate_left
    · have : i = c.l.length := by omega
      subst this
      have hge : ¬ ((c.l.length : Nat) : Int) < ((c.l.length : Nat) : Int) := by omega
      rw [List.take_length] at hr
      simp only [XU, seval, h66, h67, h68, h3, hge]
      exact ⟨_, rfl, hr⟩
    have gi : (i : Int) < (c.l.length : Int) := by omega
    have hx := lt_idx hlt
    have hsz := sizes_take hlt
    have hle := sizes_le (l := c.l) (i + 1)
    have hsg := rowc_seg Ent.c_len hlt
    have hrc : decide (i * 4 + 4 ≤ (rowc Ent.c c.l).length) = true := by rw [rowc_length Ent.c_len, decide_eq_true_eq]; omega
    have hw : IntKind.i64.wrap ((i : Int) + 1) = ((i + 1 : Nat) : Int) := wrapSucc (by have := hl; omega)
    rw [hsz] at hle ⊢
    generalize sizes (c.l.take i) = S at *
    unfold Ent.size at hle ⊢
    generalize c.l[i] = e at *
    rw [Ent.c_eq] at hsg
    have hide : (idsS e.mem).length = e.mem.length := by simp [idsS]
    have hp1 := hr.mono (q := fun b => b ≠ s.n) fun b _ hb => Nat.ne_of_lt hb
    simp only [XU, seval, h66, h67, h68, h3, gi, hx, hsg, hrc, SX, PS]
    have hp1' : Raw (fun b => b ≠ s.n) ((s.push (.cells [.int .i64 0, .int .i64 0, .nils, .nils])).put s.n [.int .i64 (e.term : Int), .int .i64 (e.kind : Int), bytesP e.data, intsP e.mem]) y (B + S) := by
      obtain ⟨L, g1, g2⟩ := hp1
      exact ⟨L, (g1.push _).put (fun e => e rfl) _, g2⟩
    have ce : ((s.push (.cells [.int .i64 0, .int .i64 0, .nils, .nils])).put s.n [.int .i64 (e.term : Int), .int .i64 (e.kind : Int), bytesP e.data, intsP e.mem]).cells s.n = some [.int .i64 (e.term : Int), .int .i64 (e.kind : Int), bytesP e.data, intsP e.mem] := by rw [put_get, if_pos rfl]
    have hne : s.n < ((s.push (.cells [.int .i64 0, .int .i64 0, .nils, .nils])).put s.n [.int .i64 (e.term : Int), .int .i64 (e.kind : Int), bytesP e.data, intsP e.mem]).n := Nat.lt_succ_self _
    have hsn : ((s.push (.cells [.int .i64 0, .int .i64 0, .nils, .nils])).put s.n [.int .i64 (e.term : Int), .int .i64 (e.kind : Int), bytesP e.data, intsP e.mem]).n = s.n + 1 := rfl
    generalize (s.push (.cells [.int .i64 0, .int .i64 0, .nils, .nils])).put s.n [.int .i64 (e.term : Int), .int .i64 (e.kind : Int), bytesP e.data, intsP e.mem] = s1 at *
    generalize s.n = q at *
    have hP := putB_ac hp1' (fun b hb => by omega) [(e.term : Int), (e.kind : Int)] (by simp) (by omega)
    have hc : ofInts [(e.term : Int), (e.kind : Int)] = [.int .i64 (e.term : Int), .int .i64 (e.kind : Int)] := rfl
    rw [hc, hsn] at hP
    refine hP.mono fun v s2 hr2 => ?_
    have c2 := (hr2.2.2 q (by omega) fun e => e rfl).trans ce
    have l2 := hr2.2.1
    have r2 := hr2.1
    clear hr2 hP
    simp only [XU, seval, h66, h67, h68, c2]
    refine (layB_ac r2 (fun b hb => by omega) (by simp; omega) (by omega)).mono fun v s3 hr3 => ?_
    have c3 := (hr3.2.2 q (by omega) fun e => e rfl).trans c2
    have l3 := hr3.2.1
    have r3 := hr3.1
    clear hr3
    simp only [XU, seval, h66, h67, h68, c3]
    refine (ids_ac (by omega)).use ?_
    simp only [XU, seval, h66, h67, h68, c3]
    refine (layB_ac r3 (fun b hb => by omega) (by simp; omega) (by omega)).mono fun v s4 hr4 => ?_
    simp only [XU, seval, h66, h67, h68, hw]
    refine ⟨hlt, _, rfl, ?_⟩
    have r4 := hr4.1.mono (q := fun _ => True) fun _ _ _ => trivial
    rw [hide] at r4
    have e4 : B + (S + (32 + e.data.length + e.mem.length)) = B + S + 8 * [(e.term : Int), (e.kind : Int)].length + 8 + e.data.length + 8 + e.mem.length := by simp; omega
    rw [e4]
    exact r4
  clear h0 h3 hr
  rintro ρ s ⟨y, h3, hr⟩
  simp only [XU, seval, h3]
  obtain ⟨L, h1, h2⟩ := hr.pur (al := false)
  exact ⟨_, h1, L, by rw [h2], by omega⟩
theorem save_ac {own : Nat → Nat} {t b : Nat} {c : Core} {R : Rws} (h : CoreAt σ own t b c R) (hs : c.size ≤ 110000) (hl : c.l.length ≤ 1000) : callD Try.prog 30 [.ptr b 0] σ fun v s => s = σ ∧ ∃ L, v = .psl L 0 L.length ∧ L.length ≤ 110000 :=
  callD.pure (R := fun v => ∃ L, v = .psl L 0 L.length ∧ L.length ≤ 110000) (.cons h.pur .nil) (save_st0 hs hl)
end
end Go.Proofs.Ythojhpjjkfjeiaa.Va
set_option maxRecDepth 100000
set_option maxHeartbeats 1000000
set_option linter.all false
namespace Go.Proofs.Ythojhpjjkfjeiaa.Va
open Go.Proofs
theorem e_shu (n : Int) {k : Nat} (h : k ≤ 64) : evalShift .shr .u64 n (k : Nat) = some (.int .u64 (n / 2 ^ k)) := by
  simp only [evalShift, IntKind.bits]
  rw [if_neg (by omega), Int.toNat_natCast, Nat.min_eq_left h, Int.fdiv_eq_ediv_of_nonneg _ (Int.le_of_lt (Int.pow_pos (by decide)))]
theorem e_sh8 (n : Int) : evalShift .shr .i64 n 8 = some (.int .i64 (n / 256)) := by
  simp only [evalShift, IntKind.bits]
  rw [if_neg (by omega), Int.fdiv_eq_ediv_of_nonneg _ (by decide)]
  rfl
/- What is kept while a row with the blocks p grows. -/
def KeepP (p : Nat → Prop) (σ s : AState) : Prop := σ.n ≤ s.n ∧ ∀ k, k < σ.n → ¬ p k → s.cells k = σ.cells k
theorem Raw.app2 {p : Nat → Prop} {s : AState} {x w w' : AV} {n : Nat} (h : Raw p s x n) (hp : ∀ b, s.n ≤ b → p b) (hw : w.flat = true ∧ w'.flat = true) (ho : w.one = true ∧ w'.one = true) (hn : n ≤ 10000000) :
    ∃ b cap u, appendA (s.push (.cells [w, w'])) 1 1 x (.sl s.n 0 2 (some 2) 1) = some (.sl b 0 (n + 2) cap 1, u) ∧ Raw p u (.sl b 0 (n + 2) cap 1) (n + 2) ∧ s.n < u.n ∧ ∀ k, k < s.n → ¬ p k → u.cells k = s.cells k := by
  obtain ⟨L, h1, h2⟩ := h
  obtain ⟨b, cap, u, g1, g2, g3, g4⟩ := app_lit (bytes := 1) h1 hp (new := [w, w']) (k := 2) (by simp [ho]) rfl (by omega) (by omega)
  refine ⟨b, cap, u, g1, ⟨_, g2, fun a ha => ?_⟩, g3, fun k hk hnp => get_cells (g4 k hk hnp)⟩
  rcases List.mem_append.1 ha with e | e
  · exact h2 a e
  · simp only [List.mem_cons, List.not_mem_nil, or_false] at e
    rcases e with rfl | rfl
    · exact hw.1
    · exact hw.2
theorem Raw.slots {p : Nat → Prop} {s : AState} {x : AV} {n : Nat} (h : Raw p s x n) (m : Nat) : Raw p (addSlots s.n m s []) x n := by
  obtain ⟨L, h1, h2⟩ := h
  exact ⟨L, h1.keep (by simp only [addSlots]; omega) fun b hb _ => slots_old [] hb, h2⟩
theorem get_of {s : AState} {b : Nat} {c : List AV} (h : s.cells b = some c) : s.h.get b = some (.cells c) := by
  unfold AState.cells at h
  split at h
  · rename_i e; rw [e]; cases h; rfl
  · cases h
section
variable {σ : AState} {x : AV} {n : Nat} {p : Nat → Prop}
theorem num_ac (h : Raw p σ x n) (hp : ∀ b, σ.n ≤ b → p b) (z : Int) (hn : n ≤ 1000000) : callD Try.prog 65 [x, .int .i64 z] σ fun v s => Raw p s v (n + 8) ∧ KeepP p σ s := by
  refine cd_wp fn65 cf65 cl65 rfl ?_
  simp only [ac65]
  unfold ab65
  simp only [XU, seval]
  refine x_for (fun j ρ s => ρ.rd 1 = .int .i64 z ∧ ρ.rd 5 = .int .i64 (7 - (j : Int)) ∧ KeepP p σ s ∧ ∃ y, ρ.rd 0 = y ∧ Raw p s y (n + j)) 8 ?_ ?_
  · simp only [XU, seval]
    exact ⟨⟨Nat.le_refl _, fun _ _ _ => rfl⟩, _, rfl, h⟩
  rintro j ρ s hj ⟨h1, h5, hk, y, h0, hr⟩
  by_cases hlt8 : j < 8
  rotate_left
  · have : j = 8 := by omega
    subst this
    have hge : ¬ (0 : Int) ≤ 7 - ((8 : Nat) : Int) := by omega
    simp only [XU, seval, h0, h1, h5, hge]
    exact ⟨hr, hk⟩
  have gj : (0 : Int) ≤ 7 - (j : Int) := by omega
  have hs := e_shu (IntKind.u64.wrap z) (k := 8 * (7 - j)) (by omega)
  obtain ⟨b, cap, u, happ, hr', hn', hk'⟩ := hr.app (fun b hb => hp b (Nat.le_trans hk.1 hb)) (w := .int .u8 (IntKind.u8.wrap (IntKind.u64.wrap z / 2 ^ (8 * (7 - j))))) rfl rfl (by omega)
  simp only [XU, seval, h0, h1, h5, gj, e_down hlt8, hs]
  simp only [XU, seval, happ, h1, h5, e_pred hlt8]
  exact ⟨hlt8, ⟨by have := hk.1; omega, fun k hk1 hnp => (hk' k (by have := hk.1; omega) hnp).trans (hk.2 k hk1 hnp)⟩, _, rfl, hr'⟩
theorem bytesR_ac (h : Raw p σ x n) (hp : ∀ b, σ.n ≤ b → p b) {m : Byts} (hn : n ≤ 1000000) (hm : m.length ≤ 1000000) : callD Try.prog 66 [x, bytesP m] σ fun v s => Raw p s v (n + 2 + m.length) ∧ KeepP p σ s := by
  unfold bytesP
  obtain ⟨b, cap, u, happ, hr, hn1, hk1⟩ := h.app2 hp (w := .int .u8 (IntKind.u8.wrap ((m.length : Int) / 256))) (w' := .int .u8 (IntKind.u8.wrap (m.length : Int))) ⟨rfl, rfl⟩ ⟨rfl, rfl⟩ (by omega)
  obtain ⟨x', u', happ2, hr', hn2, hk2⟩ := hr.more (y := .psl (ofU8s m) 0 m.length) (k := m.length) (hp _ (by omega)) rfl (firstA_psl' (by rw [ofU8s_length, Nat.mul_one])) (ofU8s_one m) (fun a ha => ofU8s_mem ha) (ofU8s_length m) (by omega)
  refine cd_wp fn66 cf66 cl66 rfl ?_
  simp only [ac66]
  unfold ab66
  simp only [XU, seval, e_sh8, happ, happ2]
  exact ⟨hr', by omega, fun k hk hnp => (hk2 k (by omega) hnp).trans (hk1 k hk hnp)⟩
end
/- What a message has that may be written. -/
structure Msg.Fine (m : Msg) : Prop where
  kd : 1 ≤ m.kind ∧ m.kind ≤ 15
  l1 : m.terms.length = m.entries.length
  l2 : m.kinds.length = m.entries.length
  ln : m.entries.length ≤ 64
  ml : m.mem.length ≤ 7
  es : ∀ i, i < m.entries.length → (m.entries.getD i []).length ≤ 700
  dl : m.data.length ≤ 60000
theorem wrongMsg_ac {m : Msg} (h : m.Fine) {σ : AState} : callD Try.prog 64 [.agg m.c] σ fun v s => v = .int .i64 0 ∧ Keeps σ.n σ s := by
  have n0 := (Keeps.refl σ).push (.cells m.c)
  have cq0 : (σ.push (.cells m.c)).cells σ.n = some m.c := push_cells _ _
  have hone : m.c.all AV.one = true := rfl
  refine cd_wp fn64 cf64 cl64 rfl ?_
  simp only [ac64]
  unfold ab64
  rw [wpX_seq]
  refine x_mid (fun ρ s => ρ.rd 1 = .ptr σ.n 0 ∧ Keeps σ.n σ s ∧ s.cells σ.n = some m.c) ?_ ?_
  · simp only [XU, seval, hone]
    exact n0
  clear n0 cq0 hone
  rintro ρ s ⟨h1, n0, cq⟩
  rw [Msg.c_eq] at cq
  unfold natsP rowsP at cq
  rw [h.l1, h.l2] at cq
  have hkd := h.kd
  have hln := h.ln
  have hml := h.ml
  have hdl := h.dl
  have hes := h.es
  obtain ⟨N, hN⟩ : ∃ N, N = m.entries.length := ⟨_, rfl⟩
  rw [← hN] at cq hln hes
  clear h
  have g1 : ¬ (m.kind : Int) < 1 := by omega
  have g2 : ¬ (15 : Int) < (m.kind : Int) := by omega
  have g3 : ¬ (64 : Int) < (N : Int) := by omega
  have g4 : ¬ (7 : Int) < (m.mem.length : Int) := by omega
  have g5 : ¬ (60000 : Int) < (m.data.length : Int) := by omega
  rw [wpX_seq]
  refine x_mid (fun ρ s' => ρ.rd 1 = .ptr σ.n 0 ∧ s' = s) ?_ ?_
  · simp only [XU, seval, h1, cq, g1, g2, g3, g4, intsP]
  clear h1
  rintro ρ s' ⟨h1, hs'⟩
  rw [hs']
  clear hs'
  rw [wpX_seq]
  refine x_mid (fun ρ s' => ρ.rd 1 = .ptr σ.n 0 ∧ s' = s) ?_ ?_
  · simp only [XU, seval, h1]
    refine x_for (fun i ρ s' => ρ.rd 1 = .ptr σ.n 0 ∧ ρ.rd 3 = .int .i64 (i : Int) ∧ s' = s) N ?_ ?_
    · simp only [XU, seval, h1]
    clear h1
    rintro i ρ s' hi ⟨h1, h3, hs'⟩
    rw [hs']
    clear hs'
    by_cases hlt : i < N
    rotate_left
    · have : i = N := by omega
      subst this
      have hge : ¬ ((i : Nat) : Int) < ((i : Nat) : Int) := by omega
      simp only [XU, seval, h1, h3, cq, hge]
    have gi : (i : Int) < (N : Int) := by omega
    have hx := lt_idx hlt
    have ht11 : (m.entries.map bytesP)[i]? = some (bytesP (m.entries.getD i [])) := by
      have : i < m.entries.length := by omega
      simp [this]
    have hw : IntKind.i64.wrap ((i : Int) + 1) = ((i + 1 : Nat) : Int) := wrapSucc (by omega)
    have g7 : ¬ (700 : Int) < ((m.entries.getD i []).length : Int) := by have := hes i hlt; omega
    generalize m.entries.getD i [] = D at *
    simp only [XU, seval, h1, h3, cq, gi, hx, ht11, bytesP, g7, hw]
    exact hlt
  clear h1
  rintro ρ s' ⟨h1, hs'⟩
  rw [hs']
  clear hs'
  simp only [XU, seval, h1, cq, bytesP, g5]
  exact n0
/- What a message may be, it is written. -/
theorem msg_st0 {m : Msg} (h : m.Fine) : callD Try.prog 43 [.agg m.c] st0 fun v s => ∃ a, Pur s true v a ∧ ∃ x, a = .tup [x, .int .i64 0] := by
  have cq0 : (st0.push (.cells m.c)).cells st0.n = some m.c := push_cells _ _
  have hone : m.c.all AV.one = true := rfl
  have hW := fun σ => wrongMsg_ac h (σ := σ)
  refine cd_wp fn43 cf43 cl43 rfl ?_
  simp only [ac43]
  unfold ab43
  rw [wpX_seq]
  refine x_mid (fun ρ s => ρ.rd 1 = .ptr st0.n 0 ∧ st0.n < s.n ∧ s.cells st0.n = some m.c) ?_ ?_
  · simp only [XU, seval, hone]
  generalize st0.n = q
  clear cq0 hone
  rintro ρ s ⟨h1, hn, cq⟩
  have hkd := h.kd
  have hln := h.ln
  have hml := h.ml
  have hdl := h.dl
  have hes := h.es
  have hl1 := h.l1
  have hl2 := h.l2
  clear h
  have hme := Msg.c_eq m
  unfold natsP rowsP at hme
  rw [hl1, hl2] at hme
  have ht9 : ∀ i, i < m.entries.length → (m.terms.map fun n : Nat => AV.int .i64 (n : Int))[i]? = some (.int .i64 (m.terms.getD i 0 : Int)) := fun i hi => by simp [hl1, hi]
  have ht10 : ∀ i, i < m.entries.length → (m.kinds.map fun n : Nat => AV.int .i64 (n : Int))[i]? = some (.int .i64 (m.kinds.getD i 0 : Int)) := fun i hi => by simp [hl2, hi]
  have ht11 : ∀ i, i < m.entries.length → (m.entries.map bytesP)[i]? = some (bytesP (m.entries.getD i [])) := fun i hi => by simp [hi]
  obtain ⟨N, hN⟩ : ∃ N, N = m.entries.length := ⟨_, rfl⟩
  rw [← hN] at hln hes hme ht9 ht10 ht11
  clear hl1 hl2
  rw [wpX_seq]
  refine x_mid (fun ρ s => ρ.rd 1 = .ptr q 0 ∧ q < s.n ∧ s.cells q = some m.c) ?_ ?_
  · have hW := hW s
    have c2 := cq
    rw [hme] at c2 hW
    simp only [XU, seval, h1, c2, sg14]
    refine hW.kept fun s2 k2 => ?_
    simp only [XU, seval, h1]
    exact ⟨Nat.lt_of_lt_of_le hn k2.1, (k2.cells hn).trans cq⟩
  clear h1 hn cq hW
  rintro ρ s ⟨h1, hn, cq⟩
  have hp : ∀ s : AState, q < s.n → ∀ b, s.n ≤ b → b ≠ q := fun s hs b hb e => by omega
  rw [wpX_seq]
  refine x_mid (fun ρ s => ρ.rd 1 = .ptr q 0 ∧ q < s.n ∧ s.cells q = some m.c ∧ ∃ y, ρ.rd 4 = y ∧ Raw (fun b => b ≠ q) s y 17) ?_ ?_
  · simp only [XU, seval]
    refine d_dreg follow [(9, [.int .u8 (IntKind.u8.wrap (m.kind : Int))])] rfl ?_
    have c1 : (addSlots s.n 12 s [(9, [.int .u8 (IntKind.u8.wrap (m.kind : Int))])]).cells q = _ := (slots_old _ hn).trans cq
    have c0 := c1
    have g9 := slots_get (s := s) (m := 12) [(9, [.int .u8 (IntKind.u8.wrap (m.kind : Int))])] 9 _ rfl
    have cg := cells_of g9
    have hnA : (addSlots s.n 12 s [(9, [.int .u8 (IntKind.u8.wrap (m.kind : Int))])]).n = s.n + 12 := rfl
    generalize addSlots s.n 12 s [(9, [.int .u8 (IntKind.u8.wrap (m.kind : Int))])] = s1 at *
    rw [hme] at c1
    have hpp : ∀ s' : AState, s1.n ≤ s'.n → ∀ b, s'.n ≤ b → (b ≠ q ∧ b ≠ s.n + 9) := fun s' h' b hb => by omega
    simp only [XU, seval, DU, h1, c1]
    refine (num_ac (p := fun b => b ≠ q ∧ b ≠ s.n + 9) .nil (hpp _ (Nat.le_refl _)) (m.src : Int) (by omega)).mono fun v2 s2 h2 => ?_
    have k2 := h2.2
    have r2 := h2.1
    have c2 := (k2.2 q (by omega) fun e => e.1 rfl).trans c1
    have cg2 := (k2.2 (s.n + 9) (by omega) fun e => e.2 rfl).trans cg
    have l2 := k2.1
    clear h2 k2
    simp only [XU, seval, DU, h1, c2]
    refine (num_ac r2 (hpp _ l2) (m.to : Int) (by omega)).mono fun v3 s3 h3 => ?_
    have k3 := h3.2
    have r3 := h3.1
    have c3 := (k3.2 q (by omega) fun e => e.1 rfl).trans c2
    have cg3 := (k3.2 (s.n + 9) (by omega) fun e => e.2 rfl).trans cg2
    have l3 := k3.1
    clear h3 k3
    obtain ⟨x', u, happ, r4, l4, k4⟩ := r3.more (y := .sl (s.n + 9) 0 1 (some 1) 1) (k := 1) (hpp _ (Nat.le_trans l2 l3) _ (Nat.le_refl _)) rfl (firstA_own cg3 (Nat.le_refl _)) rfl (fun a ha => by rw [List.mem_singleton.1 ha]; rfl) rfl (by omega)
    have c4 := (k4 q (by omega) fun e => e.1 rfl).trans c3
    simp only [XU, seval, DU, h1, c3]
    simp only [XU, seval, DU, happ]
    refine ⟨⟨?_, ?_⟩, ?_⟩
    · intro l hl c hc hf
      simp only [List.mem_cons, List.mem_nil_iff, List.not_mem_nil, or_false] at hl hc
      (repeat' (first | (rcases hl with rfl | hl) | (rcases hl with rfl))) <;> (repeat' (first | (rcases hc with rfl | hc) | (rcases hc with rfl))) <;> dsimp only at hf ⊢ <;> first
        | (exact absurd hf (by decide +kernel))
        | (simp only [XU, seval, h1, c1, c2, c3, c4]; done)
    · intro sl hsl c hc hf
      simp only [List.mem_cons, List.mem_nil_iff, List.not_mem_nil, or_false] at hsl hc
      subst hsl
      rcases hc with rfl | rfl | rfl | rfl | rfl <;> dsimp only at hf ⊢ <;> first
        | (exact absurd hf (by decide +kernel))
        | exact ⟨by omega, g9⟩
        | exact ⟨by omega, get_of cg2⟩
        | exact ⟨by omega, get_of cg3⟩
    simp only [XU, seval, h1]
    exact ⟨by omega, c4.trans (by rw [hme]), _, rfl, r4.mono fun b h _ => h.1⟩
  clear h1 hn cq
  rintro ρ s ⟨h1, hn, cq, y, h4, hr⟩
  rw [wpX_seq]
  refine x_mid (fun ρ s => ρ.rd 1 = .ptr q 0 ∧ q < s.n ∧ s.cells q = some m.c ∧ ∃ y, ρ.rd 4 = y ∧ Raw (fun b => b ≠ q) s y 57) ?_ ?_
  · simp only [XU, seval]
    refine d_dreg follow [] rfl ?_
    have c1 : (addSlots s.n 17 s []).cells q = _ := (slots_old _ hn).trans cq
    have n1 : q < (addSlots s.n 17 s []).n := by simp only [addSlots]; omega
    have r1 : Raw (fun b => b ≠ q) (addSlots s.n 17 s []) y 17 := hr.slots 17
    generalize addSlots s.n 17 s [] = s1 at *
    rw [hme] at c1
    simp only [XU, seval, DU, h1, h4, c1]
    refine (num_ac r1 (hp _ n1) (m.term : Int) (by omega)).mono fun v2 s2 h => ?_
    have r2 := h.1
    have c2 := (h.2.2 q n1 fun e => e rfl).trans c1
    have n2 := Nat.lt_of_lt_of_le n1 h.2.1
    clear h
    simp only [XU, seval, DU, h1, c2]
    refine (num_ac r2 (hp _ n2) (m.index : Int) (by omega)).mono fun v3 s3 h => ?_
    have r3 := h.1
    have c3 := (h.2.2 q n2 fun e => e rfl).trans c2
    have n3 := Nat.lt_of_lt_of_le n2 h.2.1
    clear h
    simp only [XU, seval, DU, h1, c3]
    refine (num_ac r3 (hp _ n3) (m.last : Int) (by omega)).mono fun v4 s4 h => ?_
    have r4 := h.1
    have c4 := (h.2.2 q n3 fun e => e rfl).trans c3
    have n4 := Nat.lt_of_lt_of_le n3 h.2.1
    clear h
    simp only [XU, seval, DU, h1, c4]
    refine (num_ac r4 (hp _ n4) (m.commit : Int) (by omega)).mono fun v5 s5 h => ?_
    have r5 := h.1
    have c5 := (h.2.2 q n4 fun e => e rfl).trans c4
    have n5 := Nat.lt_of_lt_of_le n4 h.2.1
    clear h
    simp only [XU, seval, DU, h1, c5]
    refine (num_ac r5 (hp _ n5) (m.seq : Int) (by omega)).mono fun v6 s6 h => ?_
    have r6 := h.1
    have c6 := (h.2.2 q n5 fun e => e rfl).trans c5
    have n6 := Nat.lt_of_lt_of_le n5 h.2.1
    clear h
    simp only [XU, seval, DU, h1, c6]
    refine ⟨⟨?_, ?_⟩, ?_⟩
    · intro l hl c hc hf
      simp only [List.mem_cons, List.mem_nil_iff, List.not_mem_nil, or_false] at hl hc
      (repeat' (first | (rcases hl with rfl | hl) | (rcases hl with rfl))) <;> (repeat' (first | (rcases hc with rfl | hc) | (rcases hc with rfl))) <;> dsimp only at hf ⊢ <;> first
        | (exact absurd hf (by decide +kernel))
        | (simp only [XU, seval, h1, c1, c2, c3, c4, c5, c6]; done)
    · intro sl hsl; simp at hsl
    exact ⟨n6, by rw [hme], _, rfl, r6⟩
  clear h1 h4 hn cq hr
  rintro ρ s ⟨h1, hn, cq, y, h4, hr⟩
  rw [wpX_seq]
  refine x_mid (fun ρ s => ρ.rd 1 = .ptr q 0 ∧ q < s.n ∧ s.cells q = some m.c ∧ ∃ y, ρ.rd 4 = y ∧ Raw (fun b => b ≠ q) s y 58) ?_ ?_
  · have c1 := cq
    rw [hme] at c1
    cases hy : m.yes with
    | false =>
      rw [hy] at c1
      obtain ⟨b, cap, u, happ, hr', hn', hk'⟩ := hr.app (hp s hn) (w := .int .u8 0) rfl rfl (by omega)
      simp only [XU, seval, h1, h4, c1, fillA]
      simp only [XU, seval, happ, h1]
      exact ⟨by omega, (hk' q hn fun e => e rfl).trans cq, _, rfl, hr'⟩
    | true =>
      rw [hy] at c1
      obtain ⟨b, cap, u, happ, hr', hn', hk'⟩ := hr.app (hp s hn) (w := .int .u8 1) rfl rfl (by omega)
      simp only [XU, seval, h1, h4, c1, fillA]
      simp only [XU, seval, happ, h1]
      exact ⟨by omega, (hk' q hn fun e => e rfl).trans cq, _, rfl, hr'⟩
  clear h1 h4 hn cq hr
  rintro ρ s ⟨h1, hn, cq, y, h4, hr⟩
  rw [wpX_seq]
  refine x_mid (fun ρ s => ρ.rd 1 = .ptr q 0 ∧ q < s.n ∧ s.cells q = some m.c ∧ ∃ y, ρ.rd 4 = y ∧ Raw (fun b => b ≠ q) s y 59) ?_ ?_
  · have c1 := cq
    rw [hme] at c1
    obtain ⟨b, cap, u, happ, hr', hn', hk'⟩ := hr.app (hp s hn) (w := .int .u8 (IntKind.u8.wrap (N : Int))) rfl rfl (by omega)
    simp only [XU, seval, h1, h4, c1, fillA]
    simp only [XU, seval, happ, h1]
    exact ⟨by omega, (hk' q hn fun e => e rfl).trans cq, _, rfl, hr'⟩
  clear h1 h4 hn cq hr
  rintro ρ s ⟨h1, hn, cq, y, h4, hr⟩
  rw [wpX_seq]
  refine x_mid (fun ρ s => ρ.rd 1 = .ptr q 0 ∧ q < s.n ∧ s.cells q = some m.c ∧ ∃ y k, ρ.rd 4 = y ∧ Raw (fun b => b ≠ q) s y k ∧ k ≤ 59 + 800 * 64) ?_ ?_
  · simp only [XU, seval, h1, h4]
    refine x_for (fun i ρ s => ρ.rd 1 = .ptr q 0 ∧ ρ.rd 5 = .int .i64 (i : Int) ∧ q < s.n ∧ s.cells q = some m.c ∧ ∃ y k, ρ.rd 4 = y ∧ Raw (fun b => b ≠ q) s y k ∧ k ≤ 59 + 800 * i) N ?_ ?_
    · simp only [XU, seval, h1, h4]
      exact ⟨hn, cq, _, _, rfl, hr, by omega⟩
    clear h1 h4 hn cq hr
    rintro i ρ s hi ⟨h1, h5, hn, cq, y, k, h4, hr, hk⟩
    have c1 := cq
    rw [hme] at c1
    by_cases hlt : i < N
    rotate_left
    · have : i = N := by omega
      subst this
      have hge : ¬ ((i : Nat) : Int) < ((i : Nat) : Int) := by omega
      simp only [XU, seval, h1, h4, h5, c1, hge]
      exact ⟨hn, by rw [hme], _, _, rfl, hr, by omega⟩
    have gi : (i : Int) < (N : Int) := by omega
    have hx := lt_idx hlt
    have t9 := ht9 i hlt
    have t10 := ht10 i hlt
    have t11 := ht11 i hlt
    have hD := hes i hlt
    have hw : IntKind.i64.wrap ((i : Int) + 1) = ((i + 1 : Nat) : Int) := wrapSucc (by omega)
    generalize m.terms.getD i 0 = T at *
    generalize m.kinds.getD i 0 = Kd at *
    generalize m.entries.getD i [] = D at *
    simp only [XU, seval, h1, h4, h5, c1, gi]
    refine d_dreg follow [] rfl ?_
    have c1 : (addSlots s.n 20 s []).cells q = _ := (slots_old _ hn).trans c1
    have n1 : q < (addSlots s.n 20 s []).n := by simp only [addSlots]; omega
    have r1 : Raw (fun b => b ≠ q) (addSlots s.n 20 s []) y k := hr.slots 20
    generalize addSlots s.n 20 s [] = s1 at *
    simp only [XU, seval, DU, h1, h4, h5, c1, hx, t9, t10, t11]
    refine (num_ac r1 (hp _ n1) (T : Int) (by omega)).mono fun v2 s2 h => ?_
    have r2 := h.1
    have c2 := (h.2.2 q n1 fun e => e rfl).trans c1
    have n2 := Nat.lt_of_lt_of_le n1 h.2.1
    clear h
    simp only [XU, seval, DU, h1, h4, h5, c2, hx, t9, t10, t11]
    refine (num_ac r2 (hp _ n2) (Kd : Int) (by omega)).mono fun v3 s3 h => ?_
    have r3 := h.1
    have c3 := (h.2.2 q n2 fun e => e rfl).trans c2
    have n3 := Nat.lt_of_lt_of_le n2 h.2.1
    clear h
    simp only [XU, seval, DU, h1, h4, h5, c3, hx, t9, t10, t11]
    refine (bytesR_ac r3 (hp _ n3) (m := D) (by omega) (by omega)).mono fun v4 s4 h => ?_
    have r4 := h.1
    have c4 := (h.2.2 q n3 fun e => e rfl).trans c3
    have n4 := Nat.lt_of_lt_of_le n3 h.2.1
    clear h
    simp only [XU, seval, DU, h1, h4, h5, c4, hx, t9, t10, t11]
    refine ⟨⟨?_, ?_⟩, ?_⟩
    · intro l hl c hc hf
      simp only [List.mem_cons, List.mem_nil_iff, List.not_mem_nil, or_false] at hl hc
      (repeat' (first | (rcases hl with rfl | hl) | (rcases hl with rfl))) <;> (repeat' (first | (rcases hc with rfl | hc) | (rcases hc with rfl))) <;> dsimp only at hf ⊢ <;> first
        | (exact absurd hf (by decide +kernel))
        | (simp only [XU, seval, h1, h5, c1, c2, c3, c4, hx, t9, t10, t11]; done)
    · intro sl hsl; simp at hsl
    simp only [XU, seval, h1, h5, hw]
    exact ⟨hlt, n4, by rw [hme], _, _, rfl, r4, by omega⟩
  clear h1 h4 hn cq hr ht9 ht10 ht11
  rintro ρ s ⟨h1, hn, cq, y, k, h4, hr, hk⟩
  rw [wpX_seq]
  refine x_mid (fun ρ s => ρ.rd 1 = .ptr q 0 ∧ q < s.n ∧ s.cells q = some m.c ∧ ∃ y k, ρ.rd 4 = y ∧ Raw (fun b => b ≠ q) s y k ∧ k ≤ 60 + 800 * 64) ?_ ?_
  · have c1 := cq
    rw [hme] at c1
    obtain ⟨b, cap, u, happ, hr', hn', hk'⟩ := hr.app (hp s hn) (w := .int .u8 (IntKind.u8.wrap (m.mem.length : Int))) rfl rfl (by omega)
    unfold intsP at c1
    simp only [XU, seval, h1, h4, c1, fillA]
    simp only [XU, seval, happ, h1]
    exact ⟨by omega, (hk' q hn fun e => e rfl).trans cq, _, _, rfl, hr', by omega⟩
  clear h1 h4 hn cq hr hk
  rintro ρ s ⟨h1, hn, cq, y, k, h4, hr, hk⟩
  rw [wpX_seq]
  refine x_mid (fun ρ s => ρ.rd 1 = .ptr q 0 ∧ q < s.n ∧ s.cells q = some m.c ∧ ∃ y k, ρ.rd 4 = y ∧ Raw (fun b => b ≠ q) s y k ∧ k ≤ 120 + 800 * 64) ?_ ?_
  · simp only [XU, seval, h1, h4]
    refine x_for (fun i ρ s => ρ.rd 1 = .ptr q 0 ∧ ρ.rd 6 = .int .i64 (i : Int) ∧ q < s.n ∧ s.cells q = some m.c ∧ ∃ y k, ρ.rd 4 = y ∧ Raw (fun b => b ≠ q) s y k ∧ k ≤ 60 + 800 * 64 + 8 * i) m.mem.length ?_ ?_
    · simp only [XU, seval, h1, h4]
      exact ⟨hn, cq, _, _, rfl, hr, by omega⟩
    clear h1 h4 hn cq hr hk
    rintro i ρ s hi ⟨h1, h6, hn, cq, y, k, h4, hr, hk⟩
    have c1 := cq
    rw [hme] at c1
    unfold intsP at c1
    by_cases hlt : i < m.mem.length
    rotate_left
    · have e : i = m.mem.length := by omega
      have hge : ¬ (i : Int) < (m.mem.length : Int) := by omega
      simp only [XU, seval, h1, h4, h6, c1, hge]
      exact ⟨hn, by rw [hme]; rfl, _, _, rfl, hr, by omega⟩
    have gi : (i : Int) < (m.mem.length : Int) := by omega
    have hx := lt_idx hlt
    have t12 := ints_get hlt
    have hw : IntKind.i64.wrap ((i : Int) + 1) = ((i + 1 : Nat) : Int) := wrapSucc (by omega)
    generalize m.mem[i] = T at *
    simp only [XU, seval, h1, h4, h6, c1, gi, hx, t12]
    refine (num_ac hr (hp _ hn) T (by omega)).mono fun v2 s2 h => ?_
    simp only [XU, seval, h1, h6, hw]
    exact ⟨hlt, Nat.lt_of_lt_of_le hn h.2.1, (h.2.2 q hn fun e => e rfl).trans cq, _, _, rfl, h.1, by omega⟩
  clear h1 h4 hn cq hr hk
  rintro ρ s ⟨h1, hn, cq, y, k, h4, hr, hk⟩
  have c1 := cq
  rw [hme] at c1
  simp only [XU, seval, h1, h4, c1]
  refine (bytesR_ac hr (hp _ hn) (m := m.data) (by omega) (by omega)).mono fun v2 s2 h => ?_
  obtain ⟨L, g1, g2⟩ := h.1.pur (al := true)
  simp only [XU, seval]
  exact ⟨.tup [.psl L 0 _, .int .i64 0], .tup _ _ rfl fun i hi hi' => (match i, hi with
    | 0, _ => g1
    | 1, _ => .flat _ rfl), _, rfl⟩
theorem msg_ac {m : Msg} (h : m.Fine) {σ : AState} : callD Try.prog 43 [.agg m.c] σ fun v s => s = σ ∧ ∃ x, v = .tup [x, .int .i64 0] :=
  callD.share (R := fun v => ∃ x, v = .tup [x, .int .i64 0]) (.cons (.agg m.fxd) .nil) (msg_st0 h)
end Go.Proofs.Ythojhpjjkfjeiaa.Va
