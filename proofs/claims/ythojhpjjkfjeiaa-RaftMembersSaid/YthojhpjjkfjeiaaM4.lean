/- Texts Rq12 to Rq15 of this claim, in one. Conditions: none. -/
import Derived.Test.YthojhpjjkfjeiaaM3
set_option maxRecDepth 100000
set_option maxHeartbeats 800000
set_option linter.all false
namespace Go.Proofs.Ythojhpjjkfjeiaa.Va
open Go.Proofs
/- One peer's cells, read and written. -/
theorem setp_setp (c : Core) (k : Nat) (p p' : Peer) : (c.setp k p).setp k p' = c.setp k p' := by unfold Core.setp; simp [List.set_set]
theorem setp_self {c : Core} {k : Nat} (h : c.peers.length = 7) (hk : k < 7) : c.setp k (c.peer k) = c := by
  unfold Core.setp Core.peer
  have : c.peers.set k (c.peers.getD k peer0) = c.peers := by
    rw [List.getD_eq_getElem?_getD, List.getElem?_eq_getElem (by omega)]
    exact List.set_getElem_self _
  rw [this]
theorem peer_setp {c : Core} {k : Nat} {p : Peer} (h : c.peers.length = 7) (hk : k < 7) : (c.setp k p).peer k = p := by rw [setp_get h hk, if_pos rfl]
theorem pp_all {c : Core} {k a : Nat} (h : c.peers.length = 7) (hk : k < 7) (ha : a = 11 + k * 5) :
    (((∀ p R, (coreC (c.setp k p) R)[a]? = some (.int .i64 (p.next : Int))) ∧ (∀ p R, (coreC (c.setp k p) R)[a + 1]? = some (.int .i64 (p.match_ : Int)))) ∧
    ((∀ p R, (coreC (c.setp k p) R)[a + 2]? = some (.int .i64 (p.told : Int))) ∧ (∀ p R, (coreC (c.setp k p) R)[a + 3]? = some (.bool p.heard)) ∧ (∀ p R, (coreC (c.setp k p) R)[a + 4]? = some (.int .i64 (p.seq : Int))))) ∧
    (((∀ p R (x : Nat), setx (coreC (c.setp k p) R) a (.int .i64 (x : Int)) = coreC (c.setp k { p with next := x }) R) ∧ (∀ p R (x : Nat), setx (coreC (c.setp k p) R) (a + 1) (.int .i64 (x : Int)) = coreC (c.setp k { p with match_ := x }) R)) ∧
    (((∀ p R (x : Nat), setx (coreC (c.setp k p) R) (a + 2) (.int .i64 (x : Int)) = coreC (c.setp k { p with told := x }) R) ∧ (∀ p R, setx (coreC (c.setp k p) R) (a + 2) (.int .i64 0) = coreC (c.setp k { p with told := 0 }) R)) ∧ (∀ p R (x : Bool), setx (coreC (c.setp k p) R) (a + 3) (.bool x) = coreC (c.setp k { p with heard := x }) R) ∧ (∀ p R (x : Nat), setx (coreC (c.setp k p) R) (a + 4) (.int .i64 (x : Int)) = coreC (c.setp k { p with seq := x }) R))) := by
  subst ha
  have hl : ∀ p, (c.setp k p).peers.length = 7 := fun p => by unfold Core.setp; rw [List.length_set]; exact h
  have e := fun p => peer_setp (c := c) (k := k) (p := p) h hk
  have w2 : ∀ p R (x : Nat), setx (coreC (c.setp k p) R) (11 + k * 5 + 2) (.int .i64 (x : Int)) = coreC (c.setp k { p with told := x }) R := fun p R x => by rw [sp2 hk (hl p), e, setp_setp]
  refine ⟨⟨⟨fun p R => ?_, fun p R => ?_⟩, fun p R => ?_, fun p R => ?_, fun p R => ?_⟩, ⟨fun p R x => ?_, fun p R x => ?_⟩, ⟨w2, fun p R => w2 p R 0⟩, fun p R x => ?_, fun p R x => ?_⟩
  · rw [cp0' hk, e]
  · rw [cp1 hk, e]
  · rw [cp2 hk, e]
  · rw [cp3 hk, e]
  · rw [cp4 hk, e]
  · rw [sp0' hk (hl p), e, setp_setp]
  · rw [sp1 hk (hl p), e, setp_setp]
  · rw [sp3 hk (hl p), e, setp_setp]
  · rw [sp4 hk (hl p), e, setp_setp]
def Core.hear1 (c : Core) (m : Msg) : Core := c.setp m.src { c.peer m.src with heard := true, told := 0, seq := max (c.peer m.src).seq m.seq }
def Core.hearN (c : Core) (m : Msg) : Core := (c.setp m.src { c.peer m.src with heard := true, told := 0, seq := max (c.peer m.src).seq m.seq, next := max 1 (min ((c.peer m.src).next - 1) (m.index + 1)) }).send m.src
def Core.hearY (c : Core) (m : Msg) : Core := (c.setp m.src { c.peer m.src with heard := true, told := 0, seq := max (c.peer m.src).seq m.seq, match_ := max (c.peer m.src).match_ (min m.index c.last), next := max (c.peer m.src).match_ (min m.index c.last) + 1 }).advance
def Core.hear (c : Core) (m : Msg) : Core :=
  if m.yes = false then c.hearN m
  else if (c.hearY m).role = 2 ∧ (c.peer m.src).match_ < ((c.hearY m).peer m.src).match_ ∧ ((c.hearY m).peer m.src).next ≤ (c.hearY m).last then (c.hearY m).send m.src else c.hearY m
section
variable {σ : AState} {own : Nat → Nat} {t b : Nat} {c : Core} {R : Rws} {n : Nat}
theorem hear_ac (h : CoreAt σ own t b c R) (ht : 10 ≤ t) (hk : c.Ok (n + 8)) (hr : c.role = 2) {m : Msg} (hs : m.src < 7) (hid : m.src ≠ c.id) (hi : m.index < 4611686018427387904) : callD Try.prog 85 [.ptr b 0, .agg m.c] σ fun v s => v = .tup [] ∧ ∃ own' R', Now σ own t b own' (c.hear m) R' s := by
  have n0 := (Now.start h).push m.c
  have cq0 : (σ.push (.cells m.c)).cells σ.n = some m.c := push_cells _ _
  have hq0 : loc own σ.n σ.n = 0 := loc_ge (Nat.le_refl _)
  have hone : m.c.all AV.one = true := rfl
  have hpl := hk.pl
  obtain ⟨a, ha⟩ : ∃ a, a = 11 + m.src * 5 := ⟨_, rfl⟩
  have PP := pp_all hpl hs ha
  have gs0 : (0 : Int) ≤ (m.src : Int) := by omega
  have gs7 : (m.src : Int) < 7 := by omega
  obtain ⟨p, hp⟩ : ∃ p, p = c.peer m.src := ⟨_, rfl⟩
  have hnp := hk.np hr m.src hs hid
  have hmp := hk.mp hr m.src hs
  have hlt := hk.lt
  unfold Core.hear Core.hearN Core.hearY
  rw [← hp] at hnp hmp ⊢
  have hcp : c.setp m.src p = c := by rw [hp]; exact setp_self hpl hs
  obtain ⟨p1, hp1⟩ : ∃ p1 : Peer, p1 = { p with heard := true, told := 0, seq := max p.seq m.seq } := ⟨_, rfl⟩
  refine cd_wp fn85 cf85 cl85 rfl ?_
  simp only [ac85]
  unfold ab85
  rw [wpX_seq]
  refine x_mid (fun ρ s => ρ.rd 0 = .ptr b 0 ∧ ρ.rd 3 = .ptr σ.n 0 ∧ σ.n < s.n ∧ loc own σ.n σ.n = 0 ∧ Now σ own t b (loc own σ.n) c R s ∧ s.cells σ.n = some m.c) ?_ ?_
  · simp only [XU, seval, hone]
    exact ⟨by omega, hq0, n0⟩
  clear n0 cq0 hq0 h
  generalize loc own σ.n = own1
  rintro ρ s ⟨h0, h3, hqn, hq0, n0, cq⟩
  have lo := n0.tr.n
  rw [wpX_seq]
  refine x_mid (fun ρ s => ρ.rd 0 = .ptr b 0 ∧ ρ.rd 3 = .ptr σ.n 0 ∧ ρ.rd 4 = .ptr b a ∧ σ.n < s.n ∧ Now σ own t b own1 c R s ∧ s.cells σ.n = some m.c) ?_ ?_
  · simp only [XU, seval]
    refine x_dreg0 follow ?_ rfl
    have n1 := n0.slots 7 []
    have d1 : (addSlots s.n 7 s []).cells σ.n = _ := (slots_old _ hqn).trans cq
    have hq1 : σ.n < (addSlots s.n 7 s []).n := by simp only [addSlots]; omega
    rw [Msg.c_eq] at d1
    generalize addSlots s.n 7 s [] = s1 at *
    simp only [XU, seval, h0, h3, d1, gs0, gs7]
    exact ⟨by rw [ha], hq1, n1, by rw [Msg.c_eq]⟩
  clear h0 h3 hqn n0 cq
  rintro ρ s ⟨h0, h3, h4, hqn, n0, cq⟩
  rw [← hcp] at n0
  have ha5 : (a ≤ 48 ∧ a ≤ 49) ∧ (a ≤ 50 ∧ a ≤ 51 ∧ a ≤ 52) := by omega
  have hsl : ∀ p, (c.setp m.src p).peers.length = 7 := fun p => by unfold Core.setp; rw [List.length_set]; exact hpl
  have up : ∀ {own' s p} p', Now σ own t b own' (c.setp m.src p) R s → Now σ own t b own' (c.setp m.src p') R (s.put b (coreC (c.setp m.src p') R)) := fun p' h => h.upd rfl rfl rfl rfl rfl (hsl p')
  have hbq : ∀ {s p}, Now σ own t b own1 (c.setp m.src p) R s → ¬ σ.n = b := fun h e => by have := h.co.ob; rw [← e] at this; omega
  have nbq := hbq n0
  rw [wpX_seq]
  refine x_mid (fun ρ s => ρ.rd 0 = .ptr b 0 ∧ ρ.rd 3 = .ptr σ.n 0 ∧ ρ.rd 4 = .ptr b a ∧ σ.n < s.n ∧ Now σ own t b own1 (c.setp m.src { p with heard := true, told := 0 }) R s ∧ s.cells σ.n = some m.c) ?_ ?_
  · have kb := n0.co.cb
    simp only [XU, seval, h0, h3, h4, kb, PP, storeA, sets1, ha5, CS, nbq]
    exact ⟨hqn, up _ (up _ n0), cq⟩
  clear h0 h3 h4 hqn n0 cq
  rintro ρ s ⟨h0, h3, h4, hqn, n0, cq⟩
  rw [wpX_seq]
  refine x_mid (fun ρ s => ρ.rd 0 = .ptr b 0 ∧ ρ.rd 3 = .ptr σ.n 0 ∧ ρ.rd 4 = .ptr b a ∧ σ.n < s.n ∧ Now σ own t b own1 (c.setp m.src p1) R s ∧ s.cells σ.n = some m.c) ?_ ?_
  · simp only [XU, seval]
    refine d_dreg follow [] rfl ?_
    have n1 := n0.slots 11 []
    have d1 : (addSlots s.n 11 s []).cells σ.n = _ := (slots_old _ hqn).trans cq
    have hq1 : σ.n < (addSlots s.n 11 s []).n := by simp only [addSlots]; omega
    rw [Msg.c_eq] at d1
    generalize addSlots s.n 11 s [] = s1 at *
    have kb := n1.co.cb
    simp only [XU, seval, DU, h0, h3, h4, kb, PP, d1, mx2, storeA, sets1, ha5, CS]
    refine ⟨⟨?_, ?_⟩, ?_⟩
    · intro l hl c hc hf
      simp only [List.mem_cons, List.mem_nil_iff, List.not_mem_nil, or_false] at hl hc
      (repeat' (first | (rcases hl with rfl | hl) | (rcases hl with rfl))) <;> (repeat' (first | (rcases hc with rfl | hc) | (rcases hc with rfl))) <;> dsimp only at hf ⊢ <;> first
        | (exact absurd hf (by decide +kernel))
        | (simp only [XU, seval, h0, h3, h4, kb, PP, d1, mx2, storeA, sets1, ha5, CS, nbq]; done)
    · intro sl hsl; simp at hsl
    · simp only [XU, seval, h0, h3, h4, nbq]
      rw [hp1]
      exact ⟨hq1, up _ n1, by rw [Msg.c_eq]⟩
  clear h0 h3 h4 hqn n0 cq
  rintro ρ s ⟨h0, h3, h4, hqn, n0, cq⟩
  have lo := n0.tr.n
  cases hy : m.yes with
  | false =>
    rw [if_pos rfl]
    obtain ⟨N, hN⟩ : ∃ N, N = max 1 (min (p.next - 1) (m.index + 1)) := ⟨_, rfl⟩
    have eN : (c.setp m.src { p with heard := true, told := 0, seq := max p.seq m.seq, next := max 1 (min (p.next - 1) (m.index + 1)) }) = c.setp m.src { p1 with next := N } := by rw [hp1, hN]
    rw [eN]
    have w1 := wrapSub1 (a := p.next) (by omega) (by omega)
    have w2 := wrapSucc (a := m.index) (by omega)
    have mn := mn2 (p.next - 1) (m.index + 1)
    have mx : minMaxA true (.int .i64 1) [.int .i64 ((min (p.next - 1) (m.index + 1) : Nat) : Int)] = some (.int .i64 (N : Int)) := by rw [hN]; exact mx2 1 _
    have hk2 : (c.setp m.src { p1 with next := N }).Ok (n + 1) := (hk.setp hs (fun _ _ => ⟨by have := hk.s0; show c.snap.index < N; omega, by show N ≤ c.last + 1; omega⟩) (fun _ => by rw [hp1]; exact hmp)).le (by omega)
    have hx1 : (c.setp m.src { p1 with next := N }).snap.index < ((c.setp m.src { p1 with next := N }).peer m.src).next := by rw [peer_setp hpl hs]; have := hk.s0; show c.snap.index < N; omega
    have hx2 : ((c.setp m.src { p1 with next := N }).peer m.src).next < 4611686018427387904 := by rw [peer_setp hpl hs]; show N < _; omega
    have hp1n : p1.next = p.next := by rw [hp1]
    generalize p.next - 1 = P at *
    generalize m.index + 1 = M at *
    generalize min P M = L at *
    rw [wpX_seq]
    refine x_mid (fun ρ s => False) ?_ ?_
    · rw [Msg.c_eq, hy] at cq
      have d0 := cq
      simp only [XU, seval, h3, cq]
      refine d_dreg follow [] rfl ?_
      have n1 := n0.slots 14 []
      have d1 : (addSlots s.n 14 s []).cells σ.n = _ := (slots_old _ hqn).trans cq
      have hq1 : σ.n < (addSlots s.n 14 s []).n := by simp only [addSlots]; omega
      generalize addSlots s.n 14 s [] = s1 at *
      have kb := n1.co.cb
      simp only [XU, seval, DU, h0, h3, h4, kb, PP, d1, hp1n, w1, w2, mn, mx, storeA, sets1, ha5, CS]
      refine ⟨⟨?_, ?_⟩, ?_⟩
      · intro l hl c hc hf
        simp only [List.mem_cons, List.mem_nil_iff, List.not_mem_nil, or_false] at hl hc
        (repeat' (first | (rcases hl with rfl | hl) | (rcases hl with rfl))) <;> (repeat' (first | (rcases hc with rfl | hc) | (rcases hc with rfl))) <;> dsimp only at hf ⊢ <;> first
          | (exact absurd hf (by decide +kernel))
          | (simp only [XU, seval, h0, h3, h4, kb, PP, d1, hp1n, w1, w2, mn, mx, storeA, sets1, ha5, CS, nbq]; done)
      · intro sl hsl; simp at hsl
      have n2 := up { p1 with next := N } n1
      generalize s1.put b (coreC (c.setp m.src { p1 with next := N }) R) = s4 at *
      generalize c.setp m.src { p1 with next := N } = c2 at *
      simp only [XU, seval, nbq]
      refine (send_ac n2.co ht hs hk2 hx1 hx2).now fun s5 own5 R5 n5 => ?_
      have hk5 := hk2.send hs
      simp only [XU, seval, h0]
      refine (confirm_ac n5.co hk5.wt).now fun s6 own6 R6 n6 => ?_
      simp only [XU, seval]
      exact ⟨_, _, (n2.call n5).call n6⟩
    · rintro ρ s h; exact h.elim
  | true =>
    rw [if_neg (by decide)]
    obtain ⟨L, hL⟩ : ∃ L, L = min m.index c.last := ⟨_, rfl⟩
    obtain ⟨T, hT⟩ : ∃ T, T = max p.match_ L := ⟨_, rfl⟩
    have eT : (c.setp m.src { p with heard := true, told := 0, seq := max p.seq m.seq, match_ := max p.match_ (min m.index c.last), next := max p.match_ (min m.index c.last) + 1 }) = c.setp m.src { p1 with match_ := T, next := T + 1 } := by rw [hp1, hT, hL]
    rw [eT]
    have hk2 : (c.setp m.src { p1 with match_ := T, next := T + 1 }).Ok ((n + 1) + 7) := hk.setp hs (fun _ _ => ⟨by have := hk.s0; show c.snap.index < T + 1; omega, by show T + 1 ≤ c.last + 1; omega⟩) (fun _ => by show T ≤ c.last; omega)
    have mn := mn2 m.index c.last
    have mx := mx2 p.match_ L
    rw [← hL] at mn
    rw [← hT] at mx
    have wT := wrapSucc (a := T) (by omega)
    have hp1m : p1.match_ = p.match_ := by rw [hp1]
    rw [wpX_seq]
    refine x_mid (fun ρ s => ρ.rd 0 = .ptr b 0 ∧ ρ.rd 3 = .ptr σ.n 0 ∧ ρ.rd 4 = .ptr b a ∧ σ.n < s.n ∧ Now σ own t b own1 (c.setp m.src p1) R s ∧ s.cells σ.n = some m.c) ?_ ?_
    · rw [Msg.c_eq, hy] at cq
      simp only [XU, seval, h0, h3, h4, cq]
      exact ⟨hqn, n0, by rw [Msg.c_eq, hy]⟩
    clear h0 h3 h4 hqn n0 cq
    rintro ρ s ⟨h0, h3, h4, hqn, n0, cq⟩
    rw [wpX_seq]
    refine x_mid (fun ρ s => ρ.rd 0 = .ptr b 0 ∧ ρ.rd 3 = .ptr σ.n 0 ∧ ρ.rd 4 = .ptr b a ∧ ρ.rd 5 = .int .i64 (p.match_ : Int) ∧ σ.n < s.n ∧ Now σ own t b own1 (c.setp m.src p1) R s ∧ s.cells σ.n = some m.c) ?_ ?_
    · have kb := n0.co.cb
      simp only [XU, seval, h0, h3, h4, kb, PP, hp1m]
      exact ⟨hqn, n0, cq⟩
    clear h0 h3 h4 hqn n0 cq
    rintro ρ s ⟨h0, h3, h4, h5, hqn, n0, cq⟩
    rw [wpX_seq]
    refine x_mid (fun ρ s => ρ.rd 0 = .ptr b 0 ∧ ρ.rd 3 = .ptr σ.n 0 ∧ ρ.rd 4 = .ptr b a ∧ ρ.rd 5 = .int .i64 (p.match_ : Int) ∧ σ.n < s.n ∧ Now σ own t b own1 (c.setp m.src { p1 with match_ := T }) R s ∧ s.cells σ.n = some m.c) ?_ ?_
    · simp only [XU, seval]
      refine d_dreg follow [] rfl ?_
      have n1 := n0.slots 16 []
      have d1 : (addSlots s.n 16 s []).cells σ.n = _ := (slots_old _ hqn).trans cq
      have hq1 : σ.n < (addSlots s.n 16 s []).n := by simp only [addSlots]; omega
      rw [Msg.c_eq] at d1
      generalize addSlots s.n 16 s [] = s1 at *
      have kb := n1.co.cb
      have hfit : (c.setp m.src p1).fit := hk.fit
      have hlst : (c.setp m.src p1).last = c.last := rfl
      simp only [XU, seval, DU, h0, h3, h4, kb, PP, d1, hp1m]
      refine (last_o n1.co hfit).use ?_
      simp only [XU, seval, DU, h0, h3, h4, hlst, mn, mx, kb, PP, storeA, sets1, ha5, CS]
      refine ⟨⟨?_, ?_⟩, ?_⟩
      · intro l hl c hc hf
        simp only [List.mem_cons, List.mem_nil_iff, List.not_mem_nil, or_false] at hl hc
        (repeat' (first | (rcases hl with rfl | hl) | (rcases hl with rfl))) <;> (repeat' (first | (rcases hc with rfl | hc) | (rcases hc with rfl))) <;> dsimp only at hf ⊢ <;> first
          | (exact absurd hf (by decide +kernel))
          | (simp only [XU, seval, h0, h3, h4, kb, PP, d1, hp1m, mn, mx, storeA, sets1, ha5, CS, nbq]; done)
      · intro sl hsl; simp at hsl
      · simp only [XU, seval, h0, h3, h4, h5, nbq]
        exact ⟨hq1, up _ n1, by rw [Msg.c_eq]; exact d1⟩
    clear h0 h3 h4 h5 hqn n0 cq
    rintro ρ s ⟨h0, h3, h4, h5, hqn, n0, cq⟩
    rw [wpX_seq]
    refine x_mid (fun ρ s => ρ.rd 0 = .ptr b 0 ∧ ρ.rd 3 = .ptr σ.n 0 ∧ ρ.rd 4 = .ptr b a ∧ ρ.rd 5 = .int .i64 (p.match_ : Int) ∧ σ.n < s.n ∧ Now σ own t b own1 (c.setp m.src { p1 with match_ := T, next := T + 1 }) R s ∧ s.cells σ.n = some m.c) ?_ ?_
    · have kb := n0.co.cb
      simp only [XU, seval, h0, h3, h4, h5, kb, PP, wT, storeA, sets1, ha5, CS, nbq]
      exact ⟨hqn, up _ n0, cq⟩
    clear h0 h3 h4 h5 hqn n0 cq
    have hid2 : (c.setp m.src { p1 with match_ := T, next := T + 1 }).id = c.id := rfl
    generalize c.setp m.src { p1 with match_ := T, next := T + 1 } = c2 at *
    rintro ρ s ⟨h0, h3, h4, h5, hqn, n0, cq⟩
    obtain ⟨c3, hc3⟩ : ∃ c3, c3 = c2.advance := ⟨_, rfl⟩
    have hk3 := hk2.advance
    have hid3 : c2.advance.id = c.id := (advance_id hk2.pl).trans hid2
    rw [← hc3] at hk3 hid3 ⊢
    rw [wpX_seq]
    refine x_mid (fun ρ s => ∃ own' R', ρ.rd 0 = .ptr b 0 ∧ ρ.rd 3 = .ptr σ.n 0 ∧ ρ.rd 4 = .ptr b a ∧ ρ.rd 5 = .int .i64 (p.match_ : Int) ∧ σ.n < s.n ∧ Now σ own t b own' c3 R' s ∧ own' σ.n = 0 ∧ s.cells σ.n = some m.c) ?_ ?_
    · simp only [XU, seval, h0]
      rw [hc3]
      refine (advance_ac n0.co ht hk2).now fun s2 own2 R2 n2 => ?_
      have e2 := (n2.tr.cells hqn (by omega)).trans cq
      have l2 := n2.tr.n
      simp only [XU, seval, h0, h3, h4, h5]
      exact ⟨_, _, by omega, n0.call n2, (n2.tr.ow _ hqn).trans hq0, e2⟩
    clear h0 h3 h4 h5 hqn n0 cq
    rintro ρ s ⟨own2, R2, h0, h3, h4, h5, hqn, n0, hq2, cq⟩
    rw [wpX_seq]
    refine x_mid (fun ρ s => ∃ own' R', ρ.rd 0 = .ptr b 0 ∧ ρ.rd 3 = .ptr σ.n 0 ∧ ρ.rd 4 = .ptr b a ∧ ρ.rd 5 = .int .i64 (p.match_ : Int) ∧ σ.n < s.n ∧ Now σ own t b own' c3 R' s ∧ own' σ.n = 0 ∧ s.cells σ.n = some m.c) ?_ ?_
    · simp only [XU, seval, h0]
      refine (confirm_ac n0.co hk3.wt).now fun s2 own3 R3 n2 => ?_
      have e2 := (n2.tr.cells hqn (by omega)).trans cq
      have l2 := n2.tr.n
      simp only [XU, seval, h0, h3, h4, h5]
      exact ⟨_, _, by omega, n0.call n2, (n2.tr.ow _ hqn).trans hq2, e2⟩
    clear h0 h3 h4 h5 hqn n0 cq hq2
    rintro ρ s ⟨own3, R3, h0, h3, h4, h5, hqn, n0, hq3, cq⟩
    clear mn mx wT hp1m up hbq nbq PP hmp hnp hsl hk2 hc3
    have P0 := cp0' hs c3
    have P1 := cp1 hs c3
    rw [← ha] at P0 P1
    have hnp3 := fun hr => hk3.np hr m.src hs (by rw [hid3]; exact hid)
    have hlt3 := hk3.lt
    obtain ⟨p3, hp3⟩ : ∃ p3, p3 = c3.peer m.src := ⟨_, rfl⟩
    rw [← hp3] at hnp3 P0 P1 ⊢
    rw [wpX_seq]
    refine x_mid (fun ρ s => ρ.rd 0 = .ptr b 0 ∧ ρ.rd 3 = .ptr σ.n 0 ∧ ρ.rd 104 = .bool (decide (c3.role = 2 ∧ p.match_ < p3.match_ ∧ p3.next ≤ c3.last)) ∧ σ.n < s.n ∧ Now σ own t b own3 c3 R3 s ∧ s.cells σ.n = some m.c) ?_ ?_
    · simp only [XU, seval]
      refine d_dreg follow [] rfl ?_
      have n1 := n0.slots 24 []
      have d1 : (addSlots s.n 24 s []).cells σ.n = _ := (slots_old _ hqn).trans cq
      have hq1 : σ.n < (addSlots s.n 24 s []).n := by simp only [addSlots]; omega
      generalize addSlots s.n 24 s [] = s1 at *
      have kb := n1.co.cb
      have hL := last_o n1.co hk3.fit
      by_cases g1 : c3.role = 2
      rotate_left
      · have g1' : ¬ (c3.role : Int) = 2 := by omega
        have hd : decide (c3.role = 2 ∧ p.match_ < p3.match_ ∧ p3.next ≤ c3.last) = false := decide_eq_false fun e => g1 e.1
        rw [hd]
        simp only [XU, seval, DU, h0, h3, h4, h5, kb, CS, P0, P1, g1']
        refine ⟨⟨?_, ?_⟩, ?_⟩
        · intro l hl c hc hf
          simp only [List.mem_cons, List.mem_nil_iff, List.not_mem_nil, or_false] at hl hc
          (repeat' (first | (rcases hl with rfl | hl) | (rcases hl with rfl))) <;> (repeat' (first | (rcases hc with rfl | hc) | (rcases hc with rfl))) <;> dsimp only at hf ⊢ <;> first
            | (exact absurd hf (by decide +kernel))
            | (simp only [XU, seval, h0, h3, h4, h5, kb, CS, P0, P1, g1']; done)
        · intro sl hsl; simp at hsl
        · first | exact ⟨hq1, n1, d1⟩ | exact ⟨rfl, hq1, n1, d1⟩
      have g1' : (c3.role : Int) = 2 := by omega
      by_cases g2 : p.match_ < p3.match_
      rotate_left
      · have g2' : ¬ (p.match_ : Int) < (p3.match_ : Int) := by omega
        have hd : decide (c3.role = 2 ∧ p.match_ < p3.match_ ∧ p3.next ≤ c3.last) = false := decide_eq_false fun e => g2 e.2.1
        rw [hd]
        simp only [XU, seval, DU, h0, h3, h4, h5, kb, CS, P0, P1, g1', g2']
        refine ⟨⟨?_, ?_⟩, ?_⟩
        · intro l hl c hc hf
          simp only [List.mem_cons, List.mem_nil_iff, List.not_mem_nil, or_false] at hl hc
          (repeat' (first | (rcases hl with rfl | hl) | (rcases hl with rfl))) <;> (repeat' (first | (rcases hc with rfl | hc) | (rcases hc with rfl))) <;> dsimp only at hf ⊢ <;> first
            | (exact absurd hf (by decide +kernel))
            | (simp only [XU, seval, h0, h3, h4, h5, kb, CS, P0, P1, g1', g2']; done)
        · intro sl hsl; simp at hsl
        · first | exact ⟨hq1, n1, d1⟩ | exact ⟨rfl, hq1, n1, d1⟩
      have g2' : (p.match_ : Int) < (p3.match_ : Int) := by omega
      have g3' : decide ((p3.next : Int) ≤ (c3.last : Int)) = decide (c3.role = 2 ∧ p.match_ < p3.match_ ∧ p3.next ≤ c3.last) := decide_eq_decide.2 ⟨fun e => ⟨g1, g2, by omega⟩, fun e => by omega⟩
      rw [← g3']
      simp only [XU, seval, DU, h0, h3, h4, h5, kb, CS, P0, P1, g1', g2']
      refine hL.use ?_
      simp only [XU, seval, DU, h0, h3, h4, h5, kb, CS, P0, P1, g1', g2']
      refine ⟨⟨?_, ?_⟩, ?_⟩
      · intro l hl c hc hf
        simp only [List.mem_cons, List.mem_nil_iff, List.not_mem_nil, or_false] at hl hc
        (repeat' (first | (rcases hl with rfl | hl) | (rcases hl with rfl))) <;> (repeat' (first | (rcases hc with rfl | hc) | (rcases hc with rfl))) <;> dsimp only at hf ⊢ <;> first
          | (exact absurd hf (by decide +kernel))
          | (simp only [XU, seval, h0, h3, h4, h5, kb, CS, P0, P1, g1', g2']; done)
      · intro sl hsl; simp at hsl
      · first | exact ⟨hq1, n1, d1⟩ | exact ⟨rfl, hq1, n1, d1⟩
    clear h0 h3 h4 h5 hqn n0 cq hq3
    rintro ρ s ⟨h0, h3, h4, hqn, n0, cq⟩
    by_cases g : c3.role = 2 ∧ p.match_ < p3.match_ ∧ p3.next ≤ c3.last
    · rw [if_pos g]
      rw [decide_eq_true g] at h4
      rw [Msg.c_eq] at cq
      have hq3 := hnp3 g.1
      rw [hp3] at hq3
      simp only [XU, seval, h0, h3, h4, cq]
      refine (send_ac n0.co ht hs hk3 hq3.1 (by omega)).now fun s2 own4 R4 n2 => ?_
      simp only [XU, seval]
      exact ⟨_, _, n0.call n2⟩
    · rw [if_neg g]
      rw [decide_eq_false g] at h4
      simp only [XU, seval, h4]
      exact ⟨_, _, n0⟩
end
end Go.Proofs.Ythojhpjjkfjeiaa.Va
set_option maxRecDepth 100000
set_option maxHeartbeats 800000
set_option linter.all false
namespace Go.Proofs.Ythojhpjjkfjeiaa.Va
open Go.Proofs
theorem wk_agg {K : Know} {cs cs' : List AV} {x : Value} (hl : cs'.length = cs.length) (h : ∀ i (hi : i < cs.length) (hi' : i < cs'.length), cs'[i] = cs[i] ∨ (cs[i] = .nils ∧ ∃ r off, cs'[i] = .psl r off 0)) (hx : VR K (.agg cs) x) : VR K (.agg cs') x := by
  cases hx with
  | agg _ vs hl2 hvr =>
    refine .agg cs' vs (by omega) fun i hi hi' => ?_
    have hv := hvr i (by omega) hi'
    rcases h i (by omega) hi with e | ⟨e, r, off, e'⟩
    · rw [e]; exact hv
    · rw [e']
      rw [e] at hv
      generalize vs[i] = v at *
      cases hv
      exact .pslN _ _
theorem callD.weak {P : Program} {f : FuncId} {pre : List AV} {a a' : AV} {σ : AState} {k : AV → AState → Prop} (h : callD P f (pre ++ [a']) σ k) (hw : ∀ K x, VR K a x → VR K a' x) : callD P f (pre ++ [a]) σ k := by
  obtain ⟨v, s, h1, h2⟩ := h
  refine ⟨v, s, ⟨h1.1, fun K w vs hr hv => ?_⟩, h2⟩
  have hpre := hv.take pre.length
  have hpost := hv.drop pre.length
  rw [List.take_left' rfl] at hpre
  rw [List.drop_left' rfl] at hpost
  have hvs : vs = vs.take pre.length ++ vs.drop pre.length := (List.take_append_drop _ _).symm
  obtain ⟨v', vs', hd, hv1, hv2⟩ := hpost.of_cons
  rw [hvs, hd]
  exact h1.2 K w _ hr (hpre.append (.cons (hw K v' hv1) hv2))
/- A message that holds no rows. -/
def Msg.small (kind index last seq : Nat) (yes : Bool) : Msg := ⟨0, 0, kind, 0, index, last, 0, seq, yes, [], [], [], [], []⟩
section
variable {σ : AState} {own : Nat → Nat} {t b : Nat} {c : Core} {R : Rws} {n : Nat}
theorem say_raw (h : CoreAt σ own t b c R) (ht : 10 ≤ t) (kind index last seq : Nat) (yes : Bool) {to : Nat} (hc : c.out.length ≤ 100000) : callD Try.prog 79 [.ptr b 0, .int .i64 (to : Int), .agg [.int .i64 0, .int .i64 0, .int .i64 (kind : Int), .int .i64 0, .int .i64 (index : Int), .int .i64 (last : Int), .int .i64 0, .int .i64 (seq : Int), .bool yes, .nils, .nils, .nils, .nils, .nils]] σ fun v s => v = .tup [] ∧ ∃ own' R', Now σ own t b own' (c.say to (.small kind index last seq yes)) R' s := by
  refine callD.weak (pre := [.ptr b 0, .int .i64 (to : Int)]) (say_ac h ht (m := .small kind index last seq yes) hc) fun K x => wk_agg rfl fun i hi hi' => ?_
  match i, hi with
  | 0, _ => exact .inl rfl
  | 1, _ => exact .inl rfl
  | 2, _ => exact .inl rfl
  | 3, _ => exact .inl rfl
  | 4, _ => exact .inl rfl
  | 5, _ => exact .inl rfl
  | 6, _ => exact .inl rfl
  | 7, _ => exact .inl rfl
  | 8, _ => exact .inl rfl
  | 9, _ => exact .inr ⟨rfl, _, _, rfl⟩
  | 10, _ => exact .inr ⟨rfl, _, _, rfl⟩
  | 11, _ => exact .inr ⟨rfl, _, _, rfl⟩
  | 12, _ => exact .inr ⟨rfl, _, _, rfl⟩
  | 13, _ => exact .inr ⟨rfl, _, _, rfl⟩
def Core.newer (c : Core) (m : Msg) : Bool := decide (c.termAt c.last < m.last) || (decide (m.last = c.termAt c.last) && decide (c.last ≤ m.index))
def Core.okV (c : Core) (m : Msg) : Bool := (decide (m.term = c.term) && (decide (c.vote = -1) || decide (c.vote = (m.src : Int)))) && c.newer m
def Core.vouch (c : Core) (m : Msg) : Core :=
  if c.okV m = true then (Core.wait { c with vote := m.src } c.draw).say m.src (.small 2 0 0 0 true) else c.say m.src (.small 2 0 0 0 false)
theorem vouch_ac (h : CoreAt σ own t b c R) (ht : 10 ≤ t) (hk : c.Ok n) {m : Msg} : callD Try.prog 83 [.ptr b 0, .agg m.c] σ fun v s => v = .tup [] ∧ ∃ own' R', Now σ own t b own' (c.vouch m) R' s := by
  have n0 := (Now.start h).push m.c
  have cq0 : (σ.push (.cells m.c)).cells σ.n = some m.c := push_cells _ _
  have hq0 : loc own σ.n σ.n = 0 := loc_ge (Nat.le_refl _)
  have hone : m.c.all AV.one = true := rfl
  have hol := hk.ol
  have hfit := hk.fit
  unfold Core.vouch
  refine cd_wp fn83 cf83 cl83 rfl ?_
  simp only [ac83]
  unfold ab83
  rw [wpX_seq]
  refine x_mid (fun ρ s => ρ.rd 0 = .ptr b 0 ∧ ρ.rd 3 = .ptr σ.n 0 ∧ σ.n < s.n ∧ loc own σ.n σ.n = 0 ∧ Now σ own t b (loc own σ.n) c R s ∧ s.cells σ.n = some m.c) ?_ ?_
  · simp only [XU, seval, hone]
    exact ⟨by omega, hq0, n0⟩
  clear n0 cq0 hq0 h hone
  generalize loc own σ.n = own1
  rintro ρ s ⟨h0, h3, hqn, hq0, n0, cq⟩
  obtain ⟨mine, hmine⟩ : ∃ x, x = c.termAt c.last := ⟨_, rfl⟩
  rw [wpX_seq]
  refine x_mid (fun ρ s => ρ.rd 0 = .ptr b 0 ∧ ρ.rd 3 = .ptr σ.n 0 ∧ ρ.rd 4 = .int .i64 (mine : Int) ∧ σ.n < s.n ∧ Now σ own t b own1 c R s ∧ s.cells σ.n = some m.c) ?_ ?_
  · simp only [XU, seval]
    refine d_dreg follow [] rfl ?_
    have n1 := n0.slots 9 []
    have d1 : (addSlots s.n 9 s []).cells σ.n = _ := (slots_old _ hqn).trans cq
    have hq1 : σ.n < (addSlots s.n 9 s []).n := by simp only [addSlots]; omega
    generalize addSlots s.n 9 s [] = s1 at *
    simp only [XU, seval, DU, h0, h3]
    refine (last_o n1.co hfit).use ?_
    simp only [XU, seval, DU, h0, h3]
    refine (termAt_o n1.co hfit).use ?_
    simp only [XU, seval, DU, h0, h3]
    refine ⟨⟨?_, ?_⟩, ?_⟩
    · intro l hl; simp at hl
    · intro sl hsl; simp at hsl
    · rw [hmine]; first | exact ⟨hq1, n1, d1⟩ | exact ⟨rfl, hq1, n1, d1⟩
  clear h0 h3 hqn n0 cq
  rintro ρ s ⟨h0, h3, h4, hqn, n0, cq⟩
  rw [wpX_seq]
  refine x_mid (fun ρ s => ρ.rd 0 = .ptr b 0 ∧ ρ.rd 3 = .ptr σ.n 0 ∧ ρ.rd 5 = .bool (c.newer m) ∧ σ.n < s.n ∧ Now σ own t b own1 c R s ∧ s.cells σ.n = some m.c) ?_ ?_
  · simp only [XU, seval]
    refine d_dreg follow [] rfl ?_
    have n1 := n0.slots 20 []
    have d1 : (addSlots s.n 20 s []).cells σ.n = _ := (slots_old _ hqn).trans cq
    have d0 := d1
    have hq1 : σ.n < (addSlots s.n 20 s []).n := by simp only [addSlots]; omega
    rw [Msg.c_eq] at d1
    generalize addSlots s.n 20 s [] = s1 at *
    unfold Core.newer
    rw [← hmine]
    by_cases g1 : mine < m.last
    · have g1' : (mine : Int) < (m.last : Int) := by omega
      rw [decide_eq_true g1, Bool.true_or]
      simp only [XU, seval, DU, h0, h3, h4, d1, g1']
      refine ⟨⟨?_, ?_⟩, ?_⟩
      · intro l hl c hc hf
        simp only [List.mem_cons, List.mem_nil_iff, List.not_mem_nil, or_false] at hl hc
        (repeat' (first | (rcases hl with rfl | hl) | (rcases hl with rfl))) <;> (repeat' (first | (rcases hc with rfl | hc) | (rcases hc with rfl))) <;> dsimp only at hf ⊢ <;> first
          | (exact absurd hf (by decide +kernel))
          | (simp only [XU, seval, h0, h3, h4, d1, g1']; done)
      · intro sl hsl; simp at hsl
      · first | exact ⟨hq1, n1, d0⟩ | exact ⟨rfl, hq1, n1, d0⟩ | exact ⟨hq1, n1, by rw [Msg.c_eq]⟩
    have g1' : ¬ (mine : Int) < (m.last : Int) := by omega
    rw [decide_eq_false g1, Bool.false_or]
    by_cases g2 : m.last = mine
    rotate_left
    · have g2' : ¬ (m.last : Int) = (mine : Int) := by omega
      rw [decide_eq_false g2, Bool.false_and]
      simp only [XU, seval, DU, h0, h3, h4, d1, g1', g2']
      refine ⟨⟨?_, ?_⟩, ?_⟩
      · intro l hl c hc hf
        simp only [List.mem_cons, List.mem_nil_iff, List.not_mem_nil, or_false] at hl hc
        (repeat' (first | (rcases hl with rfl | hl) | (rcases hl with rfl))) <;> (repeat' (first | (rcases hc with rfl | hc) | (rcases hc with rfl))) <;> dsimp only at hf ⊢ <;> first
          | (exact absurd hf (by decide +kernel))
          | (simp only [XU, seval, h0, h3, h4, d1, g1', g2']; done)
      · intro sl hsl; simp at hsl
      · first | exact ⟨hq1, n1, d0⟩ | exact ⟨rfl, hq1, n1, d0⟩ | exact ⟨hq1, n1, by rw [Msg.c_eq]⟩
    have g2' : (m.last : Int) = (mine : Int) := by omega
    have g3 : decide ((c.last : Int) ≤ (m.index : Int)) = decide (c.last ≤ m.index) := decide_eq_decide.2 (by omega)
    rw [decide_eq_true g2, Bool.true_and, ← g3]
    have hirr : ¬ (mine : Int) < (mine : Int) := by omega
    simp only [XU, seval, DU, h0, h3, h4, d1, g2', hirr]
    refine (last_o n1.co hfit).use ?_
    simp only [XU, seval, DU, h0, h3, h4, d1, g2', hirr]
    refine ⟨⟨?_, ?_⟩, ?_⟩
    · intro l hl c hc hf
      simp only [List.mem_cons, List.mem_nil_iff, List.not_mem_nil, or_false] at hl hc
      (repeat' (first | (rcases hl with rfl | hl) | (rcases hl with rfl))) <;> (repeat' (first | (rcases hc with rfl | hc) | (rcases hc with rfl))) <;> dsimp only at hf ⊢ <;> first
        | (exact absurd hf (by decide +kernel))
        | (simp only [XU, seval, h0, h3, h4, d1, g2', hirr]; done)
    · intro sl hsl; simp at hsl
    · exact ⟨hq1, n1, by rw [Msg.c_eq, g2']⟩
  clear h0 h3 h4 hqn n0 cq hmine
  rintro ρ s ⟨h0, h3, h5, hqn, n0, cq⟩
  rw [wpX_seq]
  refine x_mid (fun ρ s => ρ.rd 0 = .ptr b 0 ∧ ρ.rd 3 = .ptr σ.n 0 ∧ ρ.rd 6 = .bool (c.okV m) ∧ σ.n < s.n ∧ Now σ own t b own1 c R s ∧ s.cells σ.n = some m.c) ?_ ?_
  · simp only [XU, seval]
    refine d_dreg follow [] rfl ?_
    have n1 := n0.slots 27 []
    have d1 : (addSlots s.n 27 s []).cells σ.n = _ := (slots_old _ hqn).trans cq
    have hq1 : σ.n < (addSlots s.n 27 s []).n := by simp only [addSlots]; omega
    rw [Msg.c_eq] at d1 ⊢
    generalize addSlots s.n 27 s [] = s1 at *
    have kb := n1.co.cb
    unfold Core.okV
    generalize c.newer m = nw at *
    by_cases g1 : m.term = c.term
    rotate_left
    · have g1' : ¬ (m.term : Int) = (c.term : Int) := by omega
      rw [decide_eq_false g1, Bool.false_and, Bool.false_and]
      simp only [XU, seval, DU, h0, h3, h5, d1, kb, CS, g1']
      refine ⟨⟨?_, ?_⟩, ?_⟩
      · intro l hl c hc hf
        simp only [List.mem_cons, List.mem_nil_iff, List.not_mem_nil, or_false] at hl hc
        (repeat' (first | (rcases hl with rfl | hl) | (rcases hl with rfl))) <;> (repeat' (first | (rcases hc with rfl | hc) | (rcases hc with rfl))) <;> dsimp only at hf ⊢ <;> first
          | (exact absurd hf (by decide +kernel))
          | (simp only [XU, seval, h0, h3, h5, d1, kb, CS, g1']; done)
      · intro sl hsl; simp at hsl
      · exact ⟨hq1, n1⟩
    have g1' : (m.term : Int) = (c.term : Int) := by omega
    rw [decide_eq_true g1, Bool.true_and]
    by_cases g2 : c.vote = -1
    · rw [decide_eq_true g2, Bool.true_or, Bool.true_and]
      simp only [XU, seval, DU, h0, h3, h5, d1, kb, CS, g1', g2]
      refine ⟨⟨?_, ?_⟩, ?_⟩
      · intro l hl c hc hf
        simp only [List.mem_cons, List.mem_nil_iff, List.not_mem_nil, or_false] at hl hc
        (repeat' (first | (rcases hl with rfl | hl) | (rcases hl with rfl))) <;> (repeat' (first | (rcases hc with rfl | hc) | (rcases hc with rfl))) <;> dsimp only at hf ⊢ <;> first
          | (exact absurd hf (by decide +kernel))
          | (simp only [XU, seval, h0, h3, h5, d1, kb, CS, g1', g2]; done)
      · intro sl hsl; simp at hsl
      · exact ⟨hq1, n1⟩
    rw [decide_eq_false g2, Bool.false_or]
    by_cases g3 : c.vote = (m.src : Int)
    · rw [decide_eq_true g3, Bool.true_and]
      simp only [XU, seval, DU, h0, h3, h5, d1, kb, CS, g1', g2, g3]
      refine ⟨⟨?_, ?_⟩, ?_⟩
      · intro l hl c hc hf
        simp only [List.mem_cons, List.mem_nil_iff, List.not_mem_nil, or_false] at hl hc
        (repeat' (first | (rcases hl with rfl | hl) | (rcases hl with rfl))) <;> (repeat' (first | (rcases hc with rfl | hc) | (rcases hc with rfl))) <;> dsimp only at hf ⊢ <;> first
          | (exact absurd hf (by decide +kernel))
          | (simp only [XU, seval, h0, h3, h5, d1, kb, CS, g1', g2, g3]; done)
      · intro sl hsl; simp at hsl
      · exact ⟨hq1, n1⟩
    · rw [decide_eq_false g3, Bool.false_and]
      simp only [XU, seval, DU, h0, h3, h5, d1, kb, CS, g1', g2, g3]
      refine ⟨⟨?_, ?_⟩, ?_⟩
      · intro l hl c hc hf
        simp only [List.mem_cons, List.mem_nil_iff, List.not_mem_nil, or_false] at hl hc
        (repeat' (first | (rcases hl with rfl | hl) | (rcases hl with rfl))) <;> (repeat' (first | (rcases hc with rfl | hc) | (rcases hc with rfl))) <;> dsimp only at hf ⊢ <;> first
          | (exact absurd hf (by decide +kernel))
          | (simp only [XU, seval, h0, h3, h5, d1, kb, CS, g1', g2, g3]; done)
      · intro sl hsl; simp at hsl
      · exact ⟨hq1, n1⟩
  clear h0 h3 h5 hqn n0 cq
  rintro ρ s ⟨h0, h3, h6, hqn, n0, cq⟩
  rw [Msg.c_eq] at cq
  have kb := n0.co.cb
  have hbq : ¬ σ.n = b := fun e => by have := n0.co.ob; rw [← e] at this; omega
  cases hv : c.okV m with
  | false =>
    rw [hv] at h6
    rw [if_neg (by decide)]
    simp only [XU, seval, h0, h3, h6, cq]
    refine (say_raw n0.co ht 2 0 0 0 false (by omega)).now fun s2 own2 R2 n2 => ?_
    simp only [XU, seval]
    exact ⟨_, _, n0.call n2⟩
  | true =>
    rw [hv] at h6
    rw [if_pos rfl]
    have n1 := n0.upd (c' := { c with vote := m.src }) rfl rfl rfl rfl rfl n0.co.pl
    simp only [XU, seval, h0, h3, h6, cq, kb, CS, storeA, sets1]
    have hW := wait_ac n1.co.cb (d := c.draw)
    have n2 := n1.upd (c' := Core.wait { c with vote := m.src } c.draw) rfl rfl rfl rfl rfl n1.co.pl
    have cq2 := (show ((s.put b (coreC { c with vote := m.src } R)).put b (coreC (Core.wait { c with vote := m.src } c.draw) R)).cells σ.n = s.cells σ.n by rw [put_get, if_neg hbq, put_get, if_neg hbq]).trans cq
    have ho2 : (Core.wait { c with vote := m.src } c.draw).out.length ≤ 100000 := by show c.out.length ≤ _; omega
    generalize s.put b (coreC { c with vote := m.src } R) = s4 at *
    generalize Core.wait { c with vote := m.src } c.draw = c4 at *
    refine callD.use hW ?_
    generalize s4.put b (coreC c4 R) = s5 at *
    simp only [XU, seval, h0, h3, h6, cq2]
    refine (say_raw n2.co ht 2 0 0 0 true ho2).now fun s2 own2 R2 n3 => ?_
    simp only [XU, seval]
    exact ⟨_, _, n2.call n3⟩
end
end Go.Proofs.Ythojhpjjkfjeiaa.Va
set_option maxRecDepth 100000
set_option maxHeartbeats 800000
set_option linter.all false
namespace Go.Proofs.Ythojhpjjkfjeiaa.Va
open Go.Proofs
def Peer.fresh (n : Nat) : Peer := ⟨n, 0, 0, false, 0⟩
def Core.leadN (c : Core) : Nat → Core
  | 0 => { c with role := 2, beat := 0, waits := [] }
  | k + 1 => (c.leadN k).setp k (.fresh (c.last + 1))
def Core.lead (c : Core) : Core := c.leadN 7
def Core.won (c : Core) : Core := if c.l.length < 64 then c.lead.add ⟨c.term, 0, [], []⟩ else c.lead
def Core.win (c : Core) : Core := if c.quorum (fun x => decide (x ∈ c.yes)) = true then c.won.tell.advance else c
theorem leadN_same {c : Core} (h : c.peers.length = 7) : ∀ k, k ≤ 7 → (∃ p, c.leadN k = { c with role := 2, beat := 0, waits := [], peers := p } ∧ p.length = 7) ∧ ∀ j, j < k → (c.leadN k).peer j = .fresh (c.last + 1) := by
  intro k
  induction k with
  | zero => intro _; exact ⟨⟨c.peers, rfl, h⟩, fun j hj => absurd hj (by omega)⟩
  | succ k ih =>
    intro hk
    obtain ⟨⟨p, e, hp⟩, hj⟩ := ih (by omega)
    have hl : (c.leadN k).peers.length = 7 := by rw [e]; exact hp
    refine ⟨⟨p.set k (.fresh (c.last + 1)), ?_, by rw [List.length_set]; exact hp⟩, fun j hj' => ?_⟩
    · show (c.leadN k).setp k _ = _
      rw [e]; rfl
    · show ((c.leadN k).setp k _).peer j = _
      rw [setp_get hl (by omega)]
      by_cases ej : j = k
      · rw [if_pos ej]
      · rw [if_neg ej]; exact hj j (by omega)
theorem Core.Ok.lead {c : Core} {n : Nat} (h : c.Ok n) : c.lead.Ok n := by
  obtain ⟨⟨p, e, hp⟩, hj⟩ := leadN_same h.pl 7 (Nat.le_refl _)
  have e' : c.lead = { c with role := 2, beat := 0, waits := [], peers := p } := e
  have hs0 := h.s0
  have hpe : ∀ j, j < 7 → Core.peer { c with role := 2, beat := 0, waits := [], peers := p } j = .fresh (c.last + 1) := fun j hj' => by rw [← e']; exact hj j hj'
  rw [e']
  refine ⟨h.lt, h.ll, h.ld, h.sm, h.ol, h.yl, fun _ to h7 _ => ?_, h.cm, rfl, h.tm, hp, h.s0, fun _ k hk => ?_⟩
  · rw [hpe to h7]
    exact ⟨by show c.snap.index < c.last + 1; omega, Nat.le_refl _⟩
  · rw [hpe k hk]; exact Nat.zero_le _
theorem Core.Ok.add {c : Core} {n : Nat} {e : Ent} (h : c.Ok n) (hl : c.l.length < 999) (hd : e.data.length ≤ 1000000 ∧ mems e.mem) : (c.add e).Ok n := by
  have hs0 := h.s0
  have hlast : (c.add e).last = c.last + 1 := by unfold Core.add Core.last; simp only [List.length_append, List.length_singleton]; omega
  have hcl : c.last = c.l.length := by unfold Core.last; omega
  have hcm := h.cm
  refine ⟨by rw [hlast]; omega, by unfold Core.add; simp only [List.length_append, List.length_singleton]; omega, fun x hx => ?_, h.sm, h.ol, h.yl, fun hr to h7 hid => ?_, by rw [hlast]; exact Nat.le_trans hcm (Nat.le_succ _), h.wt, h.tm, h.pl, h.s0, fun hr k hk => ?_⟩
  · unfold Core.add at hx
    simp only [List.mem_append, List.mem_singleton] at hx
    rcases hx with hx | hx
    · exact h.ld x hx
    · rw [hx]; exact hd
  · have := h.np hr to h7 hid
    rw [hlast]
    exact ⟨this.1, Nat.le_succ_of_le this.2⟩
  · rw [hlast]
    exact Nat.le_succ_of_le (h.mp hr k hk)
section
variable {σ : AState} {own : Nat → Nat} {t b : Nat} {c : Core} {R : Rws} {n : Nat}
/- An entry that holds nothing, as it is built. -/
theorem add_raw (h : CoreAt σ own t b c R) (ht : 10 ≤ t) (term : Nat) (hc : c.l.length ≤ 100000) : callD Try.prog 62 [.ptr b 0, .agg [.int .i64 (term : Int), .int .i64 0, .nils, .nils]] σ fun v s => v = .tup [] ∧ ∃ own' R', Now σ own t b own' (c.add ⟨term, 0, [], []⟩) R' s := by
  refine callD.weak (pre := [.ptr b 0]) (add_ac h ht (e := ⟨term, 0, [], []⟩) hc (Nat.zero_le _) (Nat.zero_le _)) fun K x => wk_agg rfl fun i hi hi' => ?_
  match i, hi with
  | 0, _ => exact .inl rfl
  | 1, _ => exact .inl rfl
  | 2, _ => exact .inr ⟨rfl, _, _, rfl⟩
  | 3, _ => exact .inr ⟨rfl, _, _, rfl⟩
theorem win1_ac (h : CoreAt σ own t b c R) (ht : 10 ≤ t) (hk : c.Ok (n + 14)) : callD Try.prog 81 [.ptr b 0] σ fun v s => v = .tup [] ∧ ∃ own' R', Now σ own t b own' c.win R' s := by
  have n0 := (Now.start h).push [.ptr b 0]
  have c0 : (σ.push (.cells [.ptr b 0])).cells σ.n = some [.ptr b 0] := push_cells _ _
  have hq0 : loc own σ.n σ.n = 0 := loc_ge (Nat.le_refl _)
  have hyl := hk.yl
  have hlt := hk.lt
  have hpl := hk.pl
  have one : ∀ (s1 : AState) (x y : AV), Pur s1 true x y → ∀ i (hi : 0 + i < [x].length) (hi' : i < [y].length), Pur s1 true [x][0 + i] [y][i] := fun s1 x y h i hi hi' => by
    have : i = 0 := by simp only [List.length_singleton] at hi'; omega
    subst this
    exact h
  have hp : PurL (σ.push (.cells [.ptr b 0])) true [.ptr σ.n 0] [.pptr [c.pp] 0] := .cons (.ptr σ.n 0 1 _ _ c0 (Nat.le_refl _) rfl (one _ _ _ n0.co.pur)) .nil
  have hQ := quorum_o n0.co hk (is := fun x => decide (x ∈ c.yes)) hp fun k hk7 σ => win_ac (c := c) (x := (k : Int)) (σ := σ) (by omega)
  unfold Core.win
  have hqn : σ.n < (σ.push (.cells [.ptr b 0])).n := Nat.lt_succ_self _
  have hbq : ∀ {s c' R'}, Now σ own t b (loc own σ.n) c' R' s → ¬ σ.n = b := fun h e => by have := h.co.ob; rw [← e] at this; omega
  have nbq := hbq n0
  refine cd_wp fn81 cf81 cl81 rfl ?_
  simp only [ac81]
  unfold ab81
  simp only [XU, seval, c0]
  generalize σ.push (.cells [.ptr b 0]) = s1 at *
  refine callD.use hQ ?_
  cases hq : c.quorum (fun x => decide (x ∈ c.yes)) with
  | false =>
    rw [if_neg (by decide)]
    simp only [XU, seval]
    exact ⟨_, _, n0⟩
  | true =>
    rw [if_pos rfl]
    have kb := n0.co.cb
    simp only [XU, seval, c0]
    refine d_dreg follow [] rfl ?_
    have n1 := n0.slots 12 []
    have d1 : (addSlots s1.n 12 s1 []).cells σ.n = _ := (slots_old _ hqn).trans c0
    have hq1 : σ.n < (addSlots s1.n 12 s1 []).n := by simp only [addSlots]; omega
    generalize addSlots s1.n 12 s1 [] = s2 at *
    clear n0 c0 hqn kb hp hQ one
    have kb := n1.co.cb
    have hb0 : ∀ c R, setx (coreC c R) 51 (.int .i64 0) = coreC { c with beat := 0 } R := fun _ _ => rfl
    simp only [XU, seval, DU, d1, kb, CS, hb0, storeA, sets1, nbq]
    refine ⟨⟨?_, ?_⟩, ?_⟩
    · intro l hl c hc hf
      simp only [List.mem_cons, List.mem_nil_iff, List.not_mem_nil, or_false] at hl hc
      (repeat' (first | (rcases hl with rfl | hl) | (rcases hl with rfl))) <;> (repeat' (first | (rcases hc with rfl | hc) | (rcases hc with rfl))) <;> dsimp only at hf ⊢ <;> first
        | (exact absurd hf (by decide +kernel))
        | (simp only [XU, seval, d1, kb, CS, hb0, storeA, sets1, nbq]; done)
    · intro sl hsl; simp at hsl
    have n2 := ((n1.upd (c' := { c with role := 2 }) rfl rfl rfl rfl rfl n1.co.pl).upd (c' := { c with role := 2, beat := 0 }) rfl rfl rfl rfl rfl n1.co.pl).nil_waits
    have hsame := leadN_same hpl
    have hkl := hk.lead
    refine x_for (fun k ρ s => ρ.rd 1 = .ptr σ.n 0 ∧ ρ.rd 16 = .int .i64 (k : Int) ∧ ∃ own' R', Now σ own t b own' (c.leadN k) R' s ∧ own' σ.n = 0 ∧ σ.n < s.n ∧ s.cells σ.n = some [.ptr b 0]) 7 ?_ ?_
    · simp only [XU, seval]
      exact ⟨_, _, n2, hq0, hq1, by rw [if_neg nbq, if_neg nbq, if_neg nbq]; exact d1⟩
    clear n1 n2 d1 hq1 kb hq0 hbq
    rintro k ρ s hk7 ⟨h1, h16, own1, R1, n1, hq0, hqn, d1⟩
    by_cases hlt7 : k < 7
    rotate_left
    · have : k = 7 := by omega
      subst this
      have el : c.leadN 7 = c.lead := rfl
      rw [el] at n1
      obtain ⟨⟨pp, e, hpp⟩, _⟩ := hsame 7 (Nat.le_refl _)
      rw [el] at e
      have hll : c.lead.l = c.l := by rw [e]
      have htm : c.lead.term = c.term := by rw [e]
      have hro : c.lead.role = 2 := by rw [e]
      have hlen := hk.ll
      unfold Core.won
      generalize c.lead = d at *
      clear e hsame
      have kb := n1.co.cb
      have g7 : ¬ ((7 : Nat) : Int) < 7 := by omega
      have hform := n1.co.rl.form
      rw [hll] at hform
      have fin : ∀ {s' : AState} {own2 R2 d2}, Now σ own t b own2 d2 R2 s' → own2 σ.n = 0 → σ.n < s'.n → s'.cells σ.n = some [.ptr b 0] → d2.Ok (n + 14) → d2.role = 2 → True := fun _ _ _ _ _ _ => trivial
      by_cases g : c.l.length < 64
      · have g' : (c.l.length : Int) < 64 := by omega
        rw [if_pos g]
        have hadd : (d.add ⟨c.term, 0, [], []⟩).Ok (n + 14) := hkl.add (by rw [hll]; omega) ⟨Nat.zero_le _, Nat.zero_le _, fun x hx => by cases hx⟩
        rcases hform with ef | ⟨bf, cf, ef⟩
        all_goals
          simp only [XU, seval, h1, h16, d1, kb, CS, ef, g']
          refine d_dreg follow [] rfl ?_
          have n2 := n1.slots 9 []
          have d2 : (addSlots s.n 9 s []).cells σ.n = _ := (slots_old _ hqn).trans d1
          have hq2 : σ.n < (addSlots s.n 9 s []).n := by simp only [addSlots]; omega
          generalize addSlots s.n 9 s [] = s2 at *
          have kb2 := n2.co.cb
          simp only [XU, seval, DU, h1, d2, kb2, CS, htm]
          refine (add_raw n2.co ht c.term (by rw [hll]; omega)).now fun s3 own3 R3 n3 => ?_
          have d3 := (n3.tr.cells hq2 (by omega)).trans d2
          have hq3 := (n3.tr.ow _ hq2).trans hq0
          have l3 := Nat.lt_of_lt_of_le hq2 n3.tr.n
          have hro2 : (d.add ⟨c.term, 0, [], []⟩).role = 2 := hro
          generalize d.add ⟨c.term, 0, [], []⟩ = f at *
          simp only [XU, seval, DU, h1, d2, d3, kb2, CS]
          refine ⟨⟨?_, ?_⟩, ?_⟩
          · intro l hl c hc hf
            simp only [List.mem_cons, List.mem_nil_iff, List.not_mem_nil, or_false] at hl hc
            (repeat' (first | (rcases hl with rfl | hl) | (rcases hl with rfl))) <;> (repeat' (first | (rcases hc with rfl | hc) | (rcases hc with rfl))) <;> dsimp only at hf ⊢ <;> first
              | (exact absurd hf (by decide +kernel))
              | (simp only [XU, seval, h1, d2, d3, kb2, CS, htm]; done)
          · intro sl hsl; simp at hsl
          have n4 := n2.call n3
          clear n2 n3 d2 hq2 kb2 kb n1 hqn d1
          refine (tell_ac n4.co ht (hadd.le (m := n + 7 + 7) (by omega)) hro2).now fun s5 own5 R5 n5 => ?_
          have d5 := (n5.tr.cells l3 (by omega)).trans d3
          have hk5 := (hadd.le (m := n + 7 + 7) (by omega)).tell
          generalize f.tell = f5 at *
          simp only [XU, seval, h1, d5]
          refine (advance_ac n5.co ht hk5).now fun s6 own6 R6 n6 => ?_
          simp only [XU, seval]
          exact ⟨_, _, (n4.call n5).call n6⟩
      · have g' : ¬ (c.l.length : Int) < 64 := by omega
        rw [if_neg g]
        obtain ⟨bf, cf, ef⟩ : ∃ bf cf, R1.l = .sl bf 0 c.l.length cf 4 := by
          rcases hform with ef | e
          · have := n1.co.rl.len.1
            rw [ef, hll] at this
            have h0 : c.l.length = 0 := (Option.some.inj this).symm
            omega
          · exact e
        simp only [XU, seval, h1, h16, d1, kb, CS, ef, g']
        refine (tell_ac n1.co ht (hkl.le (m := n + 7 + 7) (by omega)) hro).now fun s5 own5 R5 n5 => ?_
        have d5 := (n5.tr.cells hqn (by omega)).trans d1
        have hk5 := (hkl.le (m := n + 7 + 7) (by omega)).tell
        generalize d.tell = f5 at *
        simp only [XU, seval, h1, d5]
        refine (advance_ac n5.co ht hk5).now fun s6 own6 R6 n6 => ?_
        simp only [XU, seval]
        exact ⟨_, _, (n1.call n5).call n6⟩
    have g1 : (k : Int) < 7 := by omega
    have g0 : (0 : Int) ≤ (k : Int) := by omega
    have wk := wrapSucc (a := k) (by omega)
    have hnext : c.leadN (k + 1) = (c.leadN k).setp k (.fresh (c.last + 1)) := rfl
    obtain ⟨⟨pp, e, hpp⟩, hj⟩ := hsame k hk7
    have hl7 : (c.leadN k).peers.length = 7 := by rw [e]; exact hpp
    have hlast : (c.leadN k).last = c.last := by rw [e]; rfl
    have hfit : (c.leadN k).fit := by unfold Core.fit; rw [hlast]; exact hk.fit
    rw [hnext]
    generalize c.leadN k = d at *
    clear e hj
    obtain ⟨a, ha⟩ : ∃ a, a = 11 + k * 5 := ⟨_, rfl⟩
    have ha5 : (a ≤ 48 ∧ a ≤ 49) ∧ (a ≤ 50 ∧ a ≤ 51 ∧ a ≤ 52) := by omega
    have hsp : ∀ R, sets (coreC d R) a [.int .i64 ((c.last + 1 : Nat) : Int), .int .i64 0, .int .i64 0, .bool false, .int .i64 0] = coreC (d.setp k (.fresh (c.last + 1))) R := fun R => by rw [ha]; exact spA hlt7 hl7 R (.fresh (c.last + 1))
    have w1 := wrapSucc (a := c.last) (by omega)
    simp only [XU, seval, h1, h16, g1]
    refine d_dreg follow [] rfl ?_
    have n2 := n1.slots 12 []
    have d2 : (addSlots s.n 12 s []).cells σ.n = _ := (slots_old _ hqn).trans d1
    have hq2 : σ.n < (addSlots s.n 12 s []).n := by simp only [addSlots]; omega
    generalize addSlots s.n 12 s [] = s2 at *
    have kb := n2.co.cb
    have nbq : ¬ σ.n = b := fun e => by have := n2.co.ob; rw [← e] at this; omega
    simp only [XU, seval, DU, h1, h16, d2, kb, CS]
    refine (last_o n2.co hfit).use ?_
    rw [hlast]
    obtain ⟨N, hN⟩ : ∃ N, N = c.last + 1 := ⟨_, rfl⟩
    rw [← hN] at w1 hsp ⊢
    have hst : storeA s2 (.ptr b (11 + k * 5)) [.int .i64 (N : Int), .int .i64 0, .int .i64 0, .bool false, .int .i64 0] = some (s2.put b (coreC (d.setp k (.fresh N)) R1)) := by
      have h5 : Nat.ble (11 + k * 5 + 5) 53 = true := by rw [Nat.ble_eq]; omega
      have hsp' := hsp R1
      rw [ha] at hsp'
      simp [storeA, kb, coreC_len, h5, AV.one, hsp']
    simp only [XU, seval, DU, h1, h16, d2, kb, CS, w1, g0, g1]
    simp only [XU, seval, DU, hst, h1, h16, wk]
    refine ⟨⟨?_, ?_⟩, hlt7, ?_⟩
    · intro l hl c hc hf
      simp only [List.mem_cons, List.mem_nil_iff, List.not_mem_nil, or_false] at hl hc
      (repeat' (first | (rcases hl with rfl | hl) | (rcases hl with rfl))) <;> (repeat' (first | (rcases hc with rfl | hc) | (rcases hc with rfl))) <;> dsimp only at hf ⊢ <;> first
        | (exact absurd hf (by decide +kernel))
        | (simp only [XU, seval, h1, h16, d2, kb, CS, w1, nbq]; done)
    · intro sl hsl; simp at hsl
    have n3 := n2.upd (c' := d.setp k (.fresh N)) rfl rfl rfl rfl rfl (by unfold Core.setp; rw [List.length_set]; exact hl7)
    exact ⟨_, _, n3, hq0, hq2, by rw [if_neg nbq]; exact d2⟩
end
end Go.Proofs.Ythojhpjjkfjeiaa.Va
set_option maxRecDepth 100000
set_option maxHeartbeats 800000
set_option linter.all false
namespace Go.Proofs.Ythojhpjjkfjeiaa.Va
open Go.Proofs
/- A call that tells of the memory only that nothing old turned, used. -/
theorem callD.kept {P : Program} {f : FuncId} {args : List AV} {a : AV} {σ : AState} {k : AV → AState → Prop} (h : callD P f args σ fun v s => v = a ∧ Keeps σ.n σ s) (hk : ∀ s, Keeps σ.n σ s → k a s) : callD P f args σ k :=
  h.mono fun v s e => by
    obtain ⟨rfl, n⟩ := e
    exact hk s n
section
variable {σ s : AState} {own own' : Nat → Nat} {t b : Nat} {c : Core} {R : Rws} {n : Nat}
/- A local block becomes the row of those who said yes. -/
theorem Now.take_yes (h : Now σ own t b own' c R s) (ht : 10 ≤ t) {q : Nat} {x : Int} (hq : σ.n ≤ q) (hs : q < s.n) (h0 : own' q = 0) (hc : s.cells q = some [.int .i64 x]) :
    Now σ own t b (fun k => if k = q then t + 2 else own' k) { c with yes := [x] } { R with yes := .sl q 0 1 (some 1) 1 } (s.put b (coreC c { R with yes := .sl q 0 1 (some 1) 1 })) := by
  have hob := h.co.ob
  have hbq : ¬ b = q := fun e => by rw [e] at hob; omega
  have hne : ∀ j, 0 < j → ¬ (if b = q then t + 2 else own' b) = t + j := fun j hj => by rw [if_neg hbq]; omega
  have mv : ∀ j k, own' k = t + j → (if k = q then t + 2 else own' k) = t + j := fun j k e => by
    have : ¬ k = q := fun e' => by rw [e'] at e; omega
    rw [if_neg this]; exact e
  refine ⟨⟨h.tr.n, fun k hk => ?_, fun k hk hm => ?_⟩, ?_⟩
  · have : ¬ k = q := by omega
    simp only [this, if_false]
    exact h.tr.ow k hk
  · have : k ≠ b := fun e => hm (by subst e; unfold Mine; rw [← h.tr.ow k hk]; omega)
    exact (put_h this).trans (h.tr.keep k hk hm)
  · refine ⟨by rw [put_get, if_pos rfl]; rfl, by simp only [if_neg hbq]; exact hob, h.co.bn, ?_, ?_, ?_, ?_, ?_, h.co.pl⟩
    · exact (h.co.rl.mono fun k hk _ => mv 1 k hk).put (hne 1 (by omega)) _
    · have hr : RowP (fun k => (if k = q then t + 2 else own' k) = t + 2) s (.sl q 0 1 (some 1) 1) (ofInts [x]) [x].length 1 := RowP.of (by rw [if_pos rfl]) hs hc rfl
      exact hr.put (hne 2 (by omega)) _
    · exact (h.co.rw.mono fun k hk _ => mv 3 k hk).put (hne 3 (by omega)) _
    · exact (h.co.rr.mono fun k hk _ => mv 4 k hk).put (hne 4 (by omega)) _
    · exact (h.co.ro.mono fun k hk _ => mv 5 k hk).put (hne 5 (by omega)) _
theorem members_ac (h : CoreAt σ own t b c R) (hk : c.Ok n) : callD Try.prog 20 [.ptr b 0] σ fun v s => v = intsP (c.counted c.last).1 ∧ Keeps σ.n σ s := by
  have hm := (hk.counted c.last).1
  have hfit := hk.fit
  refine cd_wp fn20 cf20 cl20 rfl ?_
  simp only [ac20]
  unfold ab20
  simp only [XU, seval]
  refine d_dreg follow [] rfl ?_
  have n1 := h.slots 13 []
  have k1 : Keeps σ.n σ (addSlots σ.n 13 σ []) := slots_keep (Keeps.refl σ)
  generalize addSlots σ.n 13 σ [] = s1 at *
  simp only [XU, seval, DU]
  refine (last_o n1 hfit).use ?_
  simp only [XU, seval, DU]
  refine (counted_o n1 hfit).kept fun s2 k2 => ?_
  generalize c.counted c.last = X at *
  unfold cntP
  simp only [XU, seval, DU]
  refine ⟨⟨?_, ?_⟩, ?_⟩
  · intro l hl; simp at hl
  · intro sl hsl; simp at hsl
  refine (cloneI_ac (Nat.le_trans hm (by omega))).use ?_
  simp only [XU, seval]
  exact k1.trans (k2.mono k1.1)
def Core.askM (c : Core) : Msg := .small 1 c.last (c.termAt c.last) 0 false
def Core.asks (c : Core) (l : List Int) : Core := l.foldl (fun d x => if x = (c.id : Int) then d else d.say x.toNat c.askM) c
def Core.stood (c : Core) : Core := { c with term := c.term + 1, vote := c.id, role := 1, yes := [(c.id : Int)] }
def Core.stand (c : Core) : Core := if c.counts = true then (c.stood.asks (c.stood.counted c.stood.last).1).win else c
theorem asks_said {c : Core} (h : c.peers.length = 7) (l : List Int) : ∀ k, k ≤ l.length → c.Said (c.asks (l.take k)) k := by
  intro k
  induction k with
  | zero => intro _; exact .refl h
  | succ k ih =>
    intro hk
    have h1 := ih (by omega)
    have e : c.asks (l.take (k + 1)) = if l[k] = (c.id : Int) then c.asks (l.take k) else (c.asks (l.take k)).say l[k].toNat c.askM := by
      unfold Core.asks
      rw [List.take_add_one, List.getElem?_eq_getElem (by omega), Option.toList, List.foldl_append]; rfl
    rw [e]
    split
    · obtain ⟨⟨p, o, e, ho⟩, h2, h3⟩ := h1
      exact ⟨⟨p, o, e, by omega⟩, h2, h3⟩
    · exact h1.trans (say_said h1.pl)
theorem Core.Ok.stood {c : Core} (h : c.Ok (n + 1)) : c.stood.Ok n := by
  have h1 := h.ol
  have h2 := h.yl
  have h3 := h.tm
  exact ⟨h.lt, h.ll, h.ld, h.sm, by show c.out.length + n ≤ 1000; omega, by show 1 + n ≤ 1000; omega, (fun e => nomatch e), h.cm, h.wt, by show c.term + 1 + n < _; omega, h.pl, h.s0, (fun e => nomatch e)⟩
theorem stand_ac (h : CoreAt σ own t b c R) (ht : 10 ≤ t) (hk : c.Ok (n + 22)) : callD Try.prog 71 [.ptr b 0] σ fun v s => v = .tup [] ∧ ∃ own' R', Now σ own t b own' c.stand R' s := by
  have n0 := Now.start h
  have hC := counts_o h hk.fit (fun i => Nat.le_trans (hk.counted i).1 (by omega)) hk.cm
  have htm := hk.tm
  have w1 := wrapSucc (a := c.term) (by omega)
  unfold Core.stand
  refine cd_wp fn71 cf71 cl71 rfl ?_
  simp only [ac71]
  unfold ab71
  simp only [XU, seval]
  refine callD.use hC ?_
  cases hc : c.counts with
  | false =>
    rw [if_neg (by decide)]
    simp only [XU, seval]
    exact ⟨_, _, n0⟩
  | true =>
    rw [if_pos rfl]
    have kb := n0.co.cb
    simp only [XU, seval, kb, CS, w1, storeA, sets1]
    have n1 := n0.upd (c' := { c with term := c.term + 1 }) rfl rfl rfl rfl rfl h.pl
    generalize σ.put b (coreC { c with term := c.term + 1 } R) = s1 at *
    refine d_dreg follow [(11, [.int .i64 (c.id : Int)])] rfl ?_
    have n2 := (n1.loc_).slots 21 [(11, [.int .i64 (c.id : Int)])]
    have g11 := slots_get (s := s1) (m := 21) [(11, [.int .i64 (c.id : Int)])] 11 _ rfl
    have hnA : (addSlots s1.n 21 s1 [(11, [.int .i64 (c.id : Int)])]).n = s1.n + 21 := rfl
    have hq0 : loc (loc own σ.n) s1.n (s1.n + 11) = 0 := loc_ge (by omega)
    have lo := n1.tr.n
    generalize addSlots s1.n 21 s1 [(11, [.int .i64 (c.id : Int)])] = s2 at *
    have kb2 := n2.co.cb
    have hbq : ¬ b = s1.n + 11 := fun e => by have := n2.co.ob; rw [e] at this; omega
    have hqb : ¬ s1.n + 11 = b := fun e => hbq e.symm
    simp only [XU, seval, DU, kb2, CS, storeA, sets1]
    have hsl : ∀ X Y Z, (s1.n + 11 < s2.n ∧ s2.h.get (s1.n + 11) = some (.cells [.int .i64 (c.id : Int)])) ∧ (s1.n + 11 < (s2.put b X).n ∧ (s2.put b X).h.get (s1.n + 11) = some (.cells [.int .i64 (c.id : Int)])) ∧ (s1.n + 11 < ((s2.put b X).put b Y).n ∧ ((s2.put b X).put b Y).h.get (s1.n + 11) = some (.cells [.int .i64 (c.id : Int)])) ∧ (s1.n + 11 < (((s2.put b X).put b Y).put b Z).n ∧ (((s2.put b X).put b Y).put b Z).h.get (s1.n + 11) = some (.cells [.int .i64 (c.id : Int)])) := fun X Y Z => by
      have l : s1.n + 11 < s2.n := by omega
      refine ⟨⟨l, g11⟩, ⟨l, ?_⟩, ⟨l, ?_⟩, ⟨l, ?_⟩⟩
      · rw [put_h hqb]; exact g11
      · rw [put_h hqb, put_h hqb]; exact g11
      · rw [put_h hqb, put_h hqb, put_h hqb]; exact g11
    refine ⟨⟨?_, ?_⟩, ?_⟩
    · intro l hl c hc hf
      simp only [List.mem_cons, List.mem_nil_iff, List.not_mem_nil, or_false] at hl hc
      (repeat' (first | (rcases hl with rfl | hl) | (rcases hl with rfl))) <;> (repeat' (first | (rcases hc with rfl | hc) | (rcases hc with rfl))) <;> dsimp only at hf ⊢ <;> first
        | (exact absurd hf (by decide +kernel))
        | (simp only [XU, seval, kb2, CS, storeA, sets1, hbq]; done)
    · intro sl hsl' d hd hf
      simp only [List.mem_cons, List.mem_nil_iff, List.not_mem_nil, or_false] at hsl' hd
      subst hsl'
      rcases hd with rfl | rfl | rfl | rfl | rfl <;> dsimp only at hf ⊢ <;> first
        | (exact absurd hf (by decide +kernel))
        | exact (hsl [] [] []).1
        | exact (hsl _ [] []).2.1
        | exact (hsl _ _ []).2.2.1
        | exact (hsl _ _ _).2.2.2
    have n3 := ((n2.upd (c' := { c with term := c.term + 1, vote := c.id }) rfl rfl rfl rfl rfl h.pl).upd (c' := { c with term := c.term + 1, vote := c.id, role := 1 }) rfl rfl rfl rfl rfl h.pl).take_yes ht (x := (c.id : Int)) (by omega) (hsl _ _ []).2.2.1.1 hq0 (cells_of (hsl _ _ []).2.2.1.2)
    have hk1 : c.stood.Ok (n + 21) := hk.stood
    generalize AState.put (AState.put (AState.put s2 b _) b _) b _ = s4 at n3 ⊢
    have n4 : Now σ own t b _ c.stood _ s4 := n3
    clear n3 n2 n1 n0 kb kb2 hsl g11 hC hc w1 htm hk hq0 hbq hqb h
    generalize c.stood = d at *
    refine (members_ac n4.co hk1).kept fun s5 k5 => ?_
    have n5 := n4.keeps k5
    have hms := hk1.counted d.last
    obtain ⟨ms, ems⟩ : ∃ ms, ms = (d.counted d.last).1 := ⟨_, rfl⟩
    rw [← ems] at hms ⊢
    clear n4 k5 ems
    have hsaid := asks_said hk1.pl ms
    unfold intsP
    simp only [XU, seval]
    refine x_for (fun k ρ s => ρ.rd 0 = .ptr b 0 ∧ ρ.rd 35 = .int .i64 (k : Int) ∧ ρ.rd 34 = .int .i64 (ms.length : Int) ∧ ρ.rd 33 = .psl (ofInts ms) 0 ms.length ∧ ∃ own' R', Now σ own t b own' (d.asks (ms.take k)) R' s) ms.length ?_ ?_
    · simp only [XU, seval]
      exact ⟨_, _, n5⟩
    clear n5
    rintro k ρ s hkl ⟨h0, h35, h34, h33, own1, R1, n1⟩
    by_cases hlt : k < ms.length
    rotate_left
    · have : k = ms.length := by omega
      subst this
      rw [List.take_length] at n1
      have hS := hsaid ms.length (Nat.le_refl _)
      rw [List.take_length] at hS
      have hge : ¬ ((ms.length : Nat) : Int) < ((ms.length : Nat) : Int) := by omega
      have hkw : (d.asks ms).Ok (n + 14) := hS.ok (hk1.le (by have := hms.1; omega))
      generalize d.asks ms = f at *
      simp only [XU, seval, h0, h35, h34, hge]
      refine (win1_ac n1.co ht hkw).now fun s6 own6 R6 n6 => ?_
      simp only [XU, seval]
      exact ⟨_, _, n1.call n6⟩
    have hr := lt_idx hlt
    have hlt' := hr.2
    have hw : IntKind.i64.wrap ((k : Int) + 1) = ((k + 1 : Nat) : Int) := wrap_succ (by have := hms.1; omega)
    have hg := ints_get hlt
    have hx := hms.2 _ (List.getElem_mem hlt)
    have htk : d.asks (ms.take (k + 1)) = if ms[k] = (d.id : Int) then d.asks (ms.take k) else (d.asks (ms.take k)).say ms[k].toNat d.askM := by
      unfold Core.asks
      rw [List.take_add_one, List.getElem?_eq_getElem hlt, Option.toList, List.foldl_append]; rfl
    have hS := hsaid k hkl
    have hsame := hS.same
    have hta : (d.asks (ms.take k)).termAt (d.asks (ms.take k)).last = d.termAt d.last := by
      obtain ⟨⟨p, o, e, _⟩, _⟩ := hS
      rw [e]; rfl
    have hkf : (d.asks (ms.take k)).Ok 14 := hS.ok (hk1.le (by have := hms.1; omega))
    rw [htk]
    generalize d.asks (ms.take k) = f at *
    generalize ms[k] = y at *
    have kb := n1.co.cb
    by_cases hid : y = (d.id : Int)
    · have g : y = (f.id : Int) := by rw [hsame.1]; exact hid
      rw [if_pos hid]
      simp only [XU, seval, h0, h35, h34, h33, hlt', hr, hg, kb, CS, g, hw]
      exact ⟨hlt, _, _, n1⟩
    · have g : ¬ y = (f.id : Int) := by rw [hsame.1]; exact hid
      rw [if_neg hid]
      obtain ⟨yn, hyn⟩ : ∃ yn : Nat, y = (yn : Int) := ⟨y.toNat, by omega⟩
      subst hyn
      rw [Int.toNat_natCast]
      simp only [XU, seval, h0, h35, h34, h33, hlt', hr, hg, kb, CS, g]
      refine d_dreg follow [] rfl ?_
      have n2 := n1.slots 16 []
      generalize addSlots s.n 16 s [] = s2 at *
      simp only [XU, seval, DU, h0]
      refine (last_o n2.co hkf.fit).use ?_
      simp only [XU, seval, DU, h0]
      refine (last_o n2.co hkf.fit).use ?_
      simp only [XU, seval, DU, h0]
      refine (termAt_o n2.co hkf.fit).use ?_
      rw [hsame.2.2.2.1] at *
      rw [hta]
      simp only [XU, seval, DU, h0]
      refine (say_raw n2.co ht 1 d.last (d.termAt d.last) 0 false (by have := hkf.ol; omega)).now fun s6 own6 R6 n6 => ?_
      simp only [XU, seval, DU, h0, h35, h34, h33, hw]
      refine ⟨⟨?_, ?_⟩, ?_⟩
      · intro l hl; simp at hl
      · intro sl hsl; simp at hsl
      exact ⟨hlt, _, _, n2.call n6⟩
end
end Go.Proofs.Ythojhpjjkfjeiaa.Va
