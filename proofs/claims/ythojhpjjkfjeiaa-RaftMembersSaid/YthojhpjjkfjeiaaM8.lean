/- Texts Rq30 to Rq35 of this claim, in one. Conditions: none. -/
import Derived.Test.YthojhpjjkfjeiaaM7
set_option maxRecDepth 100000
set_option maxHeartbeats 2000000
set_option linter.all false
namespace Go.Proofs.Ythojhpjjkfjeiaa.Va
open Go.Proofs
structure Core.StepOk (c : Core) (m : Msg) (n : Nat) : Prop where
  ok : c.Ok (n + 15)
  tm : m.term + (n + 15) < 2305843009213693952
  to : m.to = c.id
  src : m.src < 7
  ne : m.src ≠ c.id
  kd : m.kind = 1 ∨ m.kind = 2 ∨ m.kind = 3 ∨ m.kind = 4
  ix : m.index < 4611686018427380000
  l1 : m.terms.length = m.n
  l2 : m.kinds.length = m.n
  ln : m.n ≤ 100
  es : ∀ i, i < m.n → (m.entries.getD i []).length ≤ 1000000
  put : m.kind = 3 → m.term < (c.step1 m).term ∨ (c.step1 m).take1.putOk m m.n = true
theorem NowG.but {σ s s' : AState} {own own' : Nat → Nat} {bg : Nat} {g : Grp} {A : GR} {bs : Nat → Nat} {Rs : Nat → Rws} (h : NowG σ own bg own' g A bs Rs s) (hn : s.n ≤ s'.n) (hk : ∀ k, k < s.n → (k < σ.n ∨ own' k ≠ 0) → s'.h.get k = s.h.get k) : NowG σ own bg own' g A bs Rs s' :=
  ⟨⟨Nat.le_trans h.tr.n hn, h.tr.ow, fun k hk' hm => (hk k (Nat.lt_of_lt_of_le hk' h.tr.n) (.inl hk')).trans (h.tr.keep k hk' hm)⟩, h.co.keep hn fun k hk' hm => get_cells (hk k hk' (.inr (by unfold MineG at hm; omega)))⟩
theorem msgs_one (l : List Msg) : (rowc Msg.c l).all AV.one = true := by
  induction l with
  | nil => rfl
  | cons a l ih => rw [show rowc Msg.c (a :: l) = Msg.c a ++ rowc Msg.c l from rfl, List.all_append, ih]; rfl
theorem ex1 {A : Type} {P : A → Prop} {G : Prop} (h : ∃ a, P a) (k : ∀ a, P a → G) : G := by
  obtain ⟨a, h⟩ := h
  exact k a h
theorem ex2 {A B : Type} {P : A → B → Prop} {G : Prop} (h : ∃ a b, P a b) (k : ∀ a b, P a b → G) : G := by
  obtain ⟨a, b, h⟩ := h
  exact k a b h
def Grp.mid (g : Grp) (m : Msg) (rest : List Msg) : Grp := Grp.setc { g with net := rest } m.to ((g.core m.to).step m)
def Grp.stepG (g : Grp) (m : Msg) (rest : List Msg) : Grp := if g.n ≤ m.to then { g with net := rest } else (g.mid m rest).told m.to
section
variable {σ : AState} {own : Nat → Nat} {bg : Nat} {g : Grp} {A : GR} {bs : Nat → Nat} {Rs : Nat → Rws}
theorem stepG_ac (h : GrpAt σ own bg g A bs Rs) {m : Msg} {rest : List Msg} (hnet : g.net = m :: rest) (hlen : rest.length ≤ 5000) (hok : m.to < g.n → ∃ n, (g.core m.to).StepOk m n ∧ ∃ n', (g.mid m rest).ToldOk m.to n') :
    callD Try.prog 54 [.ptr bg 0, .int .i64 0] σ fun v s => v = .bool true ∧ ∃ own' A' Rs', NowG σ own bg own' (g.stepG m rest) A' bs Rs' s := by
  have n0 := NowG.start h
  have n5 := h.n5
  clear h
  have hmc := Msg.c_eq m
  have z0 : (0 : Int) ≤ 0 := by omega
  refine cd_wp fn54 cf54 cl54 rfl ?_
  simp only [ac54]
  unfold ab54
  simp only [wpX_seq, wpX_skip, wpXK_normal]
  refine x_mid (fun ρ s => s = σ ∧ ρ.rd 0 = .ptr bg 0 ∧ ρ.rd 1 = .int .i64 0) ?_ ?_
  · simp only [XU, seval]
  rintro ρ s ⟨hs, h0, h1⟩
  rw [hs]
  clear hs
  rw [wpX_seq]
  refine x_mid (fun ρ s => ρ.rd 0 = .ptr bg 0 ∧ ρ.rd 1 = .int .i64 0 ∧ ∃ own' q, ρ.rd 5 = .ptr q 0 ∧ own' q = 0 ∧ q < s.n ∧ s.cells q = some m.c ∧ NowG σ own bg own' g A bs Rs s) ?_ ?_
  · have cb := n0.co.cb
    have lb := n0.co.bn
    obtain ⟨bn, cn, cs, hr⟩ := n0.co.rn.some (by rw [hnet]; simp)
    have en := hr.eq
    have cr := hr.cells
    have h1' : 0 < g.net.length := by rw [hnet]; simp
    have hsg := (hr.row (i := 0) h1').2.trans (rowc_seg Msg.c_len h1')
    have hf := (hr.row (i := 0) h1').1
    have hg0 : g.net[0] = m := by simp [hnet]
    rw [hg0, hmc, Nat.zero_mul] at hsg
    rw [Nat.zero_mul, Nat.zero_add] at hf
    have hle : decide (14 ≤ cs.length) = true := by rw [decide_eq_true_eq]; exact hf
    have gl : (0 : Int) < (g.net.length : Int) := by omega
    have n2 := (n0.push [.int .i64 0, .int .i64 0, .int .i64 0, .int .i64 0, .int .i64 0, .int .i64 0, .int .i64 0, .int .i64 0, .bool false, .nils, .nils, .nils, .nils, .nils]).local_ (q := σ.n) (Nat.le_refl _) (loc_ge (Nat.le_refl _)) m.c
    rw [hmc] at n2
    simp only [XU, seval, h0, h1, cb, GS, en, cr, hsg, hle, gl, z0, PS, SX]
    exact ⟨_, σ.n, rfl, loc_ge (Nat.le_refl _), Nat.lt_succ_self _, by rw [if_pos rfl, hmc], n2⟩
  clear h0 h1 n0
  rintro ρ s ⟨h0, h1, own1, q, h5, hq0, hqn, cq, n0⟩
  rw [wpX_seq]
  refine x_mid (fun ρ s => ρ.rd 0 = .ptr bg 0 ∧ ρ.rd 5 = .ptr q 0 ∧ q < s.n ∧ s.cells q = some m.c ∧ ∃ own' A', NowG σ own bg own' { g with net := rest } A' bs Rs s ∧ own' q = 0) ?_ ?_
  · simp only [XU, seval]
    refine d_dreg follow [] rfl ?_
    have n1 := n0.slots 20 []
    have c1 : (addSlots s.n 20 s []).cells q = _ := (slots_old _ hqn).trans cq
    have l1 : q < (addSlots s.n 20 s []).n := by simp only [addSlots]; omega
    generalize addSlots s.n 20 s [] = s1 at *
    have cb := n1.co.cb
    have lb := n1.co.bn
    obtain ⟨bn, cn, cs, hr⟩ := n1.co.rn.some (by rw [hnet]; simp)
    have en := hr.eq
    have cr := hr.cells
    have lr := hr.lt
    have nb : ¬ bg = s1.n := by omega
    have nbn : ¬ bn = s1.n := by omega
    have w1 : IntKind.i64.wrap 1 = 1 := rfl
    have t1 : (1 : Int).toNat = 1 := rfl
    have o1 : (0 : Int) ≤ 1 := by omega
    have gl0 : (0 : Int) ≤ (g.net.length : Int) := by omega
    have gl1 : (1 : Int) ≤ (g.net.length : Int) := by rw [hnet]; simp only [List.length_cons]; omega
    have gcap2 : (g.net.length : Int) ≤ ((cn.getD g.net.length : Nat) : Int) := by
      cases hcn : cn with
      | none => exact Int.le_refl _
      | some k => have := hr.capd k hcn; simp only [Option.getD_some]; omega
    have gcap : (0 : Int) ≤ ((cn.getD g.net.length : Nat) : Int) := by omega
    have hlt1 : g.net.length = rest.length + 1 := by rw [hnet]; rfl
    have nl := n1.loc_.push []
    have hσ := n1.tr.n
    have nq : ¬ q = s1.n := by omega
    have oq : loc own1 s1.n q = 0 := by rw [loc_lt l1]; exact hq0
    obtain ⟨p, hp⟩ : ∃ p : Nat → Prop, p = fun b => b ≠ q ∧ σ.n ≤ b ∧ loc own1 s1.n b = 0 := ⟨_, rfl⟩
    have pn : ∀ k, s1.n ≤ k → p k := fun k hk => by rw [hp]; exact ⟨by omega, by omega, loc_ge hk⟩
    have pbn : ¬ p bn := fun e => by rw [hp] at e; have := hr.own; have := e.2.2; rw [loc_lt lr] at this; omega
    have pbg : ¬ p bg := fun e => by rw [hp] at e; have := n1.co.ob; have := e.2.2; rw [loc_lt lb] at this; omega
    have pq : ¬ p q := fun e => by rw [hp] at e; exact e.1 rfl
    have hx0 : RowP p (s1.push (.cells [])) (.sl s1.n 0 0 (some 0) 14) [] 0 14 := .of (pn _ (Nat.le_refl _)) (Nat.lt_succ_self _) (push_cells _ _) rfl
    have cr2 : (s1.push (.cells [])).cells bn = some cs := by rw [push_get, if_neg nbn]; exact cr
    have cb2 : (s1.push (.cells [])).cells bg = some (grpC g A) := by rw [push_get, if_neg nb]; exact cb
    have cq2 : (s1.push (.cells [])).cells q = some m.c := by rw [push_get, if_neg nq]; exact c1
    have hn2 : (s1.push (.cells [])).n = s1.n + 1 := rfl
    have nl := n1.loc_.push []
    have oown : ∀ k, k < s1.n → loc own1 s1.n k = own1 k := fun k hk => loc_lt hk
    generalize loc own1 s1.n = ow at *
    generalize hs2 : s1.push (.cells []) = s2 at *
    have ha1 := app_rowP (bytes := 192) (k := 0) (new := []) hx0 (pn _ (by omega)) (y := .sl bn 0 0 (Option.map (fun x => x - 0) cn) 14) rfl (firstA_own cr2 (by omega)) rfl rfl (by omega)
    apply ex2 ha1
    clear ha1
    intro x1 s3 h3
    have happ1 := h3.1
    have hx1 := h3.2.1
    have ln3 := h3.2.2.1
    have hk3 := h3.2.2.2
    clear h3
    have cr3 := (get_cells (hk3 bn (by omega) pbn)).trans cr2
    have cb3 := (get_cells (hk3 bg (by omega) pbg)).trans cb2
    have cq3 := (get_cells (hk3 q (by omega) pq)).trans cq2
    have hpart := hr.part Msg.c_len rfl (i := 1) (m := rest.length) (by omega)
    have hrest : ((g.net.drop 1).take rest.length) = rest := by rw [hnet]; simp
    rw [hrest] at hpart
    have hf2 : firstA s3 14 rest.length (.sl bn (1 * 14) rest.length (Option.map (fun x => x - 1) cn) 14) = some (rowc Msg.c rest) := (firstA_own cr3 hpart.1).trans (congrArg some hpart.2)
    have hone := msgs_one rest
    have ha2 := app_rowP (bytes := 192) (k := rest.length) hx1 (pn _ (by omega)) (y := .sl bn (1 * 14) rest.length (Option.map (fun x => x - 1) cn) 14) rfl hf2 hone (rowc_length Msg.c_len _) (by omega)
    apply ex2 ha2
    clear ha2
    intro x2 s4 h4
    have happ2 := h4.1
    have hx2 := h4.2.1
    have ln4 := h4.2.2.1
    have hk4 := h4.2.2.2
    clear h4
    have cr4 := (get_cells (hk4 bn (by omega) pbn)).trans cr3
    have cb4 := (get_cells (hk4 bg (by omega) pbg)).trans cb3
    have cq4 := (get_cells (hk4 q (by omega) pq)).trans cq3
    have n4 : NowG σ own bg ow g A bs Rs s4 := nl.but (by omega) fun k hk hk' => by
      have hnp : ¬ p k := fun e => by rw [hp] at e; omega
      exact (hk4 k (by omega) hnp).trans (hk3 k hk hnp)
    have hx4 : RowP p s4 x2 (rowc Msg.c rest) rest.length 14 := by
      have e : [] ++ [] ++ rowc Msg.c rest = rowc Msg.c rest := by simp
      have e0 : 0 + 0 + rest.length = rest.length := by omega
      rw [e, e0] at hx2
      exact hx2
    have n9 := n4.take_row (fun b hb => by rw [hp] at hb; exact hb.2) hx4
    have gq : ¬ q = bg := fun e => by have := n1.co.ob; rw [← e] at this; omega
    have gle : decide (3 + 1 ≤ (grpC g A).length) = true := by rw [grpC_len n1.co.ll]; decide
    have wm : g.net.length - 1 = rest.length := by omega
    have happ2' : appendA s3 14 192 x1 (.sl bn 14 rest.length (Option.map (fun x => x - 1) cn) 14) = some (x2, s4) := happ2
    have hform := hx4.form
    rcases hform with ex | ⟨bx, cx, ex⟩
    all_goals
      rw [ex] at happ2' n9
      simp only [XU, seval, DU, h0, h1, cb, GS, en, nb, w1, gl0, gl1, gcap]
      rw [hs2]
      simp only [XU, seval, DU, happ1, cb3, GS, h0, h1, en, w1, t1, o1, gl1, gl0, gcap, gcap2, wm]
      simp only [XU, seval, DU, happ2', cb4, GS, storeA, sets1, gle]
      refine ⟨⟨?_, ?_⟩, ?_⟩
      · intro l hl c hc hf
        simp only [List.mem_cons, List.mem_nil_iff, List.not_mem_nil, or_false] at hl hc
        (repeat' (first | (rcases hl with rfl | hl) | (rcases hl with rfl))) <;> (repeat' (first | (rcases hc with rfl | hc) | (rcases hc with rfl))) <;> dsimp only at hf ⊢ <;> first
          | (exact absurd hf (by decide +kernel))
          | (simp only [XU, seval, h0, h1, cb, cb2, cb3, cb4, GS, en, gq, nb]; done)
      · intro sl hsl; simp at hsl
      apply ex1 n9
      intro own9 h9
      simp only [XU, seval, h0, h5, gq, cq4]
      exact ⟨by omega, _, _, h9.1, (h9.2 q pq).trans oq⟩
  clear h0 h1 h5 n0 hqn cq
  rintro ρ s ⟨h0, h5, hqn, cq, own2, A2, n0, oq⟩
  have cq' := cq
  rw [hmc] at cq'
  unfold Grp.stepG
  rw [wpX_seq]
  by_cases gt : g.n ≤ m.to
  · rw [if_pos gt]
    have gt' : (g.n : Int) ≤ (m.to : Int) := by omega
    simp only [XU, seval]
    refine d_dreg follow [] rfl ?_
    have n1 := n0.slots 7 []
    have c1 : (addSlots s.n 7 s []).cells q = _ := (slots_old _ hqn).trans cq'
    generalize addSlots s.n 7 s [] = s1 at *
    have cb := n1.co.cb
    simp only [XU, seval, DU, h0, h5, c1, cb, GS, gt']
    refine ⟨⟨?_, ?_⟩, ?_⟩
    · intro l hl c hc hf
      simp only [List.mem_cons, List.mem_nil_iff, List.not_mem_nil, or_false] at hl hc
      (repeat' (first | (rcases hl with rfl | hl) | (rcases hl with rfl))) <;> (repeat' (first | (rcases hc with rfl | hc) | (rcases hc with rfl))) <;> dsimp only at hf ⊢ <;> first
        | (exact absurd hf (by decide +kernel))
        | (simp only [XU, seval, h0, h5, c1, cb, GS, gt']; done)
    · intro sl hsl; simp at hsl
    exact ⟨_, _, _, n1⟩
  rw [if_neg gt]
  have gt' : ¬ (g.n : Int) ≤ (m.to : Int) := by omega
  have hto : m.to < g.n := by omega
  obtain ⟨n, hS, n', hT⟩ := hok hto
  refine x_mid (fun ρ s => ρ.rd 0 = .ptr bg 0 ∧ ρ.rd 5 = .ptr q 0 ∧ q < s.n ∧ s.cells q = some m.c ∧ NowG σ own bg own2 { g with net := rest } A2 bs Rs s) ?_ ?_
  · simp only [XU, seval]
    refine d_dreg follow [] rfl ?_
    have n1 := n0.slots 7 []
    have c0 : (addSlots s.n 7 s []).cells q = _ := (slots_old _ hqn).trans cq
    have c1 : (addSlots s.n 7 s []).cells q = _ := (slots_old _ hqn).trans cq'
    have l1 : q < (addSlots s.n 7 s []).n := by simp only [addSlots]; omega
    generalize addSlots s.n 7 s [] = s1 at *
    have cb := n1.co.cb
    simp only [XU, seval, DU, h0, h5, c1, cb, GS, gt']
    refine ⟨⟨?_, ?_⟩, ?_⟩
    · intro l hl c hc hf
      simp only [List.mem_cons, List.mem_nil_iff, List.not_mem_nil, or_false] at hl hc
      (repeat' (first | (rcases hl with rfl | hl) | (rcases hl with rfl))) <;> (repeat' (first | (rcases hc with rfl | hc) | (rcases hc with rfl))) <;> dsimp only at hf ⊢ <;> first
        | (exact absurd hf (by decide +kernel))
        | (simp only [XU, seval, h0, h5, c1, cb, GS, gt']; done)
    · intro sl hsl; simp at hsl
    exact ⟨l1, by rw [hmc], n1⟩
  clear h0 h5 n0 hqn cq cq'
  rintro ρ s ⟨h0, h5, hqn, cq, n0⟩
  have cq' := cq
  rw [hmc] at cq'
  obtain ⟨gr, hgr⟩ : ∃ gr : Grp, gr = { g with net := rest } := ⟨_, rfl⟩
  have hmid : g.mid m rest = gr.setc m.to ((g.core m.to).step m) := by rw [hgr]; rfl
  rw [hmid] at hT ⊢
  rw [← hgr] at n0
  have rcore : gr.core m.to = g.core m.to := by rw [hgr]; rfl
  have hir : m.to < gr.n := by rw [hgr]; exact hto
  clear hgr hmid
  generalize g.core m.to = c at *
  have hx : (0 : Int) ≤ (m.to : Int) ∧ (m.to : Int) < (gr.n : Int) := lt_idx hir
  rw [wpX_seq]
  refine x_mid (fun ρ s => ρ.rd 0 = .ptr bg 0 ∧ ρ.rd 5 = .ptr q 0 ∧ s.cells q = some m.c ∧ ∃ own' Rs', NowG σ own bg own' (gr.setc m.to (c.step m)) A2 bs Rs' s) ?_ ?_
  · simp only [XU, seval]
    refine d_dreg follow [] rfl ?_
    have n1 := n0.slots 10 []
    have c0 : (addSlots s.n 10 s []).cells q = _ := (slots_old _ hqn).trans cq
    have c1 : (addSlots s.n 10 s []).cells q = _ := (slots_old _ hqn).trans cq'
    have l1 : q < (addSlots s.n 10 s []).n := by simp only [addSlots]; omega
    generalize addSlots s.n 10 s [] = s1 at *
    have cb := n1.co.cb
    have hco := n1.co.cs _ hir
    rw [rcore] at hco
    obtain ⟨bp, cp, csp, eA, crp, cip, obp, lbp⟩ := n1.co.ptr hir
    have hSt := step_ac hco (by omega) hS.ok hS.tm hS.to hS.src hS.ne hS.kd hS.ix hS.l1 hS.l2 hS.ln hS.es hS.put
    rw [hmc] at hSt
    have n5' := n1.co.n5
    have obg := n1.co.ob
    have lbg := n1.co.bn
    simp only [XU, seval, DU, h0, h5, c1, cb, GS, eA, crp, cip, hx, sg14]
    refine hSt.now fun s2 own3 R2 n2 => ?_
    have n3 := n1.core_ hir n2
    have d1 := (n2.tr.cells l1 (by omega)).trans c1
    have d2 := (n2.tr.cells lbg (by omega)).trans cb
    have d3 := (n2.tr.cells lbp (by omega)).trans crp
    refine ⟨⟨?_, ?_⟩, ?_⟩
    · intro l hl c hc hf
      simp only [List.mem_cons, List.mem_nil_iff, List.not_mem_nil, or_false] at hl hc
      (repeat' (first | (rcases hl with rfl | hl) | (rcases hl with rfl))) <;> (repeat' (first | (rcases hc with rfl | hc) | (rcases hc with rfl))) <;> dsimp only at hf ⊢ <;> first
        | (exact absurd hf (by decide +kernel))
        | (simp only [XU, seval, h0, h5, c1, d1, d2, d3, cb, GS, eA, crp, cip, hx, sg14]; done)
    · intro sl hsl; simp at hsl
    simp only [XU, seval, h0, h5]
    exact ⟨by rw [d1, hmc], _, _, n3⟩
  clear h0 h5 n0 hqn cq cq'
  rintro ρ s ⟨h0, h5, cq, own3, Rs3, n0⟩
  rw [hmc] at cq
  simp only [XU, seval, h0, h5, cq]
  refine (told_ac n0.co hT).mono fun v s2 hv => ?_
  obtain ⟨rfl, own4, A4, Rs4, n4⟩ := hv
  simp only [XU, seval]
  exact ⟨_, _, _, n0.call n4⟩
end
end Go.Proofs.Ythojhpjjkfjeiaa.Va
set_option maxRecDepth 100000
set_option maxHeartbeats 2000000
set_option linter.all false
namespace Go.Proofs.Ythojhpjjkfjeiaa.Va
open Go.Proofs
def Grp.tickG (g : Grp) (i : Nat) : Grp := (g.setc i ((g.core i).tick ((7 * i % 10 : Nat) : Int))).told i
def Grp.ticksG (g : Grp) : Nat → Grp
  | 0 => g
  | i + 1 => (g.ticksG i).tickG i
def Grp.runG : Nat → Grp → Grp
  | 0, g => g
  | k + 1, g => match g.net with
    | [] => g
    | m :: rest => Grp.runG k (g.stepG m rest)
def Grp.hush (g : Grp) : Grp := { g with net := [] }
def Grp.quiet (g : Grp) : Grp := (Grp.runG 2000 (g.ticksG g.n)).hush
def Grp.rounds (g : Grp) : Nat → Grp
  | 0 => g
  | k + 1 => (g.rounds k).quiet
/- A core that is new; a group that is. -/
def coreNew (id : Nat) (mem : List Int) : Core := ⟨⟨0, 0, mem, []⟩, [], id, 0, -1, 0, 0, [], List.replicate 7 peer0, 0, [], [], 10, 0, 0, []⟩
def grpNew (n : Nat) (mem : List Int) : Grp := ⟨n, (List.range n).map fun i => coreNew i mem, [], [], List.replicate n 0, List.replicate n 0, List.replicate 400 0, 0, 0⟩
def Grp.lead1 (g : Grp) : List Nat := (List.range g.n).filter fun i => decide ((g.core i).role = 2)
end Go.Proofs.Ythojhpjjkfjeiaa.Va
set_option maxRecDepth 100000
set_option maxHeartbeats 1000000
set_option linter.all false
namespace Go.Proofs.Ythojhpjjkfjeiaa.Va
open Go.Proofs
structure Msg.Sm (m : Msg) : Prop where
  b : ∀ b ∈ m.entries, b.length ≤ 700
  e : ∀ i, mems (m.ent i).mem
structure Core.Sm (c : Core) : Prop where
  l : ∀ e ∈ c.l, e.data.length ≤ 700 ∧ mems e.mem
  o : ∀ m ∈ c.out, m.Sm
theorem mems_nil : mems [] := ⟨Nat.zero_le _, fun x hx => by cases hx⟩
theorem Msg.Sm.nil {m : Msg} (h : m.entries = []) (hk : m.kinds = []) : m.Sm := by
  refine ⟨fun b hb => ?_, fun i => ?_⟩
  · rw [h] at hb
    cases hb
  · unfold Msg.ent
    rw [hk, if_neg (by simp)]
    exact mems_nil
theorem memS_idsS {l : List Int} (h : mems l) : memS (idsS l) = l := by
  unfold memS idsS
  rw [List.map_map]
  refine (List.map_congr_left (g := id) fun x hx => ?_).trans (List.map_id l)
  have := h.2 x hx
  show ((b8 x).toNat : Int) = x
  rcases (by omega : x = 0 ∨ x = 1 ∨ x = 2 ∨ x = 3 ∨ x = 4 ∨ x = 5 ∨ x = 6) with rfl | rfl | rfl | rfl | rfl | rfl | rfl <;> decide
namespace Core.Sm
variable {c c' : Core} {m : Msg}
theorem of (h : c.Sm) (h1 : c'.l = c.l) (h2 : c'.out = c.out) : c'.Sm := ⟨by rw [h1]; exact h.l, by rw [h2]; exact h.o⟩
theorem say (h : c.Sm) {to : Nat} (hm : m.Sm) : (c.say to m).Sm := by
  refine ⟨h.l, fun x hx => ?_⟩
  unfold Core.say at hx
  rcases List.mem_append.1 hx with e | e
  · exact h.o x e
  · rw [List.mem_singleton.1 e]; exact ⟨hm.b, hm.e⟩
theorem small {k i l s : Nat} {y : Bool} : (Msg.small k i l s y).Sm := .nil rfl rfl
theorem told_le {e : Ent} (h : e.data.length ≤ 700 ∧ mems e.mem) : e.told.length ≤ 700 := by
  unfold Ent.told
  split
  · have := h.2.1; simp [idsS]; omega
  · exact h.1
theorem fill {m : Msg} {es : List Ent} (h : ∀ e ∈ es, e.data.length ≤ 700 ∧ mems e.mem) : (m.fill es).Sm := by
  refine ⟨fun b hb => ?_, fun i => ?_⟩
  · have hb : b ∈ es.map Ent.told := hb
    obtain ⟨e, he, rfl⟩ := List.mem_map.1 hb
    exact told_le (h e he)
  · unfold Msg.ent
    show mems (Ent.mem (if (es.map Ent.kind).getD i 0 = 2 then ⟨_, 2, [], memS ((es.map Ent.told).getD i [])⟩ else _))
    split
    · rename_i h2
      rcases Nat.lt_or_ge i es.length with hi | hi
      · have hm := h _ (List.getElem_mem hi)
        simp only [List.getD_eq_getElem?_getD, List.getElem?_map, List.getElem?_eq_getElem hi, Option.map_some, Option.getD_some] at h2 ⊢
        unfold Ent.told
        rw [if_pos h2, memS_idsS hm.2]
        exact hm.2
      · rw [List.getD_eq_getElem?_getD, List.getElem?_eq_none (by simpa using hi)] at h2
        cases h2
    · exact mems_nil
theorem send (h : c.Sm) {to : Nat} : (c.send to).Sm := by
  have hb : c.base.Sm := .nil rfl rfl
  unfold Core.send
  split
  · exact h.say hb
  · split
    · exact h.say (.nil rfl rfl)
    · exact Sm.say (c := c.tick1 to) (h.of rfl rfl) (fill fun e he => h.l e (List.mem_of_mem_drop he))
theorem tellN (h : c.Sm) : ∀ k, (c.tellN k).Sm := by
  intro k
  induction k with
  | zero => exact h
  | succ k ih =>
    unfold Core.tellN
    split
    · exact ih
    · exact ih.send
theorem tell (h : c.Sm) : c.tell.Sm := h.tellN 7
theorem wait (h : c.Sm) {d : Int} : (c.wait d).Sm := h.of rfl rfl
theorem follow (h : c.Sm) {t : Nat} : (c.follow t).Sm := by
  unfold Core.follow
  simp only
  split <;> split <;> exact h.of rfl rfl
theorem leave (h : c.Sm) : c.leave.Sm := by
  unfold Core.leave
  split
  · exact h.follow
  · exact h
theorem advGo (h : c.Sm) : ∀ i, (c.advGo i).Sm := by
  intro i
  induction i with
  | zero => exact h
  | succ i ih =>
    unfold Core.advGo
    split
    · split
      · exact (Sm.tell (c := { c with commit := i + 1 }) (h.of rfl rfl)).leave
      · exact ih
    · exact h
theorem advance (h : c.Sm) : c.advance.Sm := h.advGo _
theorem add (h : c.Sm) {e : Ent} (he : e.data.length ≤ 700 ∧ mems e.mem) : (c.add e).Sm := by
  refine ⟨fun x hx => ?_, h.o⟩
  unfold Core.add at hx
  rcases List.mem_append.1 hx with e' | e'
  · exact h.l x e'
  · rw [List.mem_singleton.1 e']; exact he
theorem lead (h : c.Sm) : c.lead.Sm := by
  have : ∀ k, (c.leadN k).Sm := fun k => by
    induction k with
    | zero => exact h.of rfl rfl
    | succ k ih => exact ih.of rfl rfl
  exact this 7
theorem win (h : c.Sm) : c.win.Sm := by
  have hw : c.won.Sm := by
    unfold Core.won
    split
    · exact h.lead.add ⟨Nat.zero_le _, mems_nil⟩
    · exact h.lead
  unfold Core.win
  split
  · exact hw.tell.advance
  · exact h
theorem asks (l : List Int) : ∀ {c : Core}, c.Sm → (c.asks l).Sm := by
  have hgo : ∀ (l : List Int) (d : Core) (k : Int) (m : Msg), m.Sm → d.Sm → (l.foldl (fun d x => if x = k then d else d.say x.toNat m) d).Sm := by
    intro l
    induction l with
    | nil => intro d k m _ h; exact h
    | cons x l ih =>
      intro d k m hm h
      simp only [List.foldl_cons]
      refine ih _ k m hm ?_
      split
      · exact h
      · exact h.say hm
  intro c h
  exact hgo l c _ _ small h
theorem stand (h : c.Sm) : c.stand.Sm := by
  unfold Core.stand
  split
  · exact (asks _ (c := c.stood) (h.of rfl rfl)).win
  · exact h
theorem tick (h : c.Sm) {d : Int} : (c.tick d).Sm := by
  have hL : (c.tickL d).Sm := h.of rfl rfl
  have hF : (c.tickF d).Sm := h.of rfl rfl
  unfold Core.tick
  split
  · split
    · exact hL.tell
    · exact hL
  · split
    · exact hF.wait.stand
    · exact hF
theorem vouch (h : c.Sm) : (c.vouch m).Sm := by
  unfold Core.vouch
  split
  · exact Sm.say (c := Core.wait { c with vote := m.src } c.draw) (h.of rfl rfl) small
  · exact h.say small
theorem got (h : c.Sm) : (c.got m).Sm := by
  unfold Core.got
  split
  · exact Sm.win (c := { c with yes := c.yes ++ [(m.src : Int)] }) (h.of rfl rfl)
  · exact h
theorem ent (hm : m.Sm) (i : Nat) : (m.ent i).data.length ≤ 700 ∧ mems (m.ent i).mem := by
  have hb : (m.entries.getD i []).length ≤ 700 := by
    rcases Nat.lt_or_ge i m.entries.length with h | h
    · rw [List.getD_eq_getElem?_getD, List.getElem?_eq_getElem h]
      exact hm.b _ (List.getElem_mem h)
    · rw [List.getD_eq_getElem?_getD, List.getElem?_eq_none h]
      exact Nat.zero_le _
  refine ⟨?_, hm.e i⟩
  unfold Msg.ent
  split
  · exact Nat.zero_le _
  · exact hb
theorem put (h : c.Sm) (hm : m.Sm) : (c.put m).1.Sm := by
  have : ∀ k, (c.putN m k).Sm := fun k => by
    induction k with
    | zero => exact h
    | succ k ih =>
      unfold Core.putN
      split
      · exact ih
      · exact ih.add (ent hm k)
  unfold Core.put
  split
  · exact h
  · split
    · exact h
    · exact this _
theorem take (h : c.Sm) (hm : m.Sm) : (c.take m).Sm := by
  have h1 : c.take1.Sm := h.of rfl rfl
  have h2 := h1.put hm
  unfold Core.take
  split
  · exact h.say small
  · refine Sm.say ?_ small
    unfold Core.upto
    split
    · exact h2.of rfl rfl
    · exact h2
theorem hear (h : c.Sm) : (c.hear m).Sm := by
  have hN : (c.hearN m).Sm := by unfold Core.hearN; exact Sm.send (c := c.setp m.src _) (h.of rfl rfl)
  have hY : (c.hearY m).Sm := by unfold Core.hearY; exact Sm.advance (c := c.setp m.src _) (h.of rfl rfl)
  unfold Core.hear
  split
  · exact hN
  · split
    · exact hY.send
    · exact hY
theorem step (h : c.Sm) (hm : m.Sm) : (c.step m).Sm := by
  have h1 : (c.step1 m).Sm := by
    unfold Core.step1
    split
    · exact h.follow
    · exact h
  unfold Core.step Core.stepK
  generalize c.step1 m = d at *
  split
  · exact h1.vouch
  · split
    · exact h1.got
    · split
      · exact h1.take hm
      · unfold Core.heard
        split
        · exact h1.hear
        · exact h1
theorem lay (h : c.Sm) {e : Ent} (he : e.data.length ≤ 700 ∧ mems e.mem) : (c.lay e).Sm := by
  unfold Core.lay
  exact (h.add (e := { e with term := c.term }) he).tell.advance
theorem mute (h : c.Sm) : c.mute.Sm := ⟨h.l, fun m hm => by cases hm⟩
end Core.Sm
structure Grp.Sm (g : Grp) : Prop where
  c : ∀ i, (g.core i).Sm
  n : ∀ m ∈ g.net, m.Sm
theorem core0_sm : core0.Sm := ⟨fun e h => (by cases h), fun e h => (by cases h)⟩
theorem core_setc (g : Grp) (i j : Nat) (c : Core) : (g.setc i c).core j = g.core j ∨ (g.setc i c).core j = c := by
  unfold Grp.setc Grp.core
  simp only [List.getD_eq_getElem?_getD, List.getElem?_set]
  by_cases e : i = j
  · subst e
    by_cases h : i < g.cores.length
    · rw [if_pos rfl, if_pos h]; exact .inr rfl
    · rw [if_pos rfl, if_neg h, List.getElem?_eq_none (by omega)]; exact .inl rfl
  · rw [if_neg e]; exact .inl rfl
namespace Grp.Sm
variable {g : Grp}
theorem setc (h : g.Sm) {i : Nat} {c : Core} (hc : c.Sm) : (g.setc i c).Sm := by
  refine ⟨fun j => ?_, h.n⟩
  rcases core_setc g i j c with e | e
  · rw [e]; exact h.c j
  · rw [e]; exact hc
theorem told (h : g.Sm) (i : Nat) : (g.told i).Sm := by
  have h1 := h.setc (i := i) (h.c i).mute
  refine ⟨h1.c, fun m hm => ?_⟩
  rcases List.mem_append.1 hm with e | e
  · exact h.n m e
  · exact (h.c i).o m e
theorem tickG (h : g.Sm) (i : Nat) : (g.tickG i).Sm := (h.setc (h.c i).tick).told i
theorem ticksG (h : g.Sm) : ∀ k, (g.ticksG k).Sm := by
  intro k
  induction k with
  | zero => exact h
  | succ k ih => exact ih.tickG k
theorem stepG (h : g.Sm) {m : Msg} {rest : List Msg} (hn : g.net = m :: rest) : (g.stepG m rest).Sm := by
  have hm : m.Sm := h.n m (by rw [hn]; exact List.mem_cons_self)
  have hr : Grp.Sm { g with net := rest } := ⟨h.c, fun x hx => h.n x (by rw [hn]; exact List.mem_cons_of_mem _ hx)⟩
  unfold Grp.stepG
  split
  · exact hr
  · exact (hr.setc (i := m.to) ((h.c m.to).step hm)).told m.to
theorem runG : ∀ k {g : Grp}, g.Sm → (Grp.runG k g).Sm := by
  intro k
  induction k with
  | zero => intro g h; exact h
  | succ k ih =>
    intro g h
    unfold Grp.runG
    split
    · exact h
    · rename_i m rest e
      exact ih (h.stepG e)
theorem hush (h : g.Sm) : g.hush.Sm := ⟨h.c, fun m hm => by cases hm⟩
theorem quiet (h : g.Sm) : g.quiet.Sm := (runG 2000 (h.ticksG _)).hush
end Grp.Sm
end Go.Proofs.Ythojhpjjkfjeiaa.Va
set_option maxRecDepth 100000
set_option maxHeartbeats 1000000
set_option linter.all false
namespace Go.Proofs.Ythojhpjjkfjeiaa.Va
open Go.Proofs
def memsB (l : List Int) : Bool := decide (l.length ≤ 7) && l.all fun x => decide (0 ≤ x) && decide (x < 7)
theorem memsB_ok {l : List Int} (h : memsB l = true) : mems l := by
  unfold memsB at h
  simp only [Bool.and_eq_true, decide_eq_true_eq, List.all_eq_true] at h
  exact ⟨h.1, fun x hx => h.2 x hx⟩
def Core.npB (c : Core) (k : Nat) : Bool := (decide (k = c.id) || (decide (0 < (c.peer k).next) && decide ((c.peer k).next ≤ c.last + 1))) && decide ((c.peer k).match_ ≤ c.last)
def Core.okB (c : Core) (n : Nat) : Bool :=
  decide (c.last < 4611686018427380000) && decide (c.l.length ≤ 64) && memsB c.snap.mem && decide (c.out.length + n ≤ 1000) && decide (c.yes.length + n ≤ 1000)
  && decide (c.commit ≤ c.last) && c.waits.isEmpty && decide (c.term + n < 2305843009213693952) && decide (c.peers.length = 7) && decide (c.snap.index = 0)
  && (decide (c.role ≠ 2) || (c.npB 0 && c.npB 1 && c.npB 2 && c.npB 3 && c.npB 4 && c.npB 5 && c.npB 6))
theorem Core.okB_ok {c : Core} {n : Nat} (hs : c.Sm) (h : c.okB n = true) : c.Ok n ∧ c.l.length ≤ 64 := by
  unfold Core.okB at h
  simp only [Bool.and_eq_true, decide_eq_true_eq, List.all_eq_true, Bool.or_eq_true, List.isEmpty_iff] at h
  obtain ⟨⟨⟨⟨⟨⟨⟨⟨⟨⟨h1, h2⟩, h4⟩, h5⟩, h6⟩, h7⟩, h8⟩, h9⟩, h10⟩, h11⟩, h12⟩ := h
  have hnp : c.role = 2 → ∀ k, k < 7 → c.npB k = true := fun hr k hk => by
    obtain ⟨⟨⟨⟨⟨⟨a0, a1⟩, a2⟩, a3⟩, a4⟩, a5⟩, a6⟩ := h12.resolve_left fun e => e hr
    rcases (by omega : k = 0 ∨ k = 1 ∨ k = 2 ∨ k = 3 ∨ k = 4 ∨ k = 5 ∨ k = 6) with rfl | rfl | rfl | rfl | rfl | rfl | rfl <;> assumption
  have hnp' : c.role = 2 → ∀ k, k < 7 → (k = c.id ∨ (0 < (c.peer k).next ∧ (c.peer k).next ≤ c.last + 1)) ∧ (c.peer k).match_ ≤ c.last := fun hr k hk => by
    have := hnp hr k hk
    unfold Core.npB at this
    simpa only [Bool.and_eq_true, decide_eq_true_eq, Bool.or_eq_true] using this
  exact ⟨⟨h1, by omega, fun e he => ⟨Nat.le_trans (hs.l e he).1 (by omega), (hs.l e he).2⟩, memsB_ok h4, h5, h6, fun hr to h7' hid => by
    have := (hnp' hr to h7').1.resolve_left hid
    omega, h7, h8, h9, h10, h11, fun hr k hk => (hnp' hr k hk).2⟩, h2⟩
def Msg.fineB (m : Msg) : Bool := decide (1 ≤ m.kind) && decide (m.kind ≤ 15) && decide (m.terms.length = m.entries.length) && decide (m.kinds.length = m.entries.length) && decide (m.entries.length ≤ 64) && decide (m.mem.length ≤ 7) && m.data.isEmpty
theorem Msg.Sm.at {m : Msg} (h : m.Sm) (i : Nat) : (m.entries.getD i []).length ≤ 700 := by
  rcases Nat.lt_or_ge i m.entries.length with hi | hi
  · rw [List.getD_eq_getElem?_getD, List.getElem?_eq_getElem hi]
    exact h.b _ (List.getElem_mem hi)
  · rw [List.getD_eq_getElem?_getD, List.getElem?_eq_none hi]
    exact Nat.zero_le _
theorem Msg.fineB_ok {m : Msg} (hs : m.Sm) (h : m.fineB = true) : m.Fine := by
  unfold Msg.fineB at h
  simp only [Bool.and_eq_true, decide_eq_true_eq, List.isEmpty_iff] at h
  obtain ⟨⟨⟨⟨⟨⟨h1, h2⟩, h3⟩, h4⟩, h5⟩, h6⟩, h7⟩ := h
  exact ⟨⟨h1, h2⟩, h3, h4, h5, h6, fun i _ => hs.at i, by rw [h7]; exact Nat.zero_le _⟩
theorem size_le {l : List Ent} (h : ∀ e ∈ l, e.data.length ≤ 700 ∧ mems e.mem) : sizes l ≤ l.length * 1432 := by
  induction l with
  | nil => exact Nat.zero_le _
  | cons a l ih =>
    have h1 := ih fun e he => h e (List.mem_cons_of_mem _ he)
    have h2 := h a List.mem_cons_self
    have h3 := h2.2.1
    simp only [sizes, List.map_cons, List.foldr_cons, List.length_cons, Ent.size] at h1 ⊢
    omega
/- What is committed, held against what a core has. -/
def cmpB : List (Nat × Ent) → List Ent → Nat → Nat → Bool
  | p :: ps, e :: es, k, r + 1 => decide (p.1 = k + 1) && cmpB ps es (k + 1) r
  | _, _, _, _ => true
def cmpP : List (Nat × Ent) → List Ent → Nat → List (Ent × Ent)
  | p :: ps, e :: es, r + 1 => (p.2, e) :: cmpP ps es r
  | _, _, _ => []
theorem cmp_ok : ∀ (ps : List (Nat × Ent)) (es : List Ent) (k r : Nat), cmpB ps es k r = true → (∀ p ∈ cmpP ps es r, p.1 = p.2) → ∀ j, j < r → j < es.length → ∀ (h : j < ps.length), ps[j] = (k + j + 1, es.getD j ent0) := by
  intro ps
  induction ps with
  | nil => intro es k r _ _ j _ _ h; exact absurd h (Nat.not_lt_zero _)
  | cons p ps ih =>
    intro es k r hb hp j hj he h
    cases es with
    | nil => exact absurd he (Nat.not_lt_zero _)
    | cons e es =>
      cases r with
      | zero => omega
      | succ r =>
        unfold cmpB at hb
        simp only [Bool.and_eq_true, decide_eq_true_eq] at hb
        obtain ⟨h1, h5⟩ := hb
        have h6 := hp (p.2, e) (by unfold cmpP; exact List.mem_cons_self)
        cases j with
        | zero =>
          obtain ⟨x, y⟩ := p
          simp only at h1 h6
          subst h1 h6
          rfl
        | succ j =>
          have := ih es (k + 1) r h5 (fun q hq => hp q (by unfold cmpP; exact List.mem_cons_of_mem _ hq)) j (by omega) (by simpa using he) (by simpa using h)
          simp only [List.getElem_cons_succ, List.getD_cons_succ]
          rw [this]
          congr 1
          omega
theorem allN_ok {g : Grp} {c : Core} (h : ∀ j, j < c.commit → ∀ (hj : j < g.all.length), g.all[j] = (j + 1, c.ent j)) : ∀ k, (g.allN c k).length = max g.all.length k ∧ ∀ j, j < c.commit → ∀ (hj : j < (g.allN c k).length), (g.allN c k)[j] = (j + 1, c.ent j) := by
  intro k
  induction k with
  | zero => exact ⟨(Nat.max_eq_left (Nat.zero_le _)).symm, h⟩
  | succ k ih =>
    obtain ⟨h1, h2⟩ := ih
    unfold Grp.allN
    split
    · rename_i e
      refine ⟨by rw [List.length_append, List.length_singleton]; omega, fun j hj hl => ?_⟩
      rw [List.getElem_append]
      split
      · exact h2 j hj _
      · rename_i hn
        have : j = k := by simp only [List.length_append, List.length_singleton] at hl; omega
        subst this
        simp
    · rename_i e
      refine ⟨by omega, h2⟩
def Grp.toldB (g : Grp) (i : Nat) : Bool :=
  decide (i < g.n) && (g.core i).okB 0 && (g.core i).out.all (fun m => m.fineB && decide (m.src = i) && decide (m.to < 7) && decide (m.to ≠ i)) && decide (g.net.length + (g.core i).out.length ≤ 3999)
  && decide (g.term.getD i 0 ≤ (g.core i).term) && decide (g.com.getD i 0 ≤ (g.core i).commit) && decide ((g.core i).role ≤ 2) && (g.core i).snap.data.isEmpty && cmpB g.all (g.core i).l 0 (g.core i).commit && decide (g.all.length ≤ 1000)
  && (decide ((g.core i).role ≠ 2) || (decide (g.lead.getD (g.core i).term 0 = 0) || decide (g.lead.getD (g.core i).term 0 = i + 1))) && (g.core i).reads.isEmpty
def Grp.toldP (g : Grp) (i : Nat) : List (Ent × Ent) := cmpP g.all (g.core i).l (g.core i).commit
theorem Grp.toldB_ok {g : Grp} {i : Nat} (hs : g.Sm) (h : g.toldB i = true) (hp : ∀ p ∈ g.toldP i, p.1 = p.2) : g.ToldOk i 0 := by
  unfold Grp.toldB at h
  unfold Grp.toldP at hp
  simp only [Bool.and_eq_true, decide_eq_true_eq, List.all_eq_true, Bool.or_eq_true, List.isEmpty_iff] at h
  obtain ⟨⟨⟨⟨⟨⟨⟨⟨⟨⟨⟨h1, h2⟩, h3⟩, h4⟩, h5⟩, h6⟩, h7⟩, h8⟩, h9⟩, h10⟩, h11⟩, h12⟩ := h
  have hc := hs.c i
  obtain ⟨hok, hl64⟩ := Core.okB_ok hc h2
  have hll : (g.core i).last = (g.core i).l.length := by have := hok.s0; unfold Core.last; omega
  have hcm := hok.cm
  have hal := allN_ok (g := g) (c := g.core i) fun j hj hl => by
    have := cmp_ok _ _ _ _ h9 hp j hj (by omega) hl
    rw [this, Nat.zero_add]
    rfl
  refine ⟨h1, hok, ?_, fun m hm => ?_, h4, h5, h6, h7, h8, fun k hk => ?_, h10, fun hr _ => ?_, h12⟩
  · have := size_le hc.l
    have := hok.sm.1
    unfold Core.size
    rw [h8]
    simp only [List.length_nil]
    omega
  · have := h3 m hm
    exact ⟨Msg.fineB_ok (hc.o m hm) this.1.1.1, this.1.1.2, this.1.2, this.2⟩
  · obtain ⟨e1, e2⟩ := hal (k + 1)
    have hl : k < (g.allN (g.core i) (k + 1)).length := by omega
    rw [List.getElem?_eq_getElem hl, e2 k hk hl]
  · exact h11.resolve_left fun e => e hr
def Core.stepB (c : Core) (m : Msg) : Bool :=
  c.okB 15 && decide (m.term + 15 < 2305843009213693952) && decide (m.to = c.id) && decide (m.src < 7) && decide (m.src ≠ c.id) && decide (1 ≤ m.kind) && decide (m.kind ≤ 4) && decide (m.index < 4611686018427380000)
  && decide (m.terms.length = m.n) && decide (m.kinds.length = m.n) && decide (m.n ≤ 100) && (decide (m.kind ≠ 3) || (decide (m.term < (c.step1 m).term) || (c.step1 m).take1.putOk m m.n))
theorem Core.stepB_ok {c : Core} {m : Msg} (hs : c.Sm) (hm : m.Sm) (h : c.stepB m = true) : c.StepOk m 0 := by
  unfold Core.stepB at h
  simp only [Bool.and_eq_true, decide_eq_true_eq, Bool.or_eq_true] at h
  obtain ⟨⟨⟨⟨⟨⟨⟨⟨⟨⟨⟨h1, h2⟩, h3⟩, h4⟩, h5⟩, h6⟩, h7⟩, h8⟩, h9⟩, h10⟩, h11⟩, h12⟩ := h
  exact ⟨(Core.okB_ok hs h1).1, h2, h3, h4, h5, by omega, h8, h9, h10, h11, fun i _ => Nat.le_trans (hm.at i) (by omega), fun e => h12.resolve_left fun e' => e' e⟩
def Grp.stepB (g : Grp) (m : Msg) (rest : List Msg) : Bool := decide (rest.length ≤ 5000) && (decide (g.n ≤ m.to) || ((g.core m.to).stepB m && (g.mid m rest).toldB m.to))
def Grp.stepP (g : Grp) (m : Msg) (rest : List Msg) : List (Ent × Ent) := if g.n ≤ m.to then [] else (g.mid m rest).toldP m.to
def Core.tickB (c : Core) : Bool := c.okB 22 && decide (c.beat < 2305843009213693952) && decide (-1000 ≤ c.left) && decide (c.left ≤ 1000)
def Grp.tick1 (g : Grp) (i : Nat) : Grp := g.setc i ((g.core i).tick ((7 * i % 10 : Nat) : Int))
def Grp.ticksB (g : Grp) : Nat → Bool
  | 0 => true
  | i + 1 => g.ticksB i && (((g.ticksG i).core i).tickB && ((g.ticksG i).tick1 i).toldB i)
def Grp.ticksP (g : Grp) : Nat → List (Ent × Ent)
  | 0 => []
  | i + 1 => g.ticksP i ++ ((g.ticksG i).tick1 i).toldP i
def Grp.runB : Nat → Grp → Bool
  | 0, _ => true
  | k + 1, g => match g.net with
    | [] => true
    | m :: rest => g.stepB m rest && Grp.runB k (g.stepG m rest)
def Grp.runP : Nat → Grp → List (Ent × Ent)
  | 0, _ => []
  | k + 1, g => match g.net with
    | [] => []
    | m :: rest => g.stepP m rest ++ Grp.runP k (g.stepG m rest)
def Grp.lastB (g : Grp) : Bool := (List.range g.n).all fun i => decide ((g.core i).l.length < 24) && decide ((g.core i).snap.index = 0) && (g.core i).snap.data.isEmpty
def Grp.quietB (g : Grp) : Bool := decide (g.n ≤ 5) && g.ticksB g.n && Grp.runB 2000 (g.ticksG g.n) && g.quiet.lastB
def Grp.quietP (g : Grp) : List (Ent × Ent) := g.ticksP g.n ++ Grp.runP 2000 (g.ticksG g.n)
def Grp.roundsB (g : Grp) : Nat → Bool
  | 0 => true
  | k + 1 => g.roundsB k && (g.rounds k).quietB
def Grp.roundsP (g : Grp) : Nat → List (Ent × Ent)
  | 0 => []
  | k + 1 => g.roundsP k ++ (g.rounds k).quietP
end Go.Proofs.Ythojhpjjkfjeiaa.Va
set_option maxRecDepth 100000
set_option maxHeartbeats 500000
set_option linter.all false
namespace Go.Proofs.Ythojhpjjkfjeiaa.Va
open Go.Proofs
theorem callD.grp {P : Program} {f : FuncId} {args : List AV} {σ : AState} {own : Nat → Nat} {bg : Nat} {g : Grp} {bs : Nat → Nat} {K : AV → AState → Prop} (h : callD P f args σ fun v s => v = .bool true ∧ ∃ own' A' Rs', NowG σ own bg own' g A' bs Rs' s) (k : ∀ s own' A' Rs', NowG σ own bg own' g A' bs Rs' s → K (.bool true) s) : callD P f args σ K :=
  h.mono fun v s e => by
    obtain ⟨rfl, own', A', Rs', n⟩ := e
    exact k s own' A' Rs' n
theorem ticksG_n (g : Grp) : ∀ k, (g.ticksG k).n = g.n := by
  intro k
  induction k with
  | zero => rfl
  | succ k ih => exact ih
theorem runG_n : ∀ k (g : Grp), (Grp.runG k g).n = g.n := by
  intro k
  induction k with
  | zero => intro g; rfl
  | succ k ih =>
    intro g
    unfold Grp.runG
    split
    · rfl
    · rw [ih]
      unfold Grp.stepG
      split <;> rfl
section
variable {σ : AState} {own : Nat → Nat} {bg : Nat} {g : Grp} {A : GR} {bs : Nat → Nat} {Rs : Nat → Rws}
theorem quiet_ac (h : GrpAt σ own bg g A bs Rs) (hs : g.Sm) (hb : g.quietB = true) (hp : ∀ p ∈ g.quietP, p.1 = p.2) : callD Try.prog 31 [.ptr bg 0] σ fun v s => v = .bool true ∧ ∃ own' A' Rs', NowG σ own bg own' g.quiet A' bs Rs' s := by
  have n0 := NowG.start h
  clear h
  unfold Grp.quietB at hb
  simp only [Bool.and_eq_true, decide_eq_true_eq] at hb
  obtain ⟨⟨⟨hn5, hbT⟩, hbR⟩, hbL⟩ := hb
  have hpT : ∀ p ∈ g.ticksP g.n, p.1 = p.2 := fun p hp' => hp p (List.mem_append_left _ hp')
  have hpR : ∀ p ∈ Grp.runP 2000 (g.ticksG g.n), p.1 = p.2 := fun p hp' => hp p (List.mem_append_right _ hp')
  clear hp
  have hTk : ∀ k, k ≤ g.n → g.ticksB k = true ∧ ∀ p ∈ g.ticksP k, p.1 = p.2 := by
    have : ∀ d k, k + d = g.n → g.ticksB k = true ∧ ∀ p ∈ g.ticksP k, p.1 = p.2 := by
      intro d
      induction d with
      | zero => intro k hk; rw [show k = g.n by omega]; exact ⟨hbT, hpT⟩
      | succ d ih =>
        intro k hk
        obtain ⟨a, b⟩ := ih (k + 1) (by omega)
        unfold Grp.ticksB at a
        rw [Bool.and_eq_true] at a
        exact ⟨a.1, fun p hp => b p (by unfold Grp.ticksP; exact List.mem_append_left _ hp)⟩
    exact fun k hk => this (g.n - k) k (by omega)
  refine cd_wp fn31 cf31 cl31 rfl ?_
  simp only [ac31]
  unfold ab31
  simp only [wpX_seq, wpX_skip, wpXK_normal]
  refine x_mid (fun ρ s => s = σ ∧ ρ.rd 0 = .ptr bg 0) ?_ ?_
  · simp only [XU, seval]
  rintro ρ s ⟨hs', h0⟩
  rw [hs']
  clear hs'
  rw [wpX_seq]
  refine x_mid (fun ρ s => ρ.rd 0 = .ptr bg 0 ∧ ∃ own' A' Rs', NowG σ own bg own' (g.ticksG g.n) A' bs Rs' s) ?_ ?_
  · simp only [XU, seval, h0]
    refine x_for (fun i ρ s => ρ.rd 0 = .ptr bg 0 ∧ ρ.rd 3 = .int .i64 (i : Int) ∧ ∃ own' A' Rs', NowG σ own bg own' (g.ticksG i) A' bs Rs' s) g.n ?_ ?_
    · simp only [XU, seval, h0]
      exact ⟨_, _, _, n0⟩
    clear h0 n0
    rintro i ρ s hi ⟨h0, h3, own1, A1, Rs1, n0⟩
    have cb := n0.co.cb
    have hgn := ticksG_n g i
    by_cases hlt : i < g.n
    rotate_left
    · have e : i = g.n := by omega
      have hge : ¬ (i : Int) < ((g.ticksG i).n : Int) := by omega
      simp only [XU, seval, h0, h3, cb, GS, hge]
      exact ⟨_, _, _, by rw [← e]; exact n0⟩
    have gi : (i : Int) < ((g.ticksG i).n : Int) := by omega
    have hi' : i < (g.ticksG i).n := by omega
    obtain ⟨hb1, hp1⟩ := hTk (i + 1) (by omega)
    have hsm := hs.ticksG i
    unfold Grp.ticksB at hb1
    rw [Bool.and_eq_true, Bool.and_eq_true] at hb1
    have hp2 : ∀ p ∈ ((g.ticksG i).tick1 i).toldP i, p.1 = p.2 := fun p hp => hp1 p (by unfold Grp.ticksP; exact List.mem_append_right _ hp)
    have hTB := hb1.2.1
    have hLB := hb1.2.2
    have hnext : g.ticksG (i + 1) = ((g.ticksG i).tick1 i).told i := rfl
    rw [hnext]
    generalize g.ticksG i = f at *
    unfold Core.tickB at hTB
    simp only [Bool.and_eq_true, decide_eq_true_eq] at hTB
    obtain ⟨⟨⟨hO, hB⟩, hl1⟩, hl2⟩ := hTB
    have hOk := (Core.okB_ok (hsm.c i) hO).1
    have hTo := Grp.toldB_ok (hsm.setc (i := i) ((hsm.c i).tick (d := ((7 * i % 10 : Nat) : Int)))) hLB hp2
    obtain ⟨bp, cp, csp, eA, crp, cip, obp, lbp⟩ := n0.co.ptr hi'
    have hx := lt_idx hi'
    have w7 : IntKind.i64.wrap (7 * (i : Int)) = ((7 * i : Nat) : Int) := by rw [wrapI (by omega) (by omega)]; omega
    have er : evalInt .rem .i64 ((7 * i : Nat) : Int) 10 = some (.int .i64 ((7 * i % 10 : Nat) : Int)) := by
      rw [ei_rem .i64 _ 10 (by decide), Int.tmod_eq_emod_of_nonneg (by omega)]
      rfl
    have wi : IntKind.i64.wrap ((i : Int) + 1) = ((i + 1 : Nat) : Int) := wrapSucc (by omega)
    have hTick := tick_ac (n := 0) (n0.co.cs i hi') (by omega) hOk hB ⟨hl1, hl2⟩ (d := ((7 * i % 10 : Nat) : Int))
    generalize hM7 : 7 * i = M7 at *
    generalize hM : M7 % 10 = M at *
    simp only [XU, seval, h0, h3, cb, GS, gi, eA, crp, cip, hx, w7, er]
    refine hTick.now fun s2 own2 R2 n2 => ?_
    have n3 := n0.core_ hi' n2
    have e1 : f.setc i ((f.core i).tick (M : Int)) = f.tick1 i := by unfold Grp.tick1; rw [hM7, hM]
    rw [e1] at n3 hTo
    have hTd := told_ac n3.co hTo
    clear hTick hTo hM hM7 er w7 e1 hLB hp2 n2
    generalize f.tick1 i = f2 at *
    simp only [XU, seval, h0, h3]
    refine hTd.grp fun s3 own4 A4 Rs4 n4 => ?_
    simp only [XU, seval, h0, h3, wi]
    exact ⟨hlt, _, _, _, n3.call n4⟩
  clear h0 n0
  rintro ρ s ⟨h0, own1, A1, Rs1, n0⟩
  have hsm := hs.ticksG g.n
  have hgn := ticksG_n g g.n
  have hq : g.quiet = (Grp.runG 2000 (g.ticksG g.n)).hush := rfl
  rw [hq] at hbL ⊢
  generalize g.ticksG g.n = f at *
  rw [wpX_seq]
  refine x_mid (fun ρ s => ρ.rd 0 = .ptr bg 0 ∧ ∃ own' A' Rs', NowG σ own bg own' (Grp.runG 2000 f) A' bs Rs' s) ?_ ?_
  · simp only [XU, seval, h0]
    refine x_for (fun i ρ s => ρ.rd 0 = .ptr bg 0 ∧ ρ.rd 4 = .int .i64 (i : Int) ∧ ∃ d own' A' Rs', NowG σ own bg own' d A' bs Rs' s ∧ d.Sm ∧ Grp.runB (2000 - i) d = true ∧ (∀ p ∈ Grp.runP (2000 - i) d, p.1 = p.2) ∧ Grp.runG (2000 - i) d = Grp.runG 2000 f) 2000 ?_ ?_
    · simp only [XU, seval, h0]
      exact ⟨_, _, _, _, n0, hsm, hbR, hpR, rfl⟩
    clear h0 n0 hsm hbR hpR
    rintro i ρ s hi ⟨h0, h4, d, own2, A2, Rs2, n0, hsm, hbR, hpR, hrun⟩
    have cb := n0.co.cb
    by_cases hlt : i < 2000
    rotate_left
    · have e : i = 2000 := by omega
      have hge : ¬ (i : Int) < 2000 := by omega
      rw [e] at hrun
      simp only [XU, seval, h0, h4, hge]
      exact ⟨_, _, _, by rw [← hrun]; exact n0⟩
    have gi : (i : Int) < 2000 := by omega
    have wi : IntKind.i64.wrap ((i : Int) + 1) = ((i + 1 : Nat) : Int) := wrapSucc (by omega)
    obtain ⟨k, hk⟩ : ∃ k, 2000 - i = k + 1 := ⟨1999 - i, by omega⟩
    have hk' : 2000 - (i + 1) = k := by omega
    rw [hk] at hbR hpR hrun
    rw [hk']
    cases hnet : d.net with
    | nil =>
      have hr : Grp.runG (k + 1) d = d := by unfold Grp.runG; rw [hnet]
      rw [hr] at hrun
      have hnf := n0.co.rn.form
      rw [hnet] at hnf
      have no : ¬ (0 : Int) < 0 := by omega
      rcases hnf with en | ⟨bn, cn, en⟩
      all_goals
        try simp only [List.length_nil] at en
        simp only [XU, seval, h0, h4, gi, cb, GS, en, no]
        exact ⟨_, _, _, by rw [← hrun]; exact n0⟩
    | cons m rest =>
      have hr : Grp.runG (k + 1) d = Grp.runG k (d.stepG m rest) := by conv => lhs; unfold Grp.runG; rw [hnet]
      rw [hr] at hrun
      have hb2 : d.stepB m rest = true ∧ Grp.runB k (d.stepG m rest) = true := by
        have : Grp.runB (k + 1) d = (d.stepB m rest && Grp.runB k (d.stepG m rest)) := by conv => lhs; unfold Grp.runB; rw [hnet]
        rw [this, Bool.and_eq_true] at hbR
        exact hbR
      have hp2 : Grp.runP (k + 1) d = d.stepP m rest ++ Grp.runP k (d.stepG m rest) := by conv => lhs; unfold Grp.runP; rw [hnet]
      rw [hp2] at hpR
      have hp3 : ∀ p ∈ d.stepP m rest, p.1 = p.2 := fun p hp => hpR p (List.mem_append_left _ hp)
      have hp4 : ∀ p ∈ Grp.runP k (d.stepG m rest), p.1 = p.2 := fun p hp => hpR p (List.mem_append_right _ hp)
      have hsm2 := hsm.stepG hnet
      have hlen : ∃ x, d.net.length = x + 1 := ⟨rest.length, by rw [hnet]; rfl⟩
      obtain ⟨x, hxl⟩ := hlen
      have gl : (0 : Int) < (d.net.length : Int) := by omega
      obtain ⟨bn, cn, csn, hrn⟩ := n0.co.rn.some (by omega)
      have en := hrn.eq
      have hb3 := hb2.1
      unfold Grp.stepB at hb3
      rw [Bool.and_eq_true, decide_eq_true_eq, Bool.or_eq_true, decide_eq_true_eq, Bool.and_eq_true] at hb3
      have hS := stepG_ac n0.co hnet hb3.1 fun hlt' => by
        have hb4 := hb3.2.resolve_left (by omega)
        have hm : m.Sm := hsm.n m (by rw [hnet]; exact List.mem_cons_self)
        refine ⟨0, Core.stepB_ok (hsm.c m.to) hm hb4.1, 0, Grp.toldB_ok ?_ hb4.2 fun p hp => hp3 p (by unfold Grp.stepP; rw [if_neg (by omega)]; exact hp)⟩
        have hr' : Grp.Sm { d with net := rest } := ⟨hsm.c, fun x hx => hsm.n x (by rw [hnet]; exact List.mem_cons_of_mem _ hx)⟩
        exact hr'.setc ((hsm.c m.to).step hm)
      simp only [XU, seval, h0, h4, gi, cb, GS, en, gl]
      refine hS.grp fun s2 own3 A3 Rs3 n3 => ?_
      simp only [XU, seval, h0, h4, wi]
      exact ⟨hlt, _, _, _, _, n0.call n3, hsm2, hb2.2, hp4, hrun⟩
  clear h0 n0
  rintro ρ s ⟨h0, own2, A2, Rs2, n0⟩
  have hgn2 := runG_n 2000 f
  generalize Grp.runG 2000 f = d at *
  rw [wpX_seq]
  refine x_mid (fun ρ s => ρ.rd 0 = .ptr bg 0 ∧ ∃ A', NowG σ own bg own2 d.hush A' bs Rs2 s) ?_ ?_
  · have cb := n0.co.cb
    have gle : decide (3 + 1 ≤ (grpC d A2).length) = true := by rw [grpC_len n0.co.ll]; decide
    simp only [XU, seval, h0, cb, GS, storeA, sets1, gle]
    exact ⟨_, n0.nil_net⟩
  clear h0 n0
  rintro ρ s ⟨h0, A3, n0⟩
  have hdn : d.hush.n = d.n := rfl
  generalize d.hush = q at *
  rw [wpX_seq]
  refine x_mid (fun ρ s => ρ.rd 0 = .ptr bg 0 ∧ NowG σ own bg own2 q A3 bs Rs2 s) ?_ ?_
  · unfold Grp.lastB at hbL
    simp only [List.all_eq_true, Bool.and_eq_true, decide_eq_true_eq, List.mem_range, List.isEmpty_iff] at hbL
    simp only [XU, seval, h0]
    refine x_for (fun i ρ s => ρ.rd 0 = .ptr bg 0 ∧ ρ.rd 5 = .int .i64 (i : Int) ∧ NowG σ own bg own2 q A3 bs Rs2 s) q.n ?_ ?_
    · simp only [XU, seval, h0]
      exact n0
    clear h0 n0
    rintro i ρ s hi ⟨h0, h5, n0⟩
    have cb := n0.co.cb
    by_cases hlt : i < q.n
    rotate_left
    · have e : i = q.n := by omega
      have hge : ¬ (i : Int) < (q.n : Int) := by omega
      simp only [XU, seval, h0, h5, cb, GS, hge]
      exact n0
    have gi : (i : Int) < (q.n : Int) := by omega
    have wi : IntKind.i64.wrap ((i : Int) + 1) = ((i + 1 : Nat) : Int) := wrapSucc (by have := n0.co.n5; omega)
    obtain ⟨⟨g1, g2⟩, g3⟩ := hbL i hlt
    have hco := n0.co.cs i hlt
    have hfit : (q.core i).fit := by unfold Core.fit Core.last; omega
    have hll : (q.core i).last = (q.core i).l.length := by unfold Core.last; omega
    obtain ⟨bp, cp, csp, eA, crp, cip, obp, lbp⟩ := n0.co.ptr hlt
    have hx := lt_idx hlt
    have lbg := n0.co.bn
    have hS : callD Try.prog 16 [.ptr (bs i) 0] s fun v s' => v = .tup [.int .i64 0, .psl [] 0 0] ∧ Keeps s.n s s' := by
      have := snap_ac hco (by rw [g3]; exact Nat.zero_le _)
      have e1 : ((q.core i).snap.index : Int) = 0 := by omega
      rw [e1, g3] at this
      exact this
    have w0 : IntKind.i64.wrap (((q.core i).last : Int) - 0) = ((q.core i).last : Int) := by rw [Int.sub_zero]; exact wrapN (by omega)
    have g24 : ¬ (24 : Int) ≤ ((q.core i).last : Int) := by omega
    simp only [XU, seval, h0, h5, cb, GS, gi, eA, crp, cip, hx]
    refine hS.kept fun s2 k2 => ?_
    have n2 := n0.keeps k2
    have cb2 := (k2.cells lbg).trans cb
    have crp2 := (k2.cells lbp).trans crp
    simp only [XU, seval, h0, h5, cb2, GS, eA, crp2, cip, hx]
    refine (last_o (n2.co.cs i hlt) hfit).use ?_
    simp only [XU, seval, h0, h5, w0, g24, wi]
    exact ⟨hlt, n2⟩
  clear h0 n0
  rintro ρ s ⟨h0, n0⟩
  simp only [XU, seval]
  exact ⟨_, _, _, n0⟩
end
end Go.Proofs.Ythojhpjjkfjeiaa.Va
set_option maxRecDepth 100000
set_option maxHeartbeats 1000000
set_option linter.all false
namespace Go.Proofs.Ythojhpjjkfjeiaa.Va
open Go.Proofs
theorem Grp.Sm.rounds {g : Grp} (h : g.Sm) : ∀ k, (g.rounds k).Sm := by
  intro k
  induction k with
  | zero => exact h
  | succ k ih => exact ih.quiet
def oneTo (n : Nat) : List Int := (List.range n).map Int.ofNat
theorem oneTo_succ (n : Nat) : oneTo (n + 1) = oneTo n ++ [(n : Int)] := by simp [oneTo, List.range_succ]
def Grp.propG (g : Grp) (k : Nat) (d : Byts) : Grp := (g.setc k ((g.core k).lay ⟨0, 1, d, []⟩)).told k
section
variable {σ : AState} {own : Nat → Nat} {bg : Nat} {g : Grp} {A : GR} {bs : Nat → Nat} {Rs : Nat → Rws}
theorem rounds_ac (h : GrpAt σ own bg g A bs Rs) (hs : g.Sm) {N : Nat} (hN : N ≤ 1000) (hb : g.roundsB N = true) (hp : ∀ p ∈ g.roundsP N, p.1 = p.2) : callD Try.prog 11 [.ptr bg 0, .int .i64 (N : Int)] σ fun v s => v = .bool true ∧ ∃ own' A' Rs', NowG σ own bg own' (g.rounds N) A' bs Rs' s := by
  have n0 := NowG.start h
  clear h
  have hTk : ∀ k, k ≤ N → g.roundsB k = true ∧ ∀ p ∈ g.roundsP k, p.1 = p.2 := by
    have : ∀ d k, k + d = N → g.roundsB k = true ∧ ∀ p ∈ g.roundsP k, p.1 = p.2 := by
      intro d
      induction d with
      | zero => intro k hk; rw [show k = N by omega]; exact ⟨hb, hp⟩
      | succ d ih =>
        intro k hk
        obtain ⟨a, b⟩ := ih (k + 1) (by omega)
        unfold Grp.roundsB at a
        rw [Bool.and_eq_true] at a
        exact ⟨a.1, fun p hp => b p (by unfold Grp.roundsP; exact List.mem_append_left _ hp)⟩
    exact fun k hk => this (N - k) k (by omega)
  clear hb hp
  refine cd_wp fn11 cf11 cl11 rfl ?_
  simp only [ac11]
  unfold ab11
  simp only [wpX_seq, wpX_skip, wpXK_normal]
  refine x_mid (fun ρ s => s = σ ∧ ρ.rd 0 = .ptr bg 0 ∧ ρ.rd 1 = .int .i64 (N : Int)) ?_ ?_
  · simp only [XU, seval]
  rintro ρ s ⟨hs', h0, h1⟩
  rw [hs']
  clear hs'
  rw [wpX_seq]
  refine x_mid (fun ρ s => ∃ own' A' Rs', NowG σ own bg own' (g.rounds N) A' bs Rs' s) ?_ ?_
  · simp only [XU, seval, h0]
    refine x_for (fun i ρ s => ρ.rd 0 = .ptr bg 0 ∧ ρ.rd 1 = .int .i64 (N : Int) ∧ ρ.rd 5 = .int .i64 (i : Int) ∧ ∃ own' A' Rs', NowG σ own bg own' (g.rounds i) A' bs Rs' s) N ?_ ?_
    · simp only [XU, seval, h0, h1]
      exact ⟨_, _, _, n0⟩
    clear h0 h1 n0
    rintro i ρ s hi ⟨h0, h1, h5, own1, A1, Rs1, n0⟩
    by_cases hlt : i < N
    rotate_left
    · have e : i = N := by omega
      have hge : ¬ (i : Int) < (N : Int) := by omega
      rw [e] at n0
      simp only [XU, seval, h0, h1, h5, hge]
      exact ⟨_, _, _, n0⟩
    have gi : (i : Int) < (N : Int) := by omega
    have wi : IntKind.i64.wrap ((i : Int) + 1) = ((i + 1 : Nat) : Int) := wrapSucc (by omega)
    obtain ⟨hb1, hp1⟩ := hTk (i + 1) (by omega)
    unfold Grp.roundsB at hb1
    rw [Bool.and_eq_true] at hb1
    have hQ := quiet_ac n0.co (hs.rounds i) hb1.2 fun p hp => hp1 p (by unfold Grp.roundsP; exact List.mem_append_right _ hp)
    have hnext : g.rounds (i + 1) = (g.rounds i).quiet := rfl
    rw [hnext]
    generalize g.rounds i = f at *
    simp only [XU, seval, h0, h1, h5, gi]
    refine hQ.grp fun s2 own2 A2 Rs2 n2 => ?_
    simp only [XU, seval, h0, h1, h5, wi]
    exact ⟨hlt, _, _, _, n0.call n2⟩
  clear h0 h1 n0
  rintro ρ s ⟨own1, A1, Rs1, n0⟩
  simp only [XU, seval]
  exact ⟨_, _, _, n0⟩
theorem leader_ac (h : GrpAt σ own bg g A bs Rs) {k : Nat} (hk : k < g.n) (hr : ∀ i, i < g.n → ((g.core i).role = 2 ↔ i = k)) : callD Try.prog 12 [.ptr bg 0] σ fun v s => s = σ ∧ v = .int .i64 (k : Int) := by
  have cb := h.cb
  have n5 := h.n5
  refine cd_wp fn12 cf12 cl12 rfl ?_
  simp only [ac12]
  unfold ab12
  simp only [wpX_seq, wpX_skip, wpXK_normal]
  refine x_mid (fun ρ s => s = σ ∧ ρ.rd 0 = .ptr bg 0) ?_ ?_
  · simp only [XU, seval]
  rintro ρ s ⟨hs', h0⟩
  rw [hs']
  clear hs'
  rw [wpX_seq]
  refine x_mid (fun ρ s => s = σ ∧ ρ.rd 0 = .ptr bg 0 ∧ ρ.rd 3 = .int .i64 (-1)) ?_ ?_
  · simp only [XU, seval, h0]
  clear h0
  rintro ρ s ⟨hs', h0, h3⟩
  rw [hs']
  clear hs'
  rw [wpX_seq]
  refine x_mid (fun ρ s => s = σ ∧ ρ.rd 3 = .int .i64 (k : Int)) ?_ ?_
  · simp only [XU, seval, h0, h3]
    refine x_for (fun i ρ s => s = σ ∧ ρ.rd 0 = .ptr bg 0 ∧ ρ.rd 4 = .int .i64 (i : Int) ∧ ρ.rd 3 = .int .i64 (if k < i then (k : Int) else -1)) g.n ?_ ?_
    · simp only [XU, seval, h0, h3]
      rw [if_neg (Nat.not_lt_zero _)]
    clear h0 h3
    rintro i ρ s hi ⟨hs', h0, h4, h3⟩
    rw [hs']
    clear hs'
    by_cases hlt : i < g.n
    rotate_left
    · have hge : ¬ (i : Int) < (g.n : Int) := by omega
      rw [if_pos (show k < i by omega)] at h3
      simp only [XU, seval, h0, h3, h4, cb, GS, hge]
    have gi : (i : Int) < (g.n : Int) := by omega
    have wi : IntKind.i64.wrap ((i : Int) + 1) = ((i + 1 : Nat) : Int) := wrapSucc (by omega)
    obtain ⟨bp, cp, csp, eA, crp, cip, obp, lbp⟩ := h.ptr hlt
    have hx := lt_idx hlt
    have hR := role_ac (h.cs i hlt)
    have hri := hr i hlt
    have no : ¬ (0 : Int) ≤ -1 := by omega
    by_cases e : i = k
    · have g2 : ((g.core i).role : Int) = 2 := by have := hri.2 e; omega
      rw [if_neg (show ¬ k < i by omega)] at h3
      have hif : (if k < i + 1 then (k : Int) else -1) = (i : Int) := by rw [if_pos (by omega), e]
      rw [hif]
      simp only [XU, seval, h0, h3, h4, cb, GS, gi, eA, crp, cip, hx]
      refine hR.use ?_
      simp only [XU, seval, h0, h3, h4, g2, no, wi]
      exact hlt
    · have g2 : ¬ ((g.core i).role : Int) = 2 := by have := fun e' => e (hri.1 e'); omega
      have hif : (if k < i + 1 then (k : Int) else -1) = (if k < i then (k : Int) else -1) := by
        by_cases h : k < i
        · rw [if_pos h, if_pos (by omega)]
        · rw [if_neg h, if_neg (by omega)]
      rw [hif]
      generalize (if k < i then (k : Int) else -1) = z at *
      simp only [XU, seval, h0, h3, h4, cb, GS, gi, eA, crp, cip, hx]
      refine hR.use ?_
      simp only [XU, seval, h0, h3, h4, g2, wi]
      exact hlt
  clear h0 h3
  rintro ρ s ⟨hs', h3⟩
  rw [hs']
  simp only [XU, seval, h3]
end
theorem first_st0 {n : Nat} (hn : n ≤ 100) : callD Try.prog 10 [.int .i64 (n : Int)] st0 fun v s => ∃ a, Pur s true v a ∧ a = intsP (oneTo n) := by
  unfold intsP
  refine cd_wp fn10 cf10 cl10 rfl ?_
  simp only [ac10]
  unfold ab10
  simp only [wpX_seq, wpX_skip, wpXK_normal]
  refine x_mid (fun ρ s => ρ.rd 0 = .int .i64 (n : Int)) ?_ ?_
  · simp only [XU, seval]
  rintro ρ s h0
  rw [wpX_seq]
  refine x_mid (fun ρ s => ρ.rd 0 = .int .i64 (n : Int) ∧ ρ.rd 3 = .nils) ?_ ?_
  · simp only [XU, seval, h0]
  clear h0
  rintro ρ s ⟨h0, h3⟩
  rw [wpX_seq]
  refine x_mid (fun ρ s => ∃ x, ρ.rd 3 = x ∧ RowP (fun _ => True) s x (ofInts (oneTo n)) (oneTo n).length 1) ?_ ?_
  · simp only [XU, seval, h0, h3]
    refine x_for (fun i ρ s => ρ.rd 0 = .int .i64 (n : Int) ∧ ρ.rd 4 = .int .i64 (i : Int) ∧ ∃ x, ρ.rd 3 = x ∧ RowP (fun _ => True) s x (ofInts (oneTo i)) (oneTo i).length 1) n ?_ ?_
    · simp only [XU, seval, h0, h3]
      exact ⟨_, rfl, RowP.nil _ _ _⟩
    clear h0 h3
    rintro i ρ s hi ⟨h0, h4, x, h3, hrow⟩
    by_cases hlt : i < n
    rotate_left
    · have e : i = n := by omega
      have hge : ¬ (i : Int) < (n : Int) := by omega
      rw [e] at hrow
      simp only [XU, seval, h0, h3, h4, hge]
      exact ⟨_, rfl, hrow⟩
    have gi : (i : Int) < (n : Int) := by omega
    have wi : IntKind.i64.wrap ((i : Int) + 1) = ((i + 1 : Nat) : Int) := wrapSucc (by omega)
    have hl : (oneTo i).length = i := by simp [oneTo]
    obtain ⟨b9, cap9, s9, happ, hrow9, hn9, hk9⟩ := app_lit (bytes := 8) hrow (fun _ _ => trivial) (new := [.int .i64 (i : Int)]) (k := 1) rfl rfl (by omega) (by omega)
    simp only [XU, seval, h0, h3, h4, gi, fillA]
    simp only [XU, seval, happ, h0, h4, wi]
    refine ⟨hlt, _, rfl, ?_⟩
    rw [oneTo_succ]
    have e : ofInts (oneTo i ++ [(i : Int)]) = ofInts (oneTo i) ++ [.int .i64 (i : Int)] := by simp [ofInts]
    rw [e, List.length_append]
    exact hrow9
  rintro ρ s ⟨x, h3, hrow⟩
  simp only [XU, seval, h3]
  exact ⟨_, hrow.self fun a ha => .flat _ (ofInts_mem ha), rfl⟩
theorem first_ac {n : Nat} (hn : n ≤ 100) {σ : AState} : callD Try.prog 10 [.int .i64 (n : Int)] σ fun v s => s = σ ∧ v = intsP (oneTo n) :=
  callD.share (R := fun v => v = intsP (oneTo n)) (.cons (.flat rfl) .nil) (first_st0 hn)
end Go.Proofs.Ythojhpjjkfjeiaa.Va
