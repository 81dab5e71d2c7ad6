/- Texts Rq26 to Rq29 of this claim, in one. Conditions: none. -/
import Derived.Test.YthojhpjjkfjeiaaM6
set_option maxRecDepth 100000
set_option maxHeartbeats 1000000
set_option linter.all false
namespace Go.Proofs.Ythojhpjjkfjeiaa.Va
open Go.Proofs
def natsC (l : List Nat) : List AV := l.map fun n : Nat => .int .i64 (n : Int)
/- A committed entry, its index ahead. -/
def Ep (e : Nat × Ent) : List AV := [.int .i64 (e.1 : Int), .int .i64 (e.2.term : Int), .int .i64 (e.2.kind : Int), bytesP e.2.data, intsP e.2.mem]
theorem Ep_len (e : Nat × Ent) : (Ep e).length = 5 := rfl
structure Grp where
  n : Nat
  cores : List Core
  net : List Msg
  all : List (Nat × Ent)
  term : List Nat
  com : List Nat
  lead : List Nat
  made : Nat
  got : Nat
structure GR where
  r : AV
  s : AV
  net : AV
  all : AV
  term : AV
  com : AV
  asks : AV
def core0 : Core := ⟨⟨0, 0, [], []⟩, [], 0, 0, -1, 0, 0, [], [], 0, [], [], 0, 0, 0, []⟩
def Grp.core (g : Grp) (i : Nat) : Core := g.cores.getD i core0
def Grp.setc (g : Grp) (i : Nat) (c : Core) : Grp := { g with cores := g.cores.set i c }
def grpC (g : Grp) (A : GR) : List AV := .int .i64 (g.n : Int) :: A.r :: A.s :: A.net :: A.all :: A.term :: A.com :: (natsC g.lead ++ [A.asks, .int .i64 (g.made : Int), .int .i64 (g.got : Int)])
section
variable (g : Grp) (A : GR)
theorem gg0 : (grpC g A)[0]? = some (.int .i64 (g.n : Int)) := rfl
theorem gg1 : (grpC g A)[1]? = some A.r := rfl
theorem gg2 : (grpC g A)[2]? = some A.s := rfl
theorem gg3 : (grpC g A)[3]? = some A.net := rfl
theorem gg4 : (grpC g A)[4]? = some A.all := rfl
theorem gg5 : (grpC g A)[5]? = some A.term := rfl
theorem gg6 : (grpC g A)[6]? = some A.com := rfl
theorem gs3 (x : AV) : setx (grpC g A) 3 x = grpC g { A with net := x } := rfl
theorem gs4 (x : AV) : setx (grpC g A) 4 x = grpC g { A with all := x } := rfl
def GS := And.intro (And.intro (And.intro @gg0 @gg1) (And.intro @gg2 @gg3)) (And.intro (And.intro @gg4 @gg5) (And.intro @gg6 (And.intro @gs3 @gs4)))
variable {g A}
theorem grpC_len (h : g.lead.length = 400) : (grpC g A).length = 410 := by simp [grpC, natsC, h]
theorem gg408 (h : g.lead.length = 400) : (grpC g A)[408]? = some (.int .i64 (g.made : Int)) := by
  simp only [grpC, List.getElem?_cons_succ]
  rw [List.getElem?_append_right (by simp [natsC, h])]
  simp [natsC, h]
theorem gg407 (h : g.lead.length = 400) : (grpC g A)[407]? = some A.asks := by
  simp only [grpC, List.getElem?_cons_succ]
  rw [List.getElem?_append_right (by simp [natsC, h])]
  simp [natsC, h]
theorem ggL (h : g.lead.length = 400) {k : Nat} (hk : k < 400) : (grpC g A)[7 + k]? = some (.int .i64 ((g.lead.getD k 0 : Nat) : Int)) := by
  rw [Nat.add_comm]
  simp only [grpC, List.getElem?_cons_succ]
  rw [List.getElem?_append_left (by simp [natsC, h]; omega)]
  simp [natsC, List.getElem?_eq_getElem (show k < g.lead.length by omega)]
theorem setx_set {cs : List AV} {i : Nat} {v : AV} (h : i < cs.length) : setx cs i v = cs.set i v := by
  unfold setx
  rw [List.set_eq_take_append_cons_drop, if_pos h]
theorem set_nats (l : List Nat) (k v : Nat) : (natsC l).set k (.int .i64 (v : Int)) = natsC (l.set k v) := by simp [natsC, List.map_set]
theorem gsL (h : g.lead.length = 400) {k : Nat} (hk : k < 400) (v : Nat) : setx (grpC g A) (7 + k) (.int .i64 (v : Int)) = grpC { g with lead := g.lead.set k v } A := by
  rw [setx_set (by rw [grpC_len h]; omega), Nat.add_comm]
  unfold grpC
  simp only [List.set_cons_succ]
  rw [List.set_append_left _ _ (by simp [natsC, h]; omega), set_nats]
theorem gs408 (h : g.lead.length = 400) (v : Nat) : setx (grpC g A) 408 (.int .i64 (v : Int)) = grpC { g with made := v } A := by
  rw [setx_set (by rw [grpC_len h]; omega)]
  unfold grpC
  simp only [List.set_cons_succ]
  rw [List.set_append_right _ _ (by simp [natsC, h])]
  simp [natsC, h]
end
structure GrpAt (σ : AState) (own : Nat → Nat) (bg : Nat) (g : Grp) (A : GR) (bs : Nat → Nat) (Rs : Nat → Rws) : Prop where
  cb : σ.cells bg = some (grpC g A)
  ob : own bg = 20
  bn : bg < σ.n
  rr : RowP (fun k => own k = 21) σ A.r ((List.range g.n).map fun i => .ptr (bs i) 0) g.n 1
  rs : ∃ ss, RowP (fun k => own k = 22) σ A.s ss g.n 1 ∧ ∀ a ∈ ss, a.one = true
  rn : RowP (fun k => own k = 23) σ A.net (rowc Msg.c g.net) g.net.length 14
  ra : RowP (fun k => own k = 24) σ A.all (rowc Ep g.all) g.all.length 5
  rt : RowP (fun k => own k = 25) σ A.term (natsC g.term) g.n 1
  rc : RowP (fun k => own k = 26) σ A.com (natsC g.com) g.n 1
  rk : RowP (fun k => own k = 27) σ A.asks (List.replicate g.n .nils) g.n 1
  cs : ∀ i, i < g.n → CoreAt σ own (30 + 10 * i) (bs i) (g.core i) (Rs i)
  ll : g.lead.length = 400
  n5 : g.n ≤ 5
  cl : g.cores.length = g.n
def MineG (own : Nat → Nat) (k : Nat) : Prop := 20 ≤ own k ∧ own k < 100
structure TurnsG (own own' : Nat → Nat) (σ s : AState) : Prop where
  n : σ.n ≤ s.n
  ow : ∀ k, k < σ.n → own' k = own k
  keep : ∀ k, k < σ.n → ¬ MineG own k → s.h.get k = σ.h.get k
theorem TurnsG.refl {own : Nat → Nat} {σ : AState} : TurnsG own own σ σ := ⟨Nat.le_refl _, fun _ _ => rfl, fun _ _ _ => rfl⟩
theorem TurnsG.trans {own own' own'' : Nat → Nat} {σ s s' : AState} (h : TurnsG own own' σ s) (h' : TurnsG own' own'' s s') : TurnsG own own'' σ s' :=
  ⟨Nat.le_trans h.n h'.n, fun k hk => (h'.ow k (Nat.lt_of_lt_of_le hk h.n)).trans (h.ow k hk),
   fun k hk hm => (h'.keep k (Nat.lt_of_lt_of_le hk h.n) (by unfold MineG at hm ⊢; rw [h.ow k hk]; exact hm)).trans (h.keep k hk hm)⟩
theorem TurnsG.cells {own own' : Nat → Nat} {σ s : AState} (h : TurnsG own own' σ s) {k : Nat} (hk : k < σ.n) (hm : own k < 20 ∨ 100 ≤ own k) : s.cells k = σ.cells k := get_cells (h.keep k hk fun e => by unfold MineG at e; omega)
namespace GrpAt
variable {σ s : AState} {own own' : Nat → Nat} {bg : Nat} {g : Grp} {A : GR} {bs : Nat → Nat} {Rs : Nat → Rws}
theorem own_ (h : GrpAt σ own bg g A bs Rs) (he : ∀ k, k < σ.n → own' k = own k) : GrpAt σ own' bg g A bs Rs := by
  obtain ⟨ss, hs, ho⟩ := h.rs
  exact ⟨h.cb, (he _ h.bn).trans h.ob, h.bn, h.rr.mono fun k hk hn => (he k hn).trans hk, ⟨ss, hs.mono fun k hk hn => (he k hn).trans hk, ho⟩, h.rn.mono fun k hk hn => (he k hn).trans hk, h.ra.mono fun k hk hn => (he k hn).trans hk,
    h.rt.mono fun k hk hn => (he k hn).trans hk, h.rc.mono fun k hk hn => (he k hn).trans hk, h.rk.mono fun k hk hn => (he k hn).trans hk, fun i hi => (h.cs i hi).own_ he, h.ll, h.n5, h.cl⟩
theorem keep (h : GrpAt σ own bg g A bs Rs) (hn : σ.n ≤ s.n) (hk : ∀ k, k < σ.n → MineG own k → s.cells k = σ.cells k) : GrpAt s own bg g A bs Rs := by
  have m : ∀ j, 20 ≤ j → j < 30 → ∀ k, k < σ.n → own k = j → s.cells k = σ.cells k := fun j h1 h2 k hkn e => hk k hkn (by unfold MineG; omega)
  obtain ⟨ss, hs, ho⟩ := h.rs
  have n5 := h.n5
  exact ⟨(m 20 (by omega) (by omega) bg h.bn h.ob).trans h.cb, h.ob, Nat.lt_of_lt_of_le h.bn hn, h.rr.keep hn (m 21 (by omega) (by omega)), ⟨ss, hs.keep hn (m 22 (by omega) (by omega)), ho⟩, h.rn.keep hn (m 23 (by omega) (by omega)), h.ra.keep hn (m 24 (by omega) (by omega)),
    h.rt.keep hn (m 25 (by omega) (by omega)), h.rc.keep hn (m 26 (by omega) (by omega)), h.rk.keep hn (m 27 (by omega) (by omega)), fun i hi => (h.cs i hi).keep hn fun k hkn hm => hk k hkn (by unfold Mine at hm; unfold MineG; omega), h.ll, h.n5, h.cl⟩
theorem keeps (h : GrpAt σ own bg g A bs Rs) (hk : Keeps σ.n σ s) : GrpAt s own bg g A bs Rs := h.keep hk.1 fun k hk' _ => hk.cells hk'
/- A core turns. -/
theorem core_ (h : GrpAt σ own bg g A bs Rs) {i : Nat} (hi : i < g.n) {c' : Core} {R' : Rws} (hw : Now σ own (30 + 10 * i) (bs i) own' c' R' s) : GrpAt s own' bg (g.setc i c') A bs (fun j => if j = i then R' else Rs j) := by
  have n5 := h.n5
  have hm : ∀ j, 20 ≤ j → j < 30 → ∀ k, k < σ.n → own k = j → s.cells k = σ.cells k := fun j h1 h2 k hkn e => hw.tr.cells hkn (by omega)
  have mv : ∀ {x : AV} {c : List AV} {n sz : Nat} (j : Nat), 20 ≤ j → j < 30 → RowP (fun k => own k = j) σ x c n sz → RowP (fun k => own' k = j) s x c n sz := fun j h1 h2 hr => ((hr.mono (q := fun k => own' k = j) fun k hk hn => (hw.tr.ow k hn).trans hk).keep hw.tr.n fun k hkn e => hm j h1 h2 k hkn ((hw.tr.ow k hkn).symm.trans e))
  obtain ⟨ss, hs, ho⟩ := h.rs
  refine ⟨(hm 20 (by omega) (by omega) bg h.bn h.ob).trans h.cb, (hw.tr.ow _ h.bn).trans h.ob, Nat.lt_of_lt_of_le h.bn hw.tr.n, mv 21 (by omega) (by omega) h.rr, ⟨ss, mv 22 (by omega) (by omega) hs, ho⟩, mv 23 (by omega) (by omega) h.rn, mv 24 (by omega) (by omega) h.ra,
    mv 25 (by omega) (by omega) h.rt, mv 26 (by omega) (by omega) h.rc, mv 27 (by omega) (by omega) h.rk, fun j hj => ?_, h.ll, h.n5, by show (g.cores.set i c').length = _; rw [List.length_set]; exact h.cl⟩
  have hcj : (g.setc i c').core j = if j = i then c' else g.core j := by
    unfold Grp.setc Grp.core
    simp only [List.getD_eq_getElem?_getD, List.getElem?_set]
    by_cases e : i = j
    · subst e; simp [h.cl, hi]
    · rw [if_neg e, if_neg (fun e' => e e'.symm)]
  rw [hcj]
  by_cases e : j = i
  · subst e
    rw [if_pos rfl]
    simp only [if_true]
    exact hw.co
  · rw [if_neg e]
    simp only [e, if_false]
    have hj' : j < g.n := hj
    exact ((h.cs j hj').own_ hw.tr.ow).keep hw.tr.n fun k hkn hm => hw.tr.cells hkn (by unfold Mine at hm; rw [hw.tr.ow k hkn] at hm; omega)
end GrpAt
/- Where a walk of a group's has come to. -/
structure NowG (σ : AState) (own : Nat → Nat) (bg : Nat) (own' : Nat → Nat) (g : Grp) (A : GR) (bs : Nat → Nat) (Rs : Nat → Rws) (s : AState) : Prop where
  tr : TurnsG own own' σ s
  co : GrpAt s own' bg g A bs Rs
namespace NowG
variable {σ s s' : AState} {own own' own'' : Nat → Nat} {bg : Nat} {g g' : Grp} {A A' : GR} {bs : Nat → Nat} {Rs Rs' : Nat → Rws}
theorem start (h : GrpAt σ own bg g A bs Rs) : NowG σ own bg (loc own σ.n) g A bs Rs σ := ⟨⟨Nat.le_refl _, fun k hk => loc_lt hk, fun _ _ _ => rfl⟩, h.own_ fun k hk => loc_lt hk⟩
theorem call (h : NowG σ own bg own' g A bs Rs s) (h' : NowG s own' bg own'' g' A' bs Rs' s') : NowG σ own bg own'' g' A' bs Rs' s' := ⟨h.tr.trans h'.tr, h'.co⟩
theorem keeps (h : NowG σ own bg own' g A bs Rs s) (hk : Keeps s.n s s') : NowG σ own bg own' g A bs Rs s' := ⟨h.tr.trans ⟨hk.1, fun _ _ => rfl, fun k hk' _ => hk.2 k hk'⟩, h.co.keeps hk⟩
theorem push (h : NowG σ own bg own' g A bs Rs s) (o : List AV) : NowG σ own bg own' g A bs Rs (s.push (.cells o)) := h.keeps ((Keeps.refl s).push _)
theorem slots (h : NowG σ own bg own' g A bs Rs s) (m : Nat) (sl : List (Nat × List AV)) : NowG σ own bg own' g A bs Rs (addSlots s.n m s sl) := h.keeps (slots_keep (Keeps.refl s))
theorem core_ (h : NowG σ own bg own' g A bs Rs s) {i : Nat} (hi : i < g.n) {c' : Core} {R' : Rws} (hw : Now s own' (30 + 10 * i) (bs i) own'' c' R' s') : NowG σ own bg own'' (g.setc i c') A bs (fun j => if j = i then R' else Rs j) s' := by
  have n5 := h.co.n5
  refine ⟨h.tr.trans ⟨hw.tr.n, hw.tr.ow, fun k hk hm => hw.tr.keep k hk fun e => hm (by unfold Mine at e; unfold MineG; omega)⟩, h.co.core_ hi hw⟩
theorem loc_ (h : NowG σ own bg own' g A bs Rs s) : NowG σ own bg (loc own' s.n) g A bs Rs s :=
  ⟨⟨h.tr.n, fun k hk => (loc_lt (Nat.lt_of_lt_of_le hk h.tr.n)).trans (h.tr.ow k hk), h.tr.keep⟩, h.co.own_ fun k hk => loc_lt hk⟩
/- A local block turns. -/
theorem local_ (h : NowG σ own bg own' g A bs Rs s) {q : Nat} (hq : σ.n ≤ q) (h0 : own' q = 0) (o : List AV) : NowG σ own bg own' g A bs Rs (s.put q o) :=
  ⟨⟨h.tr.n, h.tr.ow, fun k hk hm => (put_h (by omega)).trans (h.tr.keep k hk hm)⟩, h.co.keep (Nat.le_refl _) fun k hk hm => by
    have : k ≠ q := fun e => by subst e; unfold MineG at hm; omega
    rw [put_get, if_neg this]⟩
end NowG
end Go.Proofs.Ythojhpjjkfjeiaa.Va
set_option maxRecDepth 100000
set_option maxHeartbeats 1000000
set_option linter.all false
namespace Go.Proofs.Ythojhpjjkfjeiaa.Va
open Go.Proofs
theorem rowc_nil' {α : Type} (f : α → List AV) : rowc f [] = [] := rfl
namespace NowG
variable {σ s s' : AState} {own own' own'' : Nat → Nat} {bg : Nat} {g g' : Grp} {A A' : GR} {bs : Nat → Nat} {Rs Rs' : Nat → Rws}

theorem set_term (h : NowG σ own bg own' g A bs Rs s) {i : Nat} (hi : i < g.n) {v : Nat} {b : Nat} {cap : Option Nat} {cs : List AV} (hr : RowS (fun k => own' k = 25) s A.term (natsC g.term) g.n 1 b cap cs) : NowG σ own bg own' { g with term := g.term.set i v } A bs Rs (s.put b (setx cs i (.int .i64 (v : Int)))) := by
  have hob := h.co.ob
  have n5 := h.co.n5
  have hw := hr.own
  obtain ⟨ss, hs, ho⟩ := h.co.rs
  have ne : ∀ j, j ≠ 25 → ¬ own' b = j := fun j hj e => hj (e.symm.trans hw)
  have hbg : ¬ bg = b := fun e => by rw [e] at hob; omega
  have hset := hr.setx (o := i) (by omega) (.int .i64 (v : Int))
  have hl : (natsC g.term).length = g.n := by rw [h.co.rt.len.2, Nat.mul_one]
  have hfit := hr.fit
  rw [setx_set (by omega), setx_set (by rw [hl]; exact hi), set_nats] at hset
  rw [setx_set (by have := hr.fit; omega)]
  refine ⟨h.tr.trans ⟨Nat.le_refl _, fun _ _ => rfl, fun k hk hm => put_h fun e => hm (by subst e; unfold MineG; omega)⟩, by rw [put_get, if_neg hbg]; exact h.co.cb, h.co.ob, h.co.bn, h.co.rr.put (ne 21 (by omega)) _, ⟨ss, hs.put (ne 22 (by omega)) _, ho⟩, h.co.rn.put (ne 23 (by omega)) _, h.co.ra.put (ne 24 (by omega)) _, hset, h.co.rc.put (ne 26 (by omega)) _, h.co.rk.put (ne 27 (by omega)) _, fun j hj => (h.co.cs j hj).put_other (by have : j < g.n := hj; omega) _, h.co.ll, h.co.n5, h.co.cl⟩
theorem set_com (h : NowG σ own bg own' g A bs Rs s) {i : Nat} (hi : i < g.n) {v : Nat} {b : Nat} {cap : Option Nat} {cs : List AV} (hr : RowS (fun k => own' k = 26) s A.com (natsC g.com) g.n 1 b cap cs) : NowG σ own bg own' { g with com := g.com.set i v } A bs Rs (s.put b (setx cs i (.int .i64 (v : Int)))) := by
  have hob := h.co.ob
  have n5 := h.co.n5
  have hw := hr.own
  obtain ⟨ss, hs, ho⟩ := h.co.rs
  have ne : ∀ j, j ≠ 26 → ¬ own' b = j := fun j hj e => hj (e.symm.trans hw)
  have hbg : ¬ bg = b := fun e => by rw [e] at hob; omega
  have hset := hr.setx (o := i) (by omega) (.int .i64 (v : Int))
  have hl : (natsC g.com).length = g.n := by rw [h.co.rc.len.2, Nat.mul_one]
  have hfit := hr.fit
  rw [setx_set (by omega), setx_set (by rw [hl]; exact hi), set_nats] at hset
  rw [setx_set (by have := hr.fit; omega)]
  refine ⟨h.tr.trans ⟨Nat.le_refl _, fun _ _ => rfl, fun k hk hm => put_h fun e => hm (by subst e; unfold MineG; omega)⟩, by rw [put_get, if_neg hbg]; exact h.co.cb, h.co.ob, h.co.bn, h.co.rr.put (ne 21 (by omega)) _, ⟨ss, hs.put (ne 22 (by omega)) _, ho⟩, h.co.rn.put (ne 23 (by omega)) _, h.co.ra.put (ne 24 (by omega)) _, h.co.rt.put (ne 25 (by omega)) _, hset, h.co.rk.put (ne 27 (by omega)) _, fun j hj => (h.co.cs j hj).put_other (by have : j < g.n := hj; omega) _, h.co.ll, h.co.n5, h.co.cl⟩
theorem set_s (h : NowG σ own bg own' g A bs Rs s) {i : Nat} (hi : i < g.n) {v : AV} (hv : v.one = true)  {b : Nat} {cap : Option Nat} {cs ss0 : List AV} (hr : RowS (fun k => own' k = 22) s A.s ss0 g.n 1 b cap cs) (hs0 : ∀ a ∈ ss0, a.one = true) : NowG σ own bg own' g A bs Rs (s.put b (setx cs i v)) := by
  have hob := h.co.ob
  have n5 := h.co.n5
  have hw := hr.own
  obtain ⟨ss, hs, ho⟩ := h.co.rs
  have ne : ∀ j, j ≠ 22 → ¬ own' b = j := fun j hj e => hj (e.symm.trans hw)
  have hbg : ¬ bg = b := fun e => by rw [e] at hob; omega
  have hset := hr.setx (o := i) (by omega) v
  have hone : ∀ a ∈ setx ss0 i v, a.one = true := fun a ha => by
    unfold setx at ha
    rcases List.mem_append.1 ha with e | e
    · exact hs0 a (List.mem_of_mem_take e)
    · rcases List.mem_cons.1 e with e | e
      · rw [e]; exact hv
      · exact hs0 a (List.mem_of_mem_drop e)
  refine ⟨h.tr.trans ⟨Nat.le_refl _, fun _ _ => rfl, fun k hk hm => put_h fun e => hm (by subst e; unfold MineG; omega)⟩, by rw [put_get, if_neg hbg]; exact h.co.cb, h.co.ob, h.co.bn, h.co.rr.put (ne 21 (by omega)) _, ⟨_, hset, hone⟩, h.co.rn.put (ne 23 (by omega)) _, h.co.ra.put (ne 24 (by omega)) _, h.co.rt.put (ne 25 (by omega)) _, h.co.rc.put (ne 26 (by omega)) _, h.co.rk.put (ne 27 (by omega)) _, fun j hj => (h.co.cs j hj).put_other (by have : j < g.n := hj; omega) _, h.co.ll, h.co.n5, h.co.cl⟩
theorem app_net (h : NowG σ own bg own' g A bs Rs s) (m : Msg) (hc : g.net.length ≤ 100000) : ∃ b9 cap9 s9, appendA (s.push (.cells (Msg.c m))) 14 192 A.net (.sl s.n 0 1 (some 1) 14) = some (.sl b9 0 (g.net.length + 1) cap9 14, s9) ∧ s9.cells bg = some (grpC g A) ∧
    NowG σ own bg (loc (tag own' s.n 23) s9.n) { g with net := g.net ++ [m] } { A with net := .sl b9 0 (g.net.length + 1) cap9 14 } bs Rs (s9.put bg (grpC g { A with net := .sl b9 0 (g.net.length + 1) cap9 14 })) ∧ (∀ q, q < s.n → own' q ≠ 23 → s9.cells q = s.cells q) ∧ s.n < s9.n := by
  have h1 := h.co.own_ (own' := tag own' s.n 23) fun k hk => tag_lt hk
  obtain ⟨b9, cap9, s9, happ, hrow9, hn9, hk9⟩ := app_lit (bytes := 192) h1.rn (fun k hk => tag_ge hk) (new := Msg.c m) (k := 1) rfl rfl (by omega) (by omega)
  have hkeep : ∀ k, k < s.n → own' k ≠ 23 → s9.h.get k = s.h.get k := fun k hk hne => hk9 k hk (by rw [tag_lt hk]; exact hne)
  have hkc : ∀ k, k < s.n → own' k ≠ 23 → s9.cells k = s.cells k := fun k hk hne => get_cells (hkeep k hk hne)
  have hob := h.co.ob
  have n5 := h.co.n5
  have hb9 : s9.cells bg = some (grpC g A) := (hkc bg h.co.bn (by omega)).trans h.co.cb
  have lt9 : ∀ k, k < s.n → loc (tag own' s.n 23) s9.n k = own' k := fun k hk => by rw [loc_lt (by omega), tag_lt hk]
  have ne : ∀ j, j ≠ 20 → ¬ loc (tag own' s.n 23) s9.n bg = j := fun j hj e => by rw [lt9 bg h.co.bn] at e; omega
  have mv : ∀ {x : AV} {c : List AV} {n sz : Nat} (j : Nat), j ≠ 20 → j ≠ 23 → RowP (fun k => own' k = j) s x c n sz → RowP (fun k => loc (tag own' s.n 23) s9.n k = j) (s9.put bg (grpC g { A with net := .sl b9 0 (g.net.length + 1) cap9 14 })) x c n sz := fun j h1 h2 hr => ((hr.mono fun k hk hn => (lt9 k hn).trans hk).keep (Nat.le_of_lt hn9) fun k hk hp => hkc k hk (by rw [lt9 k hk] at hp; omega)).put (ne j h1) _
  obtain ⟨ss, hs, ho⟩ := h.co.rs
  refine ⟨b9, cap9, s9, happ, hb9, ⟨⟨Nat.le_trans h.tr.n (Nat.le_of_lt hn9), fun k hk => (lt9 k (Nat.lt_of_lt_of_le hk h.tr.n)).trans (h.tr.ow k hk), fun k hk hm => ?_⟩, by rw [put_get, if_pos rfl]; rfl, (lt9 bg h.co.bn).trans hob, Nat.lt_trans h.co.bn hn9, mv 21 (by omega) (by omega) h.co.rr, ⟨ss, mv 22 (by omega) (by omega) hs, ho⟩, ?_, mv 24 (by omega) (by omega) h.co.ra, mv 25 (by omega) (by omega) h.co.rt, mv 26 (by omega) (by omega) h.co.rc, mv 27 (by omega) (by omega) h.co.rk, fun j hj => ?_, h.co.ll, h.co.n5, h.co.cl⟩, hkc, hn9⟩
  · have hks : k < s.n := Nat.lt_of_lt_of_le hk h.tr.n
    have e1 := h.tr.ow k hk
    have hm' : ¬ (20 ≤ own' k ∧ own' k < 100) := by rw [e1]; exact hm
    have hkb : k ≠ bg := fun e => by subst e; omega
    exact ((put_h hkb).trans (hkeep k hks (by omega))).trans (h.tr.keep k hk hm)
  · have hr : RowP (fun k => loc (tag own' s.n 23) s9.n k = 23) s9 (.sl b9 0 (g.net.length + 1) cap9 14) (rowc Msg.c (g.net ++ [m])) (g.net ++ [m]).length 14 := by
      rw [rowc_append, rowc_one, List.length_append]
      exact hrow9.mono fun k hk hn => by rw [loc_lt hn]; exact hk
    exact hr.put (ne 23 (by omega)) _
  · have hj' : j < g.n := hj
    exact (((h.co.cs j hj').own_ lt9).keep (Nat.le_of_lt hn9) fun k hk hm => hkc k hk (by unfold Mine at hm; rw [lt9 k hk] at hm; omega)).put_other (by rw [lt9 bg h.co.bn]; omega) _
theorem app_all (h : NowG σ own bg own' g A bs Rs s) (m : (Nat × Ent)) (hc : g.all.length ≤ 100000) : ∃ b9 cap9 s9, appendA (s.push (.cells (Ep m))) 5 72 A.all (.sl s.n 0 1 (some 1) 5) = some (.sl b9 0 (g.all.length + 1) cap9 5, s9) ∧ s9.cells bg = some (grpC g A) ∧
    NowG σ own bg (loc (tag own' s.n 24) s9.n) { g with all := g.all ++ [m] } { A with all := .sl b9 0 (g.all.length + 1) cap9 5 } bs Rs (s9.put bg (grpC g { A with all := .sl b9 0 (g.all.length + 1) cap9 5 })) ∧ (∀ q, q < s.n → own' q ≠ 24 → s9.cells q = s.cells q) ∧ s.n < s9.n := by
  have h1 := h.co.own_ (own' := tag own' s.n 24) fun k hk => tag_lt hk
  obtain ⟨b9, cap9, s9, happ, hrow9, hn9, hk9⟩ := app_lit (bytes := 72) h1.ra (fun k hk => tag_ge hk) (new := Ep m) (k := 1) rfl rfl (by omega) (by omega)
  have hkeep : ∀ k, k < s.n → own' k ≠ 24 → s9.h.get k = s.h.get k := fun k hk hne => hk9 k hk (by rw [tag_lt hk]; exact hne)
  have hkc : ∀ k, k < s.n → own' k ≠ 24 → s9.cells k = s.cells k := fun k hk hne => get_cells (hkeep k hk hne)
  have hob := h.co.ob
  have n5 := h.co.n5
  have hb9 : s9.cells bg = some (grpC g A) := (hkc bg h.co.bn (by omega)).trans h.co.cb
  have lt9 : ∀ k, k < s.n → loc (tag own' s.n 24) s9.n k = own' k := fun k hk => by rw [loc_lt (by omega), tag_lt hk]
  have ne : ∀ j, j ≠ 20 → ¬ loc (tag own' s.n 24) s9.n bg = j := fun j hj e => by rw [lt9 bg h.co.bn] at e; omega
  have mv : ∀ {x : AV} {c : List AV} {n sz : Nat} (j : Nat), j ≠ 20 → j ≠ 24 → RowP (fun k => own' k = j) s x c n sz → RowP (fun k => loc (tag own' s.n 24) s9.n k = j) (s9.put bg (grpC g { A with all := .sl b9 0 (g.all.length + 1) cap9 5 })) x c n sz := fun j h1 h2 hr => ((hr.mono fun k hk hn => (lt9 k hn).trans hk).keep (Nat.le_of_lt hn9) fun k hk hp => hkc k hk (by rw [lt9 k hk] at hp; omega)).put (ne j h1) _
  obtain ⟨ss, hs, ho⟩ := h.co.rs
  refine ⟨b9, cap9, s9, happ, hb9, ⟨⟨Nat.le_trans h.tr.n (Nat.le_of_lt hn9), fun k hk => (lt9 k (Nat.lt_of_lt_of_le hk h.tr.n)).trans (h.tr.ow k hk), fun k hk hm => ?_⟩, by rw [put_get, if_pos rfl]; rfl, (lt9 bg h.co.bn).trans hob, Nat.lt_trans h.co.bn hn9, mv 21 (by omega) (by omega) h.co.rr, ⟨ss, mv 22 (by omega) (by omega) hs, ho⟩, mv 23 (by omega) (by omega) h.co.rn, ?_, mv 25 (by omega) (by omega) h.co.rt, mv 26 (by omega) (by omega) h.co.rc, mv 27 (by omega) (by omega) h.co.rk, fun j hj => ?_, h.co.ll, h.co.n5, h.co.cl⟩, hkc, hn9⟩
  · have hks : k < s.n := Nat.lt_of_lt_of_le hk h.tr.n
    have e1 := h.tr.ow k hk
    have hm' : ¬ (20 ≤ own' k ∧ own' k < 100) := by rw [e1]; exact hm
    have hkb : k ≠ bg := fun e => by subst e; omega
    exact ((put_h hkb).trans (hkeep k hks (by omega))).trans (h.tr.keep k hk hm)
  · have hr : RowP (fun k => loc (tag own' s.n 24) s9.n k = 24) s9 (.sl b9 0 (g.all.length + 1) cap9 5) (rowc Ep (g.all ++ [m])) (g.all ++ [m]).length 5 := by
      rw [rowc_append, rowc_one, List.length_append]
      exact hrow9.mono fun k hk hn => by rw [loc_lt hn]; exact hk
    exact hr.put (ne 24 (by omega)) _
  · have hj' : j < g.n := hj
    exact (((h.co.cs j hj').own_ lt9).keep (Nat.le_of_lt hn9) fun k hk hm => hkc k hk (by unfold Mine at hm; rw [lt9 k hk] at hm; omega)).put_other (by rw [lt9 bg h.co.bn]; omega) _
theorem upd (h : NowG σ own bg own' g A bs Rs s) {g' : Grp} (h1 : g'.n = g.n) (h2 : g'.cores = g.cores) (h3 : g'.net = g.net) (h4 : g'.all = g.all) (h5 : g'.term = g.term) (h6 : g'.com = g.com) (h7 : g'.lead.length = 400) : NowG σ own bg own' g' A bs Rs (s.put bg (grpC g' A)) := by
  have hob := h.co.ob
  have n5 := h.co.n5
  have ne : ∀ j, j ≠ 20 → ¬ own' bg = j := fun j hj e => hj (e.symm.trans hob)
  obtain ⟨ss, hs, ho⟩ := h.co.rs
  cases g'
  cases g
  simp only at h1 h2 h3 h4 h5 h6 h7
  subst h1 h2 h3 h4 h5 h6
  refine ⟨h.tr.trans ⟨Nat.le_refl _, fun _ _ => rfl, fun k hk hm => put_h fun e => hm (by subst e; unfold MineG; omega)⟩, by rw [put_get, if_pos rfl], h.co.ob, h.co.bn, h.co.rr.put (ne 21 (by omega)) _, ⟨ss, hs.put (ne 22 (by omega)) _, ho⟩, h.co.rn.put (ne 23 (by omega)) _, h.co.ra.put (ne 24 (by omega)) _, h.co.rt.put (ne 25 (by omega)) _, h.co.rc.put (ne 26 (by omega)) _, h.co.rk.put (ne 27 (by omega)) _, fun j hj => (h.co.cs j hj).put_other (by omega) _, h7, h.co.n5, h.co.cl⟩
theorem nil_net (h : NowG σ own bg own' g A bs Rs s) : NowG σ own bg own' { g with net := [] } { A with net := .nils } bs Rs (s.put bg (grpC g { A with net := .nils })) := by
  have hob := h.co.ob
  have n5 := h.co.n5
  have ne : ∀ j, j ≠ 20 → ¬ own' bg = j := fun j hj e => hj (e.symm.trans hob)
  obtain ⟨ss, hs, ho⟩ := h.co.rs
  refine ⟨h.tr.trans ⟨Nat.le_refl _, fun _ _ => rfl, fun k hk hm => put_h fun e => hm (by subst e; unfold MineG; omega)⟩, by rw [put_get, if_pos rfl]; rfl, h.co.ob, h.co.bn, h.co.rr.put (ne 21 (by omega)) _, ⟨ss, hs.put (ne 22 (by omega)) _, ho⟩, RowP.nil _ _ _, h.co.ra.put (ne 24 (by omega)) _, h.co.rt.put (ne 25 (by omega)) _, h.co.rc.put (ne 26 (by omega)) _, h.co.rk.put (ne 27 (by omega)) _, fun j hj => (h.co.cs j hj).put_other (by have : j < g.n := hj; omega) _, h.co.ll, h.co.n5, h.co.cl⟩
theorem take_row (h : NowG σ own bg own' g A bs Rs s) {p : Nat → Prop} (hp : ∀ b, p b → σ.n ≤ b ∧ own' b = 0) {x : AV} {l : List Msg} (hr : RowP p s x (rowc Msg.c l) l.length 14) : ∃ own9, NowG σ own bg own9 { g with net := l } { A with net := x } bs Rs (s.put bg (grpC g { A with net := x })) ∧ ∀ k, ¬ p k → own9 k = own' k := by
  rcases hr with ⟨rfl, hl, _⟩ | ⟨q, cap, cs, rfl, hpq, hs, hc, hseg, hfit, hcap⟩
  · have : l = [] := List.length_eq_zero_iff.1 hl
    subst this
    exact ⟨own', h.nil_net, fun _ _ => rfl⟩
  obtain ⟨hq, h0⟩ := hp q hpq
  have hob := h.co.ob
  have n5 := h.co.n5
  have hbq : ¬ bg = q := fun e => by rw [e] at hob; omega
  have e9 : ∀ k, own' k ≠ 0 → (if k = q then 23 else own' k) = own' k := fun k hk => by rw [if_neg fun e => hk (by rw [e]; exact h0)]
  have ne : ∀ j, j ≠ 20 → ¬ (if bg = q then 23 else own' bg) = j := fun j hj => by rw [if_neg hbq]; omega
  have mv : ∀ {x : AV} {c : List AV} {n sz : Nat} (j : Nat) (v : List AV), j ≠ 20 → j ≠ 0 → RowP (fun k => own' k = j) s x c n sz → RowP (fun k => (if k = q then 23 else own' k) = j) (s.put bg v) x c n sz := fun j v h1 h2 hr => (hr.mono (q := fun k => (if k = q then 23 else own' k) = j) fun k hk hn => (e9 k (by omega)).trans hk).put (ne j h1) _
  obtain ⟨ss, hs', ho⟩ := h.co.rs
  refine ⟨fun k => if k = q then 23 else own' k, ⟨⟨h.tr.n, fun k hk => ?_, fun k hk hm => ?_⟩, by rw [put_get, if_pos rfl]; rfl, (e9 bg (by omega)).trans hob, h.co.bn, mv 21 _ (by omega) (by omega) h.co.rr, ⟨ss, mv 22 _ (by omega) (by omega) hs', ho⟩, ?_, mv 24 _ (by omega) (by omega) h.co.ra, mv 25 _ (by omega) (by omega) h.co.rt, mv 26 _ (by omega) (by omega) h.co.rc, mv 27 _ (by omega) (by omega) h.co.rk, fun j hj => ?_, h.co.ll, h.co.n5, h.co.cl⟩, fun k hk => if_neg fun e => hk (by rw [e]; exact hpq)⟩
  · have : ¬ k = q := by omega
    simp only [this, if_false]
    exact h.tr.ow k hk
  · have e1 := h.tr.ow k hk
    have : k ≠ bg := fun e => hm (by subst e; unfold MineG; omega)
    exact (put_h this).trans (h.tr.keep k hk hm)
  · have hr : RowP (fun k => (if k = q then 23 else own' k) = 23) s (.sl q 0 l.length cap 14) (rowc Msg.c l) l.length 14 := .inr ⟨q, cap, cs, rfl, by simp only [if_true], hs, hc, hseg, hfit, hcap⟩
    exact hr.put (ne 23 (by omega)) _
  · have hj' : j < g.n := hj
    have hc := h.co.cs j hj'
    have hbj := hc.ob
    have hbb : ¬ bs j = bg := fun e => by rw [e] at hbj; omega
    exact ⟨by rw [put_get, if_neg hbb]; exact hc.cb, (e9 _ (by omega)).trans hbj, hc.bn, mv _ _ (by omega) (by omega) hc.rl, mv _ _ (by omega) (by omega) hc.ry, mv _ _ (by omega) (by omega) hc.rw, mv _ _ (by omega) (by omega) hc.rr, mv _ _ (by omega) (by omega) hc.ro, hc.pl⟩
end NowG
end Go.Proofs.Ythojhpjjkfjeiaa.Va
set_option maxRecDepth 100000
set_option maxHeartbeats 1000000
set_option linter.all false
namespace Go.Proofs.Ythojhpjjkfjeiaa.Va
open Go.Proofs
theorem u8s_ofU8s (l : List UInt8) : u8s (ofU8s l) = some l := by
  induction l with
  | nil => rfl
  | cons a l ih =>
    have : u8s (ofU8s (a :: l)) = (u8s (ofU8s l)).map (UInt8.ofNat (a.toNat : Int).toNat :: ·) := rfl
    rw [this, ih]
    simp
theorem Ep_eq (e : Nat × Ent) : Ep e = [.int .i64 (e.1 : Int), .int .i64 (e.2.term : Int), .int .i64 (e.2.kind : Int), bytesP e.2.data, intsP e.2.mem] := Eq.trans rfl rfl
theorem Ep_fxd (e : Nat × Ent) : FxdL (Ep e) := .cons (.flat rfl) (.cons (.flat rfl) (.cons (.flat rfl) (.cons (bytesP_fxd _) (.cons (intsP_fxd _) .nil))))
theorem same_st0 {e : Nat × Ent} (hm : e.2.mem.length ≤ 1000) : callD Try.prog 46 [.agg (Ep e), .agg (Ep e)] st0 fun v _ => v = .bool true := by
  have hone : (Ep e).all AV.one = true := rfl
  refine cd_wp fn46 cf46 cl46 rfl ?_
  simp only [ac46]
  unfold ab46
  rw [wpX_seq]
  refine x_mid (fun ρ s => ∃ p q, ρ.rd 2 = .ptr p 0 ∧ ρ.rd 3 = .ptr q 0 ∧ s.cells p = some (Ep e) ∧ s.cells q = some (Ep e) ∧ p < s.n ∧ q < s.n) ?_ ?_
  · simp only [XU, seval, hone]
    exact ⟨0, 1, rfl, rfl, rfl, rfl, by decide, by decide⟩
  clear hone
  rintro ρ s ⟨p, q, h2, h3, cp, cq, lp, lq⟩
  rw [Ep_eq] at cp cq
  obtain ⟨m, hmm⟩ : ∃ m, m = e.2.mem := ⟨_, rfl⟩
  rw [← hmm] at cp cq hm
  unfold bytesP intsP at cp cq
  rw [wpX_seq]
  refine x_mid (fun ρ s' => s' = s ∧ ρ.rd 2 = .ptr p 0 ∧ ρ.rd 3 = .ptr q 0) ?_ ?_
  · have hf : firstA s 1 e.2.data.length (.psl (ofU8s e.2.data) 0 e.2.data.length) = some (ofU8s e.2.data) := firstA_psl' (by rw [ofU8s_length, Nat.mul_one])
    have hu := u8s_ofU8s e.2.data
    simp only [XU, seval, h2, h3, cp, cq, hf, hu]
  clear h2 h3
  rintro ρ s' ⟨hs, h2, h3⟩
  rw [hs]
  clear hs
  rw [wpX_seq]
  refine x_mid (fun ρ s' => True) ?_ ?_
  · simp only [XU, seval, h2, h3]
    refine x_for (fun i ρ s' => (s'.cells p = s.cells p ∧ s'.cells q = s.cells q ∧ p < s'.n ∧ q < s'.n) ∧ ρ.rd 2 = .ptr p 0 ∧ ρ.rd 3 = .ptr q 0 ∧ ρ.rd 5 = .int .i64 (i : Int)) m.length ?_ ?_
    · simp only [XU, seval, h2, h3]
      exact ⟨lp, lq⟩
    clear h2 h3
    rintro i ρ s' hi ⟨⟨ep, eq, lp', lq'⟩, h2, h3, h5⟩
    have cp' := ep.trans cp
    have cq' := eq.trans cq
    by_cases hlt : i < m.length
    rotate_left
    · have hge : ¬ (i : Int) < (m.length : Int) := by omega
      simp only [XU, seval, h2, h3, h5, cp', hge]
    have gi : (i : Int) < (m.length : Int) := by omega
    have hx := lt_idx hlt
    have hg := ints_get hlt
    have hw : IntKind.i64.wrap ((i : Int) + 1) = ((i + 1 : Nat) : Int) := wrapSucc (by omega)
    generalize m[i] = z at *
    simp only [XU, seval, h2, h3, h5, cp', gi]
    refine d_dreg follow [] rfl ?_
    have c1 : (addSlots s'.n 11 s' []).cells p = _ := (slots_old _ lp').trans cp'
    have c2 : (addSlots s'.n 11 s' []).cells q = _ := (slots_old _ lq').trans cq'
    have l1 : p < (addSlots s'.n 11 s' []).n := by simp only [addSlots]; omega
    have l2 : q < (addSlots s'.n 11 s' []).n := by simp only [addSlots]; omega
    generalize addSlots s'.n 11 s' [] = s1 at *
    simp only [XU, seval, DU, h2, h3, h5, c1, c2, hx, hg]
    refine ⟨⟨?_, ?_⟩, ?_⟩
    · intro l hl c hc hf
      simp only [List.mem_cons, List.mem_nil_iff, List.not_mem_nil, or_false] at hl hc
      (repeat' (first | (rcases hl with rfl | hl) | (rcases hl with rfl))) <;> (repeat' (first | (rcases hc with rfl | hc) | (rcases hc with rfl))) <;> dsimp only at hf ⊢ <;> first
        | (exact absurd hf (by decide +kernel))
        | (simp only [XU, seval, h2, h3, h5, c1, c2, hx, hg]; done)
    · intro sl hsl; simp at hsl
    simp only [XU, seval, h2, h3, h5, hw]
    exact ⟨hlt, cp.symm, cq.symm, l1, l2⟩
  rintro ρ s' _
  simp only [XU, seval]
theorem same_ac {e : Nat × Ent} (hm : e.2.mem.length ≤ 1000) {σ : AState} : callD Try.prog 46 [.agg (Ep e), .agg (Ep e)] σ fun v s => s = σ ∧ v = .bool true :=
  callD.share (R := fun v => v = .bool true) (.cons (.agg (Ep_fxd e)) (.cons (.agg (Ep_fxd e)) .nil)) ((same_st0 hm).mono fun v s h => ⟨.bool true, by rw [h]; exact .flat _ rfl, rfl⟩)
theorem setc_self {g : Grp} {i : Nat} (h : i < g.cores.length) : g.setc i (g.core i) = g := by
  cases g
  simp only [Grp.setc, Grp.core, Grp.mk.injEq, true_and, and_true] at *
  rw [List.getD_eq_getElem?_getD, List.getElem?_eq_getElem h]
  simp
theorem setc_core {g : Grp} {i : Nat} {c : Core} (h : i < g.cores.length) : (g.setc i c).core i = c := by
  unfold Grp.setc Grp.core
  simp [h]
/- One's core, in the group's row. -/
theorem GrpAt.ptr {σ : AState} {own : Nat → Nat} {bg : Nat} {g : Grp} {A : GR} {bs : Nat → Nat} {Rs : Nat → Rws} (h : GrpAt σ own bg g A bs Rs) {i : Nat} (hi : i < g.n) : ∃ b cap cs, A.r = .sl b 0 g.n cap 1 ∧ σ.cells b = some cs ∧ cs[i]? = some (.ptr (bs i) 0) ∧ own b = 21 ∧ b < σ.n := by
  obtain ⟨b, cap, cs, hr⟩ := h.rr.some (by omega)
  refine ⟨b, cap, cs, hr.eq, hr.cells, ?_, hr.own, hr.lt⟩
  rw [hr.get (by omega)]
  simp [hi]
section
variable {σ : AState} {own : Nat → Nat} {bg : Nat} {g : Grp} {A : GR} {bs : Nat → Nat} {Rs : Nat → Rws}
theorem readsG_ac (h : GrpAt σ own bg g A bs Rs) {i : Nat} (hi : i < g.n) (hr : (g.core i).reads = []) : callD Try.prog 47 [.ptr bg 0, .int .i64 (i : Int)] σ fun v s => v = .bool true ∧ ∃ own' Rs', NowG σ own bg own' g A bs Rs' s := by
  have n0 := NowG.start h
  have cb := h.cb
  obtain ⟨b, cap, cs, eA, cr, ci, ob, lb⟩ := h.ptr hi
  have hx := lt_idx hi
  have hco := n0.co.cs i hi
  have hR := reads_ac hco
  have hN := (Now.start hco).nil_reads
  have hG := n0.core_ hi hN
  have hcr : ({ g.core i with reads := [] } : Core) = g.core i := by
    generalize g.core i = c at *
    cases c
    simp only at hr
    rw [hr]
  rw [hcr, setc_self (by rw [h.cl]; exact hi)] at hG
  have hform := hco.rr.form
  rw [hr] at hform
  have no : ¬ (0 : Int) < 0 := by omega
  rcases hform with ef | ⟨bf, cf, ef⟩
  · replace hR : callD Try.prog 26 [.ptr (bs i) 0] σ fun v s => s = σ.put (bs i) (coreC (g.core i) { Rs i with reads := .nils }) ∧ v = .nils := hR.mono fun v s h => ⟨h.1, h.2.trans ef⟩
    refine cd_wp fn47 cf47 cl47 rfl ?_
    simp only [ac47]
    unfold ab47
    simp only [XU, seval, cb, GS, eA, cr, ci, hx]
    refine callD.use hR ?_
    generalize σ.put (bs i) _ = s1 at hG ⊢
    simp only [XU, seval]
    refine x_for (fun j ρ s => ρ.rd 6 = .int .i64 0 ∧ ρ.rd 5 = .nils ∧ s = s1) 0 ?_ ?_
    · simp only [XU, seval]
    rintro j ρ s hj ⟨h6, h5, hs⟩
    rw [hs]
    simp only [XU, seval, h5, h6, no]
    exact ⟨_, _, hG⟩
  · replace hR : callD Try.prog 26 [.ptr (bs i) 0] σ fun v s => s = σ.put (bs i) (coreC (g.core i) { Rs i with reads := .nils }) ∧ v = .sl bf 0 0 cf 2 := hR.mono fun v s h => ⟨h.1, h.2.trans ef⟩
    refine cd_wp fn47 cf47 cl47 rfl ?_
    simp only [ac47]
    unfold ab47
    simp only [XU, seval, cb, GS, eA, cr, ci, hx]
    refine callD.use hR ?_
    generalize σ.put (bs i) _ = s1 at hG ⊢
    simp only [XU, seval]
    refine x_for (fun j ρ s => ρ.rd 6 = .int .i64 0 ∧ ρ.rd 5 = .sl bf 0 0 cf 2 ∧ s = s1) 0 ?_ ?_
    · simp only [XU, seval]
    rintro j ρ s hj ⟨h6, h5, hs⟩
    rw [hs]
    simp only [XU, seval, h5, h6, no]
    exact ⟨_, _, hG⟩
end
end Go.Proofs.Ythojhpjjkfjeiaa.Va
set_option maxRecDepth 100000
set_option maxHeartbeats 2000000
set_option linter.all false
namespace Go.Proofs.Ythojhpjjkfjeiaa.Va
open Go.Proofs
def Grp.allN (g : Grp) (c : Core) : Nat → List (Nat × Ent)
  | 0 => g.all
  | k + 1 => if k = (g.allN c k).length then g.allN c k ++ [(k + 1, c.ent k)] else g.allN c k
def Grp.leadN (g : Grp) (c : Core) (i : Nat) : List Nat := if c.role = 2 ∧ c.term < 400 then g.lead.set c.term (i + 1) else g.lead
def Core.mute (c : Core) : Core := { c with out := [] }
def Grp.told (g : Grp) (i : Nat) : Grp :=
  ⟨g.n, (g.setc i (g.core i).mute).cores, g.net ++ (g.core i).out, g.allN (g.core i) (g.core i).commit, g.term.set i (g.core i).term, g.com.set i (g.core i).commit, g.leadN (g.core i) i, g.made, g.got⟩
structure Grp.ToldOk (g : Grp) (i n : Nat) : Prop where
  hi : i < g.n
  ok : (g.core i).Ok n
  sz : (g.core i).size ≤ 110000
  out : ∀ m ∈ (g.core i).out, m.Fine ∧ m.src = i ∧ m.to < 7 ∧ m.to ≠ i
  net : g.net.length + (g.core i).out.length ≤ 3999
  tm : g.term.getD i 0 ≤ (g.core i).term
  cm : g.com.getD i 0 ≤ (g.core i).commit
  ro : (g.core i).role ≤ 2
  sd : (g.core i).snap.data = []
  all : ∀ k, k < (g.core i).commit → (g.allN (g.core i) (k + 1))[k]? = some (k + 1, (g.core i).ent k)
  al : g.all.length ≤ 1000
  ld : (g.core i).role = 2 → (g.core i).term < 400 → g.lead.getD (g.core i).term 0 = 0 ∨ g.lead.getD (g.core i).term 0 = i + 1
  rd : (g.core i).reads = []
theorem callD.data {P : Program} {f : FuncId} {args : List AV} {σ : AState} {k : AV → AState → Prop} {N : Nat} (h : callD P f args σ fun v s => s = σ ∧ ∃ L, v = .psl L 0 L.length ∧ L.length ≤ N) (hk : ∀ L : List AV, L.length ≤ N → k (.psl L 0 L.length) σ) : callD P f args σ k :=
  h.mono fun v s e => by
    obtain ⟨rfl, L, rfl, hL⟩ := e
    exact hk L hL
theorem callD.ex {P : Program} {f : FuncId} {args : List AV} {σ : AState} {k : AV → AState → Prop} {F : AV → AV} (h : callD P f args σ fun v s => s = σ ∧ ∃ x, v = F x) (hk : ∀ x, k (F x) σ) : callD P f args σ k :=
  h.mono fun v s e => by
    obtain ⟨rfl, x, rfl⟩ := e
    exact hk x
theorem seg_at {cs : List AV} {o n j : Nat} (hj : j < n) : (seg cs o n)[j]? = cs[o + j]? := by simp [seg, List.getElem?_take, hj, List.getElem?_drop]
theorem sg5 (a b c d e : AV) : seg [a, b, c, d, e] 0 5 = [a, b, c, d, e] := Eq.trans rfl rfl
theorem nats_get {l : List Nat} {i n : Nat} (h : i < n) (hl : l.length = n) : (natsC l)[i]? = some (.int .i64 ((l.getD i 0 : Nat) : Int)) := by simp [natsC, hl, h]
section
variable {σ : AState} {own : Nat → Nat} {bg : Nat} {g : Grp} {A : GR} {bs : Nat → Nat} {Rs : Nat → Rws} {i n : Nat}
theorem told_ac (h : GrpAt σ own bg g A bs Rs) (hk : g.ToldOk i n) : callD Try.prog 19 [.ptr bg 0, .int .i64 (i : Int)] σ fun v s => v = .bool true ∧ ∃ own' A' Rs', NowG σ own bg own' (g.told i) A' bs Rs' s := by
  have n0 := NowG.start h
  have hi := hk.hi
  have n5 := h.n5
  have hx := lt_idx hi
  clear h
  refine cd_wp fn19 cf19 cl19 rfl ?_
  simp only [ac19]
  unfold ab19
  simp only [wpX_seq, wpX_skip, wpXK_normal]
  refine x_mid (fun ρ s => s = σ ∧ ρ.rd 0 = .ptr bg 0 ∧ ρ.rd 1 = .int .i64 (i : Int)) ?_ ?_
  · simp only [XU, seval]
  rintro ρ s ⟨hs, h0, h1⟩
  rw [hs]
  clear hs
  rw [wpX_seq]
  refine x_mid (fun ρ s => s = σ ∧ ρ.rd 0 = .ptr bg 0 ∧ ρ.rd 1 = .int .i64 (i : Int) ∧ ρ.rd 5 = .ptr (bs i) 0) ?_ ?_
  · have cb := n0.co.cb
    obtain ⟨b, cap, cs, eA, cr, ci, ob, lb⟩ := n0.co.ptr hi
    simp only [XU, seval, h0, h1, cb, GS, eA, cr, ci, hx]
  clear h0 h1
  rintro ρ s ⟨hs, h0, h1, h5⟩
  rw [hs]
  clear hs
  obtain ⟨ss, hrs, hos⟩ := n0.co.rs
  obtain ⟨bS, capS, csS, hS⟩ := hrs.some (by omega)
  rw [wpX_seq]
  refine x_mid (fun ρ s => ρ.rd 0 = .ptr bg 0 ∧ ρ.rd 1 = .int .i64 (i : Int) ∧ ρ.rd 5 = .ptr (bs i) 0 ∧ NowG σ own bg (loc own σ.n) g A bs Rs s ∧ ∃ L : List AV, L.length ≤ 110000 ∧ s.cells bS = some (setx csS i (.psl L 0 L.length))) ?_ ?_
  · simp only [XU, seval]
    refine d_dreg follow [] rfl ?_
    have n1 := n0.slots 9 []
    have hcs : (addSlots σ.n 9 σ []).cells bS = _ := (slots_old _ hS.lt).trans hS.cells
    have hS1 : RowS (fun k => loc own σ.n k = 22) (addSlots σ.n 9 σ []) A.s ss g.n 1 bS capS csS := ⟨hS.eq, hS.own, by have := hS.lt; simp only [addSlots]; omega, hcs, hS.seg, hS.fit, hS.capd⟩
    generalize addSlots σ.n 9 σ [] = s1 at *
    have cb := n1.co.cb
    have eS := hS.eq
    have hob := n1.co.ob
    have hbS : ¬ bg = bS := fun e => by have := hS.own; rw [← e] at this; omega
    have hfit := hS.fit
    have hle : decide (i + 1 ≤ csS.length) = true := by rw [decide_eq_true_eq]; omega
    simp only [XU, seval, DU, h0, h1, h5, cb, GS, eS, hx]
    refine (save_ac (n1.co.cs i hi) hk.sz hk.ok.ll).data fun L hL => ?_
    have n2 := n1.set_s hi (v := .psl L 0 L.length) rfl hS1 hos
    simp only [XU, seval, DU, h0, h1, h5, cb, GS, eS, hx, hcs, storeA, sets1, hle]
    refine ⟨⟨?_, ?_⟩, ?_⟩
    · intro l hl c hc hf
      simp only [List.mem_cons, List.mem_nil_iff, List.not_mem_nil, or_false] at hl hc
      (repeat' (first | (rcases hl with rfl | hl) | (rcases hl with rfl))) <;> (repeat' (first | (rcases hc with rfl | hc) | (rcases hc with rfl))) <;> dsimp only at hf ⊢ <;> first
        | (exact absurd hf (by decide +kernel))
        | (simp only [XU, seval, h0, h1, h5, cb, GS, hbS, eS]; done)
    · intro sl hsl; simp at hsl
    exact ⟨n2, L, hL, rfl⟩
  have eS := hS.eq
  have hfS := hS.fit
  clear h0 h1 h5 n0 hrs hos hS
  rintro ρ s ⟨h0, h1, h5, n0, L, hL, cS⟩
  rw [wpX_seq]
  refine x_mid (fun ρ s' => s' = s ∧ ρ.rd 0 = .ptr bg 0 ∧ ρ.rd 1 = .int .i64 (i : Int) ∧ ρ.rd 5 = .ptr (bs i) 0) ?_ ?_
  · have cb := n0.co.cb
    have hg : (setx csS i (.psl L 0 L.length))[i]? = some (.psl L 0 L.length) := by rw [setx_set (by omega)]; exact List.getElem?_set_self (by omega)
    have gl : ¬ (110000 : Int) < (L.length : Int) := by omega
    simp only [XU, seval, h0, h1, h5, cb, GS, eS, hx, cS, hg, gl]
  clear h0 h1 h5 cS eS hfS hL
  rintro ρ s' ⟨hs, h0, h1, h5⟩
  rw [hs]
  clear hs
  have hok := hk.ok
  have hko := hk.out
  have hkn := hk.net
  have hktm := hk.tm
  have hkcm := hk.cm
  have hkro := hk.ro
  have hksd := hk.sd
  have hkall := hk.all
  have hkal := hk.al
  have hkld := hk.ld
  have hkrd := hk.rd
  clear hk
  unfold Grp.told
  have hcm := setc_core (g := g) (i := i) (c := (g.core i).mute) (by rw [n0.co.cl]; exact hi)
  have hco := n0.co.cs i hi
  have hokm : (g.core i).mute.Ok n := ⟨hok.lt, hok.ll, hok.ld, hok.sm, by have := hok.ol; exact (show 0 + n ≤ 1000 by omega), hok.yl, hok.np, hok.cm, hok.wt, hok.tm, hok.pl, hok.s0, hok.mp⟩
  generalize g.core i = c at *
  obtain ⟨gm, hgm⟩ : ∃ gm, gm = g.setc i c.mute := ⟨_, rfl⟩
  have hgn : gm.net = g.net := by rw [hgm]; rfl
  have hga : gm.all = g.all := by rw [hgm]; rfl
  have hgt : gm.term = g.term := by rw [hgm]; rfl
  have hgc : gm.com = g.com := by rw [hgm]; rfl
  have hgl : gm.lead = g.lead := by rw [hgm]; rfl
  have hgN : gm.n = g.n := by rw [hgm]; rfl
  rw [wpX_seq]
  refine x_mid (fun ρ s => ρ.rd 0 = .ptr bg 0 ∧ ρ.rd 1 = .int .i64 (i : Int) ∧ ρ.rd 5 = .ptr (bs i) 0 ∧ ∃ x own' Rs', ρ.rd 6 = x ∧ NowG σ own bg own' gm A bs Rs' s ∧ RowP (fun q => own' q = 35 + 10 * i) s x (rowc Msg.c c.out) c.out.length 14) ?_ ?_
  · have hO := out_ac hco
    have hN : NowG σ own bg _ (g.setc i c.mute) A bs _ _ := n0.core_ hi (Now.start hco).nil_out
    have hr := hco.ro
    have hbb := hco.ob
    have hr2 := hr.put (b0 := bs i) (by omega) (coreC c { Rs i with out := .nils })
    have hr3 : RowP (fun q => loc (loc own σ.n) s.n q = 35 + 10 * i) (s.put (bs i) (coreC c { Rs i with out := .nils })) (Rs i).out (rowc Msg.c c.out) c.out.length 14 := hr2.mono fun k hk' hn => by
      rw [loc_lt (show k < s.n from hn)]; omega
    rw [← hgm] at hN
    simp only [XU, seval, h0, h1, h5]
    refine callD.use hO ?_
    generalize s.put (bs i) (coreC c { Rs i with out := .nils }) = s2 at hN hr3 ⊢
    simp only [XU, seval, h0, h1, h5]
    exact ⟨_, _, _, rfl, hN, hr3⟩
  clear h0 h1 h5 n0 hco
  rintro ρ s ⟨h0, h1, h5, x, own1, Rs1, h6, n0, hrow⟩
  rw [wpX_seq]
  refine x_mid (fun ρ s => ρ.rd 0 = .ptr bg 0 ∧ ρ.rd 1 = .int .i64 (i : Int) ∧ ρ.rd 5 = .ptr (bs i) 0 ∧ ∃ own' A' Rs', NowG σ own bg own' { gm with net := g.net ++ c.out } A' bs Rs' s) ?_ ?_
  · simp only [XU, seval, h0, h1, h5, h6]
    refine x_for (fun k ρ s => ρ.rd 0 = .ptr bg 0 ∧ ρ.rd 1 = .int .i64 (i : Int) ∧ ρ.rd 5 = .ptr (bs i) 0 ∧ ρ.rd 6 = x ∧ ρ.rd 7 = .int .i64 (k : Int) ∧ ∃ own' A' Rs', NowG σ own bg own' { gm with net := g.net ++ c.out.take k } A' bs Rs' s ∧ RowP (fun q => own' q = 35 + 10 * i) s x (rowc Msg.c c.out) c.out.length 14) c.out.length ?_ ?_
    · simp only [XU, seval, h0, h1, h5, h6]
      have e : ({ gm with net := g.net ++ c.out.take 0 } : Grp) = gm := by rw [List.take_zero, List.append_nil, ← hgn]
      exact ⟨own1, A, Rs1, by rw [e]; exact n0, hrow⟩
    clear h0 h1 h5 h6 n0 hrow
    rintro k ρ s hkk ⟨h0, h1, h5, h6, h7, own2, A2, Rs2, n0, hrow⟩
    by_cases hlt : k < c.out.length
    rotate_left
    · have e : k = c.out.length := by omega
      rw [e, List.take_length] at n0
      have hge : ¬ (k : Int) < (c.out.length : Int) := by omega
      rcases hrow.form with ef | ⟨bf, cf, ef⟩
      · have hz : ¬ (k : Int) < 0 := by have := hrow.len.1; rw [ef] at this; have := Option.some.inj this; omega
        rw [ef] at h6
        simp only [XU, seval, h0, h1, h5, h6, h7, hz]
        exact ⟨_, _, _, n0⟩
      · rw [ef] at h6
        simp only [XU, seval, h0, h1, h5, h6, h7, hge]
        exact ⟨_, _, _, n0⟩
    have gk : (k : Int) < (c.out.length : Int) := by omega
    have hxk := lt_idx hlt
    obtain ⟨bo, co, cso, hro⟩ := hrow.some (by omega)
    have hsg := (hro.row hlt).2.trans (rowc_seg Msg.c_len hlt)
    have hfo := (hro.row hlt).1
    have hle : decide (k * 14 + 14 ≤ cso.length) = true := by rw [decide_eq_true_eq]; exact hfo
    have hex := hro.eq
    have hob := hro.own
    have hlb := hro.lt
    have hcb := hro.cells
    have hm := hko _ (List.getElem_mem hlt)
    have htk : c.out.take (k + 1) = c.out.take k ++ [c.out[k]] := by rw [List.take_add_one, List.getElem?_eq_getElem hlt]; rfl
    have hw : IntKind.i64.wrap ((k : Int) + 1) = ((k + 1 : Nat) : Int) := wrapSucc (by have := hok.ol; omega)
    have hlen : (g.net ++ c.out.take k).length < 4000 := by rw [List.length_append, List.length_take]; omega
    have hlen' : ((g.net ++ c.out.take k).length : Int) < 4000 := by omega
    rw [htk, ← List.append_assoc]
    generalize c.out[k] = m at *
    generalize g.net ++ c.out.take k = nt at *
    obtain ⟨hF, hm1, hm2, hm3⟩ := hm
    have hM := fun σ => msg_ac hF (σ := σ)
    have hmc := Msg.c_eq m
    rw [hmc] at hsg
    simp only [hmc] at hM
    rw [hex] at h6
    simp only [XU, seval, h0, h1, h5, h6, h7, gk, hxk, hcb, hle, hsg]
    have hc0 : cso[k * 14]? = some (.int .i64 (m.src : Int)) := by have := seg_at (cs := cso) (o := k * 14) (n := 14) (j := 0) (by omega); rw [hsg] at this; exact this.symm
    have hc1 : cso[k * 14 + 1]? = some (.int .i64 (m.to : Int)) := by have := seg_at (cs := cso) (o := k * 14) (n := 14) (j := 1) (by omega); rw [hsg] at this; exact this.symm
    have e1 : (m.src : Int) = (i : Int) := by omega
    have e2 : ¬ (m.to : Int) < 0 := by omega
    have e3 : ¬ (7 : Int) ≤ (m.to : Int) := by omega
    have e4 : ¬ (m.to : Int) = (i : Int) := by omega
    have hcbg := n0.co.cb
    refine (hM _).ex (F := fun x => .tup [x, .int .i64 0]) fun xx => ?_
    have enf : A2.net = .nils ∨ ∃ b c, A2.net = .sl b 0 nt.length c 14 := n0.co.rn.form
    rcases enf with en | ⟨bn, cn, en⟩
    all_goals
      simp only [XU, seval, h0, h1, h5, h6, h7, hxk, hcb, hc0, hc1, e1, e2, e3, e4, hcbg, GS, en, hlen']
      refine d_dreg follow [] rfl ?_
      have n1 := n0.slots 14 []
      have r1 : RowP (fun q => own2 q = 35 + 10 * i) (addSlots s.n 14 s []) x (rowc Msg.c c.out) c.out.length 14 := hrow.keep (by simp only [addSlots]; omega) fun b hb _ => slots_old [] hb
      have d1 : (addSlots s.n 14 s []).cells bo = _ := (slots_old _ hlb).trans hcb
      have l1 : bo < (addSlots s.n 14 s []).n := by simp only [addSlots]; omega
      clear hcbg n0 hrow hcb
      generalize addSlots s.n 14 s [] = s1 at *
      have cbg := n1.co.cb
      have lbg := n1.co.bn
      have obg := n1.co.ob
      have hap := n1.app_net m (show nt.length ≤ 100000 by omega)
      have nb : ¬ bg = s1.n := by omega
      have nbo : ¬ bo = s1.n := by omega
      apply ex3 hap
      clear hap
      intro b9 cap9 s9 h9
      have happ := h9.1
      have hb9 := h9.2.1
      have n9 := h9.2.2.1
      have hk9 := h9.2.2.2.1
      have hn9 := h9.2.2.2.2
      clear h9
      have d9 := (hk9 bo l1 (by omega)).trans d1
      have r9 : RowP (fun q => loc (tag own2 s1.n 23) s9.n q = 35 + 10 * i) s9 x (rowc Msg.c c.out) c.out.length 14 := (r1.mono fun k hk' hn => by rw [loc_lt (by omega), tag_lt hn]; exact hk').keep (Nat.le_of_lt hn9) fun k hk' hp => hk9 k hk' (by rw [loc_lt (by omega), tag_lt hk'] at hp; omega)
      have r9' := r9.put (b0 := bg) (by rw [loc_lt (by omega), tag_lt lbg]; omega)
      rw [hmc, en] at happ
      simp only [XU, seval, DU, h0, h1, h5, h6, h7, cbg, GS, en, d1, hsg, hle, hxk, PS]
      simp only [XU, seval, DU, happ, hb9, cbg, GS, storeA, sets1]
      refine ⟨⟨?_, ?_⟩, ?_⟩
      · intro l hl c hc hf
        simp only [List.mem_cons, List.mem_nil_iff, List.not_mem_nil, or_false] at hl hc
        (repeat' (first | (rcases hl with rfl | hl) | (rcases hl with rfl))) <;> (repeat' (first | (rcases hc with rfl | hc) | (rcases hc with rfl))) <;> dsimp only at hf ⊢ <;> first
          | (exact absurd hf (by decide +kernel))
          | (simp only [XU, seval, h0, h1, h5, h6, h7, cbg, GS, en, d1, d9, hb9, hsg, hle, hxk, PS, nb, nbo]; done)
      · intro sl hsl; simp at hsl
      simp only [XU, seval, h0, h1, h5, h6, h7, hw]
      exact ⟨hlt, hex.symm, _, _, _, n9, r9' _⟩
  clear h0 h1 h5 h6 n0 hrow
  rintro ρ s ⟨h0, h1, h5, own2, A2, Rs2, n0⟩
  clear hko
  obtain ⟨gq, hgq⟩ : ∃ gq : Grp, gq = { gm with net := g.net ++ c.out } := ⟨_, rfl⟩
  rw [← hgq] at n0
  have qn : gq.n = g.n := by rw [hgq]; exact hgN
  have qa : gq.all = g.all := by rw [hgq]; exact hga
  have qt : gq.term = g.term := by rw [hgq]; exact hgt
  have qc : gq.com = g.com := by rw [hgq]; exact hgc
  have ql : gq.lead = g.lead := by rw [hgq]; exact hgl
  have qcore : gq.core i = c.mute := by rw [hgq, hgm]; exact hcm
  have qfin : gq = ⟨g.n, (g.setc i c.mute).cores, g.net ++ c.out, g.all, g.term, g.com, g.lead, g.made, g.got⟩ := by rw [hgq, hgm]; rfl
  clear hgn hga hgt hgc hgl hgN hgm hgq hcm
  have htl : gq.term.length = g.n := by have := n0.co.rt.len.2; rw [Nat.mul_one, qn] at this; rw [← this]; simp [natsC]
  have hcl : gq.com.length = g.n := by have := n0.co.rc.len.2; rw [Nat.mul_one, qn] at this; rw [← this]; simp [natsC]
  have hiq : i < gq.n := by rw [qn]; exact hi
  have hxq : (0 : Int) ≤ (i : Int) ∧ (i : Int) < (gq.n : Int) := lt_idx hiq
  rw [wpX_seq]
  refine x_mid (fun ρ s => ρ.rd 0 = .ptr bg 0 ∧ ρ.rd 1 = .int .i64 (i : Int) ∧ ρ.rd 5 = .ptr (bs i) 0 ∧ NowG σ own bg own2 gq A2 bs Rs2 s) ?_ ?_
  · simp only [XU, seval]
    refine d_dreg follow [] rfl ?_
    have n1 := n0.slots 41 []
    generalize addSlots s.n 41 s [] = s1 at *
    have cb := n1.co.cb
    have hco := n1.co.cs i hiq
    rw [qcore] at hco
    obtain ⟨bT, capT, csT, hT⟩ := n1.co.rt.some (by omega)
    obtain ⟨bC, capC, csC, hC⟩ := n1.co.rc.some (by omega)
    have eT := hT.eq
    have eC := hC.eq
    have cT := hT.cells
    have cC := hC.cells
    have vT : csT[i]? = some (.int .i64 ((g.term.getD i 0 : Nat) : Int)) := by rw [hT.get (by omega), ← qt]; exact nats_get hi htl
    have vC : csC[i]? = some (.int .i64 ((g.com.getD i 0 : Nat) : Int)) := by rw [hC.get (by omega), ← qc]; exact nats_get hi hcl
    have g1 : ¬ (c.term : Int) < ((g.term.getD i 0 : Nat) : Int) := by omega
    have g2 : ¬ (c.commit : Int) < ((g.com.getD i 0 : Nat) : Int) := by omega
    have g3 : ¬ (c.role : Int) < 0 := by omega
    have g4 : ¬ (2 : Int) < (c.role : Int) := by omega
    have hcm := hok.cm
    have g5 : ¬ (c.last : Int) < (c.commit : Int) := by omega
    have kT : callD Try.prog 44 [.ptr (bs i) 0] s1 fun v s => s = s1 ∧ v = .int .i64 (c.term : Int) := by have := term_ac hco; exact this
    have kC : callD Try.prog 21 [.ptr (bs i) 0] s1 fun v s => s = s1 ∧ v = .int .i64 (c.commit : Int) := by have := commit_ac hco; exact this
    have kR : callD Try.prog 29 [.ptr (bs i) 0] s1 fun v s => s = s1 ∧ v = .int .i64 (c.role : Int) := by have := role_ac hco; exact this
    have kL : callD Try.prog 13 [.ptr (bs i) 0] s1 fun v s => s = s1 ∧ v = .int .i64 (c.last : Int) := by have := last_o hco hokm.fit; exact this
    generalize g.term.getD i 0 = tm0 at *
    generalize g.com.getD i 0 = cm0 at *
    simp only [XU, seval, DU, h0, h1, h5]
    refine kT.use ?_
    simp only [XU, seval, DU, h0, h1, h5, cb, GS, eT, cT, vT, hxq, g1]
    refine kC.use ?_
    simp only [XU, seval, DU, h0, h1, h5, cb, GS, eC, cC, vC, hxq, g2]
    refine kR.use ?_
    simp only [XU, seval, DU, h0, h1, h5, g3]
    refine kR.use ?_
    simp only [XU, seval, DU, h0, h1, h5, g4]
    refine kL.use ?_
    simp only [XU, seval, DU, h0, h1, h5]
    refine kC.use ?_
    simp only [XU, seval, DU, h0, h1, h5, g5]
    refine ⟨⟨?_, ?_⟩, ?_⟩
    · intro l hl c hc hf
      simp only [List.mem_cons, List.mem_nil_iff, List.not_mem_nil, or_false] at hl hc
      (repeat' (first | (rcases hl with rfl | hl) | (rcases hl with rfl))) <;> (repeat' (first | (rcases hc with rfl | hc) | (rcases hc with rfl))) <;> dsimp only at hf ⊢ <;> first
        | (exact absurd hf (by decide +kernel))
        | (simp only [XU, seval, h0, h1, h5, cb, GS, eT, cT, vT, eC, cC, vC, hxq]; done)
    · intro sl hsl; simp at hsl
    exact n1
  clear h0 h1 h5 n0
  rintro ρ s ⟨h0, h1, h5, n0⟩
  rw [wpX_seq]
  refine x_mid (fun ρ s => ρ.rd 0 = .ptr bg 0 ∧ ρ.rd 1 = .int .i64 (i : Int) ∧ ρ.rd 5 = .ptr (bs i) 0 ∧ NowG σ own bg own2 { gq with term := g.term.set i c.term, com := g.com.set i c.commit } A2 bs Rs2 s) ?_ ?_
  · simp only [XU, seval]
    refine d_dreg follow [] rfl ?_
    have n1 := n0.slots 18 []
    generalize addSlots s.n 18 s [] = s1 at *
    have cb := n1.co.cb
    have hco := n1.co.cs i hiq
    rw [qcore] at hco
    obtain ⟨bT, capT, csT, hT⟩ := n1.co.rt.some (by omega)
    obtain ⟨bC, capC, csC, hC⟩ := n1.co.rc.some (by omega)
    have eT := hT.eq
    have eC := hC.eq
    have cT := hT.cells
    have cC := hC.cells
    have oT := hT.own
    have oC := hC.own
    have lT := hT.fit
    have lC := hC.fit
    have ob := n1.co.ob
    have obi := hco.ob
    have nTC : ¬ bC = bT := fun e => by rw [e] at oC; omega
    have nTC' : ¬ bT = bC := fun e => nTC e.symm
    have nT : ¬ bg = bT := fun e => by rw [← e] at oT; omega
    have nC : ¬ bg = bC := fun e => by rw [← e] at oC; omega
    have n2 := n1.set_term hiq (v := c.term) hT
    have hC2 : RowS (fun k => own2 k = 26) (s1.put bT (setx csT i (.int .i64 (c.term : Int)))) A2.com (natsC gq.com) gq.n 1 bC capC csC := ⟨hC.eq, hC.own, hC.lt, by rw [put_get, if_neg nTC]; exact hC.cells, hC.seg, hC.fit, hC.capd⟩
    have n3 := n2.set_com hiq (v := c.commit) hC2
    have hle1 : decide (i + 1 ≤ csT.length) = true := by rw [decide_eq_true_eq]; omega
    have hle2 : decide (i + 1 ≤ csC.length) = true := by rw [decide_eq_true_eq]; omega
    have kT : callD Try.prog 44 [.ptr (bs i) 0] s1 fun v s => s = s1 ∧ v = .int .i64 (c.term : Int) := by have := term_ac hco; exact this
    have kC : callD Try.prog 21 [.ptr (bs i) 0] s1 fun v s => s = s1 ∧ v = .int .i64 (c.commit : Int) := by have := commit_ac hco; exact this
    simp only [qt, qc] at n3
    clear n2 hC2
    simp only [XU, seval, DU, h0, h1, h5, cb, GS, eT, eC]
    refine kT.use ?_
    simp only [XU, seval, DU, h0, h1, h5]
    refine kC.use ?_
    simp only [XU, seval, DU, h0, h1, h5, cb, GS, eT, eC, cT, cC, hxq, storeA, sets1, hle1, hle2, nTC, nTC']
    refine ⟨⟨?_, ?_⟩, ?_⟩
    · intro l hl c hc hf
      simp only [List.mem_cons, List.mem_nil_iff, List.not_mem_nil, or_false] at hl hc
      (repeat' (first | (rcases hl with rfl | hl) | (rcases hl with rfl))) <;> (repeat' (first | (rcases hc with rfl | hc) | (rcases hc with rfl))) <;> dsimp only at hf ⊢ <;> first
        | (exact absurd hf (by decide +kernel))
        | (simp only [XU, seval, h0, h1, h5, cb, GS, eT, cT, eC, cC, hxq, nTC, nTC', nT, nC]; done)
    · intro sl hsl; simp at hsl
    exact n3
  clear h0 h1 h5 n0
  rintro ρ s ⟨h0, h1, h5, n0⟩
  obtain ⟨gr, hgr⟩ : ∃ gr : Grp, gr = { gq with term := g.term.set i c.term, com := g.com.set i c.commit } := ⟨_, rfl⟩
  rw [← hgr] at n0
  have rn : gr.n = g.n := by rw [hgr]; exact qn
  have ra : gr.all = g.all := by rw [hgr]; exact qa
  have rl : gr.lead = g.lead := by rw [hgr]; exact ql
  have rcore : gr.core i = c.mute := by rw [hgr]; exact qcore
  have rfin : gr = ⟨g.n, (g.setc i c.mute).cores, g.net ++ c.out, g.all, g.term.set i c.term, g.com.set i c.commit, g.lead, g.made, g.got⟩ := by rw [hgr, qfin]
  clear hgr qn qa qt qc ql qcore qfin htl hcl hxq hktm hkcm
  have hiq : i < gr.n := by rw [rn]; exact hi
  rw [wpX_seq]
  refine x_mid (fun ρ s => ρ.rd 0 = .ptr bg 0 ∧ ρ.rd 1 = .int .i64 (i : Int) ∧ ρ.rd 5 = .ptr (bs i) 0 ∧ ρ.rd 10 = .int .i64 0 ∧ ρ.rd 11 = .psl [] 0 0 ∧ NowG σ own bg own2 gr A2 bs Rs2 s) ?_ ?_
  · have hco := n0.co.cs i hiq
    rw [rcore] at hco
    have hS : callD Try.prog 16 [.ptr (bs i) 0] s fun v s' => v = .tup [.int .i64 0, .psl [] 0 0] ∧ Keeps s.n s s' := by
      have := snap_ac hco (by show c.snap.data.length ≤ _; rw [hksd]; exact Nat.zero_le _)
      have e1 : (c.mute.snap.index : Int) = 0 := by have := hok.s0; show (c.snap.index : Int) = 0; omega
      have e2 : c.mute.snap.data = [] := hksd
      rw [e1, e2] at this
      exact this
    simp only [XU, seval, h0, h1, h5]
    refine hS.kept fun s2 k2 => ?_
    simp only [XU, seval, h0, h1, h5]
    exact n0.keeps k2
  clear h0 h1 h5 n0
  rintro ρ s ⟨h0, h1, h5, h10, h11, n0⟩
  rw [wpX_seq]
  refine x_mid (fun ρ s => ρ.rd 0 = .ptr bg 0 ∧ ρ.rd 1 = .int .i64 (i : Int) ∧ ρ.rd 5 = .ptr (bs i) 0 ∧ ρ.rd 10 = .int .i64 0 ∧ NowG σ own bg own2 gr A2 bs Rs2 s) ?_ ?_
  · simp only [XU, seval]
    refine d_dreg follow [] rfl ?_
    have n1 := n0.slots 24 []
    generalize addSlots s.n 24 s [] = s1 at *
    have hco := n1.co.cs i hiq
    rw [rcore] at hco
    have kC : callD Try.prog 21 [.ptr (bs i) 0] s1 fun v s => s = s1 ∧ v = .int .i64 (c.commit : Int) := by have := commit_ac hco; exact this
    have g5 : ¬ (c.commit : Int) < 0 := by omega
    simp only [XU, seval, DU, h0, h1, h5, h10, h11]
    refine kC.use ?_
    simp only [XU, seval, DU, h0, h1, h5, h10, h11, g5]
    refine ⟨⟨?_, ?_⟩, ?_⟩
    · intro l hl; simp at hl
    · intro sl hsl; simp at hsl
    exact n1
  clear h0 h1 h5 h10 h11 n0
  rintro ρ s ⟨h0, h1, h5, h10, n0⟩
  have hcm := hok.cm
  have hll : c.last ≤ 1000 := by have := hok.ll; have := hok.s0; unfold Core.last; omega
  have hal : ∀ j, (g.allN c j).length ≤ 1000 + j := by
    intro j
    induction j with
    | zero => exact hkal
    | succ j ih =>
      unfold Grp.allN
      split
      · rw [List.length_append, List.length_singleton]; omega
      · omega
  rw [wpX_seq]
  refine x_mid (fun ρ s => ρ.rd 0 = .ptr bg 0 ∧ ρ.rd 1 = .int .i64 (i : Int) ∧ ρ.rd 5 = .ptr (bs i) 0 ∧ ρ.rd 10 = .int .i64 0 ∧ ∃ own' A', NowG σ own bg own' { gr with all := g.allN c c.commit } A' bs Rs2 s) ?_ ?_
  · simp only [XU, seval, h10]
    refine x_for (fun j ρ s => ρ.rd 0 = .ptr bg 0 ∧ ρ.rd 1 = .int .i64 (i : Int) ∧ ρ.rd 5 = .ptr (bs i) 0 ∧ ρ.rd 10 = .int .i64 0 ∧ ρ.rd 12 = .int .i64 ((j + 1 : Nat) : Int) ∧ ∃ own' A', NowG σ own bg own' { gr with all := g.allN c j } A' bs Rs2 s) c.commit ?_ ?_
    · simp only [XU, seval, h0, h1, h5, h10]
      refine ⟨rfl, own2, A2, ?_⟩
      have e : ({ gr with all := g.allN c 0 } : Grp) = gr := by rw [show g.allN c 0 = gr.all from ra.symm]
      rw [e]
      exact n0
    clear h0 h1 h5 h10 n0
    rintro j ρ s hj ⟨h0, h1, h5, h10, h12, own3, A3, n0⟩
    have hco := n0.co.cs i hiq
    rw [show Grp.core { gr with all := g.allN c j } i = c.mute from rcore] at hco
    have kC : callD Try.prog 21 [.ptr (bs i) 0] s fun v s' => s' = s ∧ v = .int .i64 (c.commit : Int) := by have := commit_ac hco; exact this
    by_cases hlt : j < c.commit
    rotate_left
    · have e : j = c.commit := by omega
      have hge : ¬ ((j + 1 : Nat) : Int) ≤ (c.commit : Int) := by omega
      rw [e] at n0
      simp only [XU, seval, h0, h1, h5, h10, h12]
      refine kC.use ?_
      simp only [XU, seval, h0, h1, h5, h10, h12, hge]
      exact ⟨_, _, n0⟩
    have hge : ((j + 1 : Nat) : Int) ≤ (c.commit : Int) := by omega
    have hag := hkall j hlt
    have halj := hal j
    have hw : IntKind.i64.wrap (((j + 1 : Nat) : Int) + 1) = ((j + 1 + 1 : Nat) : Int) := wrapSucc (by omega)
    have hs0 := hok.s0
    have hE := entry_ac hco hokm (i := j + 1) (by show c.snap.index < _; omega) (by show _ ≤ c.last; omega) (e := c.ent j) (by show c.ent j = c.ent (j + 1 - c.snap.index - 1); rw [hs0]; rfl)
    have hml : (c.ent j).mem.length ≤ 1000 := by
      have hjl : j < c.l.length := by
        have : c.last ≤ c.l.length := by unfold Core.last; omega
        omega
      rw [ent_get hjl]
      have := (hok.ld _ (List.getElem_mem hjl)).2.1
      omega
    have hS := fun σ => same_ac (e := (j + 1, c.ent j)) hml (σ := σ)
    have hallS : g.allN c (j + 1) = if j = (g.allN c j).length then g.allN c j ++ [(j + 1, c.ent j)] else g.allN c j := rfl
    rw [hallS] at hag ⊢
    have hEq := Ep_eq (j + 1, c.ent j)
    simp only at hEq
    generalize c.ent j = e at *
    generalize g.allN c j = al at *
    simp only [hEq] at hS
    have lbg := n0.co.bn
    have obg := n0.co.ob
    by_cases gj : j = al.length
    · rw [if_pos gj] at hag ⊢
      have enf : A3.all = .nils ∨ ∃ b c, A3.all = .sl b 0 al.length c 5 := n0.co.ra.form
      have gj1 : IntKind.i64.wrap ((al.length : Int) + 1) = ((j + 1 : Nat) : Int) := by rw [wrapSucc (by omega)]; omega
      have gj0 : A3.all = .nils → al.length = 0 := fun e => by have := n0.co.ra.len.1; rw [e] at this; exact (Option.some.inj this).symm
      simp only [XU, seval, h0, h1, h5, h10, h12]
      refine kC.use ?_
      simp only [XU, seval, h0, h1, h5, h10, h12, hge]
      refine hE.kept fun s2 k2 => ?_
      have n2 : NowG σ own bg _ _ _ bs Rs2 ((s2.push (.cells [.int .i64 0, .int .i64 0, .int .i64 0, .nils, .nils])).put s2.n [.int .i64 ((j + 1 : Nat) : Int), .int .i64 (e.term : Int), .int .i64 (e.kind : Int), bytesP e.data, intsP e.mem]) := ((n0.keeps k2).loc_.push [.int .i64 0, .int .i64 0, .int .i64 0, .nils, .nils]).local_ (q := s2.n) (Nat.le_trans n0.tr.n k2.1) (loc_ge (Nat.le_refl _)) [.int .i64 ((j + 1 : Nat) : Int), .int .i64 (e.term : Int), .int .i64 (e.kind : Int), bytesP e.data, intsP e.mem]
      have hq0 : loc own3 s2.n s2.n = 0 := loc_ge (Nat.le_refl _)
      have cb2 := (k2.cells lbg).trans n0.co.cb
      have nbg : ¬ bg = s2.n := fun e => by have := k2.1; omega
      have ce : ((s2.push (.cells [.int .i64 0, .int .i64 0, .int .i64 0, .nils, .nils])).put s2.n [.int .i64 ((j + 1 : Nat) : Int), .int .i64 (e.term : Int), .int .i64 (e.kind : Int), bytesP e.data, intsP e.mem]).cells s2.n = some [.int .i64 ((j + 1 : Nat) : Int), .int .i64 (e.term : Int), .int .i64 (e.kind : Int), bytesP e.data, intsP e.mem] := by rw [put_get, if_pos rfl]
      have lq : s2.n < ((s2.push (.cells [.int .i64 0, .int .i64 0, .int .i64 0, .nils, .nils])).put s2.n [.int .i64 ((j + 1 : Nat) : Int), .int .i64 (e.term : Int), .int .i64 (e.kind : Int), bytesP e.data, intsP e.mem]).n := Nat.lt_succ_self _
      have hlen1 : 0 < (al ++ [(j + 1, e)]).length := by simp
      have hjl : j < (al ++ [(j + 1, e)]).length := by simp; omega
      have hget : (al ++ [(j + 1, e)])[j] = (j + 1, e) := by
        rw [List.getElem?_eq_getElem hjl] at hag
        exact Option.some.inj hag
      rcases enf with en' | ⟨bn, cn, en'⟩
      all_goals
        have gj2 : A3.all = .nils → IntKind.i64.wrap 1 = ((j + 1 : Nat) : Int) := fun e' => by rw [← gj1, gj0 e']; rfl
        first | (simp only [XU, seval, h0, h1, h5, h10, h12, PS, SX, nbg, cb2, GS, en', gj2 en']) | (simp only [XU, seval, h0, h1, h5, h10, h12, PS, SX, nbg, cb2, GS, en', gj1])
        generalize (s2.push (.cells [.int .i64 0, .int .i64 0, .int .i64 0, .nils, .nils])).put s2.n [.int .i64 ((j + 1 : Nat) : Int), .int .i64 (e.term : Int), .int .i64 (e.kind : Int), bytesP e.data, intsP e.mem] = s3 at *
        generalize s2.n = q at *
        refine d_mid (fun ρ s => ρ.rd 0 = .ptr bg 0 ∧ ρ.rd 1 = .int .i64 (i : Int) ∧ ρ.rd 5 = .ptr (bs i) 0 ∧ ρ.rd 10 = .int .i64 0 ∧ ρ.rd 12 = .int .i64 ((j + 1 : Nat) : Int) ∧ ρ.rd 13 = .ptr q 0 ∧ q < s.n ∧ s.cells q = some [.int .i64 ((j + 1 : Nat) : Int), .int .i64 (e.term : Int), .int .i64 (e.kind : Int), bytesP e.data, intsP e.mem] ∧ ∃ own' A', NowG σ own bg own' { gr with all := al ++ [(j + 1, e)] } A' bs Rs2 s) ?_ ?_
        · refine d_dreg follow [] rfl ?_
          have n3 := n2.slots 11 []
          have c3 : (addSlots s3.n 11 s3 []).cells q = _ := (slots_old _ lq).trans ce
          have l3 : q < (addSlots s3.n 11 s3 []).n := by simp only [addSlots]; omega
          generalize addSlots s3.n 11 s3 [] = s4 at *
          have cb3 := n3.co.cb
          have lbg3 := n3.co.bn
          have hap := n3.app_all (j + 1, e) (show al.length ≤ 100000 by omega)
          have nb : ¬ bg = s4.n := by omega
          have nq : ¬ q = s4.n := by omega
          apply ex3 hap
          clear hap
          intro b9 cap9 s9 h9
          have happ := h9.1
          have hb9 := h9.2.1
          have n9 := h9.2.2.1
          have hk9 := h9.2.2.2.1
          have hn9 := h9.2.2.2.2
          clear h9
          have d9 := (hk9 q l3 (by omega)).trans c3
          rw [hEq, en'] at happ
          simp only [XU, seval, DU, h0, cb3, GS, en', c3, PS, sg5]
          simp only [XU, seval, DU, happ, hb9, GS, storeA, sets1]
          refine ⟨⟨?_, ?_⟩, ?_⟩
          · intro l hl c hc hf
            simp only [List.mem_cons, List.mem_nil_iff, List.not_mem_nil, or_false] at hl hc
            (repeat' (first | (rcases hl with rfl | hl) | (rcases hl with rfl))) <;> (repeat' (first | (rcases hc with rfl | hc) | (rcases hc with rfl))) <;> dsimp only at hf ⊢ <;> first
              | (exact absurd hf (by decide +kernel))
              | (simp only [XU, seval, h0, cb3, GS, en', c3, d9, hb9, nb, nq, sg5]; done)
          · intro sl hsl; simp at hsl
          simp only [XU, seval, h0, h1, h5, h10, h12, nbg, d9]
          exact ⟨by omega, by rw [if_neg fun e => nbg e.symm], _, _, n9⟩
        clear h0 h1 h5 h10 h12 n0 n2 hE k2
        rintro ρ s4 ⟨h0, h1, h5, h10, h12, h13, lq4, cq4, own4, A4, n4⟩
        simp only [XU, seval]
        refine d_dreg follow [] rfl ?_
        have n5 := n4.slots 20 []
        have c5 : (addSlots s4.n 20 s4 []).cells q = _ := (slots_old _ lq4).trans cq4
        generalize addSlots s4.n 20 s4 [] = s5 at *
        have cb5 := n5.co.cb
        apply ex3 (n5.co.ra.some (show 0 < (al ++ [(j + 1, e)]).length by omega))
        intro bA capA csA hA
        have eA := hA.eq
        have cA := hA.cells
        have hsg := (hA.row (i := j) hjl).2.trans (rowc_seg Ep_len hjl)
        have hfA := (hA.row (i := j) hjl).1
        rw [hget, hEq] at hsg
        have hle : decide (j * 5 + 5 ≤ csA.length) = true := by rw [decide_eq_true_eq]; exact hfA
        have wj : IntKind.i64.wrap (((j + 1 : Nat) : Int) - 1) = (j : Int) := by rw [wrapSub1 (by omega) (by omega)]; rfl
        have hxj := lt_idx hjl
        have gjl : ¬ (((al ++ [(j + 1, e)]).length : Nat) : Int) < ((j + 1 : Nat) : Int) := by have := hjl; omega
        simp only [XU, seval, DU, h0, h1, h5, h10, h12, h13, cb5, GS, eA, cA, c5, gjl, hsg, hle, wj, hxj, sg5]
        refine (hS _).use ?_
        simp only [XU, seval, DU, h0]
        refine ⟨⟨?_, ?_⟩, ?_⟩
        · intro l hl c hc hf
          simp only [List.mem_cons, List.mem_nil_iff, List.not_mem_nil, or_false] at hl hc
          (repeat' (first | (rcases hl with rfl | hl) | (rcases hl with rfl))) <;> (repeat' (first | (rcases hc with rfl | hc) | (rcases hc with rfl))) <;> dsimp only at hf ⊢ <;> first
            | (exact absurd hf (by decide +kernel))
            | (simp only [XU, seval, h0, h12, cb5, GS, eA, cA, c5, hsg, hle, hxj, sg5]; done)
        · intro sl hsl; simp at hsl
        simp only [XU, seval, h0, h1, h5, h10, h12, hw]
        exact ⟨hlt, _, _, n5⟩
    · rw [if_neg gj] at hag ⊢
      have hjl : j < al.length := by
        rcases Nat.lt_or_ge j al.length with h | h
        · exact h
        · rw [List.getElem?_eq_none h] at hag; cases hag
      have hget : al[j] = (j + 1, e) := by
        rw [List.getElem?_eq_getElem hjl] at hag
        exact Option.some.inj hag
      have gw : IntKind.i64.wrap ((al.length : Int) + 1) = ((al.length + 1 : Nat) : Int) := wrapSucc (by omega)
      have gne : ¬ ((j + 1 : Nat) : Int) = ((al.length + 1 : Nat) : Int) := by omega
      have enf : A3.all = .nils ∨ ∃ b c, A3.all = .sl b 0 al.length c 5 := n0.co.ra.form
      have gj0 : ¬ A3.all = .nils := fun e => by
        have := n0.co.ra.len.1
        rw [e] at this
        have := Option.some.inj this
        simp only at this
        omega
      obtain ⟨bn, cn, en'⟩ := enf.resolve_left gj0
      simp only [XU, seval, h0, h1, h5, h10, h12]
      refine kC.use ?_
      simp only [XU, seval, h0, h1, h5, h10, h12, hge]
      refine hE.kept fun s2 k2 => ?_
      have n2 : NowG σ own bg _ _ _ bs Rs2 ((s2.push (.cells [.int .i64 0, .int .i64 0, .int .i64 0, .nils, .nils])).put s2.n [.int .i64 ((j + 1 : Nat) : Int), .int .i64 (e.term : Int), .int .i64 (e.kind : Int), bytesP e.data, intsP e.mem]) := ((n0.keeps k2).loc_.push [.int .i64 0, .int .i64 0, .int .i64 0, .nils, .nils]).local_ (q := s2.n) (Nat.le_trans n0.tr.n k2.1) (loc_ge (Nat.le_refl _)) [.int .i64 ((j + 1 : Nat) : Int), .int .i64 (e.term : Int), .int .i64 (e.kind : Int), bytesP e.data, intsP e.mem]
      have cb2 := (k2.cells lbg).trans n0.co.cb
      have nbg : ¬ bg = s2.n := fun e => by have := k2.1; omega
      have ce : ((s2.push (.cells [.int .i64 0, .int .i64 0, .int .i64 0, .nils, .nils])).put s2.n [.int .i64 ((j + 1 : Nat) : Int), .int .i64 (e.term : Int), .int .i64 (e.kind : Int), bytesP e.data, intsP e.mem]).cells s2.n = some [.int .i64 ((j + 1 : Nat) : Int), .int .i64 (e.term : Int), .int .i64 (e.kind : Int), bytesP e.data, intsP e.mem] := by rw [put_get, if_pos rfl]
      have lq : s2.n < ((s2.push (.cells [.int .i64 0, .int .i64 0, .int .i64 0, .nils, .nils])).put s2.n [.int .i64 ((j + 1 : Nat) : Int), .int .i64 (e.term : Int), .int .i64 (e.kind : Int), bytesP e.data, intsP e.mem]).n := Nat.lt_succ_self _
      simp only [XU, seval, h0, h1, h5, h10, h12, PS, SX, nbg, cb2, GS, en', gw, gne]
      generalize (s2.push (.cells [.int .i64 0, .int .i64 0, .int .i64 0, .nils, .nils])).put s2.n [.int .i64 ((j + 1 : Nat) : Int), .int .i64 (e.term : Int), .int .i64 (e.kind : Int), bytesP e.data, intsP e.mem] = s3 at *
      generalize s2.n = q at *
      refine d_dreg follow [] rfl ?_
      have n5 := n2.slots 20 []
      have c5 : (addSlots s3.n 20 s3 []).cells q = _ := (slots_old _ lq).trans ce
      generalize addSlots s3.n 20 s3 [] = s5 at *
      have cb5 := n5.co.cb
      apply ex3 (n5.co.ra.some (show 0 < al.length by omega))
      intro bA capA csA hA
      have eA := hA.eq
      have cA := hA.cells
      have hsg := (hA.row (i := j) hjl).2.trans (rowc_seg Ep_len hjl)
      have hfA := (hA.row (i := j) hjl).1
      rw [hget, hEq] at hsg
      have hle : decide (j * 5 + 5 ≤ csA.length) = true := by rw [decide_eq_true_eq]; exact hfA
      have wj : IntKind.i64.wrap (((j + 1 : Nat) : Int) - 1) = (j : Int) := by rw [wrapSub1 (by omega) (by omega)]; rfl
      have hxj := lt_idx hjl
      have gjl : ¬ ((al.length : Nat) : Int) < ((j + 1 : Nat) : Int) := by have := hjl; omega
      simp only [XU, seval, DU, h0, h1, h5, h10, h12, cb5, GS, eA, cA, c5, gjl, hsg, hle, wj, hxj, sg5]
      refine (hS _).use ?_
      simp only [XU, seval, DU, h0]
      refine ⟨⟨?_, ?_⟩, ?_⟩
      · intro l hl c hc hf
        simp only [List.mem_cons, List.mem_nil_iff, List.not_mem_nil, or_false] at hl hc
        (repeat' (first | (rcases hl with rfl | hl) | (rcases hl with rfl))) <;> (repeat' (first | (rcases hc with rfl | hc) | (rcases hc with rfl))) <;> dsimp only at hf ⊢ <;> first
          | (exact absurd hf (by decide +kernel))
          | (simp only [XU, seval, h0, h12, cb5, GS, eA, cA, c5, hsg, hle, hxj, sg5]; done)
      · intro sl hsl; simp at hsl
      simp only [XU, seval, h0, h1, h5, h10, h12, hw]
      exact ⟨hlt, _, _, n5⟩
  clear h0 h1 h5 h10 n0
  rintro ρ s ⟨h0, h1, h5, h10, own3, A3, n0⟩
  obtain ⟨gz, hgz⟩ : ∃ gz : Grp, gz = { gr with all := g.allN c c.commit } := ⟨_, rfl⟩
  rw [← hgz] at n0
  have zn : gz.n = g.n := by rw [hgz]; exact rn
  have zl : gz.lead = g.lead := by rw [hgz]; exact rl
  have zcore : gz.core i = c.mute := by rw [hgz]; exact rcore
  have zfin : gz = ⟨g.n, (g.setc i c.mute).cores, g.net ++ c.out, g.allN c c.commit, g.term.set i c.term, g.com.set i c.commit, g.lead, g.made, g.got⟩ := by rw [hgz, rfin]
  clear hgz rn ra rl rcore rfin hal
  have hiz : i < gz.n := by rw [zn]; exact hi
  rw [wpX_seq]
  refine x_mid (fun ρ s' => s' = s ∧ ρ.rd 0 = .ptr bg 0 ∧ ρ.rd 1 = .int .i64 (i : Int) ∧ ρ.rd 5 = .ptr (bs i) 0) ?_ ?_
  · have cb := n0.co.cb
    have g0 : ¬ ((gz.all.length : Nat) : Int) < 0 := by omega
    rcases n0.co.ra.form with en' | ⟨bn, cn, en'⟩
    · simp only [XU, seval, h0, h1, h5, h10, cb, GS, en']
    · simp only [XU, seval, h0, h1, h5, h10, cb, GS, en', g0]
  clear h0 h1 h5 h10
  rintro ρ s' ⟨hs, h0, h1, h5⟩
  rw [hs]
  clear hs
  rw [wpX_seq]
  refine x_mid (fun ρ s => ρ.rd 0 = .ptr bg 0 ∧ ρ.rd 1 = .int .i64 (i : Int) ∧ NowG σ own bg own3 { gz with lead := g.leadN c i } A3 bs Rs2 s) ?_ ?_
  · have hco := n0.co.cs i hiz
    rw [zcore] at hco
    have kT : callD Try.prog 44 [.ptr (bs i) 0] s fun v s' => s' = s ∧ v = .int .i64 (c.term : Int) := by have := term_ac hco; exact this
    have kR : callD Try.prog 29 [.ptr (bs i) 0] s fun v s' => s' = s ∧ v = .int .i64 (c.role : Int) := by have := role_ac hco; exact this
    have eself : ({ gz with lead := g.lead } : Grp) = gz := by rw [← zl]
    unfold Grp.leadN
    by_cases gr : c.role = 2
    rotate_left
    · have gr' : ¬ (c.role : Int) = 2 := by omega
      rw [if_neg fun e => gr e.1, eself]
      simp only [XU, seval, h0, h1, h5]
      refine kR.use ?_
      simp only [XU, seval, h0, h1, h5, gr']
      exact n0
    have gr' : (c.role : Int) = 2 := by omega
    by_cases gt : c.term < 400
    rotate_left
    · have gt' : ¬ (c.term : Int) < 400 := by omega
      rw [if_neg fun e => gt e.2, eself]
      simp only [XU, seval, h0, h1, h5]
      refine kR.use ?_
      simp only [XU, seval, h0, h1, h5, gr']
      refine kT.use ?_
      simp only [XU, seval, h0, h1, h5, gt']
      exact n0
    have gt' : (c.term : Int) < 400 := by omega
    have gt0 : (0 : Int) ≤ (c.term : Int) ∧ (c.term : Int) < 400 := by omega
    have hll := n0.co.ll
    have hLd := hkld gr gt
    rw [← zl] at hLd
    rw [if_pos ⟨gr, gt⟩]
    have wi : IntKind.i64.wrap ((i : Int) + 1) = ((i + 1 : Nat) : Int) := wrapSucc (by omega)
    simp only [XU, seval, h0, h1, h5]
    refine kR.use ?_
    simp only [XU, seval, h0, h1, h5, gr']
    refine kT.use ?_
    simp only [XU, seval, h0, h1, h5, gt']
    clear kT kR hco
    refine d_mid (fun ρ s => ρ.rd 0 = .ptr bg 0 ∧ ρ.rd 1 = .int .i64 (i : Int) ∧ ρ.rd 5 = .ptr (bs i) 0 ∧ ρ.rd 294 = .bool false ∧ NowG σ own bg own3 gz A3 bs Rs2 s) ?_ ?_
    · refine d_dreg follow [] rfl ?_
      have n1 := n0.slots 20 []
      generalize addSlots s.n 20 s [] = s1 at *
      have cb := n1.co.cb
      have hco := n1.co.cs i hiz
      rw [zcore] at hco
      have kT : callD Try.prog 44 [.ptr (bs i) 0] s1 fun v s' => s' = s1 ∧ v = .int .i64 (c.term : Int) := by have := term_ac hco; exact this
      have gL := ggL (A := A3) hll gt
      generalize gz.lead.getD c.term 0 = v at *
      rcases hLd with hv | hv
      · rw [hv] at gL
        simp only [XU, seval, DU, h0, h1, h5]
        refine kT.use ?_
        simp only [XU, seval, DU, h0, h1, h5, cb, GS, gt0, gL]
        refine ⟨⟨?_, ?_⟩, ?_⟩
        · intro l hl c hc hf
          simp only [List.mem_cons, List.mem_nil_iff, List.not_mem_nil, or_false] at hl hc
          (repeat' (first | (rcases hl with rfl | hl) | (rcases hl with rfl))) <;> (repeat' (first | (rcases hc with rfl | hc) | (rcases hc with rfl))) <;> dsimp only at hf ⊢ <;> first
            | (exact absurd hf (by decide +kernel))
            | (simp only [XU, seval, h0, h1, h5, cb, GS, gt0, gL]; done)
        · intro sl hsl; simp at hsl
        exact n1
      · rw [hv] at gL
        have g0 : ¬ ((i + 1 : Nat) : Int) = 0 := by omega
        simp only [XU, seval, DU, h0, h1, h5]
        refine kT.use ?_
        simp only [XU, seval, DU, h0, h1, h5, cb, GS, gt0, gL, g0]
        refine kT.use ?_
        simp only [XU, seval, DU, h0, h1, h5, cb, GS, gt0, gL, g0, wi]
        refine ⟨⟨?_, ?_⟩, ?_⟩
        · intro l hl c hc hf
          simp only [List.mem_cons, List.mem_nil_iff, List.not_mem_nil, or_false] at hl hc
          (repeat' (first | (rcases hl with rfl | hl) | (rcases hl with rfl))) <;> (repeat' (first | (rcases hc with rfl | hc) | (rcases hc with rfl))) <;> dsimp only at hf ⊢ <;> first
            | (exact absurd hf (by decide +kernel))
            | (simp only [XU, seval, h0, h1, h5, cb, GS, gt0, gL]; done)
        · intro sl hsl; simp at hsl
        exact n1
    clear h0 h1 h5 n0
    rintro ρ s ⟨h0, h1, h5, h294, n0⟩
    simp only [XU, seval, h294]
    refine d_dreg follow [] rfl ?_
    have n1 := n0.slots 9 []
    generalize addSlots s.n 9 s [] = s1 at *
    have cb := n1.co.cb
    have hco := n1.co.cs i hiz
    rw [zcore] at hco
    have kT : callD Try.prog 44 [.ptr (bs i) 0] s1 fun v s' => s' = s1 ∧ v = .int .i64 (c.term : Int) := by have := term_ac hco; exact this
    have hle : decide (7 + c.term + 1 ≤ (grpC gz A3).length) = true := by rw [grpC_len hll, decide_eq_true_eq]; omega
    have hgs := gsL (A := A3) hll gt (i + 1)
    have n2 := n1.upd (g' := { gz with lead := gz.lead.set c.term (i + 1) }) rfl rfl rfl rfl rfl rfl (by show (gz.lead.set _ _).length = 400; rw [List.length_set]; exact hll)
    rw [← zl]
    simp only [XU, seval, DU, h0, h1, h5]
    refine kT.use ?_
    simp only [XU, seval, DU, h0, h1, h5, cb, gt0, wi, storeA, sets1, hle, hgs]
    refine ⟨⟨?_, ?_⟩, ?_⟩
    · intro l hl; simp at hl
    · intro sl hsl; simp at hsl
    exact n2
  clear h0 h1 h5 n0
  rintro ρ s ⟨h0, h1, n0⟩
  simp only [XU, seval, h0, h1]
  refine (readsG_ac n0.co hiz (by show (gz.core i).reads = []; rw [zcore]; exact hkrd)).mono fun v s2 hv => ?_
  obtain ⟨rfl, own4, Rs4, n4⟩ := hv
  simp only [XU, seval]
  have := n0.call n4
  rw [zfin] at this
  exact ⟨_, _, _, this⟩
end
end Go.Proofs.Ythojhpjjkfjeiaa.Va
