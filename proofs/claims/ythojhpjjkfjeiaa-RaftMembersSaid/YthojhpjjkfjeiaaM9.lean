/- Texts Rq36 to Rq39 of this claim, in one. Conditions: none. -/
import Derived.Test.YthojhpjjkfjeiaaM8
import Derived.Test.YthojhpjjkfjeiaaRkF
set_option maxRecDepth 100000
set_option maxHeartbeats 1000000
set_option linter.all false
namespace Go.Proofs.Ythojhpjjkfjeiaa.Va
open Go.Proofs
section
variable {σ : AState} {own : Nat → Nat} {bg : Nat} {g : Grp} {A : GR} {bs : Nat → Nat} {Rs : Nat → Rws}
theorem proposeG_ac (h : GrpAt σ own bg g A bs Rs) {k n n' : Nat} (hk : k < g.n) (hok : (g.core k).Ok (n + 14)) (hl : (g.core k).l.length < 56) (hr : (g.core k).role = 2) {d : Byts} (hd : d.length ≤ 700) (ht : (g.setc k ((g.core k).lay ⟨0, 1, d, []⟩)).ToldOk k n') :
    callD Try.prog 14 [.ptr bg 0, .int .i64 (k : Int), bytesP d] σ fun v s => v = .tup [.int .i64 (((g.core k).last + 1 : Nat) : Int), .int .i64 0, .bool true] ∧ ∃ own' A' Rs', NowG σ own bg own' (g.propG k d) A' bs Rs' s := by
  have n0 := NowG.start h
  clear h
  have cb := n0.co.cb
  obtain ⟨bp, cp, csp, eA, crp, cip, obp, lbp⟩ := n0.co.ptr hk
  have hx := lt_idx hk
  have hco := n0.co.cs k hk
  have g2 : ((g.core k).role : Int) = 2 := by omega
  have hP := propose_ac hco (by omega) hok hl hr hd
  have hR := role_ac hco
  have hL := last_o hco hok.fit
  have gl : ¬ (((g.core k).last + 1 : Nat) : Int) ≤ ((g.core k).last : Int) := by omega
  unfold Grp.propG
  generalize hlay : (g.core k).lay ⟨0, 1, d, []⟩ = f at *
  generalize (g.core k).last = L at *
  unfold bytesP at *
  refine cd_wp fn14 cf14 cl14 rfl ?_
  simp only [ac14]
  unfold ab14
  simp only [XU, seval, cb, GS, eA, crp, cip, hx]
  refine hR.use ?_
  simp only [XU, seval, cb, GS, eA, crp, cip, hx, g2]
  refine hL.use ?_
  simp only [XU, seval, cb, GS, eA, crp, cip, hx]
  refine hP.now fun s2 own2 R2 n2 => ?_
  have n3 := n0.core_ hk n2
  simp only [XU, seval, gl]
  refine (told_ac n3.co ht).grp fun s3 own4 A4 Rs4 n4 => ?_
  simp only [XU, seval]
  exact ⟨_, _, _, n3.call n4⟩
end
def Rws.nil : Rws := ⟨.nils, .nils, .nils, .nils, .nils⟩
/- A core that is new, its peers and rows empty. -/
theorem newC_ac {σ : AState} {id : Nat} (hid : id < 7) {l : List Int} (hv : validS l = true) : callD Try.prog 22 [.int .i64 (id : Int), intsP l] σ fun v s => ∃ b, v = .tup [.ptr b 0, .int .i64 0] ∧ σ.n ≤ b ∧ b < s.n ∧ s.cells b = some (coreC (coreNew id l) .nil) ∧ Keeps σ.n σ s := by
  have hf := valid_few hv
  have hV := fun σ => valid_d (σ := σ) (l := l) (by omega)
  have hC := fun σ => cloneI_ac (σ := σ) (l := l) (by omega)
  have g1 : ¬ (id : Int) < 0 := by omega
  have g2 : ¬ (7 : Int) ≤ (id : Int) := by omega
  refine cd_s fn22 cf22 cl22 rfl ?_
  simp only [ac22]
  unfold ab22
  refine z_mid (fun ρ s => s = σ ∧ ρ.rd 0 = .int .i64 (id : Int) ∧ ρ.rd 1 = intsP l) ?_ ?_
  · simp only [XU, seval]
  rintro ρ s ⟨hs, h0, h1⟩
  rw [hs]
  clear hs
  refine z_mid (fun ρ s => s = σ ∧ ρ.rd 0 = .int .i64 (id : Int) ∧ ρ.rd 1 = intsP l) ?_ ?_
  · simp only [XU, seval, h0, h1, g1, g2]
    refine (hV _).use ?_
    rw [hv]
    simp only [XU, seval, h0, h1]
  clear h0 h1
  rintro ρ s ⟨hs, h0, h1⟩
  rw [hs]
  clear hs
  refine z_mid (fun ρ s => ρ.rd 1 = intsP l ∧ ρ.rd 6 = .ptr σ.n 0 ∧ Keeps σ.n σ s ∧ σ.n < s.n ∧ ∃ cs, s.cells σ.n = some cs ∧ cs.length = 53 ∧ setx cs 2 (intsP l) = [.int .i64 0, .int .i64 0, intsP l, .nils, .nils, .int .i64 (id : Int), .int .i64 0, .int .i64 (-1), .int .i64 0, .int .i64 0, .nils, .int .i64 0, .int .i64 0, .int .i64 0, .bool false, .int .i64 0, .int .i64 0, .int .i64 0, .int .i64 0, .bool false, .int .i64 0, .int .i64 0, .int .i64 0, .int .i64 0, .bool false, .int .i64 0, .int .i64 0, .int .i64 0, .int .i64 0, .bool false, .int .i64 0, .int .i64 0, .int .i64 0, .int .i64 0, .bool false, .int .i64 0, .int .i64 0, .int .i64 0, .int .i64 0, .bool false, .int .i64 0, .int .i64 0, .int .i64 0, .int .i64 0, .bool false, .int .i64 0, .int .i64 0, .nils, .nils, .int .i64 0, .int .i64 0, .int .i64 0, .nils]) ?_ ?_
  · simp only [XU, seval, h0, h1]
    exact ⟨(Keeps.refl σ).push _, Nat.lt_succ_self _, _, rfl, rfl, rfl⟩
  clear h0 h1
  rintro ρ s ⟨h1, h6, hk, hn, cs, hcs, hl53, hset⟩
  refine z_frz (fun ρ s => ρ.rd 6 = .ptr σ.n 0 ∧ Keeps σ.n σ s ∧ σ.n < s.n ∧ s.cells σ.n = some (coreC { coreNew id l with left := 0 } .nil)) ?_ ?_
  · have hle : decide (2 + 1 ≤ cs.length) = true := by rw [hl53]; decide
    simp only [XU, seval, h1, h6]
    refine (hC _).use ?_
    unfold intsP at hset ⊢
    simp only [XU, seval, h6, hcs, storeA, sets1, hle, hset]
    refine Frz.row (RowP.nil (fun _ => False) _ 1) (by rw [put_get, if_pos rfl]) (fun e => e) (i := 3) rfl fun s1 a1 c1 k1 => ?_
    simp only [XU, seval, h6]
    exact ⟨⟨by rw [a1]; exact hk.1, fun b hb => (k1 b (by omega) (fun e => e)).trans ((put_h (by omega)).trans (hk.2 b hb))⟩, by rw [a1]; exact hn, c1.trans (congrArg some rfl)⟩
  clear h1 h6 hk hn hcs hl53 hset
  rintro ρ s ⟨h6, hk, hn, hc⟩
  refine z_wp ?_
  have hW := wait_ac hc (d := 0)
  simp only [XU, seval, h6]
  refine callD.use hW ?_
  simp only [XU, seval, h6]
  exact ⟨σ.n, rfl, Nat.le_refl _, hn, by rw [if_pos rfl]; rfl, hk.put (Nat.le_refl _) _⟩
end Go.Proofs.Ythojhpjjkfjeiaa.Va
set_option maxRecDepth 100000
set_option maxHeartbeats 1000000
set_option linter.all false
namespace Go.Proofs.Ythojhpjjkfjeiaa.Va
open Go.Proofs
def grp0 (n : Nat) : Grp := ⟨n, [], [], [], [], [], List.replicate 400 0, 0, 0⟩
theorem grp0_ll (n : Nat) : (grp0 n).lead.length = 400 := List.length_replicate
theorem hs1 (n : Nat) (A : GR) (x : AV) : setx (grpC (grp0 n) A) 1 x = grpC (grp0 n) { A with r := x } := rfl
theorem hs2 (n : Nat) (A : GR) (x : AV) : setx (grpC (grp0 n) A) 2 x = grpC (grp0 n) { A with s := x } := rfl
theorem hs5 (n : Nat) (A : GR) (x : AV) : setx (grpC (grp0 n) A) 5 x = grpC (grp0 n) { A with term := x } := rfl
theorem hs6 (n : Nat) (A : GR) (x : AV) : setx (grpC (grp0 n) A) 6 x = grpC (grp0 n) { A with com := x } := rfl
theorem hs407 (n : Nat) (A : GR) (x : AV) : setx (grpC (grp0 n) A) 407 x = grpC (grp0 n) { A with asks := x } := by
  have h := grp0_ll n
  rw [setx_set (by rw [grpC_len h]; omega)]
  unfold grpC
  simp only [List.set_cons_succ]
  rw [List.set_append_right _ _ (by simp [natsC, h])]
  simp [natsC, h]
structure Half (σ own : _) (bg N : Nat) (A : GR) (bs : Nat → Nat) (mem : List Int) (nr ns nt nc nk k : Nat) (s : AState) (own' : Nat → Nat) : Prop where
  tr : TurnsG own own' σ s
  cb : s.cells bg = some (grpC (grp0 N) A)
  ob : own' bg = 20
  bn : bg < s.n
  rr : RowP (fun k => own' k = 21) s A.r ((List.range nr).map fun i => .ptr (bs i) 0) nr 1
  rs : ∃ ss, RowP (fun k => own' k = 22) s A.s ss ns 1 ∧ ∀ a ∈ ss, a.one = true
  nn : A.net = .nils
  na : A.all = .nils
  rt : RowP (fun k => own' k = 25) s A.term (natsC (List.replicate nt 0)) nt 1
  rc : RowP (fun k => own' k = 26) s A.com (natsC (List.replicate nc 0)) nc 1
  rk : RowP (fun k => own' k = 27) s A.asks (List.replicate nk .nils) nk 1
  cs : ∀ i, i < k → CoreAt s own' (30 + 10 * i) (bs i) (coreNew i mem) .nil
namespace Half
variable {σ s s' : AState} {own own' own'' : Nat → Nat} {bg N : Nat} {A : GR} {bs : Nat → Nat} {mem : List Int} {nr ns nt nc nk k : Nat}
theorem own_ (h : Half σ own bg N A bs mem nr ns nt nc nk k s own') (he : ∀ j, j < s.n → own'' j = own' j) : Half σ own bg N A bs mem nr ns nt nc nk k s own'' := by
  obtain ⟨ss, hs, ho⟩ := h.rs
  exact ⟨⟨h.tr.n, fun j hj => (he j (Nat.lt_of_lt_of_le hj h.tr.n)).trans (h.tr.ow j hj), h.tr.keep⟩, h.cb, (he _ h.bn).trans h.ob, h.bn, h.rr.mono fun j hj hn => (he j hn).trans hj, ⟨ss, hs.mono fun j hj hn => (he j hn).trans hj, ho⟩, h.nn, h.na,
    h.rt.mono fun j hj hn => (he j hn).trans hj, h.rc.mono fun j hj hn => (he j hn).trans hj, h.rk.mono fun j hj hn => (he j hn).trans hj, fun i hi => (h.cs i hi).own_ he⟩
theorem keeps (h : Half σ own bg N A bs mem nr ns nt nc nk k s own') (hk : Keeps s.n s s') : Half σ own bg N A bs mem nr ns nt nc nk k s' own' := by
  have m : ∀ j : Nat, ∀ q, q < s.n → own' q = j → s'.cells q = s.cells q := fun j q hq _ => hk.cells hq
  obtain ⟨ss, hs, ho⟩ := h.rs
  exact ⟨h.tr.trans ⟨hk.1, fun _ _ => rfl, fun j hj _ => hk.2 j hj⟩, (hk.cells h.bn).trans h.cb, h.ob, Nat.lt_of_lt_of_le h.bn hk.1, h.rr.keep hk.1 (m 21), ⟨ss, hs.keep hk.1 (m 22), ho⟩, h.nn, h.na, h.rt.keep hk.1 (m 25), h.rc.keep hk.1 (m 26), h.rk.keep hk.1 (m 27), fun i hi => (h.cs i hi).keeps hk⟩
theorem slots (h : Half σ own bg N A bs mem nr ns nt nc nk k s own') (m : Nat) (sl : List (Nat × List AV)) : Half σ own bg N A bs mem nr ns nt nc nk k (addSlots s.n m s sl) own' := h.keeps (slots_keep (Keeps.refl s))
/- A core that is new belongs to it. -/
theorem core_ (h : Half σ own bg N A bs mem nr ns nt nc nk k s own') (hk5 : k ≤ 6) {b : Nat} (hbs : bs k = b) (hK : Keeps s.n s s') (hb : s.n ≤ b) (hb' : b < s'.n) (hc : s'.cells b = some (coreC (coreNew k mem) .nil)) : Half σ own bg N A bs mem nr ns nt nc nk (k + 1) s' (fun j => if j = b then 30 + 10 * k else loc own' s.n j) := by
  have h1 := (h.own_ (own'' := fun j => if j = b then 30 + 10 * k else loc own' s.n j) fun j hj => by
    have : ¬ j = b := by omega
    simp only [this, if_false]
    exact loc_lt hj).keeps hK
  refine ⟨h1.tr, h1.cb, h1.ob, h1.bn, h1.rr, h1.rs, h1.nn, h1.na, h1.rt, h1.rc, h1.rk, fun i hi => ?_⟩
  by_cases e : i = k
  · subst e
    rw [hbs]
    exact ⟨hc, by simp only [if_true], hb', RowP.nil _ _ _, RowP.nil _ _ _, RowP.nil _ _ _, RowP.nil _ _ _, RowP.nil _ _ _, rfl⟩
  · exact h1.cs i (by omega)

theorem app_rr (h : Half σ own bg N A bs mem nr ns nt nc nk k s own') (hc : nr ≤ 1000) (hk5 : k ≤ 6) : ∃ b9 cap9 s9, appendA (s.push (.cells [.ptr (bs nr) 0])) 1 8 A.r (.sl s.n 0 1 (some 1) 1) = some (.sl b9 0 (nr + 1) cap9 1, s9) ∧ s9.cells bg = some (grpC (grp0 N) A) ∧
    Half σ own bg N { A with r := .sl b9 0 (nr + 1) cap9 1 } bs mem (nr + 1) ns nt nc nk k (s9.put bg (grpC (grp0 N) { A with r := .sl b9 0 (nr + 1) cap9 1 })) (loc (tag own' s.n 21) s9.n) ∧ s.n < s9.n := by
  have h1 := h.own_ (own'' := tag own' s.n 21) fun j hj => tag_lt hj
  obtain ⟨ss0, hs0, ho0⟩ := h.rs
  obtain ⟨b9, cap9, s9, happ, hrow9, hn9, hk9⟩ := app_lit (bytes := 8) h1.rr (fun j hj => tag_ge hj) (new := [.ptr (bs nr) 0]) (k := 1) rfl rfl (by omega) (by omega)
  have hkeep : ∀ j, j < s.n → own' j ≠ 21 → s9.h.get j = s.h.get j := fun j hj hne => hk9 j hj (by rw [tag_lt hj]; exact hne)
  have hkc : ∀ j, j < s.n → own' j ≠ 21 → s9.cells j = s.cells j := fun j hj hne => get_cells (hkeep j hj hne)
  have hob := h.ob
  have hb9 : s9.cells bg = some (grpC (grp0 N) A) := (hkc bg h.bn (by omega)).trans h.cb
  have lt9 : ∀ j, j < s.n → loc (tag own' s.n 21) s9.n j = own' j := fun j hj => by rw [loc_lt (by omega), tag_lt hj]
  have ne : ∀ j, j ≠ 20 → ¬ loc (tag own' s.n 21) s9.n bg = j := fun j hj e => by rw [lt9 bg h.bn] at e; omega
  have mv : ∀ {x : AV} {c : List AV} {n sz : Nat} (j : Nat), j ≠ 20 → j ≠ 21 → RowP (fun q => own' q = j) s x c n sz → RowP (fun q => loc (tag own' s.n 21) s9.n q = j) (s9.put bg (grpC (grp0 N) { A with r := .sl b9 0 (nr + 1) cap9 1 })) x c n sz := fun j h1 h2 hr => ((hr.mono fun q hq hn => (lt9 q hn).trans hq).keep (Nat.le_of_lt hn9) fun q hq hp => hkc q hq (by rw [lt9 q hq] at hp; omega)).put (ne j h1) _
  refine ⟨b9, cap9, s9, happ, hb9, ⟨⟨Nat.le_trans h.tr.n (Nat.le_of_lt hn9), fun j hj => (lt9 j (Nat.lt_of_lt_of_le hj h.tr.n)).trans (h.tr.ow j hj), fun j hj hm => ?_⟩, by rw [put_get, if_pos rfl], (lt9 bg h.bn).trans hob, Nat.lt_trans h.bn hn9, ?_, ⟨ss0, mv 22 (by omega) (by omega) hs0, ho0⟩, h.nn, h.na, mv 25 (by omega) (by omega) h.rt, mv 26 (by omega) (by omega) h.rc, mv 27 (by omega) (by omega) h.rk, fun i hi => ?_⟩, hn9⟩
  · have e1 := h.tr.ow j hj
    have hm' : ¬ (20 ≤ own' j ∧ own' j < 100) := by rw [e1]; exact hm
    have hkb : j ≠ bg := fun e => by subst e; omega
    exact ((put_h hkb).trans (hkeep j (Nat.lt_of_lt_of_le hj h.tr.n) (by omega))).trans (h.tr.keep j hj hm)
  · rw [List.range_succ, List.map_append]
    exact (hrow9.mono fun q hq hn => by rw [loc_lt hn]; exact hq : RowP (fun q => loc (tag own' s.n 21) s9.n q = 21) s9 _ _ _ 1).put (ne 21 (by omega)) _
  · exact (((h.cs i hi).own_ lt9).keep (Nat.le_of_lt hn9) fun q hq hm => hkc q hq (by unfold Mine at hm; rw [lt9 q hq] at hm; omega)).put_other (by rw [lt9 bg h.bn]; omega) _
theorem app_rs (h : Half σ own bg N A bs mem nr ns nt nc nk k s own') {v : AV} (hv : v.one = true) (hc : ns ≤ 1000) (hk5 : k ≤ 6) : ∃ b9 cap9 s9, appendA (s.push (.cells [v])) 1 24 A.s (.sl s.n 0 1 (some 1) 1) = some (.sl b9 0 (ns + 1) cap9 1, s9) ∧ s9.cells bg = some (grpC (grp0 N) A) ∧
    Half σ own bg N { A with s := .sl b9 0 (ns + 1) cap9 1 } bs mem nr (ns + 1) nt nc nk k (s9.put bg (grpC (grp0 N) { A with s := .sl b9 0 (ns + 1) cap9 1 })) (loc (tag own' s.n 22) s9.n) ∧ s.n < s9.n := by
  have h1 := h.own_ (own'' := tag own' s.n 22) fun j hj => tag_lt hj
  obtain ⟨ss, hs, ho⟩ := h1.rs
  obtain ⟨ss0, hs0, ho0⟩ := h.rs
  obtain ⟨b9, cap9, s9, happ, hrow9, hn9, hk9⟩ := app_lit (bytes := 24) hs (fun j hj => tag_ge hj) (new := [v]) (k := 1) (by simp [hv]) rfl (by omega) (by omega)
  have hkeep : ∀ j, j < s.n → own' j ≠ 22 → s9.h.get j = s.h.get j := fun j hj hne => hk9 j hj (by rw [tag_lt hj]; exact hne)
  have hkc : ∀ j, j < s.n → own' j ≠ 22 → s9.cells j = s.cells j := fun j hj hne => get_cells (hkeep j hj hne)
  have hob := h.ob
  have hb9 : s9.cells bg = some (grpC (grp0 N) A) := (hkc bg h.bn (by omega)).trans h.cb
  have lt9 : ∀ j, j < s.n → loc (tag own' s.n 22) s9.n j = own' j := fun j hj => by rw [loc_lt (by omega), tag_lt hj]
  have ne : ∀ j, j ≠ 20 → ¬ loc (tag own' s.n 22) s9.n bg = j := fun j hj e => by rw [lt9 bg h.bn] at e; omega
  have mv : ∀ {x : AV} {c : List AV} {n sz : Nat} (j : Nat), j ≠ 20 → j ≠ 22 → RowP (fun q => own' q = j) s x c n sz → RowP (fun q => loc (tag own' s.n 22) s9.n q = j) (s9.put bg (grpC (grp0 N) { A with s := .sl b9 0 (ns + 1) cap9 1 })) x c n sz := fun j h1 h2 hr => ((hr.mono fun q hq hn => (lt9 q hn).trans hq).keep (Nat.le_of_lt hn9) fun q hq hp => hkc q hq (by rw [lt9 q hq] at hp; omega)).put (ne j h1) _
  refine ⟨b9, cap9, s9, happ, hb9, ⟨⟨Nat.le_trans h.tr.n (Nat.le_of_lt hn9), fun j hj => (lt9 j (Nat.lt_of_lt_of_le hj h.tr.n)).trans (h.tr.ow j hj), fun j hj hm => ?_⟩, by rw [put_get, if_pos rfl], (lt9 bg h.bn).trans hob, Nat.lt_trans h.bn hn9, mv 21 (by omega) (by omega) h.rr, ?_, h.nn, h.na, mv 25 (by omega) (by omega) h.rt, mv 26 (by omega) (by omega) h.rc, mv 27 (by omega) (by omega) h.rk, fun i hi => ?_⟩, hn9⟩
  · have e1 := h.tr.ow j hj
    have hm' : ¬ (20 ≤ own' j ∧ own' j < 100) := by rw [e1]; exact hm
    have hkb : j ≠ bg := fun e => by subst e; omega
    exact ((put_h hkb).trans (hkeep j (Nat.lt_of_lt_of_le hj h.tr.n) (by omega))).trans (h.tr.keep j hj hm)
  · exact ⟨_, (hrow9.mono fun q hq hn => by rw [loc_lt hn]; exact hq : RowP (fun q => loc (tag own' s.n 22) s9.n q = 22) s9 _ _ _ 1).put (ne 22 (by omega)) _, fun a ha => by
      rcases List.mem_append.1 ha with e | e
      · exact ho a e
      · rw [List.mem_singleton.1 e]; exact hv⟩
  · exact (((h.cs i hi).own_ lt9).keep (Nat.le_of_lt hn9) fun q hq hm => hkc q hq (by unfold Mine at hm; rw [lt9 q hq] at hm; omega)).put_other (by rw [lt9 bg h.bn]; omega) _
theorem app_rt (h : Half σ own bg N A bs mem nr ns nt nc nk k s own') (hc : nt ≤ 1000) (hk5 : k ≤ 6) : ∃ b9 cap9 s9, appendA (s.push (.cells [.int .i64 0])) 1 8 A.term (.sl s.n 0 1 (some 1) 1) = some (.sl b9 0 (nt + 1) cap9 1, s9) ∧ s9.cells bg = some (grpC (grp0 N) A) ∧
    Half σ own bg N { A with term := .sl b9 0 (nt + 1) cap9 1 } bs mem nr ns (nt + 1) nc nk k (s9.put bg (grpC (grp0 N) { A with term := .sl b9 0 (nt + 1) cap9 1 })) (loc (tag own' s.n 25) s9.n) ∧ s.n < s9.n := by
  have h1 := h.own_ (own'' := tag own' s.n 25) fun j hj => tag_lt hj
  obtain ⟨ss0, hs0, ho0⟩ := h.rs
  obtain ⟨b9, cap9, s9, happ, hrow9, hn9, hk9⟩ := app_lit (bytes := 8) h1.rt (fun j hj => tag_ge hj) (new := [.int .i64 0]) (k := 1) rfl rfl (by omega) (by omega)
  have hkeep : ∀ j, j < s.n → own' j ≠ 25 → s9.h.get j = s.h.get j := fun j hj hne => hk9 j hj (by rw [tag_lt hj]; exact hne)
  have hkc : ∀ j, j < s.n → own' j ≠ 25 → s9.cells j = s.cells j := fun j hj hne => get_cells (hkeep j hj hne)
  have hob := h.ob
  have hb9 : s9.cells bg = some (grpC (grp0 N) A) := (hkc bg h.bn (by omega)).trans h.cb
  have lt9 : ∀ j, j < s.n → loc (tag own' s.n 25) s9.n j = own' j := fun j hj => by rw [loc_lt (by omega), tag_lt hj]
  have ne : ∀ j, j ≠ 20 → ¬ loc (tag own' s.n 25) s9.n bg = j := fun j hj e => by rw [lt9 bg h.bn] at e; omega
  have mv : ∀ {x : AV} {c : List AV} {n sz : Nat} (j : Nat), j ≠ 20 → j ≠ 25 → RowP (fun q => own' q = j) s x c n sz → RowP (fun q => loc (tag own' s.n 25) s9.n q = j) (s9.put bg (grpC (grp0 N) { A with term := .sl b9 0 (nt + 1) cap9 1 })) x c n sz := fun j h1 h2 hr => ((hr.mono fun q hq hn => (lt9 q hn).trans hq).keep (Nat.le_of_lt hn9) fun q hq hp => hkc q hq (by rw [lt9 q hq] at hp; omega)).put (ne j h1) _
  refine ⟨b9, cap9, s9, happ, hb9, ⟨⟨Nat.le_trans h.tr.n (Nat.le_of_lt hn9), fun j hj => (lt9 j (Nat.lt_of_lt_of_le hj h.tr.n)).trans (h.tr.ow j hj), fun j hj hm => ?_⟩, by rw [put_get, if_pos rfl], (lt9 bg h.bn).trans hob, Nat.lt_trans h.bn hn9, mv 21 (by omega) (by omega) h.rr, ⟨ss0, mv 22 (by omega) (by omega) hs0, ho0⟩, h.nn, h.na, ?_, mv 26 (by omega) (by omega) h.rc, mv 27 (by omega) (by omega) h.rk, fun i hi => ?_⟩, hn9⟩
  · have e1 := h.tr.ow j hj
    have hm' : ¬ (20 ≤ own' j ∧ own' j < 100) := by rw [e1]; exact hm
    have hkb : j ≠ bg := fun e => by subst e; omega
    exact ((put_h hkb).trans (hkeep j (Nat.lt_of_lt_of_le hj h.tr.n) (by omega))).trans (h.tr.keep j hj hm)
  · have e : natsC (List.replicate (nt + 1) 0) = natsC (List.replicate nt 0) ++ [.int .i64 0] := by rw [List.replicate_succ']; simp [natsC]
    rw [e]
    exact (hrow9.mono fun q hq hn => by rw [loc_lt hn]; exact hq : RowP (fun q => loc (tag own' s.n 25) s9.n q = 25) s9 _ _ _ 1).put (ne 25 (by omega)) _
  · exact (((h.cs i hi).own_ lt9).keep (Nat.le_of_lt hn9) fun q hq hm => hkc q hq (by unfold Mine at hm; rw [lt9 q hq] at hm; omega)).put_other (by rw [lt9 bg h.bn]; omega) _
theorem app_rc (h : Half σ own bg N A bs mem nr ns nt nc nk k s own') (hc : nc ≤ 1000) (hk5 : k ≤ 6) : ∃ b9 cap9 s9, appendA (s.push (.cells [.int .i64 0])) 1 8 A.com (.sl s.n 0 1 (some 1) 1) = some (.sl b9 0 (nc + 1) cap9 1, s9) ∧ s9.cells bg = some (grpC (grp0 N) A) ∧
    Half σ own bg N { A with com := .sl b9 0 (nc + 1) cap9 1 } bs mem nr ns nt (nc + 1) nk k (s9.put bg (grpC (grp0 N) { A with com := .sl b9 0 (nc + 1) cap9 1 })) (loc (tag own' s.n 26) s9.n) ∧ s.n < s9.n := by
  have h1 := h.own_ (own'' := tag own' s.n 26) fun j hj => tag_lt hj
  obtain ⟨ss0, hs0, ho0⟩ := h.rs
  obtain ⟨b9, cap9, s9, happ, hrow9, hn9, hk9⟩ := app_lit (bytes := 8) h1.rc (fun j hj => tag_ge hj) (new := [.int .i64 0]) (k := 1) rfl rfl (by omega) (by omega)
  have hkeep : ∀ j, j < s.n → own' j ≠ 26 → s9.h.get j = s.h.get j := fun j hj hne => hk9 j hj (by rw [tag_lt hj]; exact hne)
  have hkc : ∀ j, j < s.n → own' j ≠ 26 → s9.cells j = s.cells j := fun j hj hne => get_cells (hkeep j hj hne)
  have hob := h.ob
  have hb9 : s9.cells bg = some (grpC (grp0 N) A) := (hkc bg h.bn (by omega)).trans h.cb
  have lt9 : ∀ j, j < s.n → loc (tag own' s.n 26) s9.n j = own' j := fun j hj => by rw [loc_lt (by omega), tag_lt hj]
  have ne : ∀ j, j ≠ 20 → ¬ loc (tag own' s.n 26) s9.n bg = j := fun j hj e => by rw [lt9 bg h.bn] at e; omega
  have mv : ∀ {x : AV} {c : List AV} {n sz : Nat} (j : Nat), j ≠ 20 → j ≠ 26 → RowP (fun q => own' q = j) s x c n sz → RowP (fun q => loc (tag own' s.n 26) s9.n q = j) (s9.put bg (grpC (grp0 N) { A with com := .sl b9 0 (nc + 1) cap9 1 })) x c n sz := fun j h1 h2 hr => ((hr.mono fun q hq hn => (lt9 q hn).trans hq).keep (Nat.le_of_lt hn9) fun q hq hp => hkc q hq (by rw [lt9 q hq] at hp; omega)).put (ne j h1) _
  refine ⟨b9, cap9, s9, happ, hb9, ⟨⟨Nat.le_trans h.tr.n (Nat.le_of_lt hn9), fun j hj => (lt9 j (Nat.lt_of_lt_of_le hj h.tr.n)).trans (h.tr.ow j hj), fun j hj hm => ?_⟩, by rw [put_get, if_pos rfl], (lt9 bg h.bn).trans hob, Nat.lt_trans h.bn hn9, mv 21 (by omega) (by omega) h.rr, ⟨ss0, mv 22 (by omega) (by omega) hs0, ho0⟩, h.nn, h.na, mv 25 (by omega) (by omega) h.rt, ?_, mv 27 (by omega) (by omega) h.rk, fun i hi => ?_⟩, hn9⟩
  · have e1 := h.tr.ow j hj
    have hm' : ¬ (20 ≤ own' j ∧ own' j < 100) := by rw [e1]; exact hm
    have hkb : j ≠ bg := fun e => by subst e; omega
    exact ((put_h hkb).trans (hkeep j (Nat.lt_of_lt_of_le hj h.tr.n) (by omega))).trans (h.tr.keep j hj hm)
  · have e : natsC (List.replicate (nc + 1) 0) = natsC (List.replicate nc 0) ++ [.int .i64 0] := by rw [List.replicate_succ']; simp [natsC]
    rw [e]
    exact (hrow9.mono fun q hq hn => by rw [loc_lt hn]; exact hq : RowP (fun q => loc (tag own' s.n 26) s9.n q = 26) s9 _ _ _ 1).put (ne 26 (by omega)) _
  · exact (((h.cs i hi).own_ lt9).keep (Nat.le_of_lt hn9) fun q hq hm => hkc q hq (by unfold Mine at hm; rw [lt9 q hq] at hm; omega)).put_other (by rw [lt9 bg h.bn]; omega) _
theorem app_rk (h : Half σ own bg N A bs mem nr ns nt nc nk k s own') (hc : nk ≤ 1000) (hk5 : k ≤ 6) : ∃ b9 cap9 s9, appendA (s.push (.cells [.nils])) 1 24 A.asks (.sl s.n 0 1 (some 1) 1) = some (.sl b9 0 (nk + 1) cap9 1, s9) ∧ s9.cells bg = some (grpC (grp0 N) A) ∧
    Half σ own bg N { A with asks := .sl b9 0 (nk + 1) cap9 1 } bs mem nr ns nt nc (nk + 1) k (s9.put bg (grpC (grp0 N) { A with asks := .sl b9 0 (nk + 1) cap9 1 })) (loc (tag own' s.n 27) s9.n) ∧ s.n < s9.n := by
  have h1 := h.own_ (own'' := tag own' s.n 27) fun j hj => tag_lt hj
  obtain ⟨ss0, hs0, ho0⟩ := h.rs
  obtain ⟨b9, cap9, s9, happ, hrow9, hn9, hk9⟩ := app_lit (bytes := 24) h1.rk (fun j hj => tag_ge hj) (new := [.nils]) (k := 1) rfl rfl (by omega) (by omega)
  have hkeep : ∀ j, j < s.n → own' j ≠ 27 → s9.h.get j = s.h.get j := fun j hj hne => hk9 j hj (by rw [tag_lt hj]; exact hne)
  have hkc : ∀ j, j < s.n → own' j ≠ 27 → s9.cells j = s.cells j := fun j hj hne => get_cells (hkeep j hj hne)
  have hob := h.ob
  have hb9 : s9.cells bg = some (grpC (grp0 N) A) := (hkc bg h.bn (by omega)).trans h.cb
  have lt9 : ∀ j, j < s.n → loc (tag own' s.n 27) s9.n j = own' j := fun j hj => by rw [loc_lt (by omega), tag_lt hj]
  have ne : ∀ j, j ≠ 20 → ¬ loc (tag own' s.n 27) s9.n bg = j := fun j hj e => by rw [lt9 bg h.bn] at e; omega
  have mv : ∀ {x : AV} {c : List AV} {n sz : Nat} (j : Nat), j ≠ 20 → j ≠ 27 → RowP (fun q => own' q = j) s x c n sz → RowP (fun q => loc (tag own' s.n 27) s9.n q = j) (s9.put bg (grpC (grp0 N) { A with asks := .sl b9 0 (nk + 1) cap9 1 })) x c n sz := fun j h1 h2 hr => ((hr.mono fun q hq hn => (lt9 q hn).trans hq).keep (Nat.le_of_lt hn9) fun q hq hp => hkc q hq (by rw [lt9 q hq] at hp; omega)).put (ne j h1) _
  refine ⟨b9, cap9, s9, happ, hb9, ⟨⟨Nat.le_trans h.tr.n (Nat.le_of_lt hn9), fun j hj => (lt9 j (Nat.lt_of_lt_of_le hj h.tr.n)).trans (h.tr.ow j hj), fun j hj hm => ?_⟩, by rw [put_get, if_pos rfl], (lt9 bg h.bn).trans hob, Nat.lt_trans h.bn hn9, mv 21 (by omega) (by omega) h.rr, ⟨ss0, mv 22 (by omega) (by omega) hs0, ho0⟩, h.nn, h.na, mv 25 (by omega) (by omega) h.rt, mv 26 (by omega) (by omega) h.rc, ?_, fun i hi => ?_⟩, hn9⟩
  · have e1 := h.tr.ow j hj
    have hm' : ¬ (20 ≤ own' j ∧ own' j < 100) := by rw [e1]; exact hm
    have hkb : j ≠ bg := fun e => by subst e; omega
    exact ((put_h hkb).trans (hkeep j (Nat.lt_of_lt_of_le hj h.tr.n) (by omega))).trans (h.tr.keep j hj hm)
  · rw [List.replicate_succ']
    exact (hrow9.mono fun q hq hn => by rw [loc_lt hn]; exact hq : RowP (fun q => loc (tag own' s.n 27) s9.n q = 27) s9 _ _ _ 1).put (ne 27 (by omega)) _
  · exact (((h.cs i hi).own_ lt9).keep (Nat.le_of_lt hn9) fun q hq hm => hkc q hq (by unfold Mine at hm; rw [lt9 q hq] at hm; omega)).put_other (by rw [lt9 bg h.bn]; omega) _
theorem done (h : Half σ own bg N A bs mem N N N N N N s own') (hN : N ≤ 5) : NowG σ own bg own' (grpNew N mem) A bs (fun _ => .nil) s := by
  have hcore : ∀ i, i < N → (grpNew N mem).core i = coreNew i mem := fun i hi => by simp [grpNew, Grp.core, hi]
  refine ⟨h.tr, h.cb, h.ob, h.bn, h.rr, h.rs, ?_, ?_, h.rt, h.rc, h.rk, fun i hi => ?_, List.length_replicate, hN, by simp [grpNew]⟩
  · rw [h.nn]; exact RowP.nil _ _ _
  · rw [h.na]; exact RowP.nil _ _ _
  · have hi' : i < N := hi
    rw [hcore i hi']
    exact h.cs i hi'
end Half
end Go.Proofs.Ythojhpjjkfjeiaa.Va
set_option maxRecDepth 100000
set_option maxHeartbeats 2000000
set_option linter.all false
namespace Go.Proofs.Ythojhpjjkfjeiaa.Va
open Go.Proofs
theorem callD.exb {P : Program} {f : FuncId} {args : List AV} {σ : AState} {K : AV → AState → Prop} {F : Nat → AV} {Q : Nat → AState → Prop} (h : callD P f args σ fun v s => ∃ b, v = F b ∧ Q b s) (k : ∀ b s, Q b s → K (F b) s) : callD P f args σ K :=
  h.mono fun v s e => by
    obtain ⟨b, rfl, q⟩ := e
    exact k b s q
theorem g407 (N : Nat) (A : GR) : (grpC (grp0 N) A)[407]? = some A.asks := gg407 (grp0_ll N)
def GR.nil : GR := ⟨.nils, .nils, .nils, .nils, .nils, .nils, .nils⟩
theorem fill410 (n : Nat) : fillA [.int .i64 0, .nils, .nils, .nils, .nils, .nils, .nils, .int .i64 0, .int .i64 0, .int .i64 0, .int .i64 0, .int .i64 0, .int .i64 0, .int .i64 0, .int .i64 0, .int .i64 0, .int .i64 0, .int .i64 0, .int .i64 0, .int .i64 0, .int .i64 0, .int .i64 0, .int .i64 0, .int .i64 0, .int .i64 0, .int .i64 0, .int .i64 0, .int .i64 0, .int .i64 0, .int .i64 0, .int .i64 0, .int .i64 0, .int .i64 0, .int .i64 0, .int .i64 0, .int .i64 0, .int .i64 0, .int .i64 0, .int .i64 0, .int .i64 0, .int .i64 0, .int .i64 0, .int .i64 0, .int .i64 0, .int .i64 0, .int .i64 0, .int .i64 0, .int .i64 0, .int .i64 0, .int .i64 0, .int .i64 0, .int .i64 0, .int .i64 0, .int .i64 0, .int .i64 0, .int .i64 0, .int .i64 0, .int .i64 0, .int .i64 0, .int .i64 0, .int .i64 0, .int .i64 0, .int .i64 0, .int .i64 0, .int .i64 0, .int .i64 0, .int .i64 0, .int .i64 0, .int .i64 0, .int .i64 0, .int .i64 0, .int .i64 0, .int .i64 0, .int .i64 0, .int .i64 0, .int .i64 0, .int .i64 0, .int .i64 0, .int .i64 0, .int .i64 0, .int .i64 0, .int .i64 0, .int .i64 0, .int .i64 0, .int .i64 0, .int .i64 0, .int .i64 0, .int .i64 0, .int .i64 0, .int .i64 0, .int .i64 0, .int .i64 0, .int .i64 0, .int .i64 0, .int .i64 0, .int .i64 0, .int .i64 0, .int .i64 0, .int .i64 0, .int .i64 0, .int .i64 0, .int .i64 0, .int .i64 0, .int .i64 0, .int .i64 0, .int .i64 0, .int .i64 0, .int .i64 0, .int .i64 0, .int .i64 0, .int .i64 0, .int .i64 0, .int .i64 0, .int .i64 0, .int .i64 0, .int .i64 0, .int .i64 0, .int .i64 0, .int .i64 0, .int .i64 0, .int .i64 0, .int .i64 0, .int .i64 0, .int .i64 0, .int .i64 0, .int .i64 0, .int .i64 0, .int .i64 0, .int .i64 0, .int .i64 0, .int .i64 0, .int .i64 0, .int .i64 0, .int .i64 0, .int .i64 0, .int .i64 0, .int .i64 0, .int .i64 0, .int .i64 0, .int .i64 0, .int .i64 0, .int .i64 0, .int .i64 0, .int .i64 0, .int .i64 0, .int .i64 0, .int .i64 0, .int .i64 0, .int .i64 0, .int .i64 0, .int .i64 0, .int .i64 0, .int .i64 0, .int .i64 0, .int .i64 0, .int .i64 0, .int .i64 0, .int .i64 0, .int .i64 0, .int .i64 0, .int .i64 0, .int .i64 0, .int .i64 0, .int .i64 0, .int .i64 0, .int .i64 0, .int .i64 0, .int .i64 0, .int .i64 0, .int .i64 0, .int .i64 0, .int .i64 0, .int .i64 0, .int .i64 0, .int .i64 0, .int .i64 0, .int .i64 0, .int .i64 0, .int .i64 0, .int .i64 0, .int .i64 0, .int .i64 0, .int .i64 0, .int .i64 0, .int .i64 0, .int .i64 0, .int .i64 0, .int .i64 0, .int .i64 0, .int .i64 0, .int .i64 0, .int .i64 0, .int .i64 0, .int .i64 0, .int .i64 0, .int .i64 0, .int .i64 0, .int .i64 0, .int .i64 0, .int .i64 0, .int .i64 0, .int .i64 0, .int .i64 0, .int .i64 0, .int .i64 0, .int .i64 0, .int .i64 0, .int .i64 0, .int .i64 0, .int .i64 0, .int .i64 0, .int .i64 0, .int .i64 0, .int .i64 0, .int .i64 0, .int .i64 0, .int .i64 0, .int .i64 0, .int .i64 0, .int .i64 0, .int .i64 0, .int .i64 0, .int .i64 0, .int .i64 0, .int .i64 0, .int .i64 0, .int .i64 0, .int .i64 0, .int .i64 0, .int .i64 0, .int .i64 0, .int .i64 0, .int .i64 0, .int .i64 0, .int .i64 0, .int .i64 0, .int .i64 0, .int .i64 0, .int .i64 0, .int .i64 0, .int .i64 0, .int .i64 0, .int .i64 0, .int .i64 0, .int .i64 0, .int .i64 0, .int .i64 0, .int .i64 0, .int .i64 0, .int .i64 0, .int .i64 0, .int .i64 0, .int .i64 0, .int .i64 0, .int .i64 0, .int .i64 0, .int .i64 0, .int .i64 0, .int .i64 0, .int .i64 0, .int .i64 0, .int .i64 0, .int .i64 0, .int .i64 0, .int .i64 0, .int .i64 0, .int .i64 0, .int .i64 0, .int .i64 0, .int .i64 0, .int .i64 0, .int .i64 0, .int .i64 0, .int .i64 0, .int .i64 0, .int .i64 0, .int .i64 0, .int .i64 0, .int .i64 0, .int .i64 0, .int .i64 0, .int .i64 0, .int .i64 0, .int .i64 0, .int .i64 0, .int .i64 0, .int .i64 0, .int .i64 0, .int .i64 0, .int .i64 0, .int .i64 0, .int .i64 0, .int .i64 0, .int .i64 0, .int .i64 0, .int .i64 0, .int .i64 0, .int .i64 0, .int .i64 0, .int .i64 0, .int .i64 0, .int .i64 0, .int .i64 0, .int .i64 0, .int .i64 0, .int .i64 0, .int .i64 0, .int .i64 0, .int .i64 0, .int .i64 0, .int .i64 0, .int .i64 0, .int .i64 0, .int .i64 0, .int .i64 0, .int .i64 0, .int .i64 0, .int .i64 0, .int .i64 0, .int .i64 0, .int .i64 0, .int .i64 0, .int .i64 0, .int .i64 0, .int .i64 0, .int .i64 0, .int .i64 0, .int .i64 0, .int .i64 0, .int .i64 0, .int .i64 0, .int .i64 0, .int .i64 0, .int .i64 0, .int .i64 0, .int .i64 0, .int .i64 0, .int .i64 0, .int .i64 0, .int .i64 0, .int .i64 0, .int .i64 0, .int .i64 0, .int .i64 0, .int .i64 0, .int .i64 0, .int .i64 0, .int .i64 0, .int .i64 0, .int .i64 0, .int .i64 0, .int .i64 0, .int .i64 0, .int .i64 0, .int .i64 0, .int .i64 0, .int .i64 0, .int .i64 0, .int .i64 0, .int .i64 0, .int .i64 0, .int .i64 0, .int .i64 0, .int .i64 0, .int .i64 0, .int .i64 0, .int .i64 0, .int .i64 0, .int .i64 0, .int .i64 0, .int .i64 0, .int .i64 0, .int .i64 0, .int .i64 0, .int .i64 0, .int .i64 0, .int .i64 0, .int .i64 0, .int .i64 0, .int .i64 0, .int .i64 0, .int .i64 0, .int .i64 0, .int .i64 0, .int .i64 0, .int .i64 0, .int .i64 0, .int .i64 0, .int .i64 0, .int .i64 0, .int .i64 0, .int .i64 0, .int .i64 0, .int .i64 0, .int .i64 0, .int .i64 0, .int .i64 0, .int .i64 0, .int .i64 0, .int .i64 0, .int .i64 0, .int .i64 0, .int .i64 0, .int .i64 0, .int .i64 0, .int .i64 0, .int .i64 0, .nils, .int .i64 0, .int .i64 0] [(0, 1, .int .i64 (n : Int))] = some (grpC (grp0 n) .nil) := by rfl
theorem one410 (n : Nat) : (grpC (grp0 n) .nil).all AV.one = true := by rfl
theorem Half.bs_ {σ s : AState} {own own' : Nat → Nat} {bg N : Nat} {A : GR} {bs bs' : Nat → Nat} {mem : List Int} {nr ns nt nc nk k : Nat} (h : Half σ own bg N A bs mem nr ns nt nc nk k s own') (h1 : ∀ i, i < nr ∨ i < k → bs' i = bs i) : Half σ own bg N A bs' mem nr ns nt nc nk k s own' := by
  have e : (List.range nr).map (fun i => AV.ptr (bs' i) 0) = (List.range nr).map (fun i => AV.ptr (bs i) 0) := List.map_congr_left fun i hi => by rw [h1 i (.inl (List.mem_range.1 hi))]
  exact ⟨h.tr, h.cb, h.ob, h.bn, by rw [e]; exact h.rr, h.rs, h.nn, h.na, h.rt, h.rc, h.rk, fun i hi => by rw [h1 i (.inr hi)]; exact h.cs i hi⟩
theorem newGroup_ac {σ : AState} {own : Nat → Nat} {N : Nat} (hN : N ≤ 5) {mem : List Int} (hv : validS mem = true) : callD Try.prog 9 [.int .i64 (N : Int), intsP mem] σ fun v s => v = .ptr σ.n 0 ∧ ∃ own' A bs Rs, NowG σ own σ.n own' (grpNew N mem) A bs Rs s := by
  have hf := valid_few hv
  refine cd_wp fn9 cf9 cl9 rfl ?_
  simp only [ac9]
  unfold ab9
  simp only [wpX_seq, wpX_skip, wpXK_normal]
  refine x_mid (fun ρ s => s = σ ∧ ρ.rd 0 = .int .i64 (N : Int) ∧ ρ.rd 1 = intsP mem) ?_ ?_
  · simp only [XU, seval]
  rintro ρ s ⟨hs, h0, h1⟩
  rw [hs]
  clear hs
  rw [wpX_seq]
  refine x_mid (fun ρ s => ρ.rd 0 = .int .i64 (N : Int) ∧ ρ.rd 1 = intsP mem ∧ ρ.rd 5 = .ptr σ.n 0 ∧ ∃ own', Half σ own σ.n N .nil (fun _ => 0) mem 0 0 0 0 0 0 s own') ?_ ?_
  · have hfill := fill410 N
    have hone := one410 N
    simp only [XU, seval, h0, h1, hfill, hone]
    refine ⟨fun k => if k = σ.n then 20 else loc own σ.n k, ⟨⟨Nat.le_succ _, fun k hk => ?_, fun k hk _ => ?_⟩, push_cells _ _, if_pos rfl, Nat.lt_succ_self _, RowP.nil _ _ _, ⟨[], RowP.nil _ _ _, fun a ha => (by cases ha)⟩, rfl, rfl, RowP.nil _ _ _, RowP.nil _ _ _, RowP.nil _ _ _, fun i hi => absurd hi (Nat.not_lt_zero _)⟩⟩
    · rw [if_neg (by omega)]; exact loc_lt hk
    · exact ((Keeps.refl σ).push _).2 k hk
  clear h0 h1
  rintro ρ s ⟨h0, h1, h5, own1, n0⟩
  rw [wpX_seq]
  refine x_mid (fun ρ s => ρ.rd 5 = .ptr σ.n 0 ∧ ∃ own' A bs, Half σ own σ.n N A bs mem N N N N N N s own') ?_ ?_
  · simp only [XU, seval, h0]
    refine x_for (fun i ρ s => ρ.rd 0 = .int .i64 (N : Int) ∧ ρ.rd 1 = intsP mem ∧ ρ.rd 5 = .ptr σ.n 0 ∧ ρ.rd 6 = .int .i64 (i : Int) ∧ ∃ own' A bs, Half σ own σ.n N A bs mem i i i i i i s own') N ?_ ?_
    · simp only [XU, seval, h0, h1, h5]
      exact ⟨_, _, _, n0⟩
    clear h0 h1 h5 n0
    rintro i ρ s hi ⟨h0, h1, h5, h6, own2, A2, bs2, n0⟩
    by_cases hlt : i < N
    rotate_left
    · have e : i = N := by omega
      have hge : ¬ (i : Int) < (N : Int) := by omega
      rw [e] at n0
      simp only [XU, seval, h0, h1, h5, h6, hge]
      exact ⟨_, _, _, n0⟩
    have gi : (i : Int) < (N : Int) := by omega
    have wi : IntKind.i64.wrap ((i : Int) + 1) = ((i + 1 : Nat) : Int) := wrapSucc (by omega)
    simp only [XU, seval, h0, h1, h5, h6, gi]
    refine (newC_ac (by omega) hv).exb (F := fun b => .tup [.ptr b 0, .int .i64 0]) fun b s2 hb => ?_
    have n1 := (n0.bs_ (bs' := fun j => if j = i then b else bs2 j) fun j hj => if_neg (by omega)).core_ (by omega) (if_pos rfl) hb.2.2.2 hb.1 hb.2.1 hb.2.2.1
    clear n0 hb
    generalize (fun j => if j = b then 30 + 10 * i else loc own2 s.n j) = own3 at *
    have hbs : (fun j => if j = i then b else bs2 j) i = b := if_pos rfl
    generalize (fun j => if j = i then b else bs2 j) = bs3 at *
    have ha := n1.app_rr (by omega) (by omega)
    rw [hbs] at ha
    have cb := n1.cb
    apply ex3 ha
    clear ha
    intro b9 cap9 s9 h9
    have happ := h9.1
    have cb9 := h9.2.1
    have n2 := h9.2.2.1
    clear h9
    have gle : decide (1 + 1 ≤ (grpC (grp0 N) A2).length) = true := by rw [grpC_len (grp0_ll N)]; decide
    have hq : evalEq .ptr (.ptr b 0) .nilp = some false := rfl
    simp only [XU, seval, h0, h1, h5, h6, cb, GS, fillA, hq]
    simp only [XU, seval, happ, h0, h1, h5, h6, cb9, GS, storeA, sets1, gle, hs1]
    generalize s9.put σ.n _ = s3 at n2 ⊢
    refine d_mid (fun ρ s => ρ.rd 0 = .int .i64 (N : Int) ∧ ρ.rd 1 = intsP mem ∧ ρ.rd 5 = .ptr σ.n 0 ∧ ρ.rd 6 = .int .i64 (i : Int) ∧ ∃ own' A, Half σ own σ.n N A bs3 mem (i + 1) (i + 1) i i i (i + 1) s own') ?_ ?_
    · refine d_dreg follow [] rfl ?_
      have n3 := n2.slots 12 []
      generalize addSlots s3.n 12 s3 [] = s4 at *
      clear cb
      have cb := n3.cb
      have hco := n3.cs i (by omega)
      rw [hbs] at hco
      have hsz : (coreNew i mem).size ≤ 110000 := by
        have : (coreNew i mem).size = 80 + mem.length + 0 + 0 := rfl
        omega
      simp only [XU, seval, DU, h0, h1, h5, h6, cb, GS]
      refine (save_ac hco hsz (by show 0 ≤ 1000; omega)).data fun L hL => ?_
      have ha := n3.app_rs (v := .psl L 0 L.length) rfl (by omega) (by omega)
      apply ex3 ha
      clear ha
      intro b8 cap8 s8 h8
      have happ8 := h8.1
      have cb8 := h8.2.1
      have n4 := h8.2.2.1
      have nb : ¬ σ.n = s4.n := by have := n3.bn; omega
      have gle2 : decide (2 + 1 ≤ (grpC (grp0 N) { A2 with r := .sl b9 0 (i + 1) cap9 1 }).length) = true := by rw [grpC_len (grp0_ll N)]; decide
      simp only [XU, seval, DU, h0, h1, h5, h6, cb, GS, fillA]
      simp only [XU, seval, DU, happ8, h0, cb8, GS, storeA, sets1, gle2, hs2]
      refine ⟨⟨?_, ?_⟩, ?_⟩
      · intro l hl c hc hf
        simp only [List.mem_cons, List.mem_nil_iff, List.not_mem_nil, or_false] at hl hc
        (repeat' (first | (rcases hl with rfl | hl) | (rcases hl with rfl))) <;> (repeat' (first | (rcases hc with rfl | hc) | (rcases hc with rfl))) <;> dsimp only at hf ⊢ <;> first
          | (exact absurd hf (by decide +kernel))
          | (simp only [XU, seval, h0, h5, h6, cb, cb8, GS, nb]; done)
      · intro sl hsl; simp at hsl
      simp only [XU, seval, h0, h1, h5, h6]
      exact ⟨_, _, n4⟩
    clear h0 h1 h5 h6 n1 cb happ cb9 n2 gle
    rintro ρ s ⟨h0, h1, h5, h6, own4, A3, n0⟩
    rw [wpX_seq]
    refine x_mid (fun ρ s => ρ.rd 0 = .int .i64 (N : Int) ∧ ρ.rd 1 = intsP mem ∧ ρ.rd 5 = .ptr σ.n 0 ∧ ρ.rd 6 = .int .i64 (i : Int) ∧ ∃ own' A, Half σ own σ.n N A bs3 mem (i + 1) (i + 1) (i + 1) i i (i + 1) s own') ?_ ?_
    · have cb := n0.cb
      have gN := g407 N A3
      have ha := n0.app_rt (by omega) (by omega)
      apply ex3 ha
      clear ha
      intro b9 cap9 s9 h9
      have happ := h9.1
      have cb9 := h9.2.1
      have n2 := h9.2.2.1
      have gle : decide (5 + 1 ≤ (grpC (grp0 N) A3).length) = true := by rw [grpC_len (grp0_ll N)]; decide
      simp only [XU, seval, h0, h1, h5, h6, cb, GS, gN, fillA]
      simp only [XU, seval, happ, h0, h1, h5, h6, cb9, GS, gN, storeA, sets1, gle, hs5]
      exact ⟨_, _, n2⟩
    clear h0 h1 h5 h6 n0
    rintro ρ s ⟨h0, h1, h5, h6, own4, A3, n0⟩
    rw [wpX_seq]
    refine x_mid (fun ρ s => ρ.rd 0 = .int .i64 (N : Int) ∧ ρ.rd 1 = intsP mem ∧ ρ.rd 5 = .ptr σ.n 0 ∧ ρ.rd 6 = .int .i64 (i : Int) ∧ ∃ own' A, Half σ own σ.n N A bs3 mem (i + 1) (i + 1) (i + 1) (i + 1) i (i + 1) s own') ?_ ?_
    · have cb := n0.cb
      have gN := g407 N A3
      have ha := n0.app_rc (by omega) (by omega)
      apply ex3 ha
      clear ha
      intro b9 cap9 s9 h9
      have happ := h9.1
      have cb9 := h9.2.1
      have n2 := h9.2.2.1
      have gle : decide (6 + 1 ≤ (grpC (grp0 N) A3).length) = true := by rw [grpC_len (grp0_ll N)]; decide
      simp only [XU, seval, h0, h1, h5, h6, cb, GS, gN, fillA]
      simp only [XU, seval, happ, h0, h1, h5, h6, cb9, GS, gN, storeA, sets1, gle, hs6]
      exact ⟨_, _, n2⟩
    clear h0 h1 h5 h6 n0
    rintro ρ s ⟨h0, h1, h5, h6, own4, A3, n0⟩
    have cb := n0.cb
    have gN := g407 N A3
    have ha := n0.app_rk (by omega) (by omega)
    apply ex3 ha
    clear ha
    intro b9 cap9 s9 h9
    have happ := h9.1
    have cb9 := h9.2.1
    have n2 := h9.2.2.1
    have gle : decide (407 + 1 ≤ (grpC (grp0 N) A3).length) = true := by rw [grpC_len (grp0_ll N)]; decide
    simp only [XU, seval, h0, h1, h5, h6, cb, GS, gN, fillA]
    simp only [XU, seval, happ, h0, h1, h5, h6, cb9, GS, gN, storeA, sets1, gle, hs407]
    simp only [XU, seval, h0, h1, h5, h6, wi]
    exact ⟨hlt, _, _, _, n2⟩
  clear h0 h1 h5 n0
  rintro ρ s ⟨h5, own2, A2, bs2, n0⟩
  simp only [XU, seval, h5]
  exact ⟨_, _, _, _, n0.done hN⟩
end Go.Proofs.Ythojhpjjkfjeiaa.Va
set_option maxRecDepth 100000
set_option maxHeartbeats 2000000
set_option linter.all false
namespace Go.Proofs.Ythojhpjjkfjeiaa.Va
open Go.Proofs
theorem Frz.reg {N : Nat} {Q : Env → AState → Prop} {ρ : Env} {σ : AState} {t b off n sz : Nat} {cap : Option Nat} {cs : List AV} (hb : σ.cells b = some cs) (ht : ρ.rd t = .sl b off n cap sz) (hl : off + n * sz ≤ cs.length)
    (hq : Q (ρ.put (some t) (.psl (seg cs off (n * sz)) 0 n)) (σ.kill b)) : Frz N Q ρ σ := by
  refine ⟨_, _, hq, fun K w ac hr he => ?_⟩
  obtain ⟨K', hle, hr', hv⟩ := freeze hr hb
  have hg : ρ.get t = some (.sl b off n cap sz) := by
    unfold Env.rd at ht
    cases h : ρ.get t with
    | none => rw [h] at ht; cases ht
    | some v => rw [h] at ht; exact congrArg some ht
  refine ⟨K', hle, hr', he.size, he.defers, fun t' v e => ?_⟩
  simp only [Env.put, Tr.get_set] at e
  split at e
  · rename_i h
    subst h
    injection e with e
    subst e
    exact hv off n cap sz _ hl ((he.tmps _ _ hg).mono hle)
  · exact (he.tmps t' v e).mono hle
theorem within19_ac {n k : Int} {σ : AState} (hk : 0 < k) (hk' : k < 4611686018427387904) : callD Try.prog 8 [.int .i64 n, .int .i64 k] σ fun v s' => s' = σ ∧ v = .int .i64 (wi n k) :=
  callD.of ((within_ac (P := Try.prog) fn8 cf8 cl8 (x := n) (σ := σ) hk hk').mono fun _ _ h => ⟨h.2, h.1⟩)
theorem known_d {σ : AState} : callD Try.prog 7 [] σ fun v s => s = σ ∧ v = .bool true := callD.of known19_ac
theorem validS_one (n : Nat) (h : 1 ≤ n) (h5 : n ≤ 5) : validS (oneTo n) = true := by
  rcases (by omega : n = 1 ∨ n = 2 ∨ n = 3 ∨ n = 4 ∨ n = 5) with rfl | rfl | rfl | rfl | rfl <;> decide +kernel
/- The data of a proposal. -/
def dataOf (i L : Nat) : Byts := (List.range L).map fun j : Nat => b8 ((i : Int) + (j : Int))
theorem dataOf_len (i L : Nat) : (dataOf i L).length = L := by simp [dataOf]
def Grp.props (g : Grp) (D : Nat → Byts) : Nat → Grp
  | 0 => g
  | i + 1 => (g.props D i).propG 0 (D i)
def Grp.propB (g : Grp) (d : Byts) : Bool := decide (0 < g.n) && (g.core 0).okB 14 && decide ((g.core 0).l.length < 56) && decide ((g.core 0).role = 2) && (g.setc 0 ((g.core 0).lay ⟨0, 1, d, []⟩)).toldB 0
def Grp.propP (g : Grp) (d : Byts) : List (Ent × Ent) := (g.setc 0 ((g.core 0).lay ⟨0, 1, d, []⟩)).toldP 0
def ordG (n : Nat) : Grp := (grpNew n (oneTo n)).rounds 100
structure OrdOk (n : Nat) (D : Nat → Byts) (m : Nat) : Prop where
  r1 : (grpNew n (oneTo n)).roundsB 100 = true
  p1 : ∀ p ∈ (grpNew n (oneTo n)).roundsP 100, p.1 = p.2
  ld : ∀ i, i < n → (((ordG n).core i).role = 2 ↔ i = 0)
  la : ((ordG n).core 0).last = 1
  pb : ∀ i, i < m → ((ordG n).props D i).propB (D i) = true
  pp : ∀ i, i < m → ∀ p ∈ ((ordG n).props D i).propP (D i), p.1 = p.2
  pl : ∀ i, i < m → (((ordG n).props D i).core 0).last = 1 + i
  r2 : ((ordG n).props D m).roundsB 2 = true
  p2 : ∀ p ∈ ((ordG n).props D m).roundsP 2, p.1 = p.2
  ok : ((((ordG n).props D m).rounds 2).core 0).okB 0 = true
  sd : ((((ordG n).props D m).rounds 2).core 0).snap.data = []
  ll : m + 1 ≤ ((((ordG n).props D m).rounds 2).core 0).l.length
  en : ∀ i, i < m → ∃ t, ((((ordG n).props D m).rounds 2).core 0).ent (1 + i) = ⟨t, 1, D i, []⟩
  r3 : (((ordG n).props D m).rounds 2).roundsB 60 = true
  p3 : ∀ p ∈ (((ordG n).props D m).rounds 2).roundsP 60, p.1 = p.2
  al : 1 + m ≤ ((((ordG n).props D m).rounds 2).rounds 60).all.length
  ae : ∀ i, i < m → ∃ k t, ((((ordG n).props D m).rounds 2).rounds 60).all[1 + i]? = some (k, ⟨t, 1, D i, []⟩)
theorem coreNew_sm (i : Nat) {mem : List Int} : (coreNew i mem).Sm := ⟨fun e h => (by cases h), fun e h => (by cases h)⟩
theorem grpNew_sm (n : Nat) (mem : List Int) : (grpNew n mem).Sm := by
  refine ⟨fun i => ?_, fun m h => (by cases h)⟩
  unfold Grp.core grpNew
  simp only [List.getD_eq_getElem?_getD]
  rcases Nat.lt_or_ge i n with h | h
  · simp [h]; exact coreNew_sm i
  · rw [List.getElem?_eq_none (by simp; omega)]; exact core0_sm
theorem Grp.Sm.propG {g : Grp} (h : g.Sm) {k : Nat} {d : Byts} (hd : d.length ≤ 700) : (g.propG k d).Sm := (h.setc ((h.c k).lay (e := ⟨0, 1, d, []⟩) ⟨hd, mems_nil⟩)).told k
theorem Grp.Sm.props {g : Grp} (h : g.Sm) {D : Nat → Byts} (hD : ∀ i, (D i).length ≤ 700) : ∀ i, (g.props D i).Sm := by
  intro i
  induction i with
  | zero => exact h
  | succ i ih => exact ih.propG (hD i)
section
variable {σ : AState} {own : Nat → Nat} {bg : Nat} {g : Grp} {A : GR} {bs : Nat → Nat} {Rs : Nat → Rws}
theorem prop_ac (h : GrpAt σ own bg g A bs Rs) (hs : g.Sm) {d : Byts} (hd : d.length ≤ 700) (hb : g.propB d = true) (hp : ∀ p ∈ g.propP d, p.1 = p.2) :
    callD Try.prog 14 [.ptr bg 0, .int .i64 (0 : Int), bytesP d] σ fun v s => v = .tup [.int .i64 (((g.core 0).last + 1 : Nat) : Int), .int .i64 0, .bool true] ∧ ∃ own' A' Rs', NowG σ own bg own' (g.propG 0 d) A' bs Rs' s := by
  unfold Grp.propB at hb
  simp only [Bool.and_eq_true, decide_eq_true_eq] at hb
  obtain ⟨⟨⟨⟨h1, h2⟩, h3⟩, h4⟩, h5⟩ := hb
  have hT := Grp.toldB_ok (hs.setc (i := 0) ((hs.c 0).lay (e := ⟨0, 1, d, []⟩) ⟨hd, mems_nil⟩)) h5 hp
  have := proposeG_ac (k := 0) (n := 0) (n' := 0) h h1 (Core.okB_ok (hs.c 0) h2).1 h3 h4 hd hT
  exact this
end
end Go.Proofs.Ythojhpjjkfjeiaa.Va
