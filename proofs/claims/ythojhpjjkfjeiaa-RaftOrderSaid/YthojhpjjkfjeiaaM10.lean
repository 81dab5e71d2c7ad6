/- Texts Rq40 to Rq42 of this claim, in one. Conditions: none. -/
import Derived.Test.YthojhpjjkfjeiaaM9
set_option maxRecDepth 100000
set_option maxHeartbeats 400000
set_option linter.all false
namespace Go.Proofs.Ythojhpjjkfjeiaa.Va
open Go.Proofs
def strsC (D : Nat → Byts) (i : Nat) : List AV := (List.range i).map fun j => .str (D j)
theorem strsC_succ (D : Nat → Byts) (i : Nat) : strsC D (i + 1) = strsC D i ++ [.str (D i)] := by simp [strsC, List.range_succ]
theorem strsC_get {D : Nat → Byts} {i j : Nat} (h : j < i) : (strsC D i)[j]? = some (.str (D j)) := by simp [strsC, h]
theorem dataOf_get {i L j : Nat} (h : j < L) : (dataOf i L)[j]'(by rw [dataOf_len]; exact h) = b8 ((i : Int) + (j : Int)) := by simp [dataOf]
theorem NowG.kill {σ s : AState} {own own' : Nat → Nat} {bg : Nat} {g : Grp} {A : GR} {bs : Nat → Nat} {Rs : Nat → Rws} (h : NowG σ own bg own' g A bs Rs s) {b : Nat} (hb : σ.n ≤ b) (h0 : own' b = 0) : NowG σ own bg own' g A bs Rs (s.kill b) :=
  ⟨⟨h.tr.n, h.tr.ow, fun k hk hm => (by
      have hne : k ≠ b := by omega
      have : (s.kill b).h.get k = s.h.get k := by simp only [AState.kill, Tr.get_set, hne, if_false]
      exact this.trans (h.tr.keep k hk hm))⟩, h.co.keep (Nat.le_refl _) fun k hk hm => by
    have hne : k ≠ b := fun e => by subst e; unfold MineG at hm; omega
    rw [kill_get, if_neg hne]⟩
theorem rowOf_one (a : AV) (n : Nat) : rowOf [a] n = List.replicate n a := by
  induction n with
  | zero => rfl
  | succ n ih => rw [List.replicate_succ, ← ih]; rfl
theorem mk_eq {ρ : Env} {t L : Nat} (h : ρ.rd t = .int .i64 (L : Int)) (hL : L ≤ 1000) : allocD (.mkslice 1 1 [.int .u8 0] (.tmp t) (.tmp t)) ρ = some (List.replicate L (.int .u8 0), fun b => .sl b 0 L (some L) 1) := by
  unfold allocD
  simp only [Opd.ev]
  rw [h]
  simp only
  rw [if_pos ⟨by omega, by omega, by omega, by omega, rfl⟩, rowOf_one]
  rfl
/- A row of data that is being filled. -/
def fillC (i L j : Nat) : List AV := (List.range L).map fun k => .int .u8 (if k < j then ((b8 ((i : Int) + (k : Int))).toNat : Int) else 0)
theorem fillC_zero (i L : Nat) : fillC i L 0 = List.replicate L (.int .u8 0) := by
  unfold fillC
  rw [List.map_congr_left (g := fun _ => AV.int .u8 0) fun k _ => by rw [if_neg (Nat.not_lt_zero _)], List.map_const', List.length_range]
theorem fillC_len (i L j : Nat) : (fillC i L j).length = L := by simp [fillC]
theorem fillC_full (i L : Nat) : fillC i L L = ofU8s (dataOf i L) := by
  unfold fillC ofU8s dataOf
  rw [List.map_map]
  exact List.map_congr_left fun k hk => by rw [if_pos (List.mem_range.1 hk)]; rfl
theorem fillC_set {i L j : Nat} (h : j < L) : setx (fillC i L j) j (.int .u8 ((b8 ((i : Int) + (j : Int))).toNat : Int)) = fillC i L (j + 1) := by
  rw [setx_set (by rw [fillC_len]; exact h)]
  unfold fillC
  refine List.ext_getElem (by simp) fun k h1 h2 => ?_
  rw [List.getElem_set]
  split
  · rename_i e
    subst e
    rw [List.getElem_map, List.getElem_range, if_pos (by omega)]
  · rename_i e
    rw [List.getElem_map, List.getElem_map, List.getElem_range]
    by_cases h3 : k < j
    · rw [if_pos h3, if_pos (by omega)]
    · rw [if_neg h3, if_neg (by omega)]
theorem NowG.but2 {σ s s' : AState} {own own' own'' : Nat → Nat} {bg : Nat} {g : Grp} {A : GR} {bs : Nat → Nat} {Rs : Nat → Rws} (h : NowG σ own bg own' g A bs Rs s) (ho : ∀ k, k < s.n → own'' k = own' k) (hn : s.n ≤ s'.n) (hk : ∀ k, k < s.n → (k < σ.n ∨ 10 ≤ own' k) → s'.h.get k = s.h.get k) : NowG σ own bg own'' g A bs Rs s' :=
  ⟨⟨Nat.le_trans h.tr.n hn, fun k hk' => (ho k (Nat.lt_of_lt_of_le hk' h.tr.n)).trans (h.tr.ow k hk'), fun k hk' hm => (hk k (Nat.lt_of_lt_of_le hk' h.tr.n) (.inl hk')).trans (h.tr.keep k hk' hm)⟩,
   (h.co.own_ ho).keep hn fun k hk' hm => get_cells (hk k hk' (.inr (by unfold MineG at hm; rw [ho k hk'] at hm; omega)))⟩
theorem NowG.lapp {σ s : AState} {own own' : Nat → Nat} {bg : Nat} {g : Grp} {A : GR} {bs : Nat → Nat} {Rs : Nat → Rws} (h : NowG σ own bg own' g A bs Rs s) {x w : AV} {c : List AV} {n : Nat} (hx : RowP (fun k => σ.n ≤ k ∧ own' k = 1) s x c n 1) (hw : w.one = true) (hn : n ≤ 1000) :
    ∃ b9 cap9 s9, appendA (s.push (.cells [w])) 1 16 x (.sl s.n 0 1 (some 1) 1) = some (.sl b9 0 (n + 1) cap9 1, s9) ∧ ∃ own9, RowP (fun k => σ.n ≤ k ∧ own9 k = 1) s9 (.sl b9 0 (n + 1) cap9 1) (c ++ [w]) (n + 1) 1 ∧ NowG σ own bg own9 g A bs Rs s9 := by
  have hx' : RowP (fun k => σ.n ≤ k ∧ tag own' s.n 1 k = 1) s x c n 1 := hx.mono fun k hk hn => ⟨hk.1, by rw [tag_lt hn]; exact hk.2⟩
  have hσ := h.tr.n
  obtain ⟨b9, cap9, s9, happ, hrow, hn9, hk9⟩ := app_lit (bytes := 16) hx' (fun k hk => ⟨by omega, tag_ge hk⟩) (new := [w]) (k := 1) (by simp [hw]) rfl (by omega) (by omega)
  refine ⟨b9, cap9, s9, happ, loc (tag own' s.n 1) s9.n, hrow.mono fun k hk hn => ⟨hk.1, by rw [loc_lt hn]; exact hk.2⟩, h.but2 (fun k hk => by rw [loc_lt (by omega), tag_lt hk]) (Nat.le_of_lt hn9) fun k hk hk' => hk9 k hk fun e => ?_⟩
  have := e.2
  rw [tag_lt hk] at this
  omega
theorem raftOrder_ac {n0 : Int} {l : List Int} (H : ∀ (N m : Nat) (D : Nat → Byts), 1 ≤ N → N ≤ 5 → m ≤ 15 → OrdOk N D m) : callD Try.prog 3 [.int .i64 n0, .psl (ofInts l) 0 l.length] st0 fun v _ => v = .bool true := by
  generalize st0 = σ
  obtain ⟨hw0, hw1⟩ := wi_range n0 (n := 5) (by decide)
  obtain ⟨N, hN⟩ : ∃ N : Nat, (N : Int) = 1 + wi n0 5 := ⟨(1 + wi n0 5).toNat, by omega⟩
  have hN1 : 1 ≤ N := by omega
  have hN5 : N ≤ 5 := by omega
  have H := fun m D => H N m D hN1 hN5
  have wN : IntKind.i64.wrap (1 + wi n0 5) = (N : Int) := by rw [← hN]; exact wrapN (by omega)
  have hsm0 := grpNew_sm N (oneTo N)
  have hG : (grpNew N (oneTo N)).rounds 100 = ordG N := rfl
  have O0 := H 0 (fun _ => []) (by omega)
  refine cd_wp fn3 cf3 cl3 rfl ?_
  simp only [ac3]
  unfold ab3
  simp only [wpX_seq, wpX_skip, wpXK_normal]
  refine x_mid (fun ρ s => s = σ ∧ ρ.rd 0 = .int .i64 n0 ∧ ρ.rd 1 = .psl (ofInts l) 0 l.length) ?_ ?_
  · simp only [XU, seval]
  rintro ρ s ⟨hs, h0, h1⟩
  rw [hs]
  clear hs
  rw [wpX_seq]
  refine x_mid (fun ρ s => s = σ ∧ ρ.rd 0 = .int .i64 n0 ∧ ρ.rd 1 = .psl (ofInts l) 0 l.length) ?_ ?_
  · simp only [XU, seval, h0, h1]
    refine known_d.use ?_
    simp only [XU, seval, h0, h1]
  clear h0 h1
  rintro ρ s ⟨hs, h0, h1⟩
  rw [hs]
  clear hs
  rw [wpX_seq]
  refine x_mid (fun ρ s => s = σ ∧ ρ.rd 0 = .int .i64 (N : Int) ∧ ρ.rd 1 = .psl (ofInts l) 0 l.length) ?_ ?_
  · simp only [XU, seval, h0, h1]
    refine (within19_ac (by decide) (by decide)).use ?_
    simp only [XU, seval, h0, h1, wN]
  clear h0 h1
  rintro ρ s ⟨hs, h0, h1⟩
  rw [hs]
  clear hs
  rw [wpX_seq]
  refine x_mid (fun ρ s => ρ.rd 1 = .psl (ofInts l) 0 l.length ∧ ρ.rd 5 = .ptr σ.n 0 ∧ ∃ own' A bs Rs, NowG σ (fun _ => 0) σ.n own' (grpNew N (oneTo N)) A bs Rs s) ?_ ?_
  · simp only [XU, seval, h0, h1]
    refine (first_ac (by omega)).use ?_
    simp only [XU, seval, h0, h1]
    refine (newGroup_ac hN5 (validS_one N hN1 hN5) (own := fun _ => 0)).mono fun v s2 hv => ?_
    have hv1 := hv.1
    have hv2 := hv.2
    clear hv
    rw [hv1]
    simp only [XU, seval, h0, h1]
    obtain ⟨own1, A1, bs, Rs, n1⟩ := hv2
    exact ⟨_, _, _, _, n1⟩
  clear h0 h1
  rintro ρ s ⟨h1, h5, own1, A1, bs, Rs1, n0'⟩
  rw [wpX_seq]
  refine x_mid (fun ρ s => ρ.rd 1 = .psl (ofInts l) 0 l.length ∧ ρ.rd 5 = .ptr σ.n 0 ∧ ∃ own' A Rs, NowG σ (fun _ => 0) σ.n own' (ordG N) A bs Rs s) ?_ ?_
  · have hq : evalEq .ptr (.ptr σ.n 0) .nilp = some false := rfl
    simp only [XU, seval, h1, h5, hq]
    refine (rounds_ac n0'.co hsm0 (N := 100) (by decide) O0.r1 O0.p1).grp fun s2 own2 A2 Rs2 n2 => ?_
    simp only [XU, seval, h1, h5]
    exact ⟨_, _, _, n0'.call n2⟩
  clear h1 h5 n0'
  rintro ρ s ⟨h1, h5, own1, A1, Rs1, n0'⟩
  have hGn : (ordG N).n = N := by
    have : ∀ k (g : Grp), (g.rounds k).n = g.n := fun k g => by
      induction k with
      | zero => rfl
      | succ k ih => exact (runG_n 2000 _).trans ((ticksG_n _ _).trans ih)
    exact this 100 _
  rw [wpX_seq]
  refine x_mid (fun ρ s' => s' = s ∧ ρ.rd 1 = .psl (ofInts l) 0 l.length ∧ ρ.rd 5 = .ptr σ.n 0 ∧ ρ.rd 6 = .int .i64 0) ?_ ?_
  · simp only [XU, seval, h1, h5]
    refine (leader_ac n0'.co (k := 0) (by omega) fun i hi => O0.ld i (by omega)).use ?_
    simp only [XU, seval, h1, h5]
  clear h1 h5
  rintro ρ s' ⟨hs, h1, h5, h6⟩
  rw [hs]
  clear hs
  rw [wpX_seq]
  refine x_mid (fun ρ s' => s' = s ∧ ρ.rd 1 = .psl (ofInts l) 0 l.length ∧ ρ.rd 5 = .ptr σ.n 0 ∧ ρ.rd 6 = .int .i64 0) ?_ ?_
  · simp only [XU, seval, h1, h5, h6]
  clear h1 h5 h6
  rintro ρ s' ⟨hs, h1, h5, h6⟩
  rw [hs]
  clear hs
  have hx0 : (0 : Int) ≤ 0 := by omega
  have hx1 : (0 : Int) < ((ordG N).n : Int) := by omega
  rw [wpX_seq]
  refine x_mid (fun ρ s' => s' = s ∧ ρ.rd 1 = .psl (ofInts l) 0 l.length ∧ ρ.rd 5 = .ptr σ.n 0 ∧ ρ.rd 6 = .int .i64 0 ∧ ρ.rd 7 = .int .i64 1) ?_ ?_
  · have cb := n0'.co.cb
    obtain ⟨bp, cp, csp, eA, crp, cip, obp, lbp⟩ := n0'.co.ptr (i := 0) (by omega)
    have kL : callD Try.prog 13 [.ptr (bs 0) 0] s fun v s' => s' = s ∧ v = .int .i64 1 := by
      have hla := O0.la
      have := last_o (n0'.co.cs 0 (by omega)) (by unfold Core.fit; omega)
      rw [hla] at this
      exact this
    simp only [XU, seval, h1, h5, h6, cb, GS, eA, crp, cip, hx0, hx1]
    refine kL.use ?_
    simp only [XU, seval, h1, h5, h6]
  clear h1 h5 h6
  rintro ρ s' ⟨hs, h1, h5, h6, h7⟩
  rw [hs]
  clear hs
  rw [wpX_seq]
  refine x_mid (fun ρ s' => s' = s ∧ ρ.rd 1 = .psl (ofInts l) 0 l.length ∧ ρ.rd 5 = .ptr σ.n 0 ∧ ρ.rd 6 = .int .i64 0 ∧ ρ.rd 7 = .int .i64 1 ∧ ρ.rd 8 = .nils) ?_ ?_
  · simp only [XU, seval, h1, h5, h6, h7]
  clear h1 h5 h6 h7
  rintro ρ s' ⟨hs, h1, h5, h6, h7, h8⟩
  rw [hs]
  clear hs O0
  obtain ⟨m, hm⟩ : ∃ m, m = min l.length 15 := ⟨_, rfl⟩
  obtain ⟨D, hD⟩ : ∃ D : Nat → Byts, D = fun i => dataOf i (wi (l.getD i 0) 50).toNat := ⟨_, rfl⟩
  have hDl : ∀ i, (D i).length ≤ 700 := fun i => by
    rw [hD, dataOf_len]
    have := wi_range (l.getD i 0) (n := 50) (by decide)
    omega
  have O := H m D (by omega)
  have hsmG : (ordG N).Sm := hsm0.rounds 100
  have hPn : ∀ i, ((ordG N).props D i).n = N := by
    intro i
    induction i with
    | zero => exact hGn
    | succ i ih => exact ih
  rw [wpX_seq]
  refine x_mid (fun ρ s => ρ.rd 1 = .psl (ofInts l) 0 l.length ∧ ρ.rd 5 = .ptr σ.n 0 ∧ ρ.rd 6 = .int .i64 0 ∧ ρ.rd 7 = .int .i64 1 ∧ ∃ x own' A Rs, ρ.rd 8 = x ∧ NowG σ (fun _ => 0) σ.n own' ((ordG N).props D m) A bs Rs s ∧ RowP (fun k => σ.n ≤ k ∧ own' k = 1) s x (strsC D m) m 1) ?_ ?_
  · simp only [XU, seval, h1, h5, h6, h7, h8]
    refine x_for (fun i ρ s => ρ.rd 1 = .psl (ofInts l) 0 l.length ∧ ρ.rd 5 = .ptr σ.n 0 ∧ ρ.rd 6 = .int .i64 0 ∧ ρ.rd 7 = .int .i64 1 ∧ ρ.rd 9 = .int .i64 (i : Int) ∧ ∃ x own' A Rs, ρ.rd 8 = x ∧ NowG σ (fun _ => 0) σ.n own' ((ordG N).props D i) A bs Rs s ∧ RowP (fun k => σ.n ≤ k ∧ own' k = 1) s x (strsC D i) i 1) m ?_ ?_
    · simp only [XU, seval, h1, h5, h6, h7, h8]
      exact ⟨_, _, _, _, rfl, n0', RowP.nil _ _ _⟩
    clear h1 h5 h6 h7 h8 n0'
    rintro i ρ s hi ⟨h1, h5, h6, h7, h9, x, own2, A2, Rs2, h8, n0, hrow⟩
    by_cases hlt : i < m
    rotate_left
    · have e : i = m := by omega
      rw [e] at n0 hrow
      by_cases g15 : l.length ≤ 15
      · have hge : ¬ (i : Int) < (l.length : Int) := by omega
        simp only [XU, seval, h1, h5, h6, h7, h8, h9, hge]
        exact ⟨_, _, _, _, rfl, n0, hrow⟩
      · have hge : (i : Int) < (l.length : Int) := by omega
        have hge2 : ¬ (i : Int) < 15 := by omega
        simp only [XU, seval, h1, h5, h6, h7, h8, h9, hge, hge2]
        exact ⟨_, _, _, _, rfl, n0, hrow⟩
    have gi1 : (i : Int) < (l.length : Int) := by omega
    have gi2 : (i : Int) < 15 := by omega
    have hxi : (0 : Int) ≤ (i : Int) ∧ (i : Int) < (l.length : Int) := by omega
    have hli : i < l.length := by omega
    have hgi := ints_get hli
    have hgd : l.getD i 0 = l[i] := by simp [hli]
    obtain ⟨w0, w1⟩ := wi_range l[i] (n := 50) (by decide)
    obtain ⟨L, hL⟩ : ∃ L : Nat, (L : Int) = wi l[i] 50 := ⟨(wi l[i] 50).toNat, by omega⟩
    have hDi : D i = dataOf i L := by
      have e : (wi (l.getD i 0) 50).toNat = L := by rw [hgd, ← hL]; exact Int.toNat_natCast L
      rw [hD]
      exact congrArg (dataOf i) e
    have hW : ∀ s, callD Try.prog 8 [.int .i64 l[i], .int .i64 50] s fun v s' => s' = s ∧ v = .int .i64 (L : Int) := fun s => by
      have := within19_ac (n := l[i]) (k := 50) (σ := s) (by decide) (by decide)
      rw [← hL] at this
      exact this
    generalize l[i] = li at *
    simp only [XU, seval, h1, h5, h6, h7, h8, h9, gi1, gi2, hxi, hgi]
    refine (hW _).use ?_
    simp only [XU, seval, h1, h5, h6, h7, h8, h9]
    rw [mk_eq (L := L) (by rw [rd_put, if_pos rfl]) (by omega)]
    have n1 := n0.loc_.push (List.replicate L (.int .u8 0))
    have hrow1 : RowP (fun k => σ.n ≤ k ∧ loc own2 s.n k = 1) (s.push (.cells (List.replicate L (.int .u8 0)))) x (strsC D i) i 1 := (hrow.mono fun k hk hn => ⟨hk.1, (loc_lt hn).trans hk.2⟩).push _
    have hσ := n0.tr.n
    have hb0 : loc own2 s.n s.n = 0 := loc_ge (Nat.le_refl _)
    have hcb : (s.push (.cells (List.replicate L (.int .u8 0)))).cells s.n = some (fillC i L 0) := by rw [fillC_zero]; exact push_cells _ _
    have hbn : s.n < (s.push (.cells (List.replicate L (.int .u8 0)))).n := Nat.lt_succ_self _
    simp only [XU, seval, h1, h5, h6, h7, h8, h9]
    generalize s.push (.cells (List.replicate L (.int .u8 0))) = s1 at *
    generalize loc own2 s.n = own3 at *
    generalize s.n = b at *
    clear n0 hrow
    refine DSim.frz ?_
    refine x_for (fun j ρ s => ρ.rd 1 = .psl (ofInts l) 0 l.length ∧ ρ.rd 5 = .ptr σ.n 0 ∧ ρ.rd 6 = .int .i64 0 ∧ ρ.rd 7 = .int .i64 1 ∧ ρ.rd 9 = .int .i64 (i : Int) ∧ ρ.rd 8 = x ∧ ρ.rd 10 = .sl b 0 L (some L) 1 ∧ ρ.rd 11 = .int .i64 (j : Int) ∧ NowG σ (fun _ => 0) σ.n own3 ((ordG N).props D i) A2 bs Rs2 s ∧ RowP (fun k => σ.n ≤ k ∧ own3 k = 1) s x (strsC D i) i 1 ∧ s.cells b = some (fillC i L j) ∧ b < s.n) L ?_ ?_
    · simp only [XU, seval, h1, h5, h6, h7, h8, h9]
      exact ⟨n1, hrow1, hcb, hbn⟩
    clear h1 h5 h6 h7 h8 h9 n1 hrow1 hcb hbn
    rintro j ρ s hj ⟨h1, h5, h6, h7, h9, h8, h10, h11, n1, hrow, hcb, hbn⟩
    by_cases hlj : j < L
    · have gj : (j : Int) < (L : Int) := by omega
      have hxj := lt_idx hlj
      have wij : IntKind.i64.wrap ((i : Int) + (j : Int)) = (i : Int) + (j : Int) := wrapI (by omega) (by omega)
      have wj : IntKind.i64.wrap ((j : Int) + 1) = ((j + 1 : Nat) : Int) := wrapSucc (by omega)
      have hst := fillC_set (i := i) hlj
      have hle : decide (j + 1 ≤ (fillC i L j).length) = true := by rw [fillC_len, decide_eq_true_eq]; omega
      simp only [XU, seval, h1, h5, h6, h7, h8, h9, h10, h11, gj, hxj, wij, b8_eq, hcb, storeA, sets1, hle, hst, wj]
      exact ⟨hlj, n1.local_ (by omega) hb0 _, hrow.put (fun e => by omega) _, hbn⟩
    have e : j = L := by omega
    have hge : ¬ (j : Int) < (L : Int) := by omega
    rw [e, fillC_full] at hcb
    simp only [XU, seval, h1, h5, h6, h7, h8, h9, h10, h11, hge]
    refine Frz.reg (t := 10) (b := b) (off := 0) (n := L) (sz := 1) (cap := some L) hcb (by simp only [XU, seval, h10]) (by rw [ofU8s_length, dataOf_len]; omega) ?_
    have e10 : AV.psl (seg (ofU8s (dataOf i L)) 0 (L * 1)) 0 L = bytesP (D i) := by
      rw [hDi, Nat.mul_one, seg_self _ _ (by rw [ofU8s_length, dataOf_len])]
      unfold bytesP
      rw [dataOf_len]
    rw [e10]
    have n2 := n1.kill (b := b) (by omega) hb0
    have hrow2 : RowP (fun k => σ.n ≤ k ∧ own3 k = 1) (s.kill b) x (strsC D i) i 1 := hrow.keep (Nat.le_refl _) fun k hk hp => by
      have : ¬ k = b := fun e => by subst e; omega
      rw [kill_get, if_neg this]
    generalize s.kill b = s2 at *
    clear n1 hrow hcb hbn hDi e10
    have hP := prop_ac n2.co (hsmG.props hDl i) (hDl i) (O.pb i hlt) (O.pp i hlt)
    rw [O.pl i hlt] at hP
    have hPe : ((ordG N).props D i).propG 0 (D i) = (ordG N).props D (i + 1) := rfl
    rw [hPe] at hP
    simp only [XU, seval, h1, h5, h6, h7, h8, h9, h10]
    refine hP.mono fun v s3 hv => ?_
    have hv1 := hv.1
    have hv2 := hv.2
    clear hv hP
    rw [hv1]
    apply ex3 hv2
    intro own4 A4 Rs4 n4
    have n5 := n2.call n4
    have hrow3 : RowP (fun k => σ.n ≤ k ∧ own4 k = 1) s3 x (strsC D i) i 1 := (hrow2.mono fun k hk hn => ⟨hk.1, (n4.tr.ow k hn).trans hk.2⟩).keep n4.tr.n fun k hk hp => n4.tr.cells hk (by have := n4.tr.ow k hk; omega)
    have w1 : IntKind.i64.wrap (1 + (i : Int)) = ((1 + i : Nat) : Int) := by rw [wrapI (by omega) (by omega)]; omega
    have w2 : IntKind.i64.wrap (((1 + i : Nat) : Int) + 1) = ((1 + i + 1 : Nat) : Int) := wrapSucc (by omega)
    have wi : IntKind.i64.wrap ((i : Int) + 1) = ((i + 1 : Nat) : Int) := wrapSucc (by omega)
    have hf : firstA s3 1 (D i).length (.psl (ofU8s (D i)) 0 (D i).length) = some (ofU8s (D i)) := firstA_psl' (by rw [ofU8s_length, Nat.mul_one])
    have hu := u8s_ofU8s (D i)
    have hap := n5.lapp hrow3 (w := .str (D i)) rfl (by omega)
    apply ex3 hap
    intro b9 cap9 s9 h9
    have happ := h9.1
    have h10' := h9.2
    clear hap h9
    simp only [XU, seval, h1, h5, h6, h7, h8, h9, h10, bytesP, w1, w2, hf, hu, fillA]
    simp only [XU, seval, happ, h1, h5, h6, h7, h8, h9, h10, wi]
    obtain ⟨own9, h11⟩ := h10'
    exact ⟨hlt, _, own9, _, _, rfl, h11.2, by rw [strsC_succ]; exact h11.1⟩
  clear h1 h5 h6 h7 h8 n0'
  rintro ρ s ⟨h1, h5, h6, h7, x, own2, A2, Rs2, h8, n0, hrow⟩
  have hsmP : ((ordG N).props D m).Sm := hsmG.props hDl m
  rw [wpX_seq]
  refine x_mid (fun ρ s => ρ.rd 5 = .ptr σ.n 0 ∧ ρ.rd 6 = .int .i64 0 ∧ ρ.rd 7 = .int .i64 1 ∧ ρ.rd 8 = x ∧ ∃ own' A Rs, NowG σ (fun _ => 0) σ.n own' (((ordG N).props D m).rounds 2) A bs Rs s ∧ RowP (fun k => σ.n ≤ k ∧ own' k = 1) s x (strsC D m) m 1) ?_ ?_
  · simp only [XU, seval, h1, h5, h6, h7, h8]
    refine (rounds_ac n0.co hsmP (N := 2) (by decide) O.r2 O.p2).grp fun s2 own3 A3 Rs3 n3 => ?_
    have hrow3 : RowP (fun k => σ.n ≤ k ∧ own3 k = 1) s2 x (strsC D m) m 1 := (hrow.mono fun k hk hn => ⟨hk.1, (n3.tr.ow k hn).trans hk.2⟩).keep n3.tr.n fun k hk hp => n3.tr.cells hk (by have := n3.tr.ow k hk; omega)
    simp only [XU, seval, h1, h5, h6, h7, h8]
    exact ⟨_, _, _, n0.call n3, hrow3⟩
  clear h1 h5 h6 h7 h8 n0 hrow
  rintro ρ s ⟨h5, h6, h7, h8, own2, A2, Rs2, n0, hrow⟩
  have hsmQ := hsmP.rounds 2
  have hQn : (((ordG N).props D m).rounds 2).n = N := (runG_n 2000 _).trans ((ticksG_n _ _).trans ((runG_n 2000 _).trans ((ticksG_n _ _).trans (hPn m))))
  rw [wpX_seq]
  refine x_mid (fun ρ s => ρ.rd 5 = .ptr σ.n 0 ∧ ρ.rd 6 = .int .i64 0 ∧ ρ.rd 7 = .int .i64 1 ∧ ρ.rd 8 = x ∧ ∃ own' A Rs, NowG σ (fun _ => 0) σ.n own' (((ordG N).props D m).rounds 2) A bs Rs s ∧ RowP (fun k => σ.n ≤ k ∧ own' k = 1) s x (strsC D m) m 1) ?_ ?_
  · have hOk := (Core.okB_ok (hsmQ.c 0) O.ok).1
    have hs0 := hOk.s0
    have hll := O.ll
    have hsd := O.sd
    have hen := O.en
    simp only [XU, seval, h5, h6, h7, h8]
    generalize (((ordG N).props D m).rounds 2) = q at *
    refine x_for (fun i ρ s => ρ.rd 5 = .ptr σ.n 0 ∧ ρ.rd 6 = .int .i64 0 ∧ ρ.rd 7 = .int .i64 1 ∧ ρ.rd 8 = x ∧ ρ.rd 15 = .int .i64 (i : Int) ∧ ∃ own' A Rs, NowG σ (fun _ => 0) σ.n own' q A bs Rs s ∧ RowP (fun k => σ.n ≤ k ∧ own' k = 1) s x (strsC D m) m 1) m ?_ ?_
    · simp only [XU, seval, h5, h6, h7, h8]
      exact ⟨_, _, _, n0, hrow⟩
    clear h5 h6 h7 h8 n0 hrow
    rintro i ρ s hi ⟨h5, h6, h7, h8, h15, own3, A3, Rs3, n0, hrow⟩
    by_cases hlt : i < m
    rotate_left
    · have hge : ¬ (i : Int) < (m : Int) := by omega
      rcases hrow.form with ex | ⟨bx, cx, ex⟩
      · have hz : ¬ (i : Int) < 0 := by have := hrow.len.1; rw [ex] at this; have := Option.some.inj this; omega
        rw [ex] at h8
        simp only [XU, seval, h5, h6, h7, h8, h15, hz]
        exact ⟨ex.symm, _, _, _, n0, hrow⟩
      · rw [ex] at h8
        simp only [XU, seval, h5, h6, h7, h8, h15, hge]
        exact ⟨ex.symm, _, _, _, n0, hrow⟩
    have gi : (i : Int) < (m : Int) := by omega
    obtain ⟨bx, cx, csx, hrx⟩ := hrow.some (by omega)
    have ex := hrx.eq
    have hcx := hrx.cells
    have hgx : csx[i]? = some (.str (D i)) := by rw [hrx.get (by omega)]; exact strsC_get hlt
    have hxm := lt_idx hlt
    rw [ex] at h8
    have cb := n0.co.cb
    obtain ⟨bp, cp, csp, eA, crp, cip, obp, lbp⟩ := n0.co.ptr (i := 0) (by omega)
    have hx1 : (0 : Int) < (q.n : Int) := by omega
    have hco := n0.co.cs 0 (by omega)
    have w1 : IntKind.i64.wrap (1 + (i : Int)) = ((1 + i : Nat) : Int) := by rw [wrapI (by omega) (by omega)]; omega
    have w2 : IntKind.i64.wrap (((1 + i : Nat) : Int) + 1) = ((1 + i + 1 : Nat) : Int) := wrapSucc (by omega)
    have wi : IntKind.i64.wrap ((i : Int) + 1) = ((i + 1 : Nat) : Int) := wrapSucc (by omega)
    obtain ⟨t, het⟩ := hen i hlt
    have hE := entry_ac hco hOk (i := 1 + i + 1) (by omega) (by unfold Core.last; omega) (e := ⟨t, 1, D i, []⟩) (by rw [hs0, ← het]; rfl)
    simp only [XU, seval, h5, h6, h7, h8, h15, gi, cb, GS, eA, crp, cip, hx0, hx1, w1, w2]
    refine hE.kept fun s2 k2 => ?_
    have lbg := n0.co.bn
    have obg := n0.co.ob
    have hσ := n0.tr.n
    have n2 : NowG σ (fun _ => 0) σ.n _ q A3 bs Rs3 ((s2.push (.cells [.int .i64 0, .int .i64 0, .int .i64 0, .nils, .nils])).put s2.n [.int .i64 ((1 + i + 1 : Nat) : Int), .int .i64 (t : Int), .int .i64 ((1 : Nat) : Int), bytesP (D i), intsP []]) := ((n0.keeps k2).loc_.push [.int .i64 0, .int .i64 0, .int .i64 0, .nils, .nils]).local_ (q := s2.n) (Nat.le_trans n0.tr.n k2.1) (loc_ge (Nat.le_refl _)) [.int .i64 ((1 + i + 1 : Nat) : Int), .int .i64 (t : Int), .int .i64 ((1 : Nat) : Int), bytesP (D i), intsP []]
    have hrow2 : RowP (fun k => σ.n ≤ k ∧ loc own3 s2.n k = 1) ((s2.push (.cells [.int .i64 0, .int .i64 0, .int .i64 0, .nils, .nils])).put s2.n [.int .i64 ((1 + i + 1 : Nat) : Int), .int .i64 (t : Int), .int .i64 ((1 : Nat) : Int), bytesP (D i), intsP []]) x (strsC D m) m 1 := (((hrow.keep k2.1 fun k hk _ => k2.cells hk).mono fun k hk hn => ⟨hk.1, (loc_lt hn).trans hk.2⟩).push _).put (b0 := s2.n) (fun e => by have := e.2; rw [loc_ge (Nat.le_refl _)] at this; omega) _
    have cb2 := (k2.cells lbg).trans cb
    have crp2 := (k2.cells lbp).trans crp
    have hcx2 := (k2.cells hrx.lt).trans hcx
    have nbg : ¬ σ.n = s2.n := fun e => by have := k2.1; omega
    have nbp : ¬ bp = s2.n := fun e => by have := k2.1; omega
    have nbx : ¬ bx = s2.n := fun e => by have := k2.1; have := hrx.lt; omega
    have ce : ((s2.push (.cells [.int .i64 0, .int .i64 0, .int .i64 0, .nils, .nils])).put s2.n [.int .i64 ((1 + i + 1 : Nat) : Int), .int .i64 (t : Int), .int .i64 ((1 : Nat) : Int), bytesP (D i), intsP []]).cells s2.n = some [.int .i64 ((1 + i + 1 : Nat) : Int), .int .i64 (t : Int), .int .i64 ((1 : Nat) : Int), bytesP (D i), intsP []] := by rw [put_get, if_pos rfl]
    have lq : s2.n < ((s2.push (.cells [.int .i64 0, .int .i64 0, .int .i64 0, .nils, .nils])).put s2.n [.int .i64 ((1 + i + 1 : Nat) : Int), .int .i64 (t : Int), .int .i64 ((1 : Nat) : Int), bytesP (D i), intsP []]).n := Nat.lt_succ_self _
    have cb3 : ((s2.push (.cells [.int .i64 0, .int .i64 0, .int .i64 0, .nils, .nils])).put s2.n [.int .i64 ((1 + i + 1 : Nat) : Int), .int .i64 (t : Int), .int .i64 ((1 : Nat) : Int), bytesP (D i), intsP []]).cells σ.n = some (grpC q A3) := by rw [put_get, if_neg nbg, push_get, if_neg nbg]; exact cb2
    have crp3 : ((s2.push (.cells [.int .i64 0, .int .i64 0, .int .i64 0, .nils, .nils])).put s2.n [.int .i64 ((1 + i + 1 : Nat) : Int), .int .i64 (t : Int), .int .i64 ((1 : Nat) : Int), bytesP (D i), intsP []]).cells bp = some csp := by rw [put_get, if_neg nbp, push_get, if_neg nbp]; exact crp2
    have hcx3 : ((s2.push (.cells [.int .i64 0, .int .i64 0, .int .i64 0, .nils, .nils])).put s2.n [.int .i64 ((1 + i + 1 : Nat) : Int), .int .i64 (t : Int), .int .i64 ((1 : Nat) : Int), bytesP (D i), intsP []]).cells bx = some csx := by rw [put_get, if_neg nbx, push_get, if_neg nbx]; exact hcx2
    have lbp3 : bp < ((s2.push (.cells [.int .i64 0, .int .i64 0, .int .i64 0, .nils, .nils])).put s2.n [.int .i64 ((1 + i + 1 : Nat) : Int), .int .i64 (t : Int), .int .i64 ((1 : Nat) : Int), bytesP (D i), intsP []]).n := Nat.lt_of_lt_of_le lbp (Nat.le_succ_of_le k2.1)
    have lbx3 : bx < ((s2.push (.cells [.int .i64 0, .int .i64 0, .int .i64 0, .nils, .nils])).put s2.n [.int .i64 ((1 + i + 1 : Nat) : Int), .int .i64 (t : Int), .int .i64 ((1 : Nat) : Int), bytesP (D i), intsP []]).n := Nat.lt_of_lt_of_le hrx.lt (Nat.le_succ_of_le k2.1)
    have hco2 := n2.co.cs 0 (by omega)
    have hSn : callD Try.prog 16 [.ptr (bs 0) 0] ((s2.push (.cells [.int .i64 0, .int .i64 0, .int .i64 0, .nils, .nils])).put s2.n [.int .i64 ((1 + i + 1 : Nat) : Int), .int .i64 (t : Int), .int .i64 ((1 : Nat) : Int), bytesP (D i), intsP []]) fun v s' => v = .tup [.int .i64 0, .psl [] 0 0] ∧ Keeps ((s2.push (.cells [.int .i64 0, .int .i64 0, .int .i64 0, .nils, .nils])).put s2.n [.int .i64 ((1 + i + 1 : Nat) : Int), .int .i64 (t : Int), .int .i64 ((1 : Nat) : Int), bytesP (D i), intsP []]).n ((s2.push (.cells [.int .i64 0, .int .i64 0, .int .i64 0, .nils, .nils])).put s2.n [.int .i64 ((1 + i + 1 : Nat) : Int), .int .i64 (t : Int), .int .i64 ((1 : Nat) : Int), bytesP (D i), intsP []]) s' := by
      have := snap_ac hco2 (by rw [hsd]; exact Nat.zero_le _)
      have e1 : ((q.core 0).snap.index : Int) = 0 := by omega
      rw [e1, hsd] at this
      exact this
    simp only [XU, seval, h5, h6, h7, h8, h15, PS, SX, nbg, nbp, cb2, crp2, GS, eA, cip, hx0, hx1]
    generalize (s2.push (.cells [.int .i64 0, .int .i64 0, .int .i64 0, .nils, .nils])).put s2.n [.int .i64 ((1 + i + 1 : Nat) : Int), .int .i64 (t : Int), .int .i64 ((1 : Nat) : Int), bytesP (D i), intsP []] = s3 at *
    generalize s2.n = b at *
    refine hSn.kept fun s4 k4 => ?_
    have n4 := n2.keeps k4
    have hrow4 : RowP (fun k => σ.n ≤ k ∧ loc own3 b k = 1) s4 x (strsC D m) m 1 := hrow2.keep k4.1 fun k hk _ => k4.cells hk
    have ce4 := (k4.cells lq).trans ce
    have hcx4 := (k4.cells lbx3).trans hcx3
    have lq4 := Nat.lt_of_lt_of_le lq k4.1
    have lbx4 := Nat.lt_of_lt_of_le lbx3 k4.1
    clear n0 n2 hrow hrow2 hE hSn cb cb2 cb3 crp crp2 crp3 hcx hcx2 hcx3 ce
    simp only [XU, seval, h5, h6, h7, h8, h15]
    refine d_dreg follow [] rfl ?_
    have n5 := n4.slots 25 []
    have hrow5 : RowP (fun k => σ.n ≤ k ∧ loc own3 b k = 1) (addSlots s4.n 25 s4 []) x (strsC D m) m 1 := hrow4.keep (by simp only [addSlots]; omega) fun k hk _ => slots_old [] hk
    have ce5 : (addSlots s4.n 25 s4 []).cells b = _ := (slots_old _ lq4).trans ce4
    have hcx5 : (addSlots s4.n 25 s4 []).cells bx = _ := (slots_old _ lbx4).trans hcx4
    generalize addSlots s4.n 25 s4 [] = s5 at *
    have gp : (0 : Int) < ((1 + i + 1 : Nat) : Int) := by omega
    have hfa : firstA s5 1 (D i).length (.psl (ofU8s (D i)) 0 (D i).length) = some (ofU8s (D i)) := firstA_psl' (by rw [ofU8s_length, Nat.mul_one])
    have hu := u8s_ofU8s (D i)
    have hone : ((1 : Nat) : Int) = 1 := rfl
    rw [hone] at ce5
    unfold bytesP at ce5
    simp only [XU, seval, DU, h5, h6, h7, h8, h15, w1, w2, gp, ce5, hfa, hu, hxm, hcx5, hgx]
    refine ⟨⟨?_, ?_⟩, ?_⟩
    · intro l hl c hc hf
      simp only [List.mem_cons, List.mem_nil_iff, List.not_mem_nil, or_false] at hl hc
      (repeat' (first | (rcases hl with rfl | hl) | (rcases hl with rfl))) <;> (repeat' (first | (rcases hc with rfl | hc) | (rcases hc with rfl))) <;> dsimp only at hf ⊢ <;> first
        | (exact absurd hf (by decide +kernel))
        | (simp only [XU, seval, h5, h6, h7, h8, h15, ce5, hfa, hu, hxm, hcx5, hgx]; done)
    · intro sl hsl; simp at hsl
    simp only [XU, seval, h5, h6, h7, h8, h15, wi]
    exact ⟨hlt, ex.symm, _, _, _, n5, hrow5⟩
  clear h5 h6 h7 h8 n0 hrow
  rintro ρ s ⟨h5, h6, h7, h8, own2, A2, Rs2, n0, hrow⟩
  have hal := O.al
  have hae := O.ae
  rw [wpX_seq]
  refine x_mid (fun ρ s => ρ.rd 5 = .ptr σ.n 0 ∧ ρ.rd 7 = .int .i64 1 ∧ ρ.rd 8 = x ∧ ∃ own' A Rs, NowG σ (fun _ => 0) σ.n own' ((((ordG N).props D m).rounds 2).rounds 60) A bs Rs s ∧ RowP (fun k => σ.n ≤ k ∧ own' k = 1) s x (strsC D m) m 1) ?_ ?_
  · simp only [XU, seval, h5, h6, h7, h8]
    refine (rounds_ac n0.co hsmQ (N := 60) (by decide) O.r3 O.p3).grp fun s2 own3 A3 Rs3 n3 => ?_
    have hrow3 : RowP (fun k => σ.n ≤ k ∧ own3 k = 1) s2 x (strsC D m) m 1 := (hrow.mono fun k hk hn => ⟨hk.1, (n3.tr.ow k hn).trans hk.2⟩).keep n3.tr.n fun k hk hp => n3.tr.cells hk (by have := n3.tr.ow k hk; omega)
    have n4 := n0.call n3
    clear n0 n3 hrow
    generalize ((((ordG N).props D m).rounds 2).rounds 60) = z at *
    have cb := n4.co.cb
    obtain ⟨ba, ca, csa, hra⟩ := n4.co.ra.some (by omega)
    have ea := hra.eq
    have gl : ¬ (z.all.length : Int) < ((1 + m : Nat) : Int) := by omega
    have wm : IntKind.i64.wrap (1 + (m : Int)) = ((1 + m : Nat) : Int) := by rw [wrapI (by omega) (by omega)]; omega
    have gl0 : m = 0 → ¬ (z.all.length : Int) < IntKind.i64.wrap (1 + 0) := fun e => by
      have : IntKind.i64.wrap (1 + 0) = 1 := rfl
      rw [this]; omega
    rcases hrow3.form with ex | ⟨bx, cx, ex⟩
    · have hz : m = 0 := by have := hrow3.len.1; rw [ex] at this; exact (Option.some.inj this).symm
      have g1 := gl0 hz
      have g2 : ¬ (z.all.length : Int) < IntKind.i64.wrap 1 := g1
      rw [ex] at h8
      simp only [XU, seval, h5, h6, h7, h8, cb, GS, ea, g1, g2]
      exact ⟨ex.symm, _, _, _, n4, hrow3⟩
    · rw [ex] at h8
      simp only [XU, seval, h5, h6, h7, h8, cb, GS, ea, wm, gl]
      exact ⟨ex.symm, _, _, _, n4, hrow3⟩
  clear h5 h6 h7 h8 n0 hrow
  rintro ρ s ⟨h5, h7, h8, own2, A2, Rs2, n0, hrow⟩
  generalize ((((ordG N).props D m).rounds 2).rounds 60) = z at *
  rw [wpX_seq]
  refine x_mid (fun ρ s => True) ?_ ?_
  · simp only [XU, seval, h5, h7, h8]
    refine x_for (fun i ρ s => ρ.rd 5 = .ptr σ.n 0 ∧ ρ.rd 7 = .int .i64 1 ∧ ρ.rd 8 = x ∧ ρ.rd 20 = .int .i64 (i : Int) ∧ NowG σ (fun _ => 0) σ.n own2 z A2 bs Rs2 s ∧ RowP (fun k => σ.n ≤ k ∧ own2 k = 1) s x (strsC D m) m 1) m ?_ ?_
    · simp only [XU, seval, h5, h7, h8]
      exact ⟨n0, hrow⟩
    clear h5 h7 h8 n0 hrow
    rintro i ρ s hi ⟨h5, h7, h8, h20, n0, hrow⟩
    by_cases hlt : i < m
    rotate_left
    · have hge : ¬ (i : Int) < (m : Int) := by omega
      rcases hrow.form with ex | ⟨bx, cx, ex⟩
      · have hz : ¬ (i : Int) < 0 := by have := hrow.len.1; rw [ex] at this; have := Option.some.inj this; omega
        rw [ex] at h8
        simp only [XU, seval, h5, h7, h8, h20, hz]
      · rw [ex] at h8
        simp only [XU, seval, h5, h7, h8, h20, hge]
    have gi : (i : Int) < (m : Int) := by omega
    obtain ⟨bx, cx, csx, hrx⟩ := hrow.some (by omega)
    have ex := hrx.eq
    have hcx := hrx.cells
    have hgx : csx[i]? = some (.str (D i)) := by rw [hrx.get (by omega)]; exact strsC_get hlt
    have hxm := lt_idx hlt
    rw [ex] at h8
    have cb := n0.co.cb
    obtain ⟨ba, ca, csa, hra⟩ := n0.co.ra.some (by omega)
    have ea := hra.eq
    have hca := hra.cells
    obtain ⟨k, t, hke⟩ := hae i hlt
    have hil : 1 + i < z.all.length := by omega
    rw [List.getElem?_eq_getElem hil] at hke
    have hsa := (hra.row (i := 1 + i) hil).2.trans (rowc_seg Ep_len hil)
    rw [Option.some.inj hke, Ep_eq] at hsa
    have hda : csa[(1 + i) * 5 + 3]? = some (bytesP (D i)) := by have := seg_at (cs := csa) (o := (1 + i) * 5) (n := 5) (j := 3) (by omega); rw [hsa] at this; exact this.symm
    have hxa : (0 : Int) ≤ ((1 + i : Nat) : Int) ∧ ((1 + i : Nat) : Int) < (z.all.length : Int) := lt_idx hil
    have w1 : IntKind.i64.wrap (1 + (i : Int)) = ((1 + i : Nat) : Int) := by rw [wrapI (by omega) (by omega)]; omega
    have wi : IntKind.i64.wrap ((i : Int) + 1) = ((i + 1 : Nat) : Int) := wrapSucc (by omega)
    have la := hra.lt
    have lx := hrx.lt
    simp only [XU, seval, h5, h7, h8, h20, gi]
    refine d_dreg follow [] rfl ?_
    have n5 := n0.slots 16 []
    have hrow5 : RowP (fun k => σ.n ≤ k ∧ own2 k = 1) (addSlots s.n 16 s []) x (strsC D m) m 1 := hrow.keep (by simp only [addSlots]; omega) fun k hk _ => slots_old [] hk
    have hcx5 : (addSlots s.n 16 s []).cells bx = _ := (slots_old _ lx).trans hcx
    have hca5 : (addSlots s.n 16 s []).cells ba = _ := (slots_old _ la).trans hca
    generalize addSlots s.n 16 s [] = s5 at *
    have cb5 := n5.co.cb
    have hfa : firstA s5 1 (D i).length (.psl (ofU8s (D i)) 0 (D i).length) = some (ofU8s (D i)) := firstA_psl' (by rw [ofU8s_length, Nat.mul_one])
    have hu := u8s_ofU8s (D i)
    unfold bytesP at hda
    simp only [XU, seval, DU, h5, h7, h8, h20, cb5, GS, ea, hca5, hda, w1, hxa, hfa, hu, hxm, hcx5, hgx]
    refine ⟨⟨?_, ?_⟩, ?_⟩
    · intro l hl c hc hf
      simp only [List.mem_cons, List.mem_nil_iff, List.not_mem_nil, or_false] at hl hc
      (repeat' (first | (rcases hl with rfl | hl) | (rcases hl with rfl))) <;> (repeat' (first | (rcases hc with rfl | hc) | (rcases hc with rfl))) <;> dsimp only at hf ⊢ <;> first
        | (exact absurd hf (by decide +kernel))
        | (simp only [XU, seval, h5, h7, h8, h20, cb5, GS, ea, hca5, hda, w1, hxa, hfa, hu, hxm, hcx5, hgx]; done)
    · intro sl hsl; simp at hsl
    simp only [XU, seval, h5, h7, h8, h20, wi]
    exact ⟨hlt, ex.symm, n5, hrow5⟩
  rintro ρ s _
  simp only [XU, seval]
end Go.Proofs.Ythojhpjjkfjeiaa.Va
set_option maxRecDepth 100000
set_option maxHeartbeats 1000000
set_option linter.all false
namespace Go.Proofs.Ythojhpjjkfjeiaa.Va
open Go.Proofs
/- A tick, its heartbeat foretold. -/
def Core.tickA (a : Bool) (c : Core) (d : Int) : Core :=
  if c.role = 2 then (if a = true then (c.tickL d).tell else c.tickL d)
  else (if c.left - 1 ≤ 0 then ((c.tickF d).wait d).stand else c.tickF d)
theorem tickA_eq {a : Bool} {c : Core} {d : Int} (h : c.role = 2 → decide ((c.beat + 1) % 3 = 0) = a) : c.tickA a d = c.tick d := by
  unfold Core.tickA Core.tick
  by_cases hr : c.role = 2
  · rw [if_pos hr, if_pos hr, ← h hr]
    by_cases e : (c.beat + 1) % 3 = 0
    · rw [if_pos e, if_pos (decide_eq_true e)]
    · rw [if_neg e, if_neg (by rw [decide_eq_false e]; decide)]
  · rw [if_neg hr, if_neg hr]
def Grp.tickA1 (a : Bool) (g : Grp) (i : Nat) : Grp := g.setc i ((g.core i).tickA a ((7 * i % 10 : Nat) : Int))
def Grp.ticksA (a : Bool) (g : Grp) : Nat → Grp
  | 0 => g
  | i + 1 => ((g.ticksA a i).tickA1 a i).told i
def Core.tickB' (c : Core) : Bool := c.okB 22 && decide (-1000 ≤ c.left) && decide (c.left ≤ 1000)
def Grp.ticksAB (a : Bool) (g : Grp) : Nat → Bool
  | 0 => true
  | i + 1 => g.ticksAB a i && (((g.ticksA a i).core i).tickB' && ((g.ticksA a i).tickA1 a i).toldB i)
def Grp.ticksAP (a : Bool) (g : Grp) : Nat → List (Byts × Byts)
  | 0 => []
  | i + 1 => g.ticksAP a i ++ ((g.ticksA a i).tickA1 a i).toldP i
def Grp.quietA (a : Bool) (g : Grp) : Grp := (Grp.runG 2000 (g.ticksA a g.n)).hush
def Grp.quietAB (a : Bool) (g : Grp) : Bool := decide (g.n ≤ 5) && g.ticksAB a g.n && Grp.runB 2000 (g.ticksA a g.n) && (g.quietA a).lastB
def Grp.quietAP (a : Bool) (g : Grp) : List (Byts × Byts) := g.ticksAP a g.n ++ Grp.runP 2000 (g.ticksA a g.n)
theorem core_setc_ne {g : Grp} {i j : Nat} {c : Core} (h : j ≠ i) : (g.setc i c).core j = g.core j := by
  unfold Grp.setc Grp.core
  simp only [List.getD_eq_getElem?_getD, List.getElem?_set]
  rw [if_neg fun e => h e.symm]
theorem ticks_core {g : Grp} : ∀ k j, k ≤ j → (g.ticksG k).core j = g.core j := by
  intro k
  induction k with
  | zero => intro j _; rfl
  | succ k ih =>
    intro j hj
    have h1 : (g.ticksG (k + 1)).core j = (((g.ticksG k).tick1 k).setc k (((g.ticksG k).tick1 k).core k).mute).core j := rfl
    rw [h1, core_setc_ne (by omega)]
    unfold Grp.tick1
    rw [core_setc_ne (by omega)]
    exact ih j (by omega)
theorem ticksA_eq {a : Bool} {g : Grp} (h : ∀ i, (g.core i).role = 2 → decide (((g.core i).beat + 1) % 3 = 0) = a) : ∀ k, g.ticksA a k = g.ticksG k := by
  intro k
  induction k with
  | zero => rfl
  | succ k ih =>
    have h1 : g.ticksA a (k + 1) = ((g.ticksA a k).tickA1 a k).told k := rfl
    have h2 : g.ticksG (k + 1) = ((g.ticksG k).tick1 k).told k := rfl
    rw [h1, h2, ih]
    unfold Grp.tickA1 Grp.tick1
    rw [tickA_eq (by rw [ticks_core k k (Nat.le_refl _)]; exact h k)]
theorem tickA1_eq {a : Bool} {g : Grp} (h : ∀ i, (g.core i).role = 2 → decide (((g.core i).beat + 1) % 3 = 0) = a) (k : Nat) : (g.ticksA a k).tickA1 a k = (g.ticksG k).tick1 k := by
  rw [ticksA_eq h]
  unfold Grp.tickA1 Grp.tick1
  rw [tickA_eq (by rw [ticks_core k k (Nat.le_refl _)]; exact h k)]
theorem quietA_eq {a : Bool} {g : Grp} (h : ∀ i, (g.core i).role = 2 → decide (((g.core i).beat + 1) % 3 = 0) = a) (hbt : ∀ i, (g.core i).beat < 2305843009213693952) : g.quiet = g.quietA a ∧ (g.quietAB a = true → g.quietB = true) ∧ g.quietP = g.quietAP a := by
  have e1 := ticksA_eq h
  have hB : ∀ k, g.ticksAB a k = g.ticksB k := by
    intro k
    induction k with
    | zero => rfl
    | succ k ih =>
      unfold Grp.ticksAB Grp.ticksB
      rw [ih, tickA1_eq h, e1]
      have : ((g.ticksG k).core k).tickB' = ((g.ticksG k).core k).tickB := by
        unfold Core.tickB' Core.tickB
        rw [ticks_core k k (Nat.le_refl _), decide_eq_true (hbt k), Bool.and_true]
      rw [this]
  have hP : ∀ k, g.ticksAP a k = g.ticksP k := by
    intro k
    induction k with
    | zero => rfl
    | succ k ih =>
      unfold Grp.ticksAP Grp.ticksP
      rw [ih, tickA1_eq h]
  have hq : g.quiet = g.quietA a := by unfold Grp.quiet Grp.quietA; rw [e1]
  refine ⟨hq, fun hb => ?_, ?_⟩
  · unfold Grp.quietAB at hb
    unfold Grp.quietB
    rw [hq, ← hB, ← e1]
    exact hb
  · unfold Grp.quietP Grp.quietAP
    rw [hP, e1]
/- A group that stands still. -/
def stTerm (N : Nat) : Nat := if N = 1 then 1 else 2
def stLog (N m : Nat) (D : Nat → Byts) : List Ent := ⟨stTerm N, 0, [], []⟩ :: (List.range m).map fun j => ⟨stTerm N, 1, D j, []⟩
def stPeer (N m j : Nat) : Peer := if 1 ≤ j ∧ j < N then ⟨m + 2, m + 1, 0, true, 0⟩ else ⟨1, 0, 0, false, 0⟩
def stYes (N : Nat) : List Int := if N = 1 then [0] else if N ≤ 3 then [0, 1] else [0, 1, 2]
def stLead (N m : Nat) (D : Nat → Byts) (b : Nat) : Core := ⟨⟨0, 0, oneTo N, []⟩, stLog N m D, 0, stTerm N, 0, m + 1, 2, stYes N, (List.range 7).map (stPeer N m), 0, [], [], 10, 0, b, []⟩
def stCore (N m : Nat) (D : Nat → Byts) (r i : Nat) : Core := ⟨⟨0, 0, oneTo N, []⟩, stLog N m D, i, stTerm N, 0, m + 1, 0, [(i : Int)], List.replicate 7 peer0, 0, [], [], 10 + ((7 * i % 10 : Nat) : Int) - (r : Int), ((7 * i % 10 : Nat) : Int), 0, []⟩
def stab (N m : Nat) (D : Nat → Byts) (b r : Nat) : Grp :=
  ⟨N, stLead N m D b :: (List.range (N - 1)).map (fun i => stCore N m D r (i + 1)), [], (⟨1, ⟨stTerm N, 0, [], []⟩⟩ : Nat × Ent) :: (List.range m).map (fun j => (j + 2, ⟨stTerm N, 1, D j, []⟩)), List.replicate N (stTerm N), List.replicate N (m + 1), (List.replicate 400 0).set (stTerm N) 1, 0, 0⟩
def sameP (l : List (Byts × Byts)) : Prop := l.map (·.1) = l.map (·.2)
theorem sameP_ok {l : List (Byts × Byts)} (h : sameP l) : ∀ p ∈ l, p.1 = p.2 := by
  induction l with
  | nil => intro p hp; cases hp
  | cons a l ih =>
    unfold sameP at h
    simp only [List.map_cons, List.cons.injEq] at h
    intro p hp
    rcases List.mem_cons.1 hp with e | e
    · rw [e]; exact h.1
    · exact ih h.2 p e
end Go.Proofs.Ythojhpjjkfjeiaa.Va
set_option maxRecDepth 100000
set_option maxHeartbeats 1000000
set_option linter.all false
namespace Go.Proofs.Ythojhpjjkfjeiaa.Va
open Go.Proofs
def Grp.propsB (g : Grp) (D : Nat → Byts) : Nat → Bool
  | 0 => true
  | i + 1 => Grp.propsB g D i && ((g.props D i).propB (D i) && decide (((g.props D i).core 0).last = 1 + i))
def Grp.propsP (g : Grp) (D : Nat → Byts) : Nat → List (Byts × Byts)
  | 0 => []
  | i + 1 => Grp.propsP g D i ++ (g.props D i).propP (D i)
theorem propsB_at {g : Grp} {D : Nat → Byts} : ∀ k, Grp.propsB g D k = true → ∀ i, i < k → (g.props D i).propB (D i) = true ∧ ((g.props D i).core 0).last = 1 + i := by
  intro k
  induction k with
  | zero => intro _ i hi; omega
  | succ k ih =>
    intro h i hi
    unfold Grp.propsB at h
    rw [Bool.and_eq_true, Bool.and_eq_true, decide_eq_true_eq] at h
    by_cases e : i = k
    · subst e; exact h.2
    · exact ih h.1 i (by omega)
theorem propsP_at {g : Grp} {D : Nat → Byts} : ∀ k, (∀ p ∈ Grp.propsP g D k, p.1 = p.2) → ∀ i, i < k → ∀ p ∈ (g.props D i).propP (D i), p.1 = p.2 := by
  intro k
  induction k with
  | zero => intro _ i hi; omega
  | succ k ih =>
    intro h i hi
    unfold Grp.propsP at h
    by_cases e : i = k
    · subst e; exact fun p hp => h p (List.mem_append_right _ hp)
    · exact ih (fun p hp => h p (List.mem_append_left _ hp)) i (by omega)
theorem stab_core0 (N m : Nat) (D : Nat → Byts) (b r : Nat) : (stab N m D b r).core 0 = stLead N m D b := rfl
theorem stab_core (N m : Nat) (D : Nat → Byts) (b r i : Nat) : ((stab N m D b r).core (i + 1)).role = 0 ∧ ((stab N m D b r).core (i + 1)).beat = 0 := by
  unfold stab Grp.core
  simp only [List.getD_cons_succ]
  rw [List.getD_eq_getElem?_getD]
  rcases Nat.lt_or_ge i (N - 1) with h | h
  · simp [h, stCore]
  · rw [List.getElem?_eq_none (by simp; omega)]
    exact ⟨rfl, rfl⟩
/- One round of a group that stands still: what a computation says of it, for each remainder of its beat. -/
def stL (N m : Nat) (D : Nat → Byts) (b r : Nat) (a : Bool) : Grp × Bool × List Byts := ((stab N m D b r).quietA a, (stab N m D b r).quietAB a, ((stab N m D b r).quietAP a).map (·.1))
def stR (N m : Nat) (D : Nat → Byts) (b r : Nat) (a : Bool) (r2 : Nat) : Grp × Bool × List Byts := (stab N m D (b + 1) r2, true, ((stab N m D b r).quietAP a).map (·.2))
structure StepsOk (N m : Nat) (D : Nat → Byts) : Prop where
  s0 : ∀ b, stL N m D b 0 false = stR N m D b 0 false 1
  s1 : ∀ b, stL N m D b 1 false = stR N m D b 1 false 2
  s2 : ∀ b, stL N m D b 2 true = stR N m D b 2 true 0
/- The proposals, and two rounds. -/
def ppX (N m : Nat) (D : Nat → Byts) (b0 : Nat) : Grp := (stab N 0 D b0 (b0 % 3)).props D m
def ppL (N m : Nat) (D : Nat → Byts) (b0 : Nat) : Grp × Bool × List Byts := ((ppX N m D b0).rounds 2, (ppX N m D b0).roundsB 2, ((ppX N m D b0).roundsP 2).map (·.1))
def ppR (N m : Nat) (D : Nat → Byts) (b0 : Nat) : Grp × Bool × List Byts := (stab N m D (b0 + 2) ((b0 + 2) % 3), true, ((ppX N m D b0).roundsP 2).map (·.2))
theorem three {A B C : Type} {a a' : A} {b b' : B} {c c' : C} (h : (a, b, c) = (a', b', c')) : a = a' ∧ b = b' ∧ c = c' := by
  cases h
  exact ⟨rfl, rfl, rfl⟩
theorem stab_quiet {N m : Nat} {D : Nat → Byts} (h : StepsOk N m D) {b : Nat} (hb : b < 1000) : (stab N m D b (b % 3)).quiet = stab N m D (b + 1) ((b + 1) % 3) ∧ (stab N m D b (b % 3)).quietB = true ∧ ∀ p ∈ (stab N m D b (b % 3)).quietP, p.1 = p.2 := by
  have hr : ∀ r a, decide ((b + 1) % 3 = 0) = a → ∀ i, ((stab N m D b r).core i).role = 2 → decide ((((stab N m D b r).core i).beat + 1) % 3 = 0) = a := fun r a ha i hi => by
    cases i with
    | zero => exact ha
    | succ i => rw [(stab_core N m D b r i).1] at hi; cases hi
  have hbt : ∀ r i, ((stab N m D b r).core i).beat < 2305843009213693952 := fun r i => by
    cases i with
    | zero => show b < _; omega
    | succ i => rw [(stab_core N m D b r i).2]; decide
  have fin : ∀ r a r', decide ((b + 1) % 3 = 0) = a → ((stab N m D b r).quietA a, (stab N m D b r).quietAB a, ((stab N m D b r).quietAP a).map (·.1)) = (stab N m D (b + 1) r', true, ((stab N m D b r).quietAP a).map (·.2)) →
      (stab N m D b r).quiet = stab N m D (b + 1) r' ∧ (stab N m D b r).quietB = true ∧ ∀ p ∈ (stab N m D b r).quietP, p.1 = p.2 := fun r a r' ha he => by
    obtain ⟨e1, e2, e3⟩ := quietA_eq (hr r a ha) (hbt r)
    obtain ⟨f1, f2, f3⟩ := three he
    refine ⟨e1.trans f1, e2 f2, ?_⟩
    rw [e3]
    exact sameP_ok f3
  rcases (by omega : b % 3 = 0 ∨ b % 3 = 1 ∨ b % 3 = 2) with e | e | e
  · rw [e, show (b + 1) % 3 = 1 by omega]
    exact fin 0 false 1 (decide_eq_false (by omega)) (h.s0 b)
  · rw [e, show (b + 1) % 3 = 2 by omega]
    exact fin 1 false 2 (decide_eq_false (by omega)) (h.s1 b)
  · rw [e, show (b + 1) % 3 = 0 by omega]
    exact fin 2 true 0 (decide_eq_true (by omega)) (h.s2 b)
theorem stab_rounds {N m : Nat} {D : Nat → Byts} (h : StepsOk N m D) {b : Nat} : ∀ k, b + k < 1000 → (stab N m D b (b % 3)).rounds k = stab N m D (b + k) ((b + k) % 3) ∧ (stab N m D b (b % 3)).roundsB k = true ∧ ∀ p ∈ (stab N m D b (b % 3)).roundsP k, p.1 = p.2 := by
  intro k
  induction k with
  | zero => intro _; exact ⟨rfl, rfl, fun p hp => (by cases hp)⟩
  | succ k ih =>
    intro hb
    obtain ⟨e1, e2, e3⟩ := ih (by omega)
    obtain ⟨q1, q2, q3⟩ := stab_quiet h (b := b + k) (by omega)
    have h1 : (stab N m D b (b % 3)).rounds (k + 1) = ((stab N m D b (b % 3)).rounds k).quiet := rfl
    refine ⟨by rw [h1, e1, q1]; rfl, ?_, fun p hp => ?_⟩
    · unfold Grp.roundsB
      rw [e2, e1, q2]
      rfl
    · unfold Grp.roundsP at hp
      rw [e1] at hp
      rcases List.mem_append.1 hp with hp | hp
      · exact e3 p hp
      · exact q3 p hp
theorem ord_of {N m : Nat} {D : Nat → Byts} {b0 : Nat} (hm : m ≤ 15) (hb0 : b0 < 100) (hs : StepsOk N m D) (f1 : ordG N = stab N 0 D b0 (b0 % 3)) (f2 : (grpNew N (oneTo N)).roundsB 100 = true) (f2p : ((grpNew N (oneTo N)).roundsP 100).map (·.1) = ((grpNew N (oneTo N)).roundsP 100).map (·.2))
    (fp : Grp.propsB (stab N 0 D b0 (b0 % 3)) D 15 = true) (fpp : (Grp.propsP (stab N 0 D b0 (b0 % 3)) D 15).map (·.1) = (Grp.propsP (stab N 0 D b0 (b0 % 3)) D 15).map (·.2))
    (f3 : ppL N m D b0 = ppR N m D b0)
    (f5 : (stLead N m D (b0 + 2)).okB 0 = true) : OrdOk N D m := by
  obtain ⟨g1, g2, g3⟩ := three f3
  unfold ppX at g1 g2 g3
  obtain ⟨h1, h2, h3⟩ := stab_rounds hs (b := b0 + 2) 60 (by omega)
  have hpb := propsB_at 15 fp
  have hpp := propsP_at 15 (sameP_ok fpp)
  refine ⟨f2, sameP_ok f2p, fun i _ => ?_, ?_, fun i hi => ?_, fun i hi => ?_, fun i hi => ?_, ?_, ?_, ?_, ?_, ?_, fun i hi => ?_, ?_, ?_, ?_, fun i hi => ?_⟩
  · rw [f1]
    cases i with
    | zero => exact ⟨fun _ => rfl, fun _ => rfl⟩
    | succ i => rw [(stab_core N 0 D b0 _ i).1]; constructor <;> intro e <;> omega
  · rw [f1]; rfl
  · rw [f1]; exact (hpb i (by omega)).1
  · rw [f1]; exact hpp i (by omega)
  · rw [f1]; exact (hpb i (by omega)).2
  · rw [f1]; exact g2
  · rw [f1]; exact sameP_ok g3
  · rw [f1, g1]; exact f5
  · rw [f1, g1]; rfl
  · rw [f1, g1]; show m + 1 ≤ (stLog N m D).length; simp [stLog]
  · rw [f1, g1]
    refine ⟨stTerm N, ?_⟩
    show (stLog N m D).getD (1 + i) ent0 = _
    unfold stLog
    rw [Nat.add_comm, List.getD_cons_succ, List.getD_eq_getElem?_getD]
    simp [hi]
  · rw [f1, g1]; exact h2
  · rw [f1, g1]; exact h3
  · rw [f1, g1, h1]; show 1 + m ≤ List.length (_ :: List.map _ (List.range m)); simp; omega
  · rw [f1, g1, h1]
    refine ⟨i + 2, stTerm N, ?_⟩
    unfold stab
    simp only
    rw [Nat.add_comm, List.getElem?_cons_succ]
    simp [hi]
end Go.Proofs.Ythojhpjjkfjeiaa.Va
