/- The law's maker of schemas such as may be. Conditions: none. -/
import Derived.Test.YtcdbpmmomgehfaaTy4
set_option maxRecDepth 100000
set_option maxHeartbeats 4000000
set_option linter.all false
namespace Go.Proofs.Ytcdbpmmomgehfaa.Va
open Go.Proofs
theorem kN_get {n : Nat} (h : n < 4) : [AV.str [68, 111, 99], .str [71, 114, 111, 117, 112], .str [84, 101, 97, 109], .str [85, 115, 101, 114]][n]? = some (.str (kN n)) := by
  match n, h with
  | 0, _ => rfl
  | 1, _ => rfl
  | 2, _ => rfl
  | 3, _ => rfl
theorem aN_get {n : Nat} (h : n < 3) : [AV.str [111, 119, 110], .str [114, 101, 97, 100], .str [119, 114, 105, 116, 101]][n]? = some (.str (aN n)) := by
  match n, h with
  | 0, _ => rfl
  | 1, _ => rfl
  | 2, _ => rfl
/- The kinds while they are made such as may be. -/
def kMid (K : List Kd) (i : Nat) : List Kd := (K.take i).map (kindG K) ++ K.drop i
theorem kMid_len (K : List Kd) (i : Nat) (h : i ≤ K.length) : (kMid K i).length = K.length := by simp [kMid]; omega
theorem kMid_get {K : List Kd} {i : Nat} (h : i < K.length) (h' : i < (kMid K i).length) : (kMid K i)[i] = K[i] := by
  simp only [kMid]
  rw [List.getElem_append_right (by simp; omega)]
  simp only [List.length_map, List.length_take, List.getElem_drop]
  congr 1
  omega
theorem kMid_set {K : List Kd} {i : Nat} (h : i < K.length) : (kMid K i).set i (kindG K K[i]) = kMid K (i + 1) := by
  simp only [kMid]
  have hl : ((K.take i).map (kindG K)).length = i := by simp; omega
  rw [List.set_append_right _ _ (by omega), hl, Nat.sub_self, List.drop_eq_getElem_cons h, List.set_cons_zero, List.take_add_one, List.getElem?_eq_getElem h, List.map_append]
  simp
theorem kMid_names (K : List Kd) (i : Nat) : (kMid K i).map Kd.name = K.map Kd.name := by
  simp only [kMid, List.map_append, List.map_map]
  rw [show (Kd.name ∘ kindG K) = Kd.name from rfl, ← List.map_append, List.take_append_drop]
theorem KsG.mid {n : Nat} {K : List Kd} (h : KsG n K) (i : Nat) : ∀ k ∈ kMid K i, KdG k := by
  intro k hk
  rcases List.mem_append.1 hk with hk | hk
  · obtain ⟨a, ha, rfl⟩ := List.mem_map.1 hk
    have ha := List.mem_of_mem_take ha
    obtain ⟨j, hj, e⟩ := h.nm a ha
    exact (kindG_good (h.good a ha) (by unfold hasS; rw [List.any_eq_true]; exact ⟨a, ha, by simp⟩) (by rw [e]; exact (kN_ok j).2.2)).1
  · exact h.good k (List.mem_of_mem_drop hk)
theorem good_ac {ks : List RKd} {ac : List RAc} {σ : AState} : AC Try.prog 13 [slc RKd.c ks, slc RAc.c ac] σ fun v s => Keeps σ.n σ s ∧ ∃ m S x y, v = .agg [x, y] ∧ σ.n ≤ m ∧ m ≤ s.n ∧
    RowP (fun b => σ.n ≤ b ∧ b < m) s x (rowc Kd.c S.kinds) S.kinds.length 3 ∧ RowP (fun b => m ≤ b) s y (rowc Ac.c S.acts) S.acts.length 3 ∧ ScN S := by
  refine ac_wp fn13 cf13 cl13 rfl ?_
  simp only [ac13]
  unfold ab13
  simp only [wpC_seq, wpC_skip, wpCK_normal]
  generalize hn0 : σ.n = n0 at *
  refine w_mid (fun ρ s => ρ.rd 0 = slc RKd.c ks ∧ ρ.rd 1 = slc RAc.c ac ∧ ρ.rd 4 = .ptr n0 0 ∧ s.cells n0 = some [.nils, .nils] ∧ s.n = n0 + 1 ∧ Keeps n0 σ s) ?_ ?_
  · simp only [WU, seval, strs_eq, hn0]
    exact (Keeps.refl' (Nat.le_of_eq hn0.symm)).push _
  rintro ρ s ⟨h0, h1, h4, c0, hn, hk⟩
  simp only [wpC_seq, wpC_skip, wpCK_normal]
  refine w_mid (fun ρ s => ρ.rd 4 = .ptr n0 0 ∧ ρ.rd 5 = .ptr (n0 + 1) 0 ∧ s.cells n0 = some [.nils, .nils] ∧ s.n = n0 + 2 ∧ Keeps n0 σ s ∧ ∃ X : Sc, ScG X ∧ s.cells (n0 + 1) = some [slc Kd.c X.kinds, slc Ac.c X.acts]) ?_ ?_
  · simp only [WU, seval, strs_eq, h0, h1, h4]
    refine schema5_ac.mono ?_
    rintro v s1 ⟨rfl, X, rfl, hX⟩
    have nn : ¬ n0 = s1.n := by omega
    simp only [WU, seval, strs_eq, h4, c0, hn, Sc.c_eq, nn, Nat.left_eq_add, Nat.add_eq_left, storeA, sets, setx, TS]
    exact ⟨(hk.push _).put (by omega) _, X, hX, rfl⟩
  clear h0 h1 h4 c0 hn hk
  rintro ρ s ⟨h4, h5, c0, hn, hk, X, hX, c1⟩
  simp only [wpC_seq, wpC_skip, wpCK_normal]
  refine w_mid (fun ρ s => ρ.rd 4 = .ptr n0 0 ∧ ρ.rd 5 = .ptr (n0 + 1) 0 ∧ ρ.rd 6 = .ptr (n0 + 2) 0 ∧ s.cells n0 = some [.nils, .nils] ∧ s.cells (n0 + 1) = some [slc Kd.c X.kinds, slc Ac.c X.acts] ∧ s.cells (n0 + 2) = some [.nils, .nils] ∧ s.n = n0 + 3 ∧ Keeps n0 σ s) ?_ ?_
  · have nn : ¬ n0 = s.n := by omega
    have n1 : ¬ n0 + 1 = s.n := by omega
    simp only [WU, seval, strs_eq, h4, h5, c0, c1, hn]
    refine ⟨?_, ?_, hk.push _⟩ <;> simp
  clear h4 h5 c0 c1 hn hk
  rintro ρ s ⟨h4, h5, h6, c0, c1, c2, hn, hk⟩
  simp only [wpC_seq, wpC_skip, wpCK_normal]
  refine w_mid (fun ρ s => ρ.rd 4 = .ptr n0 0 ∧ ρ.rd 5 = .ptr (n0 + 1) 0 ∧ ρ.rd 6 = .ptr (n0 + 2) 0 ∧ s.cells n0 = some [.nils, .nils] ∧ s.cells (n0 + 1) = some [slc Kd.c X.kinds, slc Ac.c X.acts] ∧ Keeps n0 σ s ∧ s.n = n0 + 4 ∧ ρ.rd 7 = .sl (n0 + 3) 0 4 (some 4) 1 ∧ s.cells (n0 + 2) = some [.nils, .nils] ∧ s.cells (n0 + 3) = some [.str [68, 111, 99], .str [71, 114, 111, 117, 112], .str [84, 101, 97, 109], .str [85, 115, 101, 114]]) ?_ ?_
  · have nn : ¬ n0 = s.n := by omega
    have n1 : ¬ n0 + 1 = s.n := by omega
    have n2 : ¬ n0 + 2 = s.n := by omega
    simp only [WU, seval, strs_eq, h4, h5, h6, c0, c1, c2, hn, fillA, Nat.left_eq_add, Nat.add_eq_left]
    exact hk.push _
  clear h4 h5 h6 c0 c1 c2 hn hk
  rintro ρ s ⟨h4, h5, h6, c0, c1, hk, hn, h7, c2, c3⟩
  rw [wpC_seq]
  refine w_mid (fun ρ s => ρ.rd 4 = .ptr n0 0 ∧ ρ.rd 5 = .ptr (n0 + 1) 0 ∧ ρ.rd 6 = .ptr (n0 + 2) 0 ∧ ρ.rd 7 = .sl (n0 + 3) 0 4 (some 4) 1 ∧ s.cells n0 = some [.nils, .nils] ∧ s.cells (n0 + 1) = some [slc Kd.c X.kinds, slc Ac.c X.acts] ∧ s.cells (n0 + 3) = some [.str [68, 111, 99], .str [71, 114, 111, 117, 112], .str [84, 101, 97, 109], .str [85, 115, 101, 114]] ∧ Keeps n0 σ s ∧ n0 + 4 ≤ s.n ∧ ∃ x K, s.cells (n0 + 2) = some [x, .nils] ∧ RowP (fun b => n0 + 3 < b) s x (rowc Kd.c K) K.length 3 ∧ KsG 4 K) ?_ ?_
  · simp only [WU, seval, strs_eq, h4, h5, h6, h7, c0, c1, c3, hk, hn]
    refine w_for (fun n ρ s => ρ.rd 8 = .int .i64 n ∧ ρ.rd 4 = .ptr n0 0 ∧ ρ.rd 5 = .ptr (n0 + 1) 0 ∧ ρ.rd 6 = .ptr (n0 + 2) 0 ∧ ρ.rd 7 = .sl (n0 + 3) 0 4 (some 4) 1 ∧ s.cells n0 = some [.nils, .nils] ∧ s.cells (n0 + 1) = some [slc Kd.c X.kinds, slc Ac.c X.acts] ∧ s.cells (n0 + 3) = some [.str [68, 111, 99], .str [71, 114, 111, 117, 112], .str [84, 101, 97, 109], .str [85, 115, 101, 114]] ∧ Keeps n0 σ s ∧ n0 + 4 ≤ s.n ∧ ∃ x K, s.cells (n0 + 2) = some [x, .nils] ∧ RowP (fun b => n0 + 3 < b) s x (rowc Kd.c K) K.length 3 ∧ KsG n K) 4 ?_ ?_
    · simp only [WU, seval, strs_eq, h4, h5, h6, h7, c0, c1, c3]
      first | done | exact ⟨rfl, hk, by omega, .nils, [], c2, RowP.nil _ _ _, KsG.nil _⟩ | exact ⟨hk, by omega, .nils, [], c2, RowP.nil _ _ _, KsG.nil _⟩
    clear h4 h5 h6 h7 c0 c1 c3 hk hn c2
    rintro n ρ s hn4 ⟨h8, h4, h5, h6, h7, c0, c1, c3, hk, hn, x, K0, c2, hrow, hKG⟩
    by_cases hlt' : (n : Int) < 4
    rotate_left
    · have : n = 4 := by omega
      subst this
      simp only [WU, seval, strs_eq, h8, hlt', h4, h5, h6, h7, c0, c1, c3]
      exact ⟨hk, hn, x, K0, c2, hrow, hKG⟩
    have hltn : n < 4 := by omega
    have hwn : IntKind.i64.wrap ((n : Int) + 1) = ((n + 1 : Nat) : Int) := wrap_succ (by omega)
    have hgn := kN_get hltn
    have hrn : (0 : Int) ≤ (n : Int) ∧ (n : Int) < (4 : Int) := by omega
    rw [wpC_seq]
    refine w_mid (fun ρ s1 => s1 = s ∧ ρ.rd 8 = .int .i64 n ∧ ρ.rd 4 = .ptr n0 0 ∧ ρ.rd 5 = .ptr (n0 + 1) 0 ∧ ρ.rd 6 = .ptr (n0 + 2) 0 ∧ ρ.rd 7 = .sl (n0 + 3) 0 4 (some 4) 1) ?_ ?_
    · simp only [WU, seval, strs_eq, h8, hlt', h4, h5, h6, h7]
    clear h8 h4 h5 h6 h7
    rintro ρ s1 ⟨rfl, h8, h4, h5, h6, h7⟩
    rw [wpC_seq]
    refine w_mid (fun ρ s => ρ.rd 8 = .int .i64 n ∧ ρ.rd 4 = .ptr n0 0 ∧ ρ.rd 5 = .ptr (n0 + 1) 0 ∧ ρ.rd 6 = .ptr (n0 + 2) 0 ∧ ρ.rd 7 = .sl (n0 + 3) 0 4 (some 4) 1 ∧ s.cells n0 = some [.nils, .nils] ∧ s.cells (n0 + 1) = some [slc Kd.c X.kinds, slc Ac.c X.acts] ∧ s.cells (n0 + 3) = some [.str [68, 111, 99], .str [71, 114, 111, 117, 112], .str [84, 101, 97, 109], .str [85, 115, 101, 114]] ∧ Keeps n0 σ s ∧ n0 + 4 ≤ s.n ∧ ∃ x K, s.cells (n0 + 2) = some [x, .nils] ∧ RowP (fun b => n0 + 3 < b) s x (rowc Kd.c K) K.length 3 ∧ KsG (n + 1) K) ?_ ?_
    rotate_left
    · clear h8 h4 h5 h6 h7 c0 c1 c3 hk hn c2 hrow hKG
      rintro ρ s ⟨h8, h4, h5, h6, h7, c0, c1, c3, hk, hn, x, K, c2, hrow, hKG⟩
      simp only [WU, seval, strs_eq, h8, hwn, h4, h5, h6, h7, c0, c1, c3]
      exact ⟨hltn, hk, hn, x, K, c2, hrow, hKG⟩
    simp only [WU, seval, strs_eq]
    refine w_for (fun i ρ s => ρ.rd 9 = .int .i64 i ∧ ρ.rd 8 = .int .i64 n ∧ ρ.rd 4 = .ptr n0 0 ∧ ρ.rd 5 = .ptr (n0 + 1) 0 ∧ ρ.rd 6 = .ptr (n0 + 2) 0 ∧ ρ.rd 7 = .sl (n0 + 3) 0 4 (some 4) 1 ∧ s.cells n0 = some [.nils, .nils] ∧ s.cells (n0 + 1) = some [slc Kd.c X.kinds, slc Ac.c X.acts] ∧ s.cells (n0 + 3) = some [.str [68, 111, 99], .str [71, 114, 111, 117, 112], .str [84, 101, 97, 109], .str [85, 115, 101, 114]] ∧ Keeps n0 σ s ∧ n0 + 4 ≤ s.n ∧ ∃ x K, s.cells (n0 + 2) = some [x, .nils] ∧ RowP (fun b => n0 + 3 < b) s x (rowc Kd.c K) K.length 3 ∧ (K = K0 ∨ ∃ k, K = K0 ++ [k] ∧ k.name = kN n ∧ KdG k)) X.kinds.length ?_ ?_
    · simp only [WU, seval, strs_eq, h8, h4, h5, h6, h7, c0, c1, c3]
      first | done | exact ⟨rfl, hk, hn, x, K0, c2, hrow, .inl rfl⟩ | exact ⟨hk, hn, x, K0, c2, hrow, .inl rfl⟩
    clear h8 h4 h5 h6 h7 c0 c1 c3 hk hn c2 hrow
    rintro i ρ s hi ⟨h9, h8, h4, h5, h6, h7, c0, c1, c3, hk, hn, x, K, c2, hrow, hK⟩
    have hKl : K.length ≤ 5 := by
      have := hKG.len
      rcases hK with rfl | ⟨k, rfl, _⟩
      · omega
      · simp; omega
    simp only [WU, seval, strs_eq, h9, h5, c1]
    refine Br_dec (fun hlti' => ?_) (fun hgei => ?_)
    rotate_left
    · simp only [WU, seval, strs_eq, h8, h4, h5, h6, h7, c0, c1, c3]
      refine ⟨hk, hn, x, K, c2, hrow, ?_⟩
      rcases hK with rfl | ⟨k, rfl, hkn, hkg⟩
      · exact hKG.mono
      · exact hKG.snoc hltn hkn hkg
    have hlti : i < X.kinds.length := by omega
    have hri := lt_idx hlti
    have A := kdAt hlti
    have hwi : IntKind.i64.wrap ((i : Int) + 1) = ((i + 1 : Nat) : Int) := wrap_succ (by have := hX.kl; omega)
    rw [wpC_skip, wpCK_normal, wpC_seq, wpC_block, wpC_seq]
    refine w_mid (fun ρ s => ρ.rd 9 = .int .i64 i ∧ ρ.rd 8 = .int .i64 n ∧ ρ.rd 4 = .ptr n0 0 ∧ ρ.rd 5 = .ptr (n0 + 1) 0 ∧ ρ.rd 6 = .ptr (n0 + 2) 0 ∧ ρ.rd 7 = .sl (n0 + 3) 0 4 (some 4) 1 ∧ s.cells n0 = some [.nils, .nils] ∧ s.cells (n0 + 1) = some [slc Kd.c X.kinds, slc Ac.c X.acts] ∧ s.cells (n0 + 3) = some [.str [68, 111, 99], .str [71, 114, 111, 117, 112], .str [84, 101, 97, 109], .str [85, 115, 101, 114]] ∧ Keeps n0 σ s ∧ n0 + 4 ≤ s.n ∧ s.cells (n0 + 2) = some [x, .nils] ∧ RowP (fun b => n0 + 3 < b) s x (rowc Kd.c K) K.length 3 ∧ ρ.rd 62 = .bool (decide (X.kinds[i].name = kN n ∧ K.length = K0.length))) ?_ ?_
    · simp only [WU, seval, strs_eq]
      refine w_dreg0 follow ?_ rfl
      have d1 : (addSlots s.n 33 s []).cells (n0 + 1) = some [slc Kd.c X.kinds, slc Ac.c X.acts] := c1
      have d2 : (addSlots s.n 33 s []).cells (n0 + 2) = some [x, .nils] := c2
      have d3 : (addSlots s.n 33 s []).cells (n0 + 3) = some [.str [68, 111, 99], .str [71, 114, 111, 117, 112], .str [84, 101, 97, 109], .str [85, 115, 101, 114]] := c3
      have d0 : (addSlots s.n 33 s []).cells n0 = some [.nils, .nils] := c0
      have hrowA := hrow.slots 33
      have hkA := slots_keep (k := 33) (sl := []) hk
      have hnA : n0 + 4 ≤ (addSlots s.n 33 s []).n := by simp only [addSlots]; omega
      generalize addSlots s.n 33 s [] = s3 at *
      by_cases hnm : X.kinds[i].name = kN n
      rotate_left
      · simp only [WU, seval, strs_eq, h9, h8, h4, h5, h6, h7, d0, d1, d2, d3, hri, A.g0, hrn, hgn, hnm]
        exact ⟨hkA, hnA, hrowA, by simp⟩
      by_cases hK0 : K.length = 0
      · have hx : x = .nils ∨ ∃ b cap, x = .sl b 0 0 cap 3 := by
          rcases hrowA.form with h | ⟨b, cap, h⟩
          · exact .inl h
          · exact .inr ⟨b, cap, by rw [h, hK0]⟩
        have z0 : (0 : Int) = 0 := rfl
        have hKe : K.length = K0.length := by
          rcases hK with h | ⟨k, rfl, _⟩
          · rw [h]
          · simp at hK0
        rcases hx with rfl | ⟨b, cap, rfl⟩
        all_goals
          simp only [WU, seval, strs_eq, h9, h8, h4, h5, h6, h7, d0, d1, d2, d3, hri, A.g0, hrn, hgn, hnm, z0]
          exact ⟨hkA, hnA, hrowA, by simp [hKe]⟩
      · obtain ⟨j, hj⟩ : ∃ j, K.length = j + 1 := ⟨K.length - 1, by omega⟩
        have hjl : j < K.length := by omega
        obtain ⟨b, cap, cs, hS⟩ := hrowA.some (by omega)
        have hyS := hS.eq
        have hcc := hS.cells
        have hf0' : ¬ (K.length : Int) = 0 := by omega
        have hwj : IntKind.i64.wrap ((K.length : Int) - 1) = (j : Nat) := by rw [wrap64 (by omega) (by omega)]; omega
        have hrj : (0 : Int) ≤ (j : Nat) ∧ ((j : Nat) : Int) < (K.length : Nat) := by omega
        have hg : cs[j * 3]? = some (.str K[j].name) := (hS.get (o := j * 3) (by omega)).trans (kdAt hjl).g0
        have hdec : decide (K[j].name ≠ kN n) = decide (K.length = K0.length) := by
          rcases hK with rfl | ⟨k, rfl, hkn, _⟩
          · have := hKG.last hltn hK0
            simp only [hj, Nat.add_sub_cancel] at this
            simp [this]
          · simp only [List.length_append, List.length_singleton] at hj
            have e : j = K0.length := by omega
            subst e
            simp [hkn]
        subst hyS
        simp only [WU, seval, strs_eq, h9, h8, h4, h5, h6, h7, d0, d1, d2, d3, hri, A.g0, hrn, hgn, hnm, hf0', hwj, hrj, hcc, hg]
        refine ⟨hkA, hnA, hrowA, ?_⟩
        first | done | simpa using hdec
    clear h9 h8 h4 h5 h6 h7 c0 c1 c3 hk hn c2 hrow
    rintro ρ s ⟨h9, h8, h4, h5, h6, h7, c0, c1, c3, hk, hn, c2, hrow, h62⟩
    by_cases hc : X.kinds[i].name = kN n ∧ K.length = K0.length
    rotate_left
    · simp only [WU, seval, strs_eq, h62, hc, h9, h8, h4, h5, h6, h7, c0, c1, c3, c2, hwi]
      exact ⟨hlti, hk, hn, x, K, rfl, hrow, hK⟩
    have hKe : K = K0 := by
      rcases hK with h | ⟨k, rfl, _⟩
      · exact h
      · have := hc.2; simp at this
    subst hKe
    simp only [WU, seval, strs_eq, h62, hc, h9, h8]
    refine w_dreg follow [] rfl ?_
    have d1 : (addSlots s.n 11 s []).cells (n0 + 1) = some [slc Kd.c X.kinds, slc Ac.c X.acts] := c1
    have d2 : (addSlots s.n 11 s []).cells (n0 + 2) = some [x, .nils] := c2
    have d3 : (addSlots s.n 11 s []).cells (n0 + 3) = some [.str [68, 111, 99], .str [71, 114, 111, 117, 112], .str [84, 101, 97, 109], .str [85, 115, 101, 114]] := c3
    have d0 : (addSlots s.n 11 s []).cells n0 = some [.nils, .nils] := c0
    have hrowA := hrow.slots 11
    have hkA := slots_keep (k := 11) (sl := []) hk
    have hnA : n0 + 4 ≤ (addSlots s.n 11 s []).n := by simp only [addSlots]; omega
    generalize addSlots s.n 11 s [] = s3 at *
    obtain ⟨b9, cap9, s9, happ, hrow9, hn9, hk9⟩ := app_lit (bytes := 64) hrowA (fun b hb => by omega) (new := Kd.c X.kinds[i]) (k := 1) rfl rfl (by omega) (by omega)
    have e1 := (get_cells (hk9 (n0 + 1) (by omega) (by omega))).trans d1
    have e2 := (get_cells (hk9 (n0 + 2) (by omega) (by omega))).trans d2
    have e3 := (get_cells (hk9 (n0 + 3) (by omega) (by omega))).trans d3
    have e0 := (get_cells (hk9 n0 (by omega) (by omega))).trans d0
    have ne1 : ¬ n0 + 1 = s3.n := by omega
    have ne2 : ¬ n0 + 2 = s3.n := by omega
    simp only [Kd.c_eq, strs_eq, slc_eq] at happ
    simp only [WU, seval, strs_eq, DU, h9, h8, h4, h5, h6, h7, d0, d1, d2, d3, hri, A.fit, A.all, strs_eq, fillA, happ, e0, e1, e2, e3, storeA, sets, setx, TS]
    refine ⟨⟨?_, ?_⟩, ?_⟩
    · intro l hl c hc hf
      simp only [List.mem_cons, List.mem_nil_iff, List.not_mem_nil, or_false] at hl hc
      rcases hl with rfl | rfl | rfl <;> rcases hc with rfl | rfl | rfl | rfl <;> dsimp only at hf ⊢ <;> first
        | (exact absurd hf (by decide +kernel))
        | (simp only [WU, seval, strs_eq, h9, h8, h4, h5, h6, h7, d1, d2, e1, e2, ne1, ne2, hri, A.fit, A.all, strs_eq]; done)
    · intro sl hsl; simp at hsl
    · simp only [WU, seval, strs_eq, h9, h8, h4, h5, h6, h7, e0, e1, e2, e3, hwi, Nat.left_eq_add, Nat.add_eq_left]
      refine ⟨hlti, ⟨by rw [put_n]; omega, fun b hb => ?_⟩, by omega, _, K ++ [X.kinds[i]], rfl, ?_, .inr ⟨_, rfl, hc.1, hX.k _ (List.getElem_mem hlti)⟩⟩
      · rw [put_h (by omega), hk9 b (by omega) (by omega), hkA.2 b hb]
      · rw [rowc_append, rowc_one, List.length_append]
        exact hrow9.put (b0 := n0 + 2) (by omega) _
  clear h4 h5 h6 h7 c0 c1 c3 hk hn c2
  rintro ρ s ⟨h4, h5, h6, h7, c0, c1, c3, hk, hn, x, K, c2, hrow, hKG⟩
  generalize hm : s.n = m at *
  have hnm4 : n0 + 4 ≤ m := hn
  have hKl := hKG.len
  rw [wpC_seq]
  refine w_mid (fun ρ s => ρ.rd 4 = .ptr n0 0 ∧ ρ.rd 5 = .ptr (n0 + 1) 0 ∧ ρ.rd 6 = .ptr (n0 + 2) 0 ∧ ρ.rd 7 = .sl (n0 + 3) 0 4 (some 4) 1 ∧ s.cells n0 = some [.nils, .nils] ∧ s.cells (n0 + 1) = some [slc Kd.c X.kinds, slc Ac.c X.acts] ∧ s.cells (n0 + 3) = some [.str [68, 111, 99], .str [71, 114, 111, 117, 112], .str [84, 101, 97, 109], .str [85, 115, 101, 114]] ∧ Keeps n0 σ s ∧ n0 + 4 ≤ s.n ∧ s.cells (n0 + 2) = some [x, .nils] ∧ m ≤ s.n ∧ RowP (fun b => n0 + 3 < b ∧ b < m) s x (rowc Kd.c (K.map (kindG K))) K.length 3) ?_ ?_
  · simp only [WU, seval, strs_eq, h4, h5, h6, h7, c0, c1, c3, hk, hn]
    refine w_for (fun i ρ s => ρ.rd 10 = .int .i64 i ∧ ρ.rd 4 = .ptr n0 0 ∧ ρ.rd 5 = .ptr (n0 + 1) 0 ∧ ρ.rd 6 = .ptr (n0 + 2) 0 ∧ ρ.rd 7 = .sl (n0 + 3) 0 4 (some 4) 1 ∧ s.cells n0 = some [.nils, .nils] ∧ s.cells (n0 + 1) = some [slc Kd.c X.kinds, slc Ac.c X.acts] ∧ s.cells (n0 + 3) = some [.str [68, 111, 99], .str [71, 114, 111, 117, 112], .str [84, 101, 97, 109], .str [85, 115, 101, 114]] ∧ Keeps n0 σ s ∧ n0 + 4 ≤ s.n ∧ s.cells (n0 + 2) = some [x, .nils] ∧ m ≤ s.n ∧ RowP (fun b => n0 + 3 < b ∧ b < m) s x (rowc Kd.c (kMid K i)) K.length 3) K.length ?_ ?_
    · simp only [WU, seval, strs_eq, h4, h5, h6, h7, c0, c1, c3]
      first | done | exact ⟨rfl, hk, by omega, c2, by omega, by simpa [kMid] using hrow.mono fun b hb hb' => ⟨hb, by omega⟩⟩ | exact ⟨hk, by omega, c2, by omega, by simpa [kMid] using hrow.mono fun b hb hb' => ⟨hb, by omega⟩⟩
    clear h4 h5 h6 h7 c0 c1 c3 hk hn c2 hrow hm
    rintro i ρ s hi ⟨h10, h4, h5, h6, h7, c0, c1, c3, hk, hn, c2, hm, hrow⟩
    by_cases hlt : i < K.length
    rotate_left
    · have hi' : i = K.length := by omega
      have q0 : ¬ (i : Int) < 0 := by omega
      have q1 : ¬ (i : Int) < (K.length : Nat) := by omega
      have hkm : kMid K i = K.map (kindG K) := by rw [hi', kMid, List.take_length, List.drop_length, List.append_nil]
      rw [hkm] at hrow
      rcases hrow.form with rfl | ⟨b, cap, rfl⟩
      · simp only [WU, seval, strs_eq, h10, h4, h5, h6, h7, c0, c1, c3, c2, q0]
        exact ⟨hk, hn, hm, hrow⟩
      · simp only [WU, seval, strs_eq, h10, h4, h5, h6, h7, c0, c1, c3, c2, q1]
        exact ⟨hk, hn, hm, hrow⟩
    have hri := lt_idx hlt
    have q1 : (i : Int) < (K.length : Nat) := hri.2
    have hlm : i < (kMid K i).length := by rw [kMid_len K i hi]; exact hlt
    have hwi : IntKind.i64.wrap ((i : Int) + 1) = ((i + 1 : Nat) : Int) := wrap_succ (by omega)
    obtain ⟨b, cap, cs, hS⟩ := hrow.some (by omega)
    have hyS := hS.eq
    subst hyS
    have hob := hS.own
    simp only [WU, seval, strs_eq, h10, h6, c2, q1]
    refine w_dreg follow [] rfl ?_
    have d1 : (addSlots s.n 12 s []).cells (n0 + 1) = some [slc Kd.c X.kinds, slc Ac.c X.acts] := c1
    have d2 : (addSlots s.n 12 s []).cells (n0 + 2) = some [.sl b 0 K.length cap 3, .nils] := c2
    have d3 : (addSlots s.n 12 s []).cells (n0 + 3) = some [.str [68, 111, 99], .str [71, 114, 111, 117, 112], .str [84, 101, 97, 109], .str [85, 115, 101, 114]] := c3
    have d0 : (addSlots s.n 12 s []).cells n0 = some [.nils, .nils] := c0
    have hcc : (addSlots s.n 12 s []).cells b = some cs := hS.cells
    have hrowA := hrow.slots 12
    have hkA := slots_keep (k := 12) (sl := []) hk
    have hnA : n0 + 4 ≤ (addSlots s.n 12 s []).n := by simp only [addSlots]; omega
    have hmA : m ≤ (addSlots s.n 12 s []).n := by simp only [addSlots]; omega
    generalize addSlots s.n 12 s [] = s3 at *
    have hSA : RowS (fun b => n0 + 3 < b ∧ b < m) s3 (.sl b 0 K.length cap 3) (rowc Kd.c (kMid K i)) K.length 3 b cap cs := ⟨rfl, hob, by omega, hcc, hS.seg, hS.fit, hS.capd⟩
    obtain ⟨hfit, hsg⟩ := hSA.row hlt
    rw [(kdAt hlm).all, kMid_get hlt hlm] at hsg
    have hG := hKG.mid i
    have hMost : Most = 9223372036854775807 := rfl
    have hok : (Sc.mk (kMid K i) []).ok := ⟨by show (kMid K i).length ≤ Most; rw [kMid_len K i hi]; omega, by show 0 ≤ Most; omega, fun k hk => (hG k hk).ok, fun a ha => by cases ha⟩
    have hki : K[i] ∈ K := List.getElem_mem hlt
    have hH := kindG_ac (s := ⟨kMid K i, []⟩) (k := K[i]) (σ := s3) (x := .agg [.sl b 0 K.length cap 3, .nils]) (y := .agg [.str K[i].name, strs K[i].parents, slc Fl.c K[i].fields]) hok (hKG.good _ hki)
      (.agg _ _ rfl fun j hj hj' => match j, hj with
        | 0, _ => by
          have := hrowA.self (rowc_pur Kd.pur (kMid K i))
          rw [← kMid_len K i hi] at this ⊢
          exact this
        | 1, _ => .nils _ _)
      (.agg _ _ rfl fun j hj hj' => by exact Kd.pur K[i] _ (List.getElem_mem hj))
    rw [show kindG (Sc.mk (kMid K i) []).kinds K[i] = kindG K K[i] from kindG_congr (hasS_names (kMid_names K i)), strs_eq, slc_eq] at hH
    obtain ⟨hst, hrow'⟩ := store_rowP Kd.c_len hSA (kMid_len K i hi).symm hlm (kindG K K[i]) rfl
    rw [kMid_set hlt] at hrow'
    have sg2 : ∀ a b : AV, seg [a, b] 0 2 = [a, b] := fun _ _ => rfl
    simp only [WU, seval, strs_eq, DU, h10, h4, h5, h6, h7, d0, d1, d2, d3, hcc, hri, hfit, hsg, sg2, strs_eq, slc_eq]
    refine hH.useD ?_
    simp only [WU, seval, strs_eq, DU, h10, h4, h5, h6, h7, d0, d1, d2, d3, hcc, hri, hfit, hsg, sg2, Kd.c_len, hst]
    refine ⟨⟨?_, ?_⟩, ?_⟩
    · intro l hl c hc hf
      simp only [List.mem_cons, List.mem_nil_iff, List.not_mem_nil, or_false] at hl hc
      rcases hl with rfl | rfl | rfl | rfl <;> rcases hc with rfl | rfl | rfl <;> dsimp only at hf ⊢ <;> first
        | (exact absurd hf (by decide +kernel))
        | (simp only [WU, seval, strs_eq, h10, h4, h5, h6, h7, d0, d1, d2, d3, hcc, hri, hfit, hsg, sg2, strs_eq, slc_eq]; done)
    · intro sl hsl; simp at hsl
    · have nb0 : ¬ n0 = b := by omega
      have nb1 : ¬ n0 + 1 = b := by omega
      have nb2 : ¬ n0 + 2 = b := by omega
      have nb3 : ¬ n0 + 3 = b := by omega
      simp only [WU, seval, strs_eq, h10, h4, h5, h6, h7, d0, d1, d2, d3, hwi, nb0, nb1, nb2, nb3]
      exact ⟨hlt, hkA.put (by omega) _, hnA, hmA, hrow'⟩
  clear h4 h5 h6 h7 c0 c1 c3 hk hn c2 hrow hm
  rintro ρ s ⟨h4, h5, h6, h7, c0, c1, c3, hk, hn, c2, hm, hrow⟩
  generalize hKG' : K.map (kindG K) = KG at *
  have hKGl : KG.length = K.length := by rw [← hKG']; simp
  have hhas : hasS KG = hasS K := by rw [← hKG']; exact hasS_names (by rw [List.map_map]; rfl)
  have hKGg : ∀ k ∈ KG, KdG k := by
    have := hKG.mid K.length
    rw [kMid, List.take_length, List.drop_length, List.append_nil, hKG'] at this
    exact this
  rw [← hKGl] at hrow
  generalize hq0 : s.n = q0 at *
  have hmq0 : m ≤ q0 := hm
  simp only [wpC_seq, wpC_skip, wpCK_normal]
  refine w_mid (fun ρ s => ρ.rd 4 = .ptr n0 0 ∧ ρ.rd 5 = .ptr (n0 + 1) 0 ∧ ρ.rd 6 = .ptr (n0 + 2) 0 ∧ ρ.rd 11 = .sl q0 0 3 (some 3) 1 ∧ s.cells n0 = some [.nils, .nils] ∧ s.cells (n0 + 1) = some [slc Kd.c X.kinds, slc Ac.c X.acts] ∧ s.cells q0 = some [.str [111, 119, 110], .str [114, 101, 97, 100], .str [119, 114, 105, 116, 101]] ∧ Keeps n0 σ s ∧ q0 + 1 ≤ s.n ∧ RowP (fun b => n0 + 3 < b ∧ b < m) s x (rowc Kd.c KG) KG.length 3 ∧ s.cells (n0 + 2) = some [x, .nils]) ?_ ?_
  · have nb0 : ¬ n0 = q0 := by omega
    have nb1 : ¬ n0 + 1 = q0 := by omega
    have nb2 : ¬ n0 + 2 = q0 := by omega
    simp only [WU, seval, strs_eq, h4, h5, h6, h7, c0, c1, c2, hq0, fillA, nb0, nb1, nb2]
    exact ⟨hk.push _, hrow.push _⟩
  clear h4 h5 h6 h7 c0 c1 c3 hk hn c2 hrow
  rintro ρ s ⟨h4, h5, h6, h11, c0, c1, c3, hk, hn, hrow, c2⟩
  rw [wpC_seq]
  refine w_mid (fun ρ s => ρ.rd 4 = .ptr n0 0 ∧ ρ.rd 5 = .ptr (n0 + 1) 0 ∧ ρ.rd 6 = .ptr (n0 + 2) 0 ∧ ρ.rd 11 = .sl q0 0 3 (some 3) 1 ∧ s.cells n0 = some [.nils, .nils] ∧ s.cells (n0 + 1) = some [slc Kd.c X.kinds, slc Ac.c X.acts] ∧ s.cells q0 = some [.str [111, 119, 110], .str [114, 101, 97, 100], .str [119, 114, 105, 116, 101]] ∧ Keeps n0 σ s ∧ q0 + 1 ≤ s.n ∧ RowP (fun b => n0 + 3 < b ∧ b < m) s x (rowc Kd.c KG) KG.length 3 ∧ ∃ y A, s.cells (n0 + 2) = some [x, y] ∧ RowP (fun b => q0 < b) s y (rowc Ac.c A) A.length 3 ∧ AsG K 3 A) ?_ ?_
  · simp only [WU, seval, strs_eq, h4, h5, h6, h11, c0, c1, c3]
    refine w_for (fun n ρ s => ρ.rd 12 = .int .i64 n ∧ ρ.rd 4 = .ptr n0 0 ∧ ρ.rd 5 = .ptr (n0 + 1) 0 ∧ ρ.rd 6 = .ptr (n0 + 2) 0 ∧ ρ.rd 11 = .sl q0 0 3 (some 3) 1 ∧ s.cells n0 = some [.nils, .nils] ∧ s.cells (n0 + 1) = some [slc Kd.c X.kinds, slc Ac.c X.acts] ∧ s.cells q0 = some [.str [111, 119, 110], .str [114, 101, 97, 100], .str [119, 114, 105, 116, 101]] ∧ Keeps n0 σ s ∧ q0 + 1 ≤ s.n ∧ RowP (fun b => n0 + 3 < b ∧ b < m) s x (rowc Kd.c KG) KG.length 3 ∧ ∃ y A, s.cells (n0 + 2) = some [x, y] ∧ RowP (fun b => q0 < b) s y (rowc Ac.c A) A.length 3 ∧ AsG K n A) 3 ?_ ?_
    · simp only [WU, seval, strs_eq, h4, h5, h6, h11, c0, c1, c3]
      first | done | exact ⟨rfl, hk, by omega, hrow, .nils, [], c2, RowP.nil _ _ _, AsG.nil _ _⟩ | exact ⟨hk, by omega, hrow, .nils, [], c2, RowP.nil _ _ _, AsG.nil _ _⟩
    clear h4 h5 h6 h11 c0 c1 c3 hk hn hrow c2
    rintro n ρ s hn3 ⟨h12, h4, h5, h6, h11, c0, c1, c3, hk, hn, hrow, y, A0, c2, hrowy, hAG⟩
    by_cases hlt' : (n : Int) < 3
    rotate_left
    · have : n = 3 := by omega
      subst this
      simp only [WU, seval, strs_eq, h12, hlt', h4, h5, h6, h11, c0, c1, c3]
      exact ⟨hk, hn, hrow, y, A0, c2, hrowy, hAG⟩
    have hltn : n < 3 := by omega
    have hwn : IntKind.i64.wrap ((n : Int) + 1) = ((n + 1 : Nat) : Int) := wrap_succ (by omega)
    have hgn := aN_get hltn
    have hrn : (0 : Int) ≤ (n : Int) ∧ (n : Int) < (3 : Int) := by omega
    rw [wpC_seq]
    refine w_mid (fun ρ s1 => s1 = s ∧ ρ.rd 12 = .int .i64 n ∧ ρ.rd 4 = .ptr n0 0 ∧ ρ.rd 5 = .ptr (n0 + 1) 0 ∧ ρ.rd 6 = .ptr (n0 + 2) 0 ∧ ρ.rd 11 = .sl q0 0 3 (some 3) 1) ?_ ?_
    · simp only [WU, seval, strs_eq, h12, hlt', h4, h5, h6, h11]
    clear h12 h4 h5 h6 h11
    rintro ρ s1 ⟨rfl, h12, h4, h5, h6, h11⟩
    rw [wpC_seq]
    refine w_mid (fun ρ s => ρ.rd 12 = .int .i64 n ∧ ρ.rd 4 = .ptr n0 0 ∧ ρ.rd 5 = .ptr (n0 + 1) 0 ∧ ρ.rd 6 = .ptr (n0 + 2) 0 ∧ ρ.rd 11 = .sl q0 0 3 (some 3) 1 ∧ s.cells n0 = some [.nils, .nils] ∧ s.cells (n0 + 1) = some [slc Kd.c X.kinds, slc Ac.c X.acts] ∧ s.cells q0 = some [.str [111, 119, 110], .str [114, 101, 97, 100], .str [119, 114, 105, 116, 101]] ∧ Keeps n0 σ s ∧ q0 + 1 ≤ s.n ∧ RowP (fun b => n0 + 3 < b ∧ b < m) s x (rowc Kd.c KG) KG.length 3 ∧ ∃ y A, s.cells (n0 + 2) = some [x, y] ∧ RowP (fun b => q0 < b) s y (rowc Ac.c A) A.length 3 ∧ AsG K (n + 1) A) ?_ ?_
    rotate_left
    · clear h12 h4 h5 h6 h11 c0 c1 c3 hk hn hrow c2 hrowy hAG
      rintro ρ s ⟨h12, h4, h5, h6, h11, c0, c1, c3, hk, hn, hrow, y, A, c2, hrowy, hAG⟩
      simp only [WU, seval, strs_eq, h12, hwn, h4, h5, h6, h11, c0, c1, c3]
      exact ⟨hltn, hk, hn, hrow, y, A, c2, hrowy, hAG⟩
    simp only [WU, seval, strs_eq]
    refine w_for (fun i ρ s => ρ.rd 13 = .int .i64 i ∧ ρ.rd 12 = .int .i64 n ∧ ρ.rd 4 = .ptr n0 0 ∧ ρ.rd 5 = .ptr (n0 + 1) 0 ∧ ρ.rd 6 = .ptr (n0 + 2) 0 ∧ ρ.rd 11 = .sl q0 0 3 (some 3) 1 ∧ s.cells n0 = some [.nils, .nils] ∧ s.cells (n0 + 1) = some [slc Kd.c X.kinds, slc Ac.c X.acts] ∧ s.cells q0 = some [.str [111, 119, 110], .str [114, 101, 97, 100], .str [119, 114, 105, 116, 101]] ∧ Keeps n0 σ s ∧ q0 + 1 ≤ s.n ∧ RowP (fun b => n0 + 3 < b ∧ b < m) s x (rowc Kd.c KG) KG.length 3 ∧ ∃ y A, s.cells (n0 + 2) = some [x, y] ∧ RowP (fun b => q0 < b) s y (rowc Ac.c A) A.length 3 ∧ (A = A0 ∨ ∃ a, A = A0 ++ [a] ∧ a.name = aN n ∧ AcG a ∧ (a.prins ++ a.ress).all (hasS K) = true)) X.acts.length ?_ ?_
    · simp only [WU, seval, strs_eq, h12, h4, h5, h6, h11, c0, c1, c3]
      first | done | exact ⟨rfl, hk, hn, hrow, y, A0, c2, hrowy, .inl rfl⟩ | exact ⟨hk, hn, hrow, y, A0, c2, hrowy, .inl rfl⟩
    clear h12 h4 h5 h6 h11 c0 c1 c3 hk hn hrow c2 hrowy
    rintro i ρ s hi ⟨h13, h12, h4, h5, h6, h11, c0, c1, c3, hk, hn, hrow, y, A, c2, hrowy, hA⟩
    have hAl : A.length ≤ 4 := by
      have := hAG.len
      rcases hA with rfl | ⟨k, rfl, _⟩
      · omega
      · simp; omega
    simp only [WU, seval, strs_eq, h13, h5, c1]
    refine Br_dec (fun hlti' => ?_) (fun hgei => ?_)
    rotate_left
    · simp only [WU, seval, strs_eq, h12, h4, h5, h6, h11, c0, c1, c3]
      refine ⟨hk, hn, hrow, y, A, c2, hrowy, ?_⟩
      rcases hA with rfl | ⟨k, rfl, hkn, hkg, hkh⟩
      · exact hAG.mono
      · exact hAG.snoc hltn hkn hkg hkh
    have hlti : i < X.acts.length := by omega
    have hri := lt_idx hlti
    have B := acAt hlti
    have hXa := hX.a _ (List.getElem_mem hlti)
    have hwi : IntKind.i64.wrap ((i : Int) + 1) = ((i + 1 : Nat) : Int) := wrap_succ (by have := hX.al; omega)
    generalize hq : s.n = q at *
    have hq0q : q0 + 1 ≤ q := hn
    rw [wpC_skip, wpCK_normal, wpC_seq, wpC_block, wpC_seq]
    refine w_mid (fun ρ s => ρ.rd 13 = .int .i64 i ∧ ρ.rd 12 = .int .i64 n ∧ ρ.rd 4 = .ptr n0 0 ∧ ρ.rd 5 = .ptr (n0 + 1) 0 ∧ ρ.rd 6 = .ptr (n0 + 2) 0 ∧ ρ.rd 11 = .sl q0 0 3 (some 3) 1 ∧ ρ.rd 14 = .ptr q 0 ∧ s.cells n0 = some [.nils, .nils] ∧ s.cells (n0 + 1) = some [slc Kd.c X.kinds, slc Ac.c X.acts] ∧ s.cells q0 = some [.str [111, 119, 110], .str [114, 101, 97, 100], .str [119, 114, 105, 116, 101]] ∧ Keeps n0 σ s ∧ q0 + 1 ≤ s.n ∧ RowP (fun b => n0 + 3 < b ∧ b < m) s x (rowc Kd.c KG) KG.length 3 ∧ s.cells (n0 + 2) = some [x, y] ∧ RowP (fun b => q0 < b ∧ b < q) s y (rowc Ac.c A) A.length 3 ∧ q < s.n ∧ s.cells q = some X.acts[i].c) ?_ ?_
    · have nb0 : ¬ n0 = q := by omega
      have nb1 : ¬ n0 + 1 = q := by omega
      have nb2 : ¬ n0 + 2 = q := by omega
      have nb3 : ¬ q0 = q := by omega
      simp only [WU, seval, strs_eq, h13, h12, h4, h5, h6, h11, c0, c1, c2, c3, hri, B.fit, B.all, hq, storeA, sets, setx, TS, nb0, nb1, nb2, nb3]
      exact ⟨(hk.push _).put (by omega) _, by omega, (hrow.push _).put (by omega) _, (RowP.push (hrowy.mono (q := fun b => q0 < b ∧ b < q) fun b hb hb' => ⟨hb, by omega⟩) _).put (by omega) _, by omega, rfl⟩
    clear h13 h12 h4 h5 h6 h11 c0 c1 c3 hk hn hrow c2 hrowy hq
    rintro ρ s ⟨h13, h12, h4, h5, h6, h11, h14, c0, c1, c3, hk, hn, hrow, c2, hrowy, hnq, cq⟩
    rw [wpC_seq]
    simp only [Ac.c_eq] at cq
    refine w_mid (fun ρ s => ρ.rd 13 = .int .i64 i ∧ ρ.rd 12 = .int .i64 n ∧ ρ.rd 4 = .ptr n0 0 ∧ ρ.rd 5 = .ptr (n0 + 1) 0 ∧ ρ.rd 6 = .ptr (n0 + 2) 0 ∧ ρ.rd 11 = .sl q0 0 3 (some 3) 1 ∧ ρ.rd 14 = .ptr q 0 ∧ s.cells n0 = some [.nils, .nils] ∧ s.cells (n0 + 1) = some [slc Kd.c X.kinds, slc Ac.c X.acts] ∧ s.cells q0 = some [.str [111, 119, 110], .str [114, 101, 97, 100], .str [119, 114, 105, 116, 101]] ∧ Keeps n0 σ s ∧ q0 + 1 ≤ s.n ∧ RowP (fun b => n0 + 3 < b ∧ b < m) s x (rowc Kd.c KG) KG.length 3 ∧ s.cells (n0 + 2) = some [x, y] ∧ RowP (fun b => q0 < b ∧ b < q) s y (rowc Ac.c A) A.length 3 ∧ q < s.n ∧ s.cells q = some [.str X.acts[i].name, strs X.acts[i].prins, strs X.acts[i].ress] ∧ X.acts[i].name = aN n ∧ A = A0) ?_ ?_
    · rw [wpC_seq]
      refine w_mid (fun ρ s => ρ.rd 13 = .int .i64 i ∧ ρ.rd 12 = .int .i64 n ∧ ρ.rd 4 = .ptr n0 0 ∧ ρ.rd 5 = .ptr (n0 + 1) 0 ∧ ρ.rd 6 = .ptr (n0 + 2) 0 ∧ ρ.rd 11 = .sl q0 0 3 (some 3) 1 ∧ ρ.rd 14 = .ptr q 0 ∧ s.cells n0 = some [.nils, .nils] ∧ s.cells (n0 + 1) = some [slc Kd.c X.kinds, slc Ac.c X.acts] ∧ s.cells q0 = some [.str [111, 119, 110], .str [114, 101, 97, 100], .str [119, 114, 105, 116, 101]] ∧ Keeps n0 σ s ∧ q0 + 1 ≤ s.n ∧ RowP (fun b => n0 + 3 < b ∧ b < m) s x (rowc Kd.c KG) KG.length 3 ∧ s.cells (n0 + 2) = some [x, y] ∧ RowP (fun b => q0 < b ∧ b < q) s y (rowc Ac.c A) A.length 3 ∧ q < s.n ∧ s.cells q = some [.str X.acts[i].name, strs X.acts[i].prins, strs X.acts[i].ress] ∧ ρ.rd 136 = .bool (decide (¬ (X.acts[i].name = aN n ∧ A.length = A0.length)))) ?_ ?_
      · simp only [WU, seval, strs_eq]
        refine w_dreg0 follow ?_ rfl
        have d0 : (addSlots s.n 29 s []).cells n0 = some [.nils, .nils] := c0
        have d1 : (addSlots s.n 29 s []).cells (n0 + 1) = some [slc Kd.c X.kinds, slc Ac.c X.acts] := c1
        have d2 : (addSlots s.n 29 s []).cells (n0 + 2) = some [x, y] := c2
        have d3 : (addSlots s.n 29 s []).cells q0 = some [.str [111, 119, 110], .str [114, 101, 97, 100], .str [119, 114, 105, 116, 101]] := c3
        have dq : (addSlots s.n 29 s []).cells q = some [.str X.acts[i].name, strs X.acts[i].prins, strs X.acts[i].ress] := cq
        have hrowA := hrow.slots 29
        have hrowyA := hrowy.slots 29
        have hkA := slots_keep (k := 29) (sl := []) hk
        have hnA : q < (addSlots s.n 29 s []).n := by simp only [addSlots]; omega
        generalize addSlots s.n 29 s [] = s3 at *
        by_cases hnm : X.acts[i].name = aN n
        rotate_left
        · simp only [WU, seval, strs_eq, h13, h12, h4, h5, h6, h11, h14, d0, d1, d2, d3, dq, hri, hrn, hgn, hnm]
          exact ⟨hkA, by omega, hrowA, hrowyA, hnA, by simp⟩
        by_cases hA0 : A.length = 0
        · have hx : y = .nils ∨ ∃ b cap, y = .sl b 0 0 cap 3 := by
            rcases hrowyA.form with h | ⟨b, cap, h⟩
            · exact .inl h
            · exact .inr ⟨b, cap, by rw [h, hA0]⟩
          have z0 : (0 : Int) = 0 := rfl
          have hAe : A.length = A0.length := by
            rcases hA with h | ⟨k, rfl, _⟩
            · rw [h]
            · simp at hA0
          rcases hx with rfl | ⟨b, cap, rfl⟩
          all_goals
            simp only [WU, seval, strs_eq, h13, h12, h4, h5, h6, h11, h14, d0, d1, d2, d3, dq, hri, hrn, hgn, hnm, z0]
            exact ⟨hkA, by omega, hrowA, hrowyA, hnA, by simp [hAe]⟩
        · obtain ⟨j, hj⟩ : ∃ j, A.length = j + 1 := ⟨A.length - 1, by omega⟩
          have hjl : j < A.length := by omega
          obtain ⟨b, cap, cs, hS⟩ := hrowyA.some (by omega)
          have hyS := hS.eq
          have hcc := hS.cells
          have hf0' : (0 : Int) < (A.length : Int) := by omega
          have hwj : IntKind.i64.wrap ((A.length : Int) - 1) = (j : Nat) := by rw [wrap64 (by omega) (by omega)]; omega
          have hrj : (0 : Int) ≤ (j : Nat) ∧ ((j : Nat) : Int) < (A.length : Nat) := by omega
          have hg : cs[j * 3]? = some (.str A[j].name) := (hS.get (o := j * 3) (by omega)).trans (acAt hjl).g0
          have hdec : decide (A[j].name = aN n) = decide (¬ A.length = A0.length) := by
            rcases hA with rfl | ⟨k, rfl, hkn, _⟩
            · have := hAG.last hltn hA0
              simp only [hj, Nat.add_sub_cancel] at this
              simp [this]
            · simp only [List.length_append, List.length_singleton] at hj
              have e : j = A0.length := by omega
              subst e
              simp [hkn]
          subst hyS
          simp only [WU, seval, strs_eq, h13, h12, h4, h5, h6, h11, h14, d0, d1, d2, d3, dq, hri, hrn, hgn, hnm, hf0', hwj, hrj, hcc, hg]
          refine ⟨hkA, by omega, hrowA, hrowyA, hnA, ?_⟩
          first | done | simpa using hdec
      clear h13 h12 h4 h5 h6 h11 h14 c0 c1 c3 hk hn hrow c2 hrowy hnq cq
      rintro ρ s ⟨h13, h12, h4, h5, h6, h11, h14, c0, c1, c3, hk, hn, hrow, c2, hrowy, hnq, cq, h136⟩
      by_cases hc : X.acts[i].name = aN n ∧ A.length = A0.length
      rotate_left
      · simp only [WU, seval, strs_eq, h136, hc, h13, h12, h4, h5, h6, h11, h14, c0, c1, c2, c3, hwi]
        exact ⟨hlti, hk, by omega, hrow, y, A, rfl, hrowy.mono fun b hb _ => hb.1, hA⟩
      have hAe : A = A0 := by
        rcases hA with h | ⟨k, rfl, _⟩
        · exact h
        · have := hc.2; simp at this
      have h136' : ρ.rd 136 = .bool false := by rw [h136]; simp [hc]
      simp only [WU, seval, strs_eq, h136', h13, h12, h4, h5, h6, h11, h14, c0, c1, c2, c3]
      exact ⟨hk, hn, hrow, hrowy, hnq, by simpa only [strs_eq] using cq, hc.1, hAe⟩
    clear h13 h12 h4 h5 h6 h11 h14 c0 c1 c3 hk hn hrow c2 hrowy hnq cq
    rintro ρ s ⟨h13, h12, h4, h5, h6, h11, h14, c0, c1, c3, hk, hn, hrow, c2, hrowy, hnq, cq, hname, hAe⟩
    subst hAe
    rw [wpC_seq]
    refine w_mid (fun ρ s => ρ.rd 13 = .int .i64 i ∧ ρ.rd 12 = .int .i64 n ∧ ρ.rd 4 = .ptr n0 0 ∧ ρ.rd 5 = .ptr (n0 + 1) 0 ∧ ρ.rd 6 = .ptr (n0 + 2) 0 ∧ ρ.rd 11 = .sl q0 0 3 (some 3) 1 ∧ ρ.rd 14 = .ptr q 0 ∧ s.cells n0 = some [.nils, .nils] ∧ s.cells (n0 + 1) = some [slc Kd.c X.kinds, slc Ac.c X.acts] ∧ s.cells q0 = some [.str [111, 119, 110], .str [114, 101, 97, 100], .str [119, 114, 105, 116, 101]] ∧ Keeps n0 σ s ∧ q0 + 1 ≤ s.n ∧ RowP (fun b => n0 + 3 < b ∧ b < m) s x (rowc Kd.c KG) KG.length 3 ∧ s.cells (n0 + 2) = some [x, y] ∧ RowP (fun b => q0 < b ∧ b < q) s y (rowc Ac.c A) A.length 3 ∧ q < s.n ∧ s.cells q = some (Ac.c ⟨X.acts[i].name, thoseS KG X.acts[i].prins, thoseS KG X.acts[i].ress⟩)) ?_ ?_
    · simp only [WU, seval, strs_eq]
      refine w_dreg follow [] rfl ?_
      have d0 : (addSlots s.n 12 s []).cells n0 = some [.nils, .nils] := c0
      have d1 : (addSlots s.n 12 s []).cells (n0 + 1) = some [slc Kd.c X.kinds, slc Ac.c X.acts] := c1
      have d2 : (addSlots s.n 12 s []).cells (n0 + 2) = some [x, y] := c2
      have d3 : (addSlots s.n 12 s []).cells q0 = some [.str [111, 119, 110], .str [114, 101, 97, 100], .str [119, 114, 105, 116, 101]] := c3
      have dq : (addSlots s.n 12 s []).cells q = some [.str X.acts[i].name, strs X.acts[i].prins, strs X.acts[i].ress] := cq
      have hrowA := hrow.slots 12
      have hrowyA := hrowy.slots 12
      have hkA := slots_keep (k := 12) (sl := []) hk
      have hnA : q < (addSlots s.n 12 s []).n := by simp only [addSlots]; omega
      generalize addSlots s.n 12 s [] = s3 at *
      have hMost : Most = 9223372036854775807 := rfl
      have hok : (Sc.mk KG A).ok := ⟨by show KG.length ≤ Most; omega, by show A.length ≤ Most; omega, fun k hk => (hKGg k hk).ok, fun a ha => (hAG.good a ha).1.ok⟩
      have hpx : Pur s3 true (.agg [x, y]) (.agg (Sc.c ⟨KG, A⟩)) := .agg _ _ rfl fun j hj hj' => match j, hj with
        | 0, _ => hrowA.self (rowc_pur Kd.pur KG)
        | 1, _ => hrowyA.self (rowc_pur Ac.pur A)
      have hl1 := hXa.pl
      have hl2 := hXa.rl
      have hH1 := those_ac (l := X.acts[i].prins) hok (by omega) hpx (strs_pur _)
      have hH2 := those_ac (l := X.acts[i].ress) hok (by omega) hpx (strs_pur _)
      have sg2 : ∀ a b : AV, seg [a, b] 0 2 = [a, b] := fun _ _ => rfl
      rw [strs_eq] at hH1 hH2
      simp only [WU, seval, strs_eq, DU, h13, h12, h4, h5, h6, h11, h14, d0, d1, d2, d3, dq, sg2, strs_eq]
      refine hH1.useD ?_
      simp only [WU, seval, strs_eq, DU, h13, h12, h4, h5, h6, h11, h14, d0, d1, d2, d3, dq, sg2, strs_eq]
      refine hH2.useD ?_
      simp only [WU, seval, strs_eq, DU, h13, h12, h4, h5, h6, h11, h14, d0, d1, d2, d3, dq, sg2, strs_eq, storeA, sets, setx, TS]
      refine ⟨⟨?_, ?_⟩, ?_⟩
      · intro l hl c hc hf
        simp only [List.mem_cons, List.mem_nil_iff, List.not_mem_nil, or_false] at hl hc
        rcases hl with rfl | rfl | rfl | rfl <;> rcases hc with rfl | rfl | rfl | rfl | rfl <;> dsimp only at hf ⊢ <;> first
          | (exact absurd hf (by decide +kernel))
          | (simp only [WU, seval, strs_eq, h13, h12, h4, h5, h6, h11, h14, d0, d1, d2, d3, dq, sg2, strs_eq]; done)
      · intro sl hsl; simp at hsl
      · have nb0 : ¬ n0 = q := by omega
        have nb1 : ¬ n0 + 1 = q := by omega
        have nb2 : ¬ n0 + 2 = q := by omega
        have nb3 : ¬ q0 = q := by omega
        simp only [WU, seval, strs_eq, h13, h12, h4, h5, h6, h11, h14, d0, d1, d2, d3, nb0, nb1, nb2, nb3]
        exact ⟨(hkA.put (by omega) _).put (by omega) _, by omega, (hrowA.put (by omega) _).put (by omega) _, (hrowyA.put (by omega) _).put (by omega) _, hnA, rfl⟩
    clear h13 h12 h4 h5 h6 h11 h14 c0 c1 c3 hk hn hrow c2 hrowy hnq cq
    rintro ρ s ⟨h13, h12, h4, h5, h6, h11, h14, c0, c1, c3, hk, hn, hrow, c2, hrowy, hnq, cq⟩
    simp only [Ac.c_eq] at cq
    have hl1 := thoseS_len KG X.acts[i].prins
    have hl2 := thoseS_len KG X.acts[i].ress
    have hl3 := hXa.pl
    have hl4 := hXa.rl
    have hall : (thoseS KG X.acts[i].prins ++ thoseS KG X.acts[i].ress).all (hasS K) = true := by rw [← hhas]; simp [thoseS]
    generalize thoseS KG X.acts[i].prins = ps at *
    generalize thoseS KG X.acts[i].ress = rs at *
    by_cases hp0 : (0 : Int) < (ps.length : Nat)
    rotate_left
    · simp only [WU, seval, strs_eq, h13, h12, h4, h5, h6, h11, h14, cq, hp0, c0, c1, c2, c3, hwi]
      exact ⟨hlti, hk, by omega, hrow, y, A, rfl, hrowy.mono fun b hb _ => hb.1, .inl rfl⟩
    by_cases hr0 : (0 : Int) < (rs.length : Nat)
    rotate_left
    · simp only [WU, seval, strs_eq, h13, h12, h4, h5, h6, h11, h14, cq, hp0, hr0, c0, c1, c2, c3, hwi]
      exact ⟨hlti, hk, by omega, hrow, y, A, rfl, hrowy.mono fun b hb _ => hb.1, .inl rfl⟩
    obtain ⟨b9, cap9, s9, happ, hrow9, hn9, hk9⟩ := app_lit (bytes := 64) (hrowy.mono (q := fun b => q0 < b) fun b hb _ => hb.1) (fun b hb => by omega) (new := Ac.c ⟨X.acts[i].name, ps, rs⟩) (k := 1) rfl rfl (by omega) (by omega)
    have e0 := (get_cells (hk9 n0 (by omega) (by omega))).trans c0
    have e1 := (get_cells (hk9 (n0 + 1) (by omega) (by omega))).trans c1
    have e2 := (get_cells (hk9 (n0 + 2) (by omega) (by omega))).trans c2
    have e3 := (get_cells (hk9 q0 (by omega) (by omega))).trans c3
    have hrow9' : RowP (fun b => n0 + 3 < b ∧ b < m) s9 x (rowc Kd.c KG) KG.length 3 := hrow.keep (by omega) fun b hb hb' => get_cells (hk9 b hb (by omega))
    simp only [Ac.c_eq, strs_eq] at happ
    have sg3 : ∀ a b c : AV, seg [a, b, c] 0 3 = [a, b, c] := fun _ _ _ => rfl
    have nb0 : ¬ n0 = n0 + 2 := by omega
    have nb3 : ¬ q0 = n0 + 2 := by omega
    simp only [WU, seval, strs_eq, h13, h12, h4, h5, h6, h11, h14, cq, hp0, hr0, c0, c1, c2, c3, hwi, strs_eq, sg3, fillA, happ, e0, e1, e2, e3, storeA, sets, setx, TS, Nat.left_eq_add, Nat.add_eq_left, nb3]
    refine ⟨hlti, ⟨by rw [put_n]; omega, fun b hb => ?_⟩, by omega, hrow9'.put (by omega) _, _, A ++ [⟨X.acts[i].name, ps, rs⟩], rfl, ?_, .inr ⟨_, rfl, hname, ⟨hXa.nl, ⟨by show 1 ≤ ps.length; omega, by show ps.length ≤ 4; omega⟩, ⟨by show 1 ≤ rs.length; omega, by show rs.length ≤ 4; omega⟩⟩, hall⟩⟩
    · rw [put_h (by omega), hk9 b (by omega) (by omega), hk.2 b hb]
    · rw [rowc_append, rowc_one, List.length_append]
      exact hrow9.put (b0 := n0 + 2) (by omega) _
  clear h4 h5 h6 h11 c0 c1 c3 hk hn hrow c2
  rintro ρ s ⟨h4, h5, h6, h11, c0, c1, c3, hk, hn, hrow, y, A, c2, hrowy, hAG⟩
  have sg2 : ∀ a b : AV, seg [a, b] 0 2 = [a, b] := fun _ _ => rfl
  have hxy : x.one = true ∧ y.one = true := by
    constructor
    · rcases hrow.form with rfl | ⟨_, _, rfl⟩ <;> rfl
    · rcases hrowy.form with rfl | ⟨_, _, rfl⟩ <;> rfl
  simp only [WU, seval, strs_eq, h4, h5, h6, h11, c0, c2, sg2, hxy, storeA, sets, setx, TS]
  refine ⟨hk.put (Nat.le_refl _) _, q0, ⟨KG, A⟩, x, y, rfl, by omega, by omega, (hrow.put (by omega) _).mono fun b hb _ => by omega, (hrowy.put (by omega) _).mono fun b hb _ => by omega, ?_⟩
  rw [← hKG']
  exact scN_of hKG hAG
end Go.Proofs.Ytcdbpmmomgehfaa.Va
