/- The law RaftRefuses. Conditions: none. -/
import Derived.Test.YthojhpjjkfjeiaaRf3
set_option maxRecDepth 100000
set_option maxHeartbeats 4000000
set_option linter.all false
namespace Go.Proofs.Ythojhpjjkfjeiaa.Va
open Go.Proofs
theorem within19_ac {n k : Int} {σ : AState} (hk : 0 < k) (hk' : k < 4611686018427387904) : AC Try.prog 8 [.int .i64 n, .int .i64 k] σ fun v s' => s' = σ ∧ v = .int .i64 (wi n k) :=
  (within_ac (P := Try.prog) fn8 cf8 cl8 (x := n) (σ := σ) hk hk').mono fun _ _ h => ⟨h.2, h.1⟩
def ok0 (id : Int) (l : List Int) : Bool := decide (0 ≤ id) && (decide (id < 7) && (decide ((1 : Int) ≤ l.length) && decide ((l.length : Int) ≤ 7)))
theorem ok_may (id : Int) (l : List Int) : (ok0 id l && okUp l l.length) = mayS id l := by
  unfold ok0 mayS
  cases hv : validS l with
  | true =>
    obtain ⟨h1, h2⟩ := valid_few hv
    unfold validS at hv
    simp only [Bool.and_eq_true] at hv
    rw [hv.1, decide_eq_true (show (1 : Int) ≤ l.length by omega), decide_eq_true (show (l.length : Int) ≤ 7 by omega)]
    simp
  | false =>
    unfold validS at hv
    cases hu : okUp l l.length with
    | false => simp
    | true =>
      rw [hu, Bool.true_and] at hv
      have : ¬ (1 : Int) ≤ l.length := by have := of_decide_eq_false hv; omega
      rw [decide_eq_false this]; simp
theorem raftRefuses_ac {id : Int} {l : List Int} {size at_ : Int} : AC Try.prog 5 [.int .i64 id, .psl (ofInts l) 0 l.length, .int .i64 size, .int .i64 at_] st0 fun v _ => v = .bool true := by
  refine ac_wp fn5 cf5 cl5 rfl ?_
  simp only [ac5]
  unfold ab5
  simp only [wpC_seq, wpC_skip, wpCK_normal]
  refine w_mid (fun ρ s => ρ.rd 0 = .int .i64 id ∧ ρ.rd 1 = .psl (ofInts l) 0 l.length ∧ ρ.rd 2 = .int .i64 size ∧ ρ.rd 3 = .int .i64 at_) ?_ ?_
  · simp only [WU, seval]
  rintro ρ s ⟨h0, h1, h2, h3⟩
  rw [wpC_seq]
  refine w_mid (fun ρ s => ρ.rd 0 = .int .i64 id ∧ ρ.rd 1 = .psl (ofInts l) 0 l.length ∧ ρ.rd 2 = .int .i64 size ∧ ρ.rd 3 = .int .i64 at_) ?_ ?_
  · simp only [WU, seval, h0, h1, h2, h3]
    refine known19_ac.use ?_
    simp only [WU, seval, h0, h1, h2, h3]
  clear h0 h1 h2 h3
  rintro ρ s ⟨h0, h1, h2, h3⟩
  rw [wpC_seq]
  by_cases g20 : (20 : Int) < ((l.length : Nat) : Int)
  · simp only [WU, seval, h0, h1, h2, h3, g20]
  refine w_mid (fun ρ s => ρ.rd 0 = .int .i64 id ∧ ρ.rd 1 = .psl (ofInts l) 0 l.length ∧ ρ.rd 2 = .int .i64 size ∧ ρ.rd 3 = .int .i64 at_) ?_ ?_
  · simp only [WU, seval, h0, h1, h2, h3, g20]
  clear h0 h1 h2 h3
  rintro ρ s ⟨h0, h1, h2, h3⟩
  rw [wpC_seq]
  have hmay := ok_may id l
  refine w_mid (fun ρ s => ρ.rd 0 = .int .i64 id ∧ ρ.rd 1 = .psl (ofInts l) 0 l.length ∧ ρ.rd 2 = .int .i64 size ∧ ρ.rd 3 = .int .i64 at_ ∧ if mayS id l = true then ∃ b, ρ.rd 9 = .ptr b 0 ∧ ρ.rd 10 = .int .i64 0 else ρ.rd 9 = .nilp ∧ ρ.rd 10 = .int .i64 1) ?_ ?_
  · simp only [WU, seval, h0, h1, h2, h3]
    refine (newF_ac (by omega)).mono fun v s' h => ?_
    cases hm : mayS id l with
    | true =>
      rw [hm, if_pos rfl] at h
      obtain ⟨b, rfl⟩ := h
      simp only [WU, seval, h0, h1, h2, h3]
      exact ⟨_, rfl⟩
    | false =>
      rw [hm, if_neg (by decide)] at h
      subst h
      simp only [WU, seval, h0, h1, h2, h3]
  clear h0 h1 h2 h3
  rintro ρ s ⟨h0, h1, h2, h3, hx⟩
  rw [wpC_seq]
  refine w_mid (fun ρ s => ρ.rd 0 = .int .i64 id ∧ ρ.rd 1 = .psl (ofInts l) 0 l.length ∧ ρ.rd 2 = .int .i64 size ∧ ρ.rd 3 = .int .i64 at_ ∧ (if mayS id l = true then ∃ b, ρ.rd 9 = .ptr b 0 ∧ ρ.rd 10 = .int .i64 0 else ρ.rd 9 = .nilp ∧ ρ.rd 10 = .int .i64 1) ∧ ρ.rd 11 = .bool (ok0 id l)) ?_ ?_
  · have h9 : ρ.rd 9 = ρ.rd 9 := rfl
    generalize hv9 : ρ.rd 9 = v9 at hx h9
    generalize hv10 : ρ.rd 10 = v10 at hx
    unfold ok0
    by_cases c1 : 0 ≤ id
    · by_cases c2 : id < 7
      · by_cases c3 : (1 : Int) ≤ ((l.length : Nat) : Int)
        · by_cases c4 : ((l.length : Nat) : Int) ≤ 7
          · simp only [WU, seval, h0, h1, h2, h3, c1, c2, c3, c4, hv9, hv10]
            first | exact hx | exact ⟨hx, rfl⟩
          · simp only [WU, seval, h0, h1, h2, h3, c1, c2, c3, c4, hv9, hv10]
            first | exact hx | exact ⟨hx, rfl⟩
        · simp only [WU, seval, h0, h1, h2, h3, c1, c2, c3, hv9, hv10]
          first | exact hx | exact ⟨hx, rfl⟩
      · simp only [WU, seval, h0, h1, h2, h3, c1, c2, hv9, hv10]
        first | exact hx | exact ⟨hx, rfl⟩
    · simp only [WU, seval, h0, h1, h2, h3, c1, hv9, hv10]
      first | exact hx | exact ⟨hx, rfl⟩
  clear h0 h1 h2 h3 hx
  rintro ρ s ⟨h0, h1, h2, h3, hx, h11⟩
  rw [wpC_seq]
  refine w_mid (fun ρ s => ρ.rd 2 = .int .i64 size ∧ ρ.rd 3 = .int .i64 at_ ∧ (if mayS id l = true then ∃ b, ρ.rd 9 = .ptr b 0 ∧ ρ.rd 10 = .int .i64 0 else ρ.rd 9 = .nilp ∧ ρ.rd 10 = .int .i64 1) ∧ ρ.rd 11 = .bool (mayS id l)) ?_ ?_
  · generalize hv9 : ρ.rd 9 = v9 at hx
    generalize hv10 : ρ.rd 10 = v10 at hx
    simp only [WU, seval, h0, h1, h2, h3, h11]
    refine w_for (fun i ρ s => ρ.rd 12 = .int .i64 i ∧ ρ.rd 0 = .int .i64 id ∧ ρ.rd 1 = .psl (ofInts l) 0 l.length ∧ ρ.rd 2 = .int .i64 size ∧ ρ.rd 3 = .int .i64 at_ ∧ ρ.rd 9 = v9 ∧ ρ.rd 10 = v10 ∧ ρ.rd 11 = .bool (ok0 id l && okUp l i)) l.length ?_ ?_
    · simp only [WU, seval, h0, h1, h2, h3, h11, hv9, hv10]
      first | done | simp [okUp]
    clear h0 h1 h2 h3 h11 hv9 hv10
    rintro i ρ s hi ⟨h12, h0, h1, h2, h3, hv9, hv10, h11⟩
    by_cases hlt : i < l.length
    rotate_left
    · have : i = l.length := by omega
      subst this
      have hge : ¬ ((l.length : Nat) : Int) < ((l.length : Nat) : Int) := by omega
      rw [hmay] at h11
      simp only [WU, seval, h12, h0, h1, h2, h3, hge, hv9, hv10, h11]
      exact hx
    have hr := lt_idx hlt
    have hlt' := hr.2
    have hw : IntKind.i64.wrap ((i : Int) + 1) = ((i + 1 : Nat) : Int) := wrap_succ (by omega)
    have hg := mAt_get hlt
    have hnext : (ok0 id l && okUp l (i + 1)) = ((ok0 id l && okUp l i) && okAt l i) := by rw [okUp, Bool.and_assoc]
    rw [hnext]
    generalize (ok0 id l && okUp l i) = o at *
    simp only [WU, seval, h12, h0, h1, h2, h3, hlt']
    refine w_dreg0 follow ?_ rfl
    unfold okAt
    cases o with
    | false =>
      simp only [WU, seval, h12, h0, h1, h2, h3, h11, hv9, hv10, hw]
      first | exact hlt | exact ⟨hlt, rfl⟩
    | true =>
    by_cases g1 : 0 ≤ mAt l i
    rotate_left
    · simp only [WU, seval, h12, h0, h1, h2, h3, h11, hv9, hv10, hr, hg, g1, hw]
      first | exact hlt | exact ⟨hlt, rfl⟩
    by_cases g2 : mAt l i < 7
    rotate_left
    · simp only [WU, seval, h12, h0, h1, h2, h3, h11, hv9, hv10, hr, hg, g1, g2, hw]
      first | exact hlt | exact ⟨hlt, rfl⟩
    by_cases g3 : i = 0
    · have g3' : ((i : Nat) : Int) = 0 := by omega
      simp only [WU, seval, h12, h0, h1, h2, h3, h11, hv9, hv10, hr, hg, g1, g2, decide_eq_true g3', decide_eq_true g3, hw]
      first | exact hlt | exact ⟨hlt, rfl⟩
    · have g3' : ¬ ((i : Nat) : Int) = 0 := by omega
      have hp := wrap_pred (i := i) (by omega) (by omega)
      have hg2 := mAt_get (l := l) (i := i - 1) (by omega)
      have hr2 : (0 : Int) ≤ ((i - 1 : Nat) : Int) ∧ ((i - 1 : Nat) : Int) < ((l.length : Nat) : Int) := by omega
      by_cases g4 : mAt l (i - 1) < mAt l i
      · simp only [WU, seval, h12, h0, h1, h2, h3, h11, hv9, hv10, hr, hg, g1, g2, g3', hp, hg2, hr2, g4, hw]
        first | exact hlt | exact ⟨hlt, rfl⟩ | exact ⟨hlt, by simp⟩
      · simp only [WU, seval, h12, h0, h1, h2, h3, h11, hv9, hv10, hr, hg, g1, g2, g3', hp, hg2, hr2, g4, hw]
        first | exact hlt | exact ⟨hlt, rfl⟩ | exact ⟨hlt, by simp [g3]⟩
  clear h0 h1 h2 h3 hx h11
  rintro ρ s ⟨h2, h3, hx, h11⟩
  rw [wpC_seq]
  refine w_mid (fun ρ s => ρ.rd 2 = .int .i64 size ∧ ρ.rd 3 = .int .i64 at_) ?_ ?_
  · cases hm : mayS id l with
    | true =>
      rw [hm, if_pos rfl] at hx
      obtain ⟨b, h9, h10⟩ := hx
      rw [hm] at h11
      simp only [WU, seval, h2, h3, h9, h10, h11, evalEq, beq_self_eq_true, Bool.not_true, Bool.not_false]
    | false =>
      rw [hm, if_neg (by decide)] at hx
      obtain ⟨h9, h10⟩ := hx
      rw [hm] at h11
      simp only [WU, seval, h2, h3, h9, h10, h11, evalEq, beq_self_eq_true, Bool.not_true, Bool.not_false]
  clear h2 h3 hx h11
  rintro ρ s ⟨h2, h3⟩
  rw [wpC_seq]
  refine w_mid (fun ρ s => ρ.rd 2 = .int .i64 size ∧ ρ.rd 3 = .int .i64 at_ ∧ ∃ b r, ρ.rd 13 = .ptr b 0 ∧ YAt s b r) ?_ ?_
  · have hcq : (s.push (.cells (ofInts [0, 1, 2]))).cells s.n = some (ofInts [0, 1, 2]) := push_cells _ _
    have hN := newO_ac (id := 1) (l := [0, 1, 2]) (q := s.n) (cap := some 3) (σ := s.push (.cells (ofInts [0, 1, 2]))) (by decide) hcq (Nat.lt_succ_self _) (by decide)
    simp only [WU, seval, h2, h3]
    refine hN.mono ?_
    rintro v s' ⟨b, r, rfl, e1, e2, e3, e4, e5, e6⟩
    simp only [WU, seval, h2, h3]
    exact ⟨b, r, rfl, ⟨e1, e2, by omega, e5, by omega⟩⟩
  clear h2 h3
  rintro ρ s ⟨h2, h3, b, r, h13, hY⟩
  rw [wpC_seq]
  obtain ⟨k, hk, hk4⟩ : ∃ k : Nat, wi size 4 = k ∧ k < 4 := by have := wi_range size (n := 4) (by decide); exact ⟨(wi size 4).toNat, by omega, by omega⟩
  obtain ⟨n, hn, hn2⟩ : ∃ n : Nat, (k : Int) - 1 + 700 = n ∧ n < 1000 := ⟨k + 699, by omega, by omega⟩
  refine w_mid (fun ρ s => ρ.rd 2 = .int .i64 n ∧ ρ.rd 3 = .int .i64 at_ ∧ ∃ b r, ρ.rd 13 = .ptr b 0 ∧ YAt s b r) ?_ ?_
  · have hW := within19_ac (n := size) (k := 4) (σ := s) (by decide) (by decide)
    rw [hk] at hW
    have w1 : IntKind.i64.wrap ((k : Int) - 1) = (k : Int) - 1 := by
      have : IntKind.i64.wrap ((k : Int) - 1) = if ((k : Int) - 1) % 18446744073709551616 ≥ 9223372036854775808 then ((k : Int) - 1) % 18446744073709551616 - 18446744073709551616 else ((k : Int) - 1) % 18446744073709551616 := by simp [IntKind.wrap, IntKind.bits, IntKind.signed]
      rw [this]; split <;> omega
    have w2 : IntKind.i64.wrap ((k : Int) - 1 + 700) = n := by rw [wrap64 (by omega) (by omega), hn]
    simp only [WU, seval, h2, h3, h13]
    refine hW.use ?_
    simp only [WU, seval, h2, h3, h13, w1, w2]
    exact ⟨b, r, rfl, hY⟩
  clear h2 h3 h13 hY b r
  rintro ρ s ⟨h2, h3, b, r, h13, hY⟩
  rw [wpC_seq]
  refine w_mid (fun ρ s => ρ.rd 2 = .int .i64 n ∧ ρ.rd 3 = .int .i64 at_ ∧ ρ.rd 15 = .int .i64 34 ∧ ρ.rd 13 = .ptr b 0 ∧ YAt s b r) ?_ ?_
  · simp only [WU, seval, h2, h3, h13]
    exact hY
  clear h2 h3 h13 hY
  rintro ρ s ⟨h2, h3, h15, h13, hY⟩
  rw [wpC_seq]
  refine w_mid (fun ρ s => ρ.rd 2 = .int .i64 n ∧ ρ.rd 3 = .int .i64 at_ ∧ ρ.rd 15 = .int .i64 (if 700 < n then 5 else 34) ∧ ρ.rd 13 = .ptr b 0 ∧ YAt s b r) ?_ ?_
  · by_cases g : 700 < n
    · have g' : (700 : Int) < (n : Int) := by omega
      simp only [WU, seval, h2, h3, h15, h13, g']
      exact ⟨by rw [if_pos g], hY⟩
    · have g' : ¬ (700 : Int) < (n : Int) := by omega
      simp only [WU, seval, h2, h3, h15, h13, g']
      exact ⟨by rw [if_neg g], hY⟩
  clear h2 h3 h15 h13 hY
  rintro ρ s ⟨h2, h3, h15, h13, hY⟩
  rw [wpC_seq]
  refine w_mid (fun ρ s => ρ.rd 3 = .int .i64 at_ ∧ ρ.rd 15 = .int .i64 (if 700 < n then 5 else 34) ∧ ρ.rd 13 = .ptr b 0 ∧ YAt s b r ∧ ρ.rd 17 = .int .i64 (if 700 < n then 5 else 34)) ?_ ?_
  · have z : ∀ cs, YAt (s.push (.cells cs)) b r := fun cs => hY.keeps ((Keeps.refl s).push _) hY.bn hY.rn
    have hP := fun cs => proposeY_ac (n := n) (x := .sl s.n 0 n (some n) 1) (z cs) rfl ⟨_, _, _, rfl⟩
    have c1 : (0 : Int) ≤ (n : Int) ∧ (n : Int) ≤ (n : Int) ∧ (n : Int) < 4611686018427387904 ∧ (1 : Int) * (n : Int) ≤ 140737488355328 ∧ [AV.int .u8 0].all AV.one = true := ⟨by omega, by omega, by omega, by omega, rfl⟩
    simp only [WU, seval, h2, h3, h15, h13, allocD, c1]
    refine (hP _).use ?_
    simp only [WU, seval, h2, h3, h15, h13]
    exact z _
  clear h2 h3 h15 h13 hY
  generalize (if 700 < n then (5 : Int) else 34) = W
  rintro ρ s ⟨h3, h15, h13, hY, h17⟩
  rw [wpC_seq]
  refine w_mid (fun ρ s => ρ.rd 3 = .int .i64 at_ ∧ ρ.rd 15 = .int .i64 W ∧ ρ.rd 17 = .int .i64 W ∧ ρ.rd 13 = .ptr b 0 ∧ YAt s b r ∧ ρ.rd 19 = .int .i64 34) ?_ ?_
  · have z : YAt (s.push (.cells [.int .i64 0, .int .i64 1])) b r := hY.keeps ((Keeps.refl s).push _) hY.bn hY.rn
    simp only [WU, seval, h3, h15, h13, h17]
    refine (changeY_ac (q := s.n) z (push_cells _ _)).mono ?_
    rintro v s' ⟨rfl, hk⟩
    simp only [WU, seval, h3, h15, h13, h17]
    exact z.keeps hk z.bn z.rn
  clear h3 h15 h13 hY h17
  rintro ρ s ⟨h3, h15, h17, h13, hY, h19⟩
  rw [wpC_seq]
  refine w_mid (fun ρ s => ρ.rd 3 = .int .i64 at_ ∧ ρ.rd 15 = .int .i64 W ∧ ρ.rd 17 = .int .i64 W ∧ ρ.rd 13 = .ptr b 0 ∧ YAt s b r ∧ ρ.rd 19 = .int .i64 34 ∧ ρ.rd 21 = .int .i64 1) ?_ ?_
  · have z : YAt (s.push (.cells [.int .i64 0, .int .i64 1, .int .i64 2])) b r := hY.keeps ((Keeps.refl s).push _) hY.bn hY.rn
    simp only [WU, seval, h3, h15, h13, h17, h19]
    refine (changeY_ac' (q := s.n) z (push_cells _ _)).mono ?_
    rintro v s' ⟨rfl, hk⟩
    simp only [WU, seval, h3, h15, h13, h17, h19]
    exact z.keeps hk z.bn z.rn
  clear h3 h15 h13 hY h17 h19
  rintro ρ s ⟨h3, h15, h17, h13, hY, h19, h21⟩
  have cb := hY.cb
  unfold coreN at cb
  simp only [WU, seval, h3, h15, h13, h17, h19, h21, eq_self, decide_true]
  refine (askY_ac hY).use ?_
  simp only [WU, seval, h3, h13, eq_self, decide_true]
  refine (keepY_ac hY).use ?_
  simp only [WU, seval, h3, h13, eq_self, decide_true]
  refine (lastY_ac hY).use ?_
  simp only [WU, seval, h3, h13, eq_self, decide_true]
  refine (commit_ac hY.cb rfl).use ?_
  simp only [WU, seval, h3, h13, eq_self, decide_true]
  refine (readsY_ac hY).mono ?_
  rintro v s' rfl
  simp only [WU, seval, eq_self, decide_true]
end Go.Proofs.Ythojhpjjkfjeiaa.Va
