/- chancellaw5.Policy: some policy. Conditions: none. (printed by gen_pol5.py) -/
import Derived.Test.YtcdbpmmomgehfaaTC
import Derived.Test.YtcdbpmmomgehfaaTy39
import Derived.Test.YtcdbpmmomgehfaaTy33
import Derived.Test.YtcdbpmmomgehfaaTy24
set_option maxRecDepth 100000
set_option maxHeartbeats 4000000
set_option linter.all false
namespace Go.Proofs.Ytcdbpmmomgehfaa.Va
open Go.Proofs
theorem ei_shr {a : Int} {k : Nat} (h : k < 64) : evalShift .shr .i64 a (k : Int) = some (.int .i64 (a.fdiv (2 ^ k))) := by
  have h1 : evalShift .shr .i64 a (k : Int) = if (k : Int) < 0 then none else some (.int .i64 (a.fdiv (2 ^ (min (k : Int).toNat 64)))) := rfl
  rw [h1, if_neg (by omega), Int.toNat_natCast, Nat.min_eq_left (by omega)]
theorem pur_po1 {σ : AState} {f : Bool} {p a r : Sco} {x : AV} {C : List Cn} {q : Nat → Prop} (h : RowP q σ x (rowc Cn.c C) C.length 8) :
    Pur σ true (.agg [.bool f, .int .i64 p.kind, .str p.ut, .str p.ui, .int .i64 a.kind, .str a.ut, .str a.ui, .int .i64 r.kind, .str r.ut, .str r.ui, x]) (.agg (Po.mk f p a r C).c) := .agg _ _ rfl fun i hi hi' => by
  match i, hi with
  | 0, _ => exact .flat _ rfl
  | 1, _ => exact .flat _ rfl
  | 2, _ => exact .flat _ rfl
  | 3, _ => exact .flat _ rfl
  | 4, _ => exact .flat _ rfl
  | 5, _ => exact .flat _ rfl
  | 6, _ => exact .flat _ rfl
  | 7, _ => exact .flat _ rfl
  | 8, _ => exact .flat _ rfl
  | 9, _ => exact .flat _ rfl
  | 10, _ => exact h.self (rowc_pur (pur_cn σ) C)
theorem policy5_st0 {k : Int} {us l : List Int} {raws : List Rw} (hus : us.length ≤ Most) (hl : l.length ≤ Most) (hcl : raws.length ≤ Most) (hrs : ∀ r ∈ raws, r.ok) :
    AC Try.prog 24 [.int .i64 k, ints us, ints l, slc Rw.c raws] st0 fun v s => ∃ a, Pur s true v a ∧ ∃ P, a = .agg (Po.c P) ∧ PoG P := by
  have hU : ∀ (n : Int) σ, AC Try.prog 23 [.int .i64 n, ints l] σ fun v s => s = σ ∧ v = .agg [.str (uidT (wi n 5)), .str (idS l)] := fun n σ => uidL_ac hl
  generalize idS l = ui0 at *
  have hW3 : ∀ (n : Int) σ, AC Try.prog 33 [.int .i64 n, .int .i64 3] σ fun v s' => s' = σ ∧ v = .int .i64 (wi n 3) := fun n σ => within5_ac (by decide) (by decide)
  have hW2 : ∀ (n : Int) σ, AC Try.prog 33 [.int .i64 n, .int .i64 2] σ fun v s' => s' = σ ∧ v = .int .i64 (wi n 2) := fun n σ => within5_ac (by decide) (by decide)
  have hrem := ei_rem .i64 k 2 (by decide)
  simp only [ints_eq, slc_eq] at hU ⊢
  refine ac_wp fn24 cf24 cl24 rfl ?_
  simp only [ac24]
  unfold ab24
  simp only [wpC_seq, wpC_skip, wpCK_normal]
  refine w_mid (fun ρ s => ρ.rd 0 = .int .i64 k ∧ ρ.rd 1 = .psl (ofInts us) 0 us.length ∧ ρ.rd 2 = .psl (ofInts l) 0 l.length ∧ ρ.rd 3 = .psl (rowc Rw.c raws) 0 raws.length ∧ ρ.rd 8 = .ptr 0 0 ∧ s.n = 1 ∧ s.cells 0 = some [.bool false, .int .i64 0, .str [], .str [], .int .i64 0, .str [], .str [], .int .i64 0, .str [], .str [], .nils]) ?_ ?_
  · simp only [WU, seval, strs_eq]
  rintro ρ s ⟨h0, h1, h2, h3, h8, hn, c0⟩
  rw [wpC_seq]
  refine w_mid (fun ρ s => ρ.rd 0 = .int .i64 k ∧ ρ.rd 1 = .psl (ofInts us) 0 us.length ∧ ρ.rd 2 = .psl (ofInts l) 0 l.length ∧ ρ.rd 3 = .psl (rowc Rw.c raws) 0 raws.length ∧ ρ.rd 8 = .ptr 0 0 ∧ s.n = 2 ∧ s.cells 0 = some [.bool false, .int .i64 0, .str [], .str [], .int .i64 0, .str [], .str [], .int .i64 0, .str [], .str [], .nils] ∧ ρ.rd 9 = .ptr 1 0 ∧ ∃ f, s.cells 1 = some [.bool f, .int .i64 0, .str [], .str [], .int .i64 0, .str [], .str [], .int .i64 0, .str [], .str [], .nils]) ?_ ?_
  · simp only [WU, seval, strs_eq, h0, h1, h2, h3, h8, hrem, hn, c0, storeA, sets, setx, TS]
    exact ⟨_, rfl⟩
  clear h0 h1 h2 h3 h8 hn c0
  rintro ρ s ⟨h0, h1, h2, h3, h8, hn, c0, h9, f, c1⟩
  rw [wpC_seq]
  refine w_mid (fun ρ s => ρ.rd 0 = .int .i64 k ∧ ρ.rd 1 = .psl (ofInts us) 0 us.length ∧ ρ.rd 2 = .psl (ofInts l) 0 l.length ∧ ρ.rd 3 = .psl (rowc Rw.c raws) 0 raws.length ∧ ρ.rd 8 = .ptr 0 0 ∧ s.n = 3 ∧ s.cells 0 = some [.bool false, .int .i64 0, .str [], .str [], .int .i64 0, .str [], .str [], .int .i64 0, .str [], .str [], .nils] ∧ ρ.rd 9 = .ptr 1 0 ∧ s.cells 1 = some [.bool f, .int .i64 0, .str [], .str [], .int .i64 0, .str [], .str [], .int .i64 0, .str [], .str [], .nils] ∧ ρ.rd 10 = .sl 2 0 3 (some 3) 1 ∧ s.cells 2 = some [.ptr 1 1, .ptr 1 4, .ptr 1 7]) ?_ ?_
  · simp only [WU, seval, strs_eq, h0, h1, h2, h3, h8, hn, c0, c1, h9]
  clear h0 h1 h2 h3 h8 hn c0 h9 c1
  rintro ρ s ⟨h0, h1, h2, h3, h8, hn, c0, h9, c1, h10, c2⟩
  rw [wpC_seq]
  refine w_mid (fun ρ s => ρ.rd 0 = .int .i64 k ∧ ρ.rd 1 = .psl (ofInts us) 0 us.length ∧ ρ.rd 2 = .psl (ofInts l) 0 l.length ∧ ρ.rd 3 = .psl (rowc Rw.c raws) 0 raws.length ∧ ρ.rd 8 = .ptr 0 0 ∧ 3 ≤ s.n ∧ s.cells 0 = some [.bool false, .int .i64 0, .str [], .str [], .int .i64 0, .str [], .str [], .int .i64 0, .str [], .str [], .nils] ∧ ρ.rd 9 = .ptr 1 0 ∧ ρ.rd 10 = .sl 2 0 3 (some 3) 1 ∧ s.cells 2 = some [.ptr 1 1, .ptr 1 4, .ptr 1 7] ∧ ∃ pk pu pi ak au ai rk ru ri, s.cells 1 = some [.bool f, .int .i64 pk, .str pu, .str pi, .int .i64 ak, .str au, .str ai, .int .i64 rk, .str ru, .str ri, .nils]) ?_ ?_
  · obtain ⟨m, hm⟩ : ∃ m, m = min 3 us.length := ⟨_, rfl⟩
    simp only [WU, seval, strs_eq, h0, h1, h2, h3, h8, hn, c0, h9, h10, c2]
    refine w_for (fun i ρ s => ρ.rd 11 = .int .i64 i ∧ ρ.rd 0 = .int .i64 k ∧ ρ.rd 1 = .psl (ofInts us) 0 us.length ∧ ρ.rd 2 = .psl (ofInts l) 0 l.length ∧ ρ.rd 3 = .psl (rowc Rw.c raws) 0 raws.length ∧ ρ.rd 8 = .ptr 0 0 ∧ 3 ≤ s.n ∧ s.cells 0 = some [.bool false, .int .i64 0, .str [], .str [], .int .i64 0, .str [], .str [], .int .i64 0, .str [], .str [], .nils] ∧ ρ.rd 9 = .ptr 1 0 ∧ ρ.rd 10 = .sl 2 0 3 (some 3) 1 ∧ s.cells 2 = some [.ptr 1 1, .ptr 1 4, .ptr 1 7] ∧ ∃ pk pu pi ak au ai rk ru ri, s.cells 1 = some [.bool f, .int .i64 pk, .str pu, .str pi, .int .i64 ak, .str au, .str ai, .int .i64 rk, .str ru, .str ri, .nils]) m ?_ ?_
    · simp only [WU, seval, strs_eq, h0, h1, h2, h3, h8, hn, c0, h9, h10, c2]
      first | done | exact ⟨by omega, _, _, _, _, _, _, _, _, _, rfl⟩ | exact ⟨_, _, _, _, _, _, _, _, _, rfl⟩ | exact ⟨_, _, _, _, _, _, _, _, _, c1⟩ | trace_state
    clear h0 h1 h2 h3 h8 hn c0 h9 h10 c2 c1
    rintro i ρ s hi ⟨h11, h0, h1, h2, h3, h8, hn, c0, h9, h10, c2, pk, pu, pi, ak, au, ai, rk, ru, ri, c1⟩
    by_cases hlt : i < m
    rotate_left
    · by_cases h3' : i < 3
      · have g3 : ((i : Nat) : Int) < 3 := by omega
        have gu : ¬ ((i : Nat) : Int) < ((us.length : Nat) : Int) := by omega
        simp only [WU, seval, strs_eq, h11, h0, h1, h2, h3, h8, hn, c0, h9, h10, c2, g3, gu]
        exact ⟨_, _, _, _, _, _, _, _, _, c1⟩
      · have g3 : ¬ ((i : Nat) : Int) < 3 := by omega
        simp only [WU, seval, strs_eq, h11, h0, h1, h2, h3, h8, hn, c0, h9, h10, c2, g3]
        exact ⟨_, _, _, _, _, _, _, _, _, c1⟩
    have hiu : i < us.length := by omega
    have hr := lt_idx hiu
    have hgu := ints_get hiu
    have hq := ei_quo us[i] 3 (by decide)
    generalize us[i] = u at *
    have hu2 := hr.2
    have h012 : i = 0 ∨ i = 1 ∨ i = 2 := by omega
    rcases h012 with rfl | rfl | rfl
    · have hu2 : (0 : Int) < ((us.length : Nat) : Int) := by omega
      have hr : (0 : Int) ≤ 0 ∧ (0 : Int) < ((us.length : Nat) : Int) := by omega
      have hti : ((0 : Nat) : Int) = (0 : Int) := rfl
      rw [wpC_seq]
      refine w_mid (fun ρ s => ρ.rd 11 = .int .i64 0 ∧ ρ.rd 0 = .int .i64 k ∧ ρ.rd 1 = .psl (ofInts us) 0 us.length ∧ ρ.rd 2 = .psl (ofInts l) 0 l.length ∧ ρ.rd 3 = .psl (rowc Rw.c raws) 0 raws.length ∧ ρ.rd 8 = .ptr 0 0 ∧ 3 ≤ s.n ∧ s.cells 0 = some [.bool false, .int .i64 0, .str [], .str [], .int .i64 0, .str [], .str [], .int .i64 0, .str [], .str [], .nils] ∧ ρ.rd 9 = .ptr 1 0 ∧ ρ.rd 10 = .sl 2 0 3 (some 3) 1 ∧ s.cells 2 = some [.ptr 1 1, .ptr 1 4, .ptr 1 7] ∧ s.cells 1 = some [.bool f, .int .i64 pk, .str pu, .str pi, .int .i64 ak, .str au, .str ai, .int .i64 rk, .str ru, .str ri, .nils]) ?_ ?_
      · simp only [WU, seval, strs_eq, h11, hti, h0, h1, h2, h3, h8, hn, c0, h9, h10, c2, hu2, c1]
      clear h11 h0 h1 h2 h3 h8 hn c0 h9 h10 c2 c1
      rintro ρ s ⟨h11, h0, h1, h2, h3, h8, hn, c0, h9, h10, c2, c1⟩
      rw [wpC_seq]
      refine w_mid (fun ρ s => ρ.rd 11 = .int .i64 0 ∧ ρ.rd 0 = .int .i64 k ∧ ρ.rd 1 = .psl (ofInts us) 0 us.length ∧ ρ.rd 2 = .psl (ofInts l) 0 l.length ∧ ρ.rd 3 = .psl (rowc Rw.c raws) 0 raws.length ∧ ρ.rd 8 = .ptr 0 0 ∧ 3 ≤ s.n ∧ s.cells 0 = some [.bool false, .int .i64 0, .str [], .str [], .int .i64 0, .str [], .str [], .int .i64 0, .str [], .str [], .nils] ∧ ρ.rd 9 = .ptr 1 0 ∧ ρ.rd 10 = .sl 2 0 3 (some 3) 1 ∧ s.cells 2 = some [.ptr 1 1, .ptr 1 4, .ptr 1 7] ∧ ∃ pk pu pi ak au ai rk ru ri, s.cells 1 = some [.bool f, .int .i64 pk, .str pu, .str pi, .int .i64 ak, .str au, .str ai, .int .i64 rk, .str ru, .str ri, .nils]) ?_ ?_
      · simp only [wpC_block, wpC_seq, wpC_skip, wpCK_normal]
        refine w_mid (fun ρ s => ρ.rd 11 = .int .i64 0 ∧ ρ.rd 0 = .int .i64 k ∧ ρ.rd 1 = .psl (ofInts us) 0 us.length ∧ ρ.rd 2 = .psl (ofInts l) 0 l.length ∧ ρ.rd 3 = .psl (rowc Rw.c raws) 0 raws.length ∧ ρ.rd 8 = .ptr 0 0 ∧ 3 ≤ s.n ∧ s.cells 0 = some [.bool false, .int .i64 0, .str [], .str [], .int .i64 0, .str [], .str [], .int .i64 0, .str [], .str [], .nils] ∧ ρ.rd 9 = .ptr 1 0 ∧ ρ.rd 10 = .sl 2 0 3 (some 3) 1 ∧ s.cells 2 = some [.ptr 1 1, .ptr 1 4, .ptr 1 7] ∧ s.cells 1 = some [.bool f, .int .i64 (wi u 3), .str pu, .str pi, .int .i64 ak, .str au, .str ai, .int .i64 rk, .str ru, .str ri, .nils]) ?_ ?_
        · simp only [WU, seval, strs_eq]
          refine w_dreg follow [] rfl ?_
          have k0 : (addSlots s.n 12 s []).cells 0 = _ := c0
          have k1 : (addSlots s.n 12 s []).cells 1 = _ := c1
          have k2 : (addSlots s.n 12 s []).cells 2 = _ := c2
          have kn : (addSlots s.n 12 s []).n = s.n + 12 := rfl
          generalize addSlots s.n 12 s [] = s1 at *
          simp only [WU, seval, strs_eq, DU, h1, h9, h10, h11, k2, hr, hgu]
          refine (hW3 _ _).useD ?_
          simp only [WU, seval, strs_eq, DU, h1, h9, h10, h11, k1, k2, hr, hgu, ints_eq, storeA, sets, setx, TS]
          refine ⟨⟨?_, ?_⟩, ?_⟩
          · intro l hl c hc hf
            simp only [List.mem_cons, List.mem_nil_iff, List.not_mem_nil, or_false] at hl hc
            rcases hl with rfl | rfl <;> rcases hc with rfl | rfl | rfl <;> dsimp only at hf ⊢ <;> first
              | (exact absurd hf (by decide +kernel))
              | (simp only [WU, seval, strs_eq, h1, h10, h11, k1, k2, hr, hgu]; done)
          · intro sl hsl; simp at hsl
          simp only [WU, seval, strs_eq, h0, h1, h2, h3, h8, h9, h10, h11, k0, k2]
          omega
        clear h11 h0 h1 h2 h3 h8 hn c0 h9 h10 c2 c1
        rintro ρ s ⟨h11, h0, h1, h2, h3, h8, hn, c0, h9, h10, c2, c1⟩
        have hr3 : (0 : Int) ≤ 0 ∧ (0 : Int) < 3 := by omega
        by_cases hz : wi u 3 = 0
        · simp only [WU, seval, strs_eq, h11, h0, h1, h2, h3, h8, hn, c0, h9, h10, c2, c1, hr3, hz]
          exact ⟨_, _, _, _, _, _, _, _, _, rfl⟩
        · simp only [WU, seval, strs_eq, h11, h0, h1, h2, h3, h8, hn, c0, h9, h10, c2, c1, hr3, hz]
          refine w_dreg follow [] rfl ?_
          have k0 : (addSlots s.n 14 s []).cells 0 = _ := c0
          have k1 : (addSlots s.n 14 s []).cells 1 = _ := c1
          have k2 : (addSlots s.n 14 s []).cells 2 = _ := c2
          have kn : (addSlots s.n 14 s []).n = s.n + 14 := rfl
          generalize addSlots s.n 14 s [] = s1 at *
          simp only [WU, seval, strs_eq, DU, h1, h2, h9, h10, h11, k2, hr, hgu, hq]
          refine (hU _ _).useD ?_
          simp only [WU, seval, strs_eq, DU, h1, h9, h10, h11, k1, k2, hr, hgu, ints_eq, storeA, sets, setx, TS]
          refine ⟨⟨?_, ?_⟩, ?_⟩
          · intro l hl c hc hf
            simp only [List.mem_cons, List.mem_nil_iff, List.not_mem_nil, or_false] at hl hc
            rcases hl with rfl | rfl <;> rcases hc with rfl | rfl | rfl <;> dsimp only at hf ⊢ <;> first
              | (exact absurd hf (by decide +kernel))
              | (simp only [WU, seval, strs_eq, h1, h10, h11, k1, k2, hr, hgu]; done)
          · intro sl hsl; simp at hsl
          simp only [WU, seval, strs_eq, h0, h1, h2, h3, h8, h9, h10, h11, k0, k2]
          exact ⟨by omega, _, _, _, _, _, _, _, _, _, rfl⟩
      clear h11 h0 h1 h2 h3 h8 hn c0 h9 h10 c2 c1
      rintro ρ s ⟨h11, h0, h1, h2, h3, h8, hn, c0, h9, h10, c2, pk, pu, pi, ak, au, ai, rk, ru, ri, c1⟩
      simp only [WU, seval, strs_eq, h11, h0, h1, h2, h3, h8, hn, c0, h9, h10, c2]
      exact ⟨by omega, rfl, pk, pu, pi, ak, au, ai, rk, ru, ri, c1⟩
    · have hu2 : (1 : Int) < ((us.length : Nat) : Int) := by omega
      have hr : (0 : Int) ≤ 1 ∧ (1 : Int) < ((us.length : Nat) : Int) := by omega
      have hti : ((1 : Nat) : Int) = (1 : Int) := rfl
      rw [wpC_seq]
      refine w_mid (fun ρ s => ρ.rd 11 = .int .i64 1 ∧ ρ.rd 0 = .int .i64 k ∧ ρ.rd 1 = .psl (ofInts us) 0 us.length ∧ ρ.rd 2 = .psl (ofInts l) 0 l.length ∧ ρ.rd 3 = .psl (rowc Rw.c raws) 0 raws.length ∧ ρ.rd 8 = .ptr 0 0 ∧ 3 ≤ s.n ∧ s.cells 0 = some [.bool false, .int .i64 0, .str [], .str [], .int .i64 0, .str [], .str [], .int .i64 0, .str [], .str [], .nils] ∧ ρ.rd 9 = .ptr 1 0 ∧ ρ.rd 10 = .sl 2 0 3 (some 3) 1 ∧ s.cells 2 = some [.ptr 1 1, .ptr 1 4, .ptr 1 7] ∧ s.cells 1 = some [.bool f, .int .i64 pk, .str pu, .str pi, .int .i64 ak, .str au, .str ai, .int .i64 rk, .str ru, .str ri, .nils]) ?_ ?_
      · simp only [WU, seval, strs_eq, h11, hti, h0, h1, h2, h3, h8, hn, c0, h9, h10, c2, hu2, c1]
      clear h11 h0 h1 h2 h3 h8 hn c0 h9 h10 c2 c1
      rintro ρ s ⟨h11, h0, h1, h2, h3, h8, hn, c0, h9, h10, c2, c1⟩
      rw [wpC_seq]
      refine w_mid (fun ρ s => ρ.rd 11 = .int .i64 1 ∧ ρ.rd 0 = .int .i64 k ∧ ρ.rd 1 = .psl (ofInts us) 0 us.length ∧ ρ.rd 2 = .psl (ofInts l) 0 l.length ∧ ρ.rd 3 = .psl (rowc Rw.c raws) 0 raws.length ∧ ρ.rd 8 = .ptr 0 0 ∧ 3 ≤ s.n ∧ s.cells 0 = some [.bool false, .int .i64 0, .str [], .str [], .int .i64 0, .str [], .str [], .int .i64 0, .str [], .str [], .nils] ∧ ρ.rd 9 = .ptr 1 0 ∧ ρ.rd 10 = .sl 2 0 3 (some 3) 1 ∧ s.cells 2 = some [.ptr 1 1, .ptr 1 4, .ptr 1 7] ∧ ∃ pk pu pi ak au ai rk ru ri, s.cells 1 = some [.bool f, .int .i64 pk, .str pu, .str pi, .int .i64 ak, .str au, .str ai, .int .i64 rk, .str ru, .str ri, .nils]) ?_ ?_
      · simp only [wpC_block, wpC_seq, wpC_skip, wpCK_normal]
        refine w_mid (fun ρ s => ρ.rd 11 = .int .i64 1 ∧ ρ.rd 0 = .int .i64 k ∧ ρ.rd 1 = .psl (ofInts us) 0 us.length ∧ ρ.rd 2 = .psl (ofInts l) 0 l.length ∧ ρ.rd 3 = .psl (rowc Rw.c raws) 0 raws.length ∧ ρ.rd 8 = .ptr 0 0 ∧ 3 ≤ s.n ∧ s.cells 0 = some [.bool false, .int .i64 0, .str [], .str [], .int .i64 0, .str [], .str [], .int .i64 0, .str [], .str [], .nils] ∧ ρ.rd 9 = .ptr 1 0 ∧ ρ.rd 10 = .sl 2 0 3 (some 3) 1 ∧ s.cells 2 = some [.ptr 1 1, .ptr 1 4, .ptr 1 7] ∧ s.cells 1 = some [.bool f, .int .i64 pk, .str pu, .str pi, .int .i64 (wi u 3), .str au, .str ai, .int .i64 rk, .str ru, .str ri, .nils]) ?_ ?_
        · simp only [WU, seval, strs_eq]
          refine w_dreg follow [] rfl ?_
          have k0 : (addSlots s.n 12 s []).cells 0 = _ := c0
          have k1 : (addSlots s.n 12 s []).cells 1 = _ := c1
          have k2 : (addSlots s.n 12 s []).cells 2 = _ := c2
          have kn : (addSlots s.n 12 s []).n = s.n + 12 := rfl
          generalize addSlots s.n 12 s [] = s1 at *
          simp only [WU, seval, strs_eq, DU, h1, h9, h10, h11, k2, hr, hgu]
          refine (hW3 _ _).useD ?_
          simp only [WU, seval, strs_eq, DU, h1, h9, h10, h11, k1, k2, hr, hgu, ints_eq, storeA, sets, setx, TS]
          refine ⟨⟨?_, ?_⟩, ?_⟩
          · intro l hl c hc hf
            simp only [List.mem_cons, List.mem_nil_iff, List.not_mem_nil, or_false] at hl hc
            rcases hl with rfl | rfl <;> rcases hc with rfl | rfl | rfl <;> dsimp only at hf ⊢ <;> first
              | (exact absurd hf (by decide +kernel))
              | (simp only [WU, seval, strs_eq, h1, h10, h11, k1, k2, hr, hgu]; done)
          · intro sl hsl; simp at hsl
          simp only [WU, seval, strs_eq, h0, h1, h2, h3, h8, h9, h10, h11, k0, k2]
          omega
        clear h11 h0 h1 h2 h3 h8 hn c0 h9 h10 c2 c1
        rintro ρ s ⟨h11, h0, h1, h2, h3, h8, hn, c0, h9, h10, c2, c1⟩
        have hr3 : (0 : Int) ≤ 1 ∧ (1 : Int) < 3 := by omega
        by_cases hz : wi u 3 = 0
        · simp only [WU, seval, strs_eq, h11, h0, h1, h2, h3, h8, hn, c0, h9, h10, c2, c1, hr3, hz]
          exact ⟨_, _, _, _, _, _, _, _, _, rfl⟩
        · simp only [WU, seval, strs_eq, h11, h0, h1, h2, h3, h8, hn, c0, h9, h10, c2, c1, hr3, hz]
          refine w_dreg follow [] rfl ?_
          have k0 : (addSlots s.n 14 s []).cells 0 = _ := c0
          have k1 : (addSlots s.n 14 s []).cells 1 = _ := c1
          have k2 : (addSlots s.n 14 s []).cells 2 = _ := c2
          have kn : (addSlots s.n 14 s []).n = s.n + 14 := rfl
          generalize addSlots s.n 14 s [] = s1 at *
          simp only [WU, seval, strs_eq, DU, h1, h2, h9, h10, h11, k2, hr, hgu, hq]
          refine (hU _ _).useD ?_
          simp only [WU, seval, strs_eq, DU, h1, h9, h10, h11, k1, k2, hr, hgu, ints_eq, storeA, sets, setx, TS]
          refine ⟨⟨?_, ?_⟩, ?_⟩
          · intro l hl c hc hf
            simp only [List.mem_cons, List.mem_nil_iff, List.not_mem_nil, or_false] at hl hc
            rcases hl with rfl | rfl <;> rcases hc with rfl | rfl | rfl <;> dsimp only at hf ⊢ <;> first
              | (exact absurd hf (by decide +kernel))
              | (simp only [WU, seval, strs_eq, h1, h10, h11, k1, k2, hr, hgu]; done)
          · intro sl hsl; simp at hsl
          simp only [WU, seval, strs_eq, h0, h1, h2, h3, h8, h9, h10, h11, k0, k2]
          exact ⟨by omega, _, _, _, _, _, _, _, _, _, rfl⟩
      clear h11 h0 h1 h2 h3 h8 hn c0 h9 h10 c2 c1
      rintro ρ s ⟨h11, h0, h1, h2, h3, h8, hn, c0, h9, h10, c2, pk, pu, pi, ak, au, ai, rk, ru, ri, c1⟩
      simp only [WU, seval, strs_eq, h11, h0, h1, h2, h3, h8, hn, c0, h9, h10, c2]
      exact ⟨by omega, rfl, pk, pu, pi, ak, au, ai, rk, ru, ri, c1⟩
    · have hu2 : (2 : Int) < ((us.length : Nat) : Int) := by omega
      have hr : (0 : Int) ≤ 2 ∧ (2 : Int) < ((us.length : Nat) : Int) := by omega
      have hti : ((2 : Nat) : Int) = (2 : Int) := rfl
      rw [wpC_seq]
      refine w_mid (fun ρ s => ρ.rd 11 = .int .i64 2 ∧ ρ.rd 0 = .int .i64 k ∧ ρ.rd 1 = .psl (ofInts us) 0 us.length ∧ ρ.rd 2 = .psl (ofInts l) 0 l.length ∧ ρ.rd 3 = .psl (rowc Rw.c raws) 0 raws.length ∧ ρ.rd 8 = .ptr 0 0 ∧ 3 ≤ s.n ∧ s.cells 0 = some [.bool false, .int .i64 0, .str [], .str [], .int .i64 0, .str [], .str [], .int .i64 0, .str [], .str [], .nils] ∧ ρ.rd 9 = .ptr 1 0 ∧ ρ.rd 10 = .sl 2 0 3 (some 3) 1 ∧ s.cells 2 = some [.ptr 1 1, .ptr 1 4, .ptr 1 7] ∧ s.cells 1 = some [.bool f, .int .i64 pk, .str pu, .str pi, .int .i64 ak, .str au, .str ai, .int .i64 rk, .str ru, .str ri, .nils]) ?_ ?_
      · simp only [WU, seval, strs_eq, h11, hti, h0, h1, h2, h3, h8, hn, c0, h9, h10, c2, hu2, c1]
      clear h11 h0 h1 h2 h3 h8 hn c0 h9 h10 c2 c1
      rintro ρ s ⟨h11, h0, h1, h2, h3, h8, hn, c0, h9, h10, c2, c1⟩
      rw [wpC_seq]
      refine w_mid (fun ρ s => ρ.rd 11 = .int .i64 2 ∧ ρ.rd 0 = .int .i64 k ∧ ρ.rd 1 = .psl (ofInts us) 0 us.length ∧ ρ.rd 2 = .psl (ofInts l) 0 l.length ∧ ρ.rd 3 = .psl (rowc Rw.c raws) 0 raws.length ∧ ρ.rd 8 = .ptr 0 0 ∧ 3 ≤ s.n ∧ s.cells 0 = some [.bool false, .int .i64 0, .str [], .str [], .int .i64 0, .str [], .str [], .int .i64 0, .str [], .str [], .nils] ∧ ρ.rd 9 = .ptr 1 0 ∧ ρ.rd 10 = .sl 2 0 3 (some 3) 1 ∧ s.cells 2 = some [.ptr 1 1, .ptr 1 4, .ptr 1 7] ∧ ∃ pk pu pi ak au ai rk ru ri, s.cells 1 = some [.bool f, .int .i64 pk, .str pu, .str pi, .int .i64 ak, .str au, .str ai, .int .i64 rk, .str ru, .str ri, .nils]) ?_ ?_
      · simp only [wpC_block, wpC_seq, wpC_skip, wpCK_normal]
        refine w_mid (fun ρ s => ρ.rd 11 = .int .i64 2 ∧ ρ.rd 0 = .int .i64 k ∧ ρ.rd 1 = .psl (ofInts us) 0 us.length ∧ ρ.rd 2 = .psl (ofInts l) 0 l.length ∧ ρ.rd 3 = .psl (rowc Rw.c raws) 0 raws.length ∧ ρ.rd 8 = .ptr 0 0 ∧ 3 ≤ s.n ∧ s.cells 0 = some [.bool false, .int .i64 0, .str [], .str [], .int .i64 0, .str [], .str [], .int .i64 0, .str [], .str [], .nils] ∧ ρ.rd 9 = .ptr 1 0 ∧ ρ.rd 10 = .sl 2 0 3 (some 3) 1 ∧ s.cells 2 = some [.ptr 1 1, .ptr 1 4, .ptr 1 7] ∧ s.cells 1 = some [.bool f, .int .i64 pk, .str pu, .str pi, .int .i64 ak, .str au, .str ai, .int .i64 (wi u 3), .str ru, .str ri, .nils]) ?_ ?_
        · simp only [WU, seval, strs_eq]
          refine w_dreg follow [] rfl ?_
          have k0 : (addSlots s.n 12 s []).cells 0 = _ := c0
          have k1 : (addSlots s.n 12 s []).cells 1 = _ := c1
          have k2 : (addSlots s.n 12 s []).cells 2 = _ := c2
          have kn : (addSlots s.n 12 s []).n = s.n + 12 := rfl
          generalize addSlots s.n 12 s [] = s1 at *
          simp only [WU, seval, strs_eq, DU, h1, h9, h10, h11, k2, hr, hgu]
          refine (hW3 _ _).useD ?_
          simp only [WU, seval, strs_eq, DU, h1, h9, h10, h11, k1, k2, hr, hgu, ints_eq, storeA, sets, setx, TS]
          refine ⟨⟨?_, ?_⟩, ?_⟩
          · intro l hl c hc hf
            simp only [List.mem_cons, List.mem_nil_iff, List.not_mem_nil, or_false] at hl hc
            rcases hl with rfl | rfl <;> rcases hc with rfl | rfl | rfl <;> dsimp only at hf ⊢ <;> first
              | (exact absurd hf (by decide +kernel))
              | (simp only [WU, seval, strs_eq, h1, h10, h11, k1, k2, hr, hgu]; done)
          · intro sl hsl; simp at hsl
          simp only [WU, seval, strs_eq, h0, h1, h2, h3, h8, h9, h10, h11, k0, k2]
          omega
        clear h11 h0 h1 h2 h3 h8 hn c0 h9 h10 c2 c1
        rintro ρ s ⟨h11, h0, h1, h2, h3, h8, hn, c0, h9, h10, c2, c1⟩
        have hr3 : (0 : Int) ≤ 2 ∧ (2 : Int) < 3 := by omega
        by_cases hz : wi u 3 = 0
        · simp only [WU, seval, strs_eq, h11, h0, h1, h2, h3, h8, hn, c0, h9, h10, c2, c1, hr3, hz]
          exact ⟨_, _, _, _, _, _, _, _, _, rfl⟩
        · simp only [WU, seval, strs_eq, h11, h0, h1, h2, h3, h8, hn, c0, h9, h10, c2, c1, hr3, hz]
          refine w_dreg follow [] rfl ?_
          have k0 : (addSlots s.n 14 s []).cells 0 = _ := c0
          have k1 : (addSlots s.n 14 s []).cells 1 = _ := c1
          have k2 : (addSlots s.n 14 s []).cells 2 = _ := c2
          have kn : (addSlots s.n 14 s []).n = s.n + 14 := rfl
          generalize addSlots s.n 14 s [] = s1 at *
          simp only [WU, seval, strs_eq, DU, h1, h2, h9, h10, h11, k2, hr, hgu, hq]
          refine (hU _ _).useD ?_
          simp only [WU, seval, strs_eq, DU, h1, h9, h10, h11, k1, k2, hr, hgu, ints_eq, storeA, sets, setx, TS]
          refine ⟨⟨?_, ?_⟩, ?_⟩
          · intro l hl c hc hf
            simp only [List.mem_cons, List.mem_nil_iff, List.not_mem_nil, or_false] at hl hc
            rcases hl with rfl | rfl <;> rcases hc with rfl | rfl | rfl <;> dsimp only at hf ⊢ <;> first
              | (exact absurd hf (by decide +kernel))
              | (simp only [WU, seval, strs_eq, h1, h10, h11, k1, k2, hr, hgu]; done)
          · intro sl hsl; simp at hsl
          simp only [WU, seval, strs_eq, h0, h1, h2, h3, h8, h9, h10, h11, k0, k2]
          exact ⟨by omega, _, _, _, _, _, _, _, _, _, rfl⟩
      clear h11 h0 h1 h2 h3 h8 hn c0 h9 h10 c2 c1
      rintro ρ s ⟨h11, h0, h1, h2, h3, h8, hn, c0, h9, h10, c2, pk, pu, pi, ak, au, ai, rk, ru, ri, c1⟩
      simp only [WU, seval, strs_eq, h11, h0, h1, h2, h3, h8, hn, c0, h9, h10, c2]
      exact ⟨by omega, rfl, pk, pu, pi, ak, au, ai, rk, ru, ri, c1⟩
  clear h0 h1 h2 h3 h8 hn c0 h9 h10 c2 c1
  rintro ρ s ⟨h0, h1, h2, h3, h8, hn, c0, h9, h10, c2, pk, pu, pi, ak, au, ai, rk, ru, ri, c1⟩
  rw [wpC_seq]
  refine w_mid (fun ρ s => ρ.rd 0 = .int .i64 k ∧ ρ.rd 3 = .psl (rowc Rw.c raws) 0 raws.length ∧ ρ.rd 8 = .ptr 0 0 ∧ 3 ≤ s.n ∧ s.cells 0 = some [.bool false, .int .i64 0, .str [], .str [], .int .i64 0, .str [], .str [], .int .i64 0, .str [], .str [], .nils] ∧ ρ.rd 9 = .ptr 1 0 ∧ ∃ x K, K.length ≤ 4 ∧ s.cells 1 = some [.bool f, .int .i64 pk, .str pu, .str pi, .int .i64 ak, .str au, .str ai, .int .i64 rk, .str ru, .str ri, x] ∧ x.one = true ∧ RowP (fun b => 3 ≤ b) s x (rowc Cn.c K) K.length 8 ∧ (∀ c ∈ K, c.e.wf)) ?_ ?_
  · obtain ⟨m, hm⟩ : ∃ m, m = min raws.length 4 := ⟨_, rfl⟩
    simp only [WU, seval, strs_eq, h0, h1, h2, h3, h8, hn, c0, h9, h10, c2]
    refine w_for (fun i ρ s => ρ.rd 12 = .int .i64 i ∧ ρ.rd 0 = .int .i64 k ∧ ρ.rd 3 = .psl (rowc Rw.c raws) 0 raws.length ∧ ρ.rd 8 = .ptr 0 0 ∧ 3 ≤ s.n ∧ s.cells 0 = some [.bool false, .int .i64 0, .str [], .str [], .int .i64 0, .str [], .str [], .int .i64 0, .str [], .str [], .nils] ∧ ρ.rd 9 = .ptr 1 0 ∧ ∃ x K, K.length = i ∧ s.cells 1 = some [.bool f, .int .i64 pk, .str pu, .str pi, .int .i64 ak, .str au, .str ai, .int .i64 rk, .str ru, .str ri, x] ∧ x.one = true ∧ RowP (fun b => 3 ≤ b) s x (rowc Cn.c K) K.length 8 ∧ (∀ c ∈ K, c.e.wf)) m ?_ ?_
    · simp only [WU, seval, strs_eq, h0, h1, h2, h3, h8, hn, c0, h9, h10, c2]
      first | exact ⟨rfl, .nils, [], rfl, c1, rfl, RowP.nil _ _ _, by simp⟩ | exact ⟨.nils, [], rfl, c1, rfl, RowP.nil _ _ _, by simp⟩
    clear h0 h1 h2 h3 h8 hn c0 h9 h10 c2 c1
    rintro i ρ s hi ⟨h12, h0, h3, h8, hn, c0, h9, x, K, hKl, c1, hx1, hrow, hKw⟩
    by_cases hlt : i < m
    rotate_left
    · by_cases hl1 : i < raws.length
      · have g1 : ((i : Nat) : Int) < ((raws.length : Nat) : Int) := by omega
        have g4 : ¬ ((i : Nat) : Int) < 4 := by omega
        simp only [WU, seval, strs_eq, h12, h0, h3, h8, hn, c0, h9, g1, g4]
        exact ⟨x, K, by omega, c1, hx1, hrow, hKw⟩
      · have g1 : ¬ ((i : Nat) : Int) < ((raws.length : Nat) : Int) := by omega
        simp only [WU, seval, strs_eq, h12, h0, h3, h8, hn, c0, h9, g1]
        exact ⟨x, K, by omega, c1, hx1, hrow, hKw⟩
    have hir : i < raws.length := by omega
    have hr := lt_idx hir
    have g1 := hr.2
    have g4 : ((i : Nat) : Int) < 4 := by omega
    have hw : IntKind.i64.wrap ((i : Int) + 1) = ((i + 1 : Nat) : Int) := wrap_succ (by omega)
    have hfit := rowc_fit Rw.c_len hir
    have hall := rowc_seg Rw.c_len hir
    have hT := fun σ => tree_ac 10 (by decide) raws[i] (hrs _ (List.getElem_mem hir)) σ
    have hTw := treeX_wf 10 raws[i]
    generalize treeX 10 raws[i] = E at *
    generalize raws[i] = r0 at *
    have hsh := ei_shr (a := k) (k := i) (by omega)
    have hW2 := hW2 (k.fdiv (2 ^ i))
    generalize k.fdiv (2 ^ i) = kk at *
    obtain ⟨eop, eb, en, es, eut, eui, ek⟩ := E
    obtain ⟨ro, rn, rs, rks⟩ := r0
    simp only [Rw.c_eq, Ex.c_eq, slc_eq, ints_eq] at hT hall
    rw [wpC_seq]
    refine w_mid (fun ρ s => ρ.rd 12 = .int .i64 i ∧ ρ.rd 0 = .int .i64 k ∧ ρ.rd 3 = .psl (rowc Rw.c raws) 0 raws.length ∧ ρ.rd 8 = .ptr 0 0 ∧ 3 ≤ s.n ∧ s.cells 0 = some [.bool false, .int .i64 0, .str [], .str [], .int .i64 0, .str [], .str [], .int .i64 0, .str [], .str [], .nils] ∧ ρ.rd 9 = .ptr 1 0 ∧ ∃ x, s.cells 1 = some [.bool f, .int .i64 pk, .str pu, .str pi, .int .i64 ak, .str au, .str ai, .int .i64 rk, .str ru, .str ri, x] ∧ x.one = true ∧ RowP (fun b => 3 ≤ b) s x (rowc Cn.c K) K.length 8 ∧ (∀ c ∈ K, c.e.wf)) ?_ ?_
    · simp only [WU, seval, strs_eq, h12, h0, h3, h8, hn, c0, h9, g1, g4]
      exact ⟨x, c1, hx1, hrow, hKw⟩
    clear h0 h3 h8 hn c0 h9 h12 c1 hx1 hrow hKw
    rintro ρ s ⟨h12, h0, h3, h8, hn, c0, h9, x, c1, hx1, hrow, hKw⟩
    rw [wpC_seq]
    refine w_mid (fun ρ s => ρ.rd 12 = .int .i64 i ∧ ρ.rd 0 = .int .i64 k ∧ ρ.rd 3 = .psl (rowc Rw.c raws) 0 raws.length ∧ ρ.rd 8 = .ptr 0 0 ∧ 3 ≤ s.n ∧ s.cells 0 = some [.bool false, .int .i64 0, .str [], .str [], .int .i64 0, .str [], .str [], .int .i64 0, .str [], .str [], .nils] ∧ ρ.rd 9 = .ptr 1 0 ∧ ∃ x K, K.length = i + 1 ∧ s.cells 1 = some [.bool f, .int .i64 pk, .str pu, .str pi, .int .i64 ak, .str au, .str ai, .int .i64 rk, .str ru, .str ri, x] ∧ x.one = true ∧ RowP (fun b => 3 ≤ b) s x (rowc Cn.c K) K.length 8 ∧ (∀ c ∈ K, c.e.wf)) ?_ ?_
    · simp only [WU, seval, strs_eq]
      refine w_dreg follow [] rfl ?_
      have k0 : (addSlots s.n 17 s []).cells 0 = _ := c0
      have k1 : (addSlots s.n 17 s []).cells 1 = _ := c1
      have hrowA := hrow.slots 17
      have kn : (addSlots s.n 17 s []).n = s.n + 17 := rfl
      generalize addSlots s.n 17 s [] = s1 at *
      obtain ⟨b9, cap9, s9, happ, hrow9, hn9, hk9⟩ := app_lit (bytes := 104) hrowA (fun b hb => by omega) (new := (Cn.mk (decide (wi kk 2 = 1)) (Ex.mk eop eb en es eut eui ek)).c) (k := 1) rfl rfl (by omega) (by omega)
      simp only [Cn.c_mk, Ex.c_eq, slc_eq] at happ
      have q0 := (get_cells (hk9 0 (by omega) (by omega))).trans k0
      have q1 := (get_cells (hk9 1 (by omega) (by omega))).trans k1
      have n1 : ¬ 1 = s1.n := by omega
      have z10 : (10 : Int) = ((10 : Nat) : Int) := rfl
      have sg4 : ∀ a b c d : AV, seg [a, b, c, d] 0 4 = [a, b, c, d] := fun _ _ _ _ => rfl
      simp only [WU, seval, strs_eq, DU, h0, h3, h9, h12, k1, hr, hfit, hall, hsh]
      refine (hW2 _).useD ?_
      simp only [WU, seval, strs_eq, DU, h0, h3, h9, h12, k1, hr, hfit, hall, hsh, sg4]
      refine (hT _).useD ?_
      simp only [WU, seval, strs_eq, DU, h0, h3, h9, h12, k1, fillA]
      simp only [WU, seval, strs_eq, DU, happ, h9, q1, storeA, sets, setx, TS]
      refine ⟨⟨?_, ?_⟩, ?_⟩
      · intro l hl c hc hf
        simp only [List.mem_cons, List.mem_nil_iff, List.not_mem_nil, or_false] at hl hc
        rcases hl with rfl | rfl <;> rcases hc with rfl | rfl | rfl | rfl | rfl | rfl <;> dsimp only at hf ⊢ <;> first
          | (exact absurd hf (by decide +kernel))
          | (simp only [WU, seval, strs_eq, h3, h9, h12, k1, q1, n1, hr, hfit, hall, sg4]; done)
      · intro sl hsl; simp at hsl
      simp only [WU, seval, strs_eq, h0, h3, h8, h9, h12, q0, q1]
      refine ⟨by omega, _, K ++ [⟨decide (wi kk 2 = 1), .mk eop eb en es eut eui ek⟩], by rw [List.length_append, hKl]; rfl, rfl, rfl, ?_, ?_⟩
      · rw [rowc_append, rowc_one, List.length_append]
        exact hrow9.put (b0 := 1) (by omega) _
      · intro c hc
        rcases List.mem_append.1 hc with h | h
        · exact hKw c h
        · rw [List.mem_singleton.1 h]; exact hTw
    clear h0 h3 h8 hn c0 h9 h12 c1 hx1 hrow hKw
    rintro ρ s ⟨h12, h0, h3, h8, hn, c0, h9, x, K, hKl, c1, hx1, hrow, hKw⟩
    simp only [WU, seval, strs_eq, h12, h0, h3, h8, hn, c0, h9, hw]
    exact ⟨hlt, x, K, hKl, c1, hx1, hrow, hKw⟩
  clear h0 h1 h2 h3 h8 hn c0 h9 h10 c2 c1
  rintro ρ s ⟨h0, h3, h8, hn, c0, h9, x, K, hKl, c1, hx1, hrow, hKw⟩
  have sg11 : ∀ a b c d e f g h i j k : AV, seg [a, b, c, d, e, f, g, h, i, j, k] 0 11 = [a, b, c, d, e, f, g, h, i, j, k] := fun _ _ _ _ _ _ _ _ _ _ _ => rfl
  simp only [WU, seval, strs_eq, h0, h3, h8, hn, c0, h9, c1, sg11, hx1, storeA, sets, setx, TS]
  exact ⟨_, pur_po1 (p := ⟨pk, pu, pi⟩) (a := ⟨ak, au, ai⟩) (r := ⟨rk, ru, ri⟩) (hrow.put (b0 := 0) (by omega) _), _, rfl, ⟨hKl, hKw⟩⟩
theorem Rw.fxd' (l : List Rw) : Fxd (slc Rw.c l) := slc_fxd Rw.fxd l
theorem policy5_ac {k : Int} {us l : List Int} {raws : List Rw} {σ : AState} (hus : us.length ≤ Most) (hl : l.length ≤ Most) (hcl : raws.length ≤ Most) (hrs : ∀ r ∈ raws, r.ok) :
    AC Try.prog 24 [.int .i64 k, ints us, ints l, slc Rw.c raws] σ fun v s => s = σ ∧ ∃ P, v = .agg (Po.c P) ∧ PoG P :=
  AC.share (R := fun v => ∃ P, v = .agg (Po.c P) ∧ PoG P) (.cons (.flat rfl) (.cons (ints_fxd us) (.cons (ints_fxd l) (.cons (Rw.fxd' raws) .nil)))) (policy5_st0 hus hl hcl hrs)
end Go.Proofs.Ytcdbpmmomgehfaa.Va
