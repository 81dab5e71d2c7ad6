/- Words for walks over symbolic data: loops that count, slots, bytes. Conditions: none. -/
import Derived.Test.YtaokfpjjaejjgaaVaH
set_option linter.unusedSimpArgs false
set_option linter.unusedVariables false
namespace Go.Proofs.Ytaokfpjjaejjgaa.Va
variable {P : Program} {N : Nat} {Q : AExit → Env → AState → Prop} {ρ : Env} {σ : AState}

theorem rd_put (ρ : Env) (t : Nat) (v : AV) (k : Nat) : (Env.put ρ (some t) v).rd k = if k = t then v else ρ.rd k := by
  simp only [Env.put, Env.rd, Tr.get_set]
  split <;> rfl
theorem rd_none (ρ : Env) (v : AV) : Env.put ρ none v = ρ := Eq.trans rfl rfl
theorem ev_tmp (ρ : Env) (t : Nat) : (Opd.tmp t).ev ρ = ρ.rd t := Eq.trans rfl rfl
theorem ev_con (ρ : Env) (v : AV) : (Opd.con v).ev ρ = v := Eq.trans rfl rfl
theorem rd_args (l : List AV) (t : Nat) : (Env.ofArgs l 0).rd t = (l[t]?).getD .undef := by
  simp [Env.rd, ofArgs_get]
theorem wrap64 {n : Int} (h0 : 0 ≤ n) (h1 : n < 9223372036854775808) : IntKind.i64.wrap n = n := by
  have h : IntKind.i64.wrap n = if n % 18446744073709551616 ≥ 9223372036854775808 then n % 18446744073709551616 - 18446744073709551616 else n % 18446744073709551616 := by
    simp [IntKind.wrap, IntKind.bits, IntKind.signed]
  rw [h]
  split <;> omega

/- A loop of at most n rounds. -/
theorem rounds_for {x : ACode} (J : Nat → Env → AState → Prop) (n : Nat) (round : ∀ i ρ σ, i ≤ n → J i ρ σ → SimA P N x (AExit.then (fun ρ' σ' => i < n ∧ J (i + 1) ρ' σ') Q) ρ σ) :
    ∀ d i ρ σ, i + d = n → J i ρ σ → aRounds P N x Q (d + 1) ρ σ := by
  intro d
  induction d with
  | zero =>
    intro i ρ σ hi h
    refine (round i ρ σ (by omega) h).mono fun e ρ' σ' hq => ?_
    cases e with
    | normal => exact absurd hq.1 (by omega)
    | _ => exact hq
  | succ d ih =>
    intro i ρ σ hi h
    refine (round i ρ σ (by omega) h).mono fun e ρ' σ' hq => ?_
    cases e with
    | normal => exact ih (i + 1) ρ' σ' (by omega) hq.2
    | _ => exact hq
theorem a_for {x : ACode} (J : Nat → Env → AState → Prop) (n : Nat) (h0 : J 0 ρ σ) (round : ∀ i ρ σ, i ≤ n → J i ρ σ → SimA P N x (AExit.then (fun ρ' σ' => i < n ∧ J (i + 1) ρ' σ') Q) ρ σ) :
    SimA P N (.loop x) Q ρ σ := a_rounds (n + 1) (rounds_for J n round n 0 ρ σ (by omega) h0)

/- 'for i := range n': the translator's own form. -/
theorem a_count {it ct jt k k' : Nat} {lim : Opd} {body : ACode} (n : Nat) (hn : n < 4611686018427387904) (J : Nat → Env → AState → Prop)
    (hJ : ∀ i ρ σ, i ≤ n → J i ρ σ → ρ.rd it = .int .i64 i ∧ lim.ev ρ = .int .i64 n) (h0 : J 0 ρ σ)
    (hb : ∀ i ρ σ, i < n → J i ρ σ → SimA P N body (AExit.inBlock k' fun e ρ' σ' => match e with
      | .normal => ρ'.rd it = .int .i64 i ∧ J (i + 1) ((ρ'.put (some jt) (.int .i64 (i + 1 : Nat))).put (some it) (.int .i64 (i + 1 : Nat))) σ'
      | e => AExit.inBlock k Q e ρ' σ') (ρ.put (some ct) (.bool true)) σ)
    (hq : ∀ ρ σ, J n ρ σ → Q .normal (ρ.put (some ct) (.bool false)) σ) (hct : ct ≠ it) :
    SimA P N (.block k (.loop (.seq (.reg [⟨some ct, .bin .lss .plain (.tmp it) lim, none⟩]) (.seq (.cond (.tmp ct) .skip (.exit k)) (.seq (.block k' body) (.reg [⟨some jt, .bin .add .plain (.tmp it) (.con (.int .i64 1)), none⟩, ⟨some it, .mv (.tmp jt), none⟩])))))) Q ρ σ := by
  refine a_block (a_for J n h0 fun i ρ σ hi h => ?_)
  obtain ⟨h1, h2⟩ := hJ i ρ σ hi h
  refine a_seq (a_reg ?_)
  have hev : (Opd.tmp it).ev ρ = .int .i64 i := h1
  simp only [wpOpsA, AOper.wants, stepA, evalA, hev, h2, evalBin, evalInt, if_true, Option.map_some, AExit.then]
  by_cases hlt : i < n
  · have hd : decide ((i : Int) < n) = true := by simpa using hlt
    refine a_seq (a_cond (b := true) (by simp only [Opd.ev, rd_put, if_true, hd]) (a_skip ?_))
    simp only [AExit.then]
    rw [hd]
    refine a_seq (a_block ((hb i ρ σ hlt h).mono fun e ρ' σ' hq => ?_))
    have fin : ∀ ρ' σ', (ρ'.rd it = .int .i64 i ∧ J (i + 1) ((ρ'.put (some jt) (.int .i64 (i + 1 : Nat))).put (some it) (.int .i64 (i + 1 : Nat))) σ') →
        SimA P N (.reg [⟨some jt, .bin .add .plain (.tmp it) (.con (.int .i64 1)), none⟩, ⟨some it, .mv (.tmp jt), none⟩]) (AExit.then (fun ρ' σ' => i < n ∧ J (i + 1) ρ' σ') (AExit.inBlock k Q)) ρ' σ' := by
      rintro ρ' σ' ⟨g1, g2⟩
      refine a_reg ?_
      have hw : IntKind.i64.wrap ((i : Int) + 1) = ((i + 1 : Nat) : Int) := by rw [wrap64 (by omega) (by omega)]; simp
      simp only [wpOpsA, AOper.wants, stepA, evalA, Opd.ev, g1, evalBin, evalInt, if_true, Option.map_some, rd_put, hw, AExit.then]
      exact ⟨hlt, g2⟩
    cases e with
    | normal => exact fin _ _ hq
    | ret => simpa [AExit.inBlock, AExit.then] using hq
    | exit j =>
      simp only [AExit.inBlock] at hq ⊢
      by_cases hj : j = k'
      · simp only [hj, if_true, AExit.then] at hq ⊢; exact fin _ _ hq
      · simp only [hj, if_false, AExit.then] at hq ⊢; exact hq
  · have : i = n := by omega
    subst this
    have hd : decide ((i : Int) < i) = false := by simp
    refine a_seq (a_cond (b := false) (by simp only [Opd.ev, rd_put, if_true, hd]) (a_exit ?_))
    simp only [AExit.then, AExit.inBlock, if_true]
    rw [hd]
    exact hq ρ σ h

theorem ei_add (k : IntKind) (a b : Int) : evalInt .add k a b = some (.int k (k.wrap (a + b))) := Eq.trans rfl rfl
theorem ei_sub (k : IntKind) (a b : Int) : evalInt .sub k a b = some (.int k (k.wrap (a - b))) := Eq.trans rfl rfl
theorem ei_mul (k : IntKind) (a b : Int) : evalInt .mul k a b = some (.int k (k.wrap (a * b))) := Eq.trans rfl rfl
theorem ei_lss (k : IntKind) (a b : Int) : evalInt .lss k a b = some (.bool (decide (a < b))) := Eq.trans rfl rfl
theorem ei_leq (k : IntKind) (a b : Int) : evalInt .leq k a b = some (.bool (decide (a ≤ b))) := Eq.trans rfl rfl
theorem ei_gtr (k : IntKind) (a b : Int) : evalInt .gtr k a b = some (.bool (decide (b < a))) := Eq.trans rfl rfl
theorem ei_geq (k : IntKind) (a b : Int) : evalInt .geq k a b = some (.bool (decide (b ≤ a))) := Eq.trans rfl rfl
theorem ei_eql (k : IntKind) (a b : Int) : evalInt .eql k a b = some (.bool (decide (a = b))) := Eq.trans rfl rfl
theorem ei_neq (k : IntKind) (a b : Int) : evalInt .neq k a b = some (.bool (decide (a ≠ b))) := by
  simp only [evalInt]
  congr 2
  by_cases h : a = b <;> simp [h, bne]

theorem store1 {s : AState} {b off : Nat} {cs : List AV} {v : AV} (hc : s.cells b = some cs) (h : off < cs.length) (hv : v.one = true) : storeA s (.ptr b off) [v] = some (s.put b (setx cs off v)) := by
  have hb : Nat.ble (off + 1) cs.length = true := by simp; omega
  simp only [storeA, hc, List.length_singleton, hb, List.all_cons, List.all_nil, hv, Bool.and_true, cond_true, sets]
theorem push_cells (s : AState) (cs : List AV) : (s.push (.cells cs)).cells s.n = some cs := by simp [AState.cells, AState.push]
end Go.Proofs.Ytaokfpjjaejjgaa.Va
