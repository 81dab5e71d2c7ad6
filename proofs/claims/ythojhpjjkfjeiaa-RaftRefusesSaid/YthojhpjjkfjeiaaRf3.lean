/- New; what a core that follows answers. Conditions: none. -/
import Derived.Test.YthojhpjjkfjeiaaRf1
import Derived.Test.YthojhpjjkfjeiaaRf2
set_option maxRecDepth 100000
set_option maxHeartbeats 4000000
set_option linter.all false
namespace Go.Proofs.Ythojhpjjkfjeiaa.Va
open Go.Proofs
def mayS (id : Int) (l : List Int) : Bool := decide (0 ≤ id) && (decide (id < 7) && validS l)
/- A core that is new. -/
def coreN (id : Int) (m : AV) (left : Int) : List AV :=
  [.int .i64 0, .int .i64 0, m, .nils, .nils, .int .i64 id, .int .i64 0, .int .i64 (-1), .int .i64 0, .int .i64 0, .nils,
   .int .i64 0, .int .i64 0, .int .i64 0, .bool false, .int .i64 0, .int .i64 0, .int .i64 0, .int .i64 0, .bool false, .int .i64 0, .int .i64 0, .int .i64 0, .int .i64 0, .bool false, .int .i64 0,
   .int .i64 0, .int .i64 0, .int .i64 0, .bool false, .int .i64 0, .int .i64 0, .int .i64 0, .int .i64 0, .bool false, .int .i64 0, .int .i64 0, .int .i64 0, .int .i64 0, .bool false, .int .i64 0,
   .int .i64 0, .int .i64 0, .int .i64 0, .bool false, .int .i64 0, .int .i64 0, .nils, .nils, .int .i64 left, .int .i64 0, .int .i64 0, .nils]
theorem ofInts_len (l : List Int) : (ofInts l).length = l.length := by simp [ofInts]
theorem ofInts_one (l : List Int) : (ofInts l).all AV.one = true := by simp [ofInts, AV.one]
theorem ofInts_pur {s : AState} (l : List Int) : ∀ a ∈ ofInts l, Pur s true a a := fun a ha => by
  obtain ⟨x, _, rfl⟩ := List.mem_map.1 ha
  exact .flat _ rfl
/- Clone of a row of numbers that is fixed data, or one's own. -/
theorem cloneI_ac {l : List Int} {x : AV} {σ : AState} (hl : l.length ≤ 1000) (h0 : 0 < l.length) (hn : AV.len x = some l.length) (hx : ∀ s, s.cells σ.n = some [] → (∀ b, b < σ.n → s.cells b = σ.cells b) → firstA s 1 l.length x = some (ofInts l)) (hnil : evalEq .slice x .nils = some false) :
    AC Try.prog 48 [x] σ fun v s => v = .sl (σ.n + 1) 0 l.length none 1 ∧ s.cells (σ.n + 1) = some (ofInts l) ∧ Keeps σ.n σ s ∧ s.n = σ.n + 2 := by
  have hf := hx (σ.push (.cells [])) (push_cells _ _) (fun b hb => by rw [push_get, if_neg (by omega)])
  have hrow : RowP (fun b => σ.n ≤ b) (σ.push (.cells [])) (.sl σ.n 0 0 (some 0) 1) [] 0 1 := .of (Nat.le_refl _) (Nat.lt_succ_self _) (push_cells _ _) rfl
  have happ : appendA (σ.push (.cells [])) 1 8 (.sl σ.n 0 0 (some 0) 1) x = some (.sl (σ.n + 1) 0 l.length none 1, (σ.push (.cells [])).push (.cells (ofInts l))) := by
    unfold appendA
    have h1 : Nat.ble ((2 * (0 + l.length) + 1024) * 8) 140737488355328 = true := Nat.ble_eq_true_of_le (by omega)
    have h2 : Nat.beq (ofInts l).length (l.length * 1) = true := by rw [ofInts_len, Nat.mul_one]; exact Nat.beq_refl _
    have h3 : Nat.ble (0 + l.length) 0 = false := by cases h : Nat.ble (0 + l.length) 0 with
      | false => rfl
      | true => have := Nat.le_of_ble_eq_true h; omega
    have h4 : (σ.push (.cells [])).cells σ.n = some [] := push_cells _ _
    have e : AV.len (.sl σ.n 0 0 (some 0) 1) = some 0 := rfl
    simp only [e, hn, hf, h1, h2, h3, h4, ofInts_one, Bool.and_true, cond_true, cond_false, Nat.zero_add, push_n, show Nat.beq 1 1 = true from rfl, show Nat.ble (0 + 0 * 1) ([] : List AV).length = true from rfl, Bool.and_self, show seg ([] : List AV) 0 (0 * 1) = [] from rfl, List.nil_append]
    simp only [Nat.zero_add] at h1 h3
    simp only [h1, h3, cond_true, cond_false, Bool.and_self]
  refine ac_wp fn48 cf48 cl48 rfl ?_
  simp only [ac48]
  unfold ab48
  simp only [WU, seval, evalBin, hnil, fillA, happ]
  exact ((Keeps.refl σ).push _).push _
theorem firstA_pslI {s : AState} {l : List Int} : firstA s 1 l.length (.psl (ofInts l) 0 l.length) = some (ofInts l) := firstA_psl' (by rw [ofInts_len, Nat.mul_one])
theorem nil_psl {cs : List AV} {n : Nat} (h : 0 < n) : evalEq .slice (.psl cs 0 n) .nils = some false := by
  cases n with
  | zero => omega
  | succ n => rfl
theorem wait0_ac {σ : AState} {b : Nat} {cs : List AV} (h : σ.cells b = some cs) (hl : 49 < cs.length) : AC Try.prog 49 [.ptr b 0, .int .i64 (0 : Int)] σ fun v s => s = σ.put b (setx cs 49 (.int .i64 10)) ∧ v = .tup [] := by
  have hst : storeA σ (.ptr b 49) [.int .i64 (10 : Int)] = some (σ.put b (setx cs 49 (.int .i64 10))) := store1 h hl rfl
  have e1 : evalInt .rem .i64 0 10 = some (.int .i64 0) := rfl
  have e2 : evalInt .rem .i64 10 10 = some (.int .i64 0) := rfl
  refine ac_wp fn49 cf49 cl49 rfl ?_
  simp only [ac49]
  unfold ab49
  have w10 : IntKind.i64.wrap 10 = 10 := rfl
  simp only [WU, seval, e1, e2, w10, hst]
theorem new_ac {id : Int} {l : List Int} {x : AV} {σ : AState} (hl : l.length ≤ 1000) (hn : AV.len x = some l.length) (hv : AC Try.prog 37 [x] σ fun v s => s = σ ∧ v = .bool (validS l))
    (hx : ∀ s, (∀ b, b < σ.n → s.cells b = σ.cells b) → firstA s 1 l.length x = some (ofInts l)) (hnil : 0 < l.length → evalEq .slice x .nils = some false) :
    AC Try.prog 22 [.int .i64 id, x] σ fun v s => if mayS id l = true then ∃ b r, v = .tup [.ptr b 0, .int .i64 0] ∧ s.cells b = some (coreN id (.sl r 0 l.length none 1) 10) ∧ s.cells r = some (ofInts l) ∧ σ.n ≤ b ∧ b < r ∧ r < s.n ∧ Keeps σ.n σ s else v = .tup [.nilp, .int .i64 1] := by
  obtain ⟨R, hR⟩ : ∃ R, R = mayS id l := ⟨_, rfl⟩
  rw [← hR]
  unfold mayS at hR
  by_cases g1 : id < 0
  · rw [decide_eq_false (by omega), Bool.false_and] at hR
    rw [hR]
    refine ac_wp fn22 cf22 cl22 rfl ?_
    simp only [ac22]
    unfold ab22
    simp only [WU, seval, g1]
  have g1' : 0 ≤ id := by omega
  by_cases g2 : 7 ≤ id
  · rw [decide_eq_true g1', decide_eq_false (by omega), Bool.false_and, Bool.and_false] at hR
    rw [hR]
    refine ac_wp fn22 cf22 cl22 rfl ?_
    simp only [ac22]
    unfold ab22
    simp only [WU, seval, g1, g2]
  rw [decide_eq_true g1', decide_eq_true (by omega : id < 7), Bool.true_and, Bool.true_and] at hR
  rw [← hR] at hv
  cases R with
  | false =>
    refine ac_wp fn22 cf22 cl22 rfl ?_
    simp only [ac22]
    unfold ab22
    simp only [WU, seval, g1, g2]
    refine hv.use ?_
    simp only [WU, seval]
  | true =>
    have h0 : 0 < l.length := (valid_few hR.symm).1
    have hC : ∀ s : AState, s = σ.push (.cells (coreN id .nils 0)) → AC Try.prog 48 [x] s fun v s' => v = .sl (σ.n + 2) 0 l.length none 1 ∧ s'.cells (σ.n + 2) = some (ofInts l) ∧ Keeps (σ.n + 1) s s' ∧ s'.n = σ.n + 3 := fun s e => by
      subst e
      exact cloneI_ac (σ := σ.push (.cells (coreN id .nils 0))) hl h0 hn (fun s' _ hk => hx s' fun b hb => (hk b (by rw [push_n]; omega)).trans (by rw [push_get, if_neg (by omega)])) (hnil h0)
    unfold coreN at hC
    refine ac_wp fn22 cf22 cl22 rfl ?_
    simp only [ac22]
    unfold ab22
    simp only [WU, seval, g1, g2]
    refine hv.use ?_
    simp only [WU, seval]
    refine (hC _ rfl).mono ?_
    rintro v s ⟨rfl, hr, hk, hsn⟩
    have cb : s.cells σ.n = some (coreN id .nils 0) := (hk.cells (by omega)).trans (push_cells _ _)
    unfold coreN at cb
    simp only [WU, seval, cb, storeA, sets, setx, TS]
    refine (wait0_ac (by rw [put_get, if_pos rfl]) (by simp)).use ?_
    simp only [WU, seval]
    exact ⟨σ.n, σ.n + 2, rfl, by rw [if_pos rfl]; rfl, by rw [if_neg (by omega), if_neg (by omega)]; exact hr, Nat.le_refl _, by omega, by omega, ((((Keeps.refl σ).push _).trans (hk.mono (by omega))).put (Nat.le_refl _) _).put (Nat.le_refl _) _⟩
theorem newF_ac {id : Int} {l : List Int} {σ : AState} (hl : l.length ≤ 1000) : AC Try.prog 22 [.int .i64 id, .psl (ofInts l) 0 l.length] σ fun v _ => if mayS id l = true then ∃ b, v = .tup [.ptr b 0, .int .i64 0] else v = .tup [.nilp, .int .i64 1] :=
  (new_ac hl rfl (valid_ac hl (.psl' (ofInts_pur l))) (fun _ _ => firstA_pslI) nil_psl).mono fun v s h => by
    cases hm : mayS id l with
    | true => rw [hm, if_pos rfl] at h; rw [if_pos rfl]; obtain ⟨b, _, hv, _⟩ := h; exact ⟨b, hv⟩
    | false => rw [hm, if_neg (by decide)] at h; rw [if_neg (by decide)]; exact h
theorem newO_ac {id : Int} {l : List Int} {q : Nat} {cap : Option Nat} {σ : AState} (hl : l.length ≤ 1000) (hq : σ.cells q = some (ofInts l)) (hqn : q < σ.n) (hm : mayS id l = true) : AC Try.prog 22 [.int .i64 id, .sl q 0 l.length cap 1] σ fun v s =>
    ∃ b r, v = .tup [.ptr b 0, .int .i64 0] ∧ s.cells b = some (coreN id (.sl r 0 l.length none 1) 10) ∧ s.cells r = some (ofInts l) ∧ σ.n ≤ b ∧ b < r ∧ r < s.n ∧ Keeps σ.n σ s :=
  (new_ac hl rfl (valid_ac hl (.lit hq (by rw [ofInts_len, Nat.mul_one]) (PurL.self (ofInts_pur l)))) (fun s hk => (firstA_own ((hk q hqn).trans hq) (by rw [ofInts_len]; omega)).trans (by rw [Nat.mul_one, seg_self _ _ (ofInts_len l)])) (fun _ => rfl)).mono fun v s h => by
    rw [hm, if_pos rfl] at h; exact h
/- ------------------------------------------------ a core that follows, with an empty log -/
structure YAt (σ : AState) (b r : Nat) : Prop where
  cb : σ.cells b = some (coreN 1 (.sl r 0 3 none 1) 10)
  cr : σ.cells r = some (ofInts [0, 1, 2])
  bn : b < σ.n
  rn : r < σ.n
  ne : b ≠ r
theorem YAt.keeps {σ s : AState} {b r m : Nat} (h : YAt σ b r) (hk : Keeps m σ s) (hb : b < m) (hr : r < m) : YAt s b r := ⟨(hk.cells hb).trans h.cb, (hk.cells hr).trans h.cr, Nat.lt_of_lt_of_le hb hk.1, Nat.lt_of_lt_of_le hr hk.1, h.ne⟩
theorem pur_core {σ : AState} {b : Nat} {id left : Int} {x x' : AV} (h : σ.cells b = some (coreN id x left)) (hx : Pur σ true x x') : Pur σ true (.ptr b 0) (.pptr (coreN id x' left) 0) := by
  have hp : PurL σ true (coreN id x left) (coreN id x' left) := by
    have e : ∀ y, coreN id y left = [.int .i64 0, .int .i64 0] ++ ([y] ++ (coreN id y left).drop 3) := fun y => rfl
    rw [e x, e x']
    refine .append (PurL.self fun a ha => ?_) (.append (.cons hx .nil) (PurL.self fun a ha => ?_))
    · simp only [List.mem_cons, List.not_mem_nil, or_false, or_self] at ha; rw [ha]; exact .flat _ rfl
    · simp only [coreN, List.drop_succ_cons, List.drop_zero, List.mem_cons, List.not_mem_nil, or_false] at ha
      have : a.flat = true := by
        rcases ha with h | h | h | h | h | h | h | h | h | h | h | h | h | h | h | h | h | h | h | h | h | h | h | h | h | h | h | h | h | h | h | h | h | h | h | h | h | h | h | h | h | h | h | h | h | h | h | h | h | h <;> rw [h] <;> rfl
      exact .flat _ this
  exact .ptr b 0 53 _ _ h (by simp [coreN]) (by simp [coreN]) fun i hi hi' => by simpa using hp.2 i (by simpa using hi) hi'
theorem lastY_ac {σ : AState} {b r : Nat} (h : YAt σ b r) : AC Try.prog 13 [.ptr b 0] σ fun v s => s = σ ∧ v = .int .i64 0 := by
  refine AC.pure (R := fun v => v = .int .i64 0) (.cons (pur_core h.cb (.lit h.cr rfl (PurL.self (ofInts_pur _)))) .nil) ?_
  unfold coreN
  refine ac_wp fn13 cf13 cl13 rfl ?_
  simp only [ac13]
  unfold ab13
  simp only [WU, seval]
  refine w_dreg0 follow ?_ rfl
  simp only [WU, seval]
  exact ⟨_, .flat _ rfl, rfl⟩
theorem countedY_ac {σ : AState} {b r : Nat} (h : YAt σ b r) : AC Try.prog 36 [.ptr b 0, .int .i64 (0 : Int)] σ fun v s => s = addSlots σ.n 12 σ [] ∧ v = .tup [.sl r 0 3 none 1, .int .i64 0] := by
  have hb := h.cb
  have hL := lastY_ac h
  unfold coreN at hb
  refine ac_wp fn36 cf36 cl36 rfl ?_
  simp only [ac36]
  unfold ab36
  simp only [WU, seval]
  refine hL.use ?_
  simp only [WU, seval, minMaxA]
  refine w_for (fun i ρ s => s = σ ∧ ρ.rd 0 = .ptr b 0 ∧ ρ.rd 6 = .int .i64 0) 0 ?_ ?_
  · simp only [WU, seval, minMaxA]
  rintro i ρ s hi ⟨rfl, h0, h6⟩
  simp only [WU, seval, h0, h6, hb]
  refine w_dreg0 follow ?_ rfl
  have kb : (addSlots s.n 12 s []).cells b = _ := hb
  simp only [WU, seval, h0, h6, kb]
theorem stepI_run : (runF tab 400 38 [.psl (ofInts [0, 1, 2]) 0 3, .psl (ofInts [0, 1]) 0 2] st0).map (fun r => isYes r.1) = some true := by kernel_rfl
theorem stepI_run' : (runF tab 400 38 [.psl (ofInts [0, 1, 2]) 0 3, .psl (ofInts [0, 1, 2]) 0 3] st0).map (fun r => AV.beq r.1 (.bool false)) = some true := by kernel_rfl
theorem step_ac {σ : AState} {x y : AV} (hx : Pur σ true x (.psl (ofInts [0, 1, 2]) 0 3)) (hy : Pur σ true y (.psl (ofInts [0, 1]) 0 2)) : AC Try.prog 38 [x, y] σ fun v s => s = σ ∧ v = .bool true := by
  refine AC.pure (R := fun v => v = .bool true) (.cons hx (.cons hy .nil)) ?_
  cases h : runF tab 400 38 [.psl (ofInts [0, 1, 2]) 0 3, .psl (ofInts [0, 1]) 0 2] st0 with
  | none => have := stepI_run; rw [h] at this; cases this
  | some r =>
    have h2 := stepI_run; rw [h] at h2
    have h2 : isYes r.1 = true := by simpa using h2
    exact (runs 400 _ _ _ _ _ h).mono fun v s e => by
      rw [e.1, isYes_eq h2]; exact ⟨_, .flat _ rfl, rfl⟩
theorem step_ac' {σ : AState} {x y : AV} (hx : Pur σ true x (.psl (ofInts [0, 1, 2]) 0 3)) (hy : Pur σ true y (.psl (ofInts [0, 1, 2]) 0 3)) : AC Try.prog 38 [x, y] σ fun v s => s = σ ∧ v = .bool false := by
  refine AC.pure (R := fun v => v = .bool false) (.cons hx (.cons hy .nil)) ?_
  cases h : runF tab 400 38 [.psl (ofInts [0, 1, 2]) 0 3, .psl (ofInts [0, 1, 2]) 0 3] st0 with
  | none => have := stepI_run'; rw [h] at this; cases this
  | some r =>
    have h2 := stepI_run'; rw [h] at h2
    have h2 : AV.beq r.1 (.bool false) = true := by simpa using h2
    exact (runs 400 _ _ _ _ _ h).mono fun v s e => by
      rw [e.1, AV.beq_eq _ _ h2]; exact ⟨_, .flat _ rfl, rfl⟩
theorem proposeY_ac {σ : AState} {b r n : Nat} {x : AV} (h : YAt σ b r) (hn : AV.len x = some n) (hs : ∃ q c cap, x = .sl q c n cap 1) : AC Try.prog 23 [.ptr b 0, x] σ fun v s => s = σ ∧ v = .tup [.int .i64 0, .int .i64 (if 700 < n then 5 else 34)] := by
  obtain ⟨q, c, cap, rfl⟩ := hs
  have hb := h.cb
  unfold coreN at hb
  by_cases g : 700 < n
  · have g' : (700 : Int) < (n : Int) := by omega
    rw [if_pos g]
    refine ac_wp fn23 cf23 cl23 rfl ?_
    simp only [ac23]
    unfold ab23
    simp only [WU, seval, g']
  · have g' : ¬ (700 : Int) < (n : Int) := by omega
    rw [if_neg g]
    refine ac_wp fn23 cf23 cl23 rfl ?_
    simp only [ac23]
    unfold ab23
    simp only [WU, seval, g', hb]
theorem askY_ac {σ : AState} {b r : Nat} {n : Int} (h : YAt σ b r) : AC Try.prog 24 [.ptr b 0, .int .i64 n] σ fun v s => s = σ ∧ v = .int .i64 34 := by
  have hb := h.cb
  unfold coreN at hb
  refine ac_wp fn24 cf24 cl24 rfl ?_
  simp only [ac24]
  unfold ab24
  simp only [WU, seval, hb]
theorem keepY_ac {σ : AState} {b r : Nat} {n : Int} (h : YAt σ b r) : AC Try.prog 25 [.ptr b 0, .int .i64 n, .nils] σ fun v s => s = σ ∧ v = .int .i64 1 := by
  have hb := h.cb
  unfold coreN at hb
  by_cases g : n ≤ 0
  · refine ac_wp fn25 cf25 cl25 rfl ?_
    simp only [ac25]
    unfold ab25
    simp only [WU, seval, hb, g]
  · have g' : 0 < n := by omega
    refine ac_wp fn25 cf25 cl25 rfl ?_
    simp only [ac25]
    unfold ab25
    simp only [WU, seval, hb, g, g']
theorem changeY_ac {σ : AState} {b r q : Nat} (h : YAt σ b r) (hq : σ.cells q = some (ofInts [0, 1])) : AC Try.prog 18 [.ptr b 0, .sl q 0 2 (some 2) 1] σ fun v s => v = .tup [.int .i64 0, .int .i64 34] ∧ Keeps σ.n σ s := by
  have hb := h.cb
  have hr := h.cr
  unfold coreN at hb
  refine ac_wp fn18 cf18 cl18 rfl ?_
  simp only [ac18]
  unfold ab18
  simp only [WU, seval]
  refine w_dreg follow [] rfl ?_
  have h1 : YAt (addSlots σ.n 13 σ []) b r := ⟨h.cb, h.cr, by have := h.bn; simp only [addSlots]; omega, by have := h.rn; simp only [addSlots]; omega, h.ne⟩
  have k1 : Keeps σ.n σ (addSlots σ.n 13 σ []) := slots_keep (Keeps.refl σ)
  have kq : (addSlots σ.n 13 σ []).cells q = _ := hq
  generalize addSlots σ.n 13 σ [] = s1 at *
  have hL := lastY_ac h1
  have hC := countedY_ac h1
  simp only [WU, seval, DU]
  refine hL.useD ?_
  simp only [WU, seval, DU]
  refine hC.useD ?_
  simp only [WU, seval, DU]
  refine ⟨⟨?_, ?_⟩, ?_⟩
  · intro l hl; simp at hl
  · intro sl hsl; simp at hsl
  have k2 : Keeps σ.n σ (addSlots s1.n 12 s1 []) := slots_keep k1
  have jb : (addSlots s1.n 12 s1 []).cells b = _ := h1.cb
  have jr : (addSlots s1.n 12 s1 []).cells r = _ := h1.cr
  have jq : (addSlots s1.n 12 s1 []).cells q = _ := kq
  generalize addSlots s1.n 12 s1 [] = s2 at *
  have pq : Pur s2 true (.sl q 0 2 (some 2) 1) (.psl (ofInts [0, 1]) 0 2) := .lit jq rfl (PurL.self (ofInts_pur _))
  have pr : Pur s2 true (.sl r 0 3 none 1) (.psl (ofInts [0, 1, 2]) 0 3) := .lit jr rfl (PurL.self (ofInts_pur _))
  have hV := valid_ac (l := [0, 1]) (by decide) pq
  have hvt : validS [0, 1] = true := by decide
  rw [hvt] at hV
  have hS := step_ac pr pq
  unfold coreN at jb
  trace_state
  refine hV.use ?_
  simp only [WU, seval]
  refine hS.use ?_
  simp only [WU, seval, jb]
  exact k2
theorem changeY_ac' {σ : AState} {b r q : Nat} (h : YAt σ b r) (hq : σ.cells q = some (ofInts [0, 1, 2])) : AC Try.prog 18 [.ptr b 0, .sl q 0 3 (some 3) 1] σ fun v s => v = .tup [.int .i64 0, .int .i64 1] ∧ Keeps σ.n σ s := by
  have hb := h.cb
  have hr := h.cr
  unfold coreN at hb
  refine ac_wp fn18 cf18 cl18 rfl ?_
  simp only [ac18]
  unfold ab18
  simp only [WU, seval]
  refine w_dreg follow [] rfl ?_
  have h1 : YAt (addSlots σ.n 13 σ []) b r := ⟨h.cb, h.cr, by have := h.bn; simp only [addSlots]; omega, by have := h.rn; simp only [addSlots]; omega, h.ne⟩
  have k1 : Keeps σ.n σ (addSlots σ.n 13 σ []) := slots_keep (Keeps.refl σ)
  have kq : (addSlots σ.n 13 σ []).cells q = _ := hq
  generalize addSlots σ.n 13 σ [] = s1 at *
  have hL := lastY_ac h1
  have hC := countedY_ac h1
  simp only [WU, seval, DU]
  refine hL.useD ?_
  simp only [WU, seval, DU]
  refine hC.useD ?_
  simp only [WU, seval, DU]
  refine ⟨⟨?_, ?_⟩, ?_⟩
  · intro l hl; simp at hl
  · intro sl hsl; simp at hsl
  have k2 : Keeps σ.n σ (addSlots s1.n 12 s1 []) := slots_keep k1
  have jr : (addSlots s1.n 12 s1 []).cells r = _ := h1.cr
  have jq : (addSlots s1.n 12 s1 []).cells q = _ := kq
  generalize addSlots s1.n 12 s1 [] = s2 at *
  have pq : Pur s2 true (.sl q 0 3 (some 3) 1) (.psl (ofInts [0, 1, 2]) 0 3) := .lit jq rfl (PurL.self (ofInts_pur _))
  have pr : Pur s2 true (.sl r 0 3 none 1) (.psl (ofInts [0, 1, 2]) 0 3) := .lit jr rfl (PurL.self (ofInts_pur _))
  have hV := valid_ac (l := [0, 1, 2]) (by decide) pq
  have hvt : validS [0, 1, 2] = true := by decide
  rw [hvt] at hV
  have hS := step_ac' pr pq
  refine hV.use ?_
  simp only [WU, seval]
  refine hS.use ?_
  simp only [WU, seval]
  exact k2
theorem readsY_ac {σ : AState} {b r : Nat} (h : YAt σ b r) : AC Try.prog 26 [.ptr b 0] σ fun v _ => v = .nils := by
  have hb := h.cb
  unfold coreN at hb
  refine ac_wp fn26 cf26 cl26 rfl ?_
  simp only [ac26]
  unfold ab26
  simp only [WU, seval, hb, storeA, sets, setx, TS]
end Go.Proofs.Ythojhpjjkfjeiaa.Va
