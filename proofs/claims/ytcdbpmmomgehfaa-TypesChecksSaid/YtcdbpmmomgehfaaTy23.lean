/- Raw trees as plain Lean; uids and leaves of them. Conditions: none. -/
import Derived.Test.YtcdbpmmomgehfaaTE
import Derived.Test.YtcdbpmmomgehfaaTy22
set_option maxRecDepth 100000
set_option maxHeartbeats 4000000
set_option linter.all false
namespace Go.Proofs.Ytcdbpmmomgehfaa.Va
open Go.Proofs
inductive Rw where
  | mk (op n : Int) (s : List Int) (kids : List Rw)
mutual
def Rw.c : Rw → List AV
  | .mk op n s kids => [.int .i64 op, .int .i64 n, ints s, .psl (Rw.cs kids) 0 kids.length]
def Rw.cs : List Rw → List AV
  | [] => []
  | e :: r => Rw.c e ++ Rw.cs r
end
theorem Rw.cs_eq : ∀ l : List Rw, Rw.cs l = rowc Rw.c l := by
  intro l
  induction l with
  | nil => rfl
  | cons e l ih => rw [rowc_cons, ← ih]; rfl
theorem Rw.c_len (e : Rw) : e.c.length = 4 := by cases e; rfl
theorem Rw.c_eq (op n : Int) (s : List Int) (kids : List Rw) : (Rw.mk op n s kids).c = [.int .i64 op, .int .i64 n, ints s, slc Rw.c kids] := by
  rw [slc_eq, ← Rw.cs_eq]; rfl
mutual
theorem Rw.fxd : (e : Rw) → FxdL e.c
  | .mk op n s kids => .cons (.flat rfl) (.cons (.flat rfl) (.cons (ints_fxd s) (.cons (.psl (Rw.fxds kids)) .nil)))
theorem Rw.fxds : (l : List Rw) → FxdL (Rw.cs l)
  | [] => .nil
  | e :: r => (Rw.fxd e).append (Rw.fxds r)
end
mutual
def Rw.ok : Rw → Prop
  | .mk op n s kids => s.length ≤ Most ∧ kids.length ≤ Most ∧ Rw.oks kids
def Rw.oks : List Rw → Prop
  | [] => True
  | e :: es => Rw.ok e ∧ Rw.oks es
end
theorem Rw.ok_eq (op n : Int) (s : List Int) (kids : List Rw) : (Rw.mk op n s kids).ok = (s.length ≤ Most ∧ kids.length ≤ Most ∧ Rw.oks kids) := by rw [Rw.ok]
theorem Rw.oks_all : ∀ {l : List Rw}, Rw.oks l ↔ ∀ e ∈ l, e.ok := by
  intro l
  induction l with
  | nil => simp [Rw.oks]
  | cons e l ih => rw [Rw.oks, ih]; simp
def uidT (i : Int) : Str := if i = 0 then [85, 115, 101, 114] else if i = 1 then [71, 114, 111, 117, 112] else if i = 2 then [68, 111, 99] else if i = 3 then [65, 99, 116, 105, 111, 110] else [105, 102]
theorem uidL_st0 {n : Int} {l : List Int} (hm : l.length ≤ Most) : AC Try.prog 23 [.int .i64 n, ints l] st0 fun v s => ∃ a, Pur s true v a ∧ a = .agg [.str (uidT (wi n 5)), .str (idS l)] := by
  refine ac_wp fn23 cf23 cl23 rfl ?_
  simp only [ac23]
  unfold ab23
  simp only [WU, seval, strs_eq]
  refine w_dreg follow [(0, [.str [85, 115, 101, 114], .str [71, 114, 111, 117, 112], .str [68, 111, 99], .str [65, 99, 116, 105, 111, 110], .str [105, 102]])] rfl ?_
  have hwr := wi_range n (n := 5) (by decide)
  obtain ⟨k, hk⟩ : ∃ k : Nat, wi n 5 = k := ⟨(wi n 5).toNat, by omega⟩
  rw [hk] at hwr ⊢
  have hr : (0 : Int) ≤ (k : Int) ∧ (k : Int) < (5 : Int) := by omega
  have hg : [AV.str [85, 115, 101, 114], .str [71, 114, 111, 117, 112], .str [68, 111, 99], .str [65, 99, 116, 105, 111, 110], .str [105, 102]][k]? = some (.str (uidT k)) := by
    have : k < 5 := by omega
    match k, this with
    | 0, _ => rfl
    | 1, _ => rfl
    | 2, _ => rfl
    | 3, _ => rfl
    | 4, _ => rfl
  have g0 := slots_get (s := st0.push (.cells [.str [], .str []])) (m := 9) [(0, [.str [85, 115, 101, 114], .str [71, 114, 111, 117, 112], .str [68, 111, 99], .str [65, 99, 116, 105, 111, 110], .str [105, 102]])] 0 [.str [85, 115, 101, 114], .str [71, 114, 111, 117, 112], .str [68, 111, 99], .str [65, 99, 116, 105, 111, 110], .str [105, 102]] rfl
  have c0 : (addSlots (st0.push (.cells [.str [], .str []])).n 9 (st0.push (.cells [.str [], .str []])) [(0, [.str [85, 115, 101, 114], .str [71, 114, 111, 117, 112], .str [68, 111, 99], .str [65, 99, 116, 105, 111, 110], .str [105, 102]])]).cells 0 = some [.str [], .str []] := (slots_old _ (Nat.lt_succ_self _)).trans (push_cells _ _)
  have hnn : 1 < (addSlots (st0.push (.cells [.str [], .str []])).n 9 (st0.push (.cells [.str [], .str []])) [(0, [.str [85, 115, 101, 114], .str [71, 114, 111, 117, 112], .str [68, 111, 99], .str [65, 99, 116, 105, 111, 110], .str [105, 102]])]).n := by simp only [addSlots, push_n, st0_n]; omega
  generalize addSlots (st0.push (.cells [.str [], .str []])).n 9 (st0.push (.cells [.str [], .str []])) [(0, [.str [85, 115, 101, 114], .str [71, 114, 111, 117, 112], .str [68, 111, 99], .str [65, 99, 116, 105, 111, 110], .str [105, 102]])] = s1 at *
  simp only [push_n, st0_n, Nat.zero_add, Nat.add_zero] at g0
  have c1 := cells_of g0
  have hI : AC Try.prog 35 [ints l] s1 fun v s => s = s1 ∧ v = .str (idS l) := id5_ac hm
  rw [ints_eq] at hI
  simp only [WU, seval, strs_eq, DU, fillA, rowOf, ints_eq]
  refine (within5_ac (by decide) (by decide)).useD ?_
  rw [hk]
  simp only [WU, seval, strs_eq, DU, hr, c1, hg, ints_eq]
  refine hI.useD ?_
  simp only [WU, seval, strs_eq, DU, fillA, c0, storeA, sets, setx, TS]
  refine ⟨⟨?_, ?_⟩, _, .agg _ [.str (uidT k), .str (idS l)] rfl (fun i hi hi' => ?_), rfl⟩
  · intro l hl c hc hf
    simp only [List.mem_cons, List.mem_nil_iff, List.not_mem_nil, or_false] at hl hc
    rcases hl with rfl <;> rcases hc with rfl | rfl | rfl | rfl <;> dsimp only at hf ⊢ <;> first
      | (exact absurd hf (by decide +kernel))
      | (simp only [WU, seval, strs_eq, c1, hg]; done)
  · intro sl hsl c hc hf
    simp only [List.mem_cons, List.mem_nil_iff, List.not_mem_nil, or_false] at hsl hc
    subst hsl
    rcases hc with rfl | rfl | rfl | rfl <;> dsimp only at hf ⊢ <;> first
      | (exact absurd hf (by decide +kernel))
      | exact ⟨hnn, g0⟩
      | exact ⟨hnn, (put_h (by omega)).trans g0⟩
  · match i, hi with
    | 0, _ => exact .flat _ rfl
    | 1, _ => exact .flat _ rfl
theorem uidL_ac {n : Int} {l : List Int} {σ : AState} (hm : l.length ≤ Most) : AC Try.prog 23 [.int .i64 n, ints l] σ fun v s => s = σ ∧ v = .agg [.str (uidT (wi n 5)), .str (idS l)] :=
  AC.share (.cons (.flat rfl) (.cons (ints_fxd l) .nil)) (uidL_st0 hm)
/- within of a great number. -/
theorem ei_rem (k : IntKind) (a b : Int) (h : b ≠ 0) : evalInt .rem k a b = some (.int k (a.tmod b)) := by
  have : evalInt .rem k a b = if b = 0 then none else some (.int k (a.tmod b)) := rfl
  rw [this, if_neg h]
theorem withinG_ac {x : Int} {σ : AState} : AC Try.prog 33 [.int .i64 x, .int .i64 4611686018427387904] σ fun v s => s = σ ∧ v = .int .i64 (if x.tmod 4611686018427387904 < 0 then IntKind.i64.wrap (x.tmod 4611686018427387904 + 4611686018427387904) else x.tmod 4611686018427387904) := by
  have hr := ei_rem .i64 x 4611686018427387904 (by decide)
  by_cases h : x.tmod 4611686018427387904 < 0
  · rw [if_pos h]
    refine ac_wp fn33 cf33 cl33 rfl ?_
    simp only [ac33]
    unfold ab33
    simp only [WU, seval, strs_eq, hr, h]
  · rw [if_neg h]
    refine ac_wp fn33 cf33 cl33 rfl ?_
    simp only [ac33]
    unfold ab33
    simp only [WU, seval, strs_eq, hr, h]
def bigN (x : Int) : Int := if x.tmod 4611686018427387904 < 0 then IntKind.i64.wrap (x.tmod 4611686018427387904 + 4611686018427387904) else x.tmod 4611686018427387904
def varN (i : Int) : Str := if i = 0 then prinS else if i = 1 then [97, 99, 116, 105, 111, 110] else resoS
def leafX : Rw → Ex
  | .mk op n s _ =>
    if wi op 6 = 0 then .mk 1 (decide (n.tmod 2 = 0)) 0 [] [] [] []
    else if wi op 6 = 1 then .mk 2 false (bigN n) [] [] [] []
    else if wi op 6 = 2 then .mk 3 false 0 (idS s) [] [] []
    else if wi op 6 = 3 then .mk 4 false 0 [] (uidT (wi n 5)) (idS s) []
    else if wi op 6 = 4 then .mk 5 false 0 (varN (wi n 3)) [] [] []
    else .mk 6 false 0 [] [] [] []
theorem leafX_wf (r : Rw) : (leafX r).wf := by
  obtain ⟨op, n, s, kids⟩ := r
  unfold leafX
  have h : ∀ (k : Int) b m t u v, 1 ≤ k → k ≤ 6 → (Ex.mk k b m t u v []).wf := fun k b m t u v h1 h6 => by
    rw [Ex.wf_eq]
    refine ⟨?_, by simp, by simp [Ex.wfs]⟩
    rcases (by omega : k = 6 ∨ k ≤ 5) with e | e
    · exact .inr (.inl e)
    · exact .inl ⟨h1, e, rfl⟩
  repeat' (first | exact h _ _ _ _ _ _ (by decide) (by decide) | split)
theorem pur_leafX {σ : AState} {op : Int} {b : Bool} {n : Int} {s u v : Str} : Pur σ true (.agg [.int .i64 op, .bool b, .int .i64 n, .str s, .str u, .str v, .nils]) (.agg (Ex.mk op b n s u v []).c) :=
  .agg _ _ rfl fun i hi hi' => by
    match i, hi with
    | 0, _ => exact .flat _ rfl
    | 1, _ => exact .flat _ rfl
    | 2, _ => exact .flat _ rfl
    | 3, _ => exact .flat _ rfl
    | 4, _ => exact .flat _ rfl
    | 5, _ => exact .flat _ rfl
    | 6, _ => exact .nils _ _
theorem leaf5_st0 {r : Rw} (hr : r.ok) : AC Try.prog 32 [.agg r.c] st0 fun v s => ∃ a, Pur s true v a ∧ a = .agg (leafX r).c := by
  obtain ⟨op, n, s, kids⟩ := r
  rw [Rw.ok_eq] at hr
  rw [Rw.c_eq]
  have sg7 := sg07
  have hwr := wi_range op (n := 6) (by decide)
  have hc : wi op 6 = 0 ∨ wi op 6 = 1 ∨ wi op 6 = 2 ∨ wi op 6 = 3 ∨ wi op 6 = 4 ∨ wi op 6 = 5 := by omega
  rcases hc with h | h | h | h | h | h
  · have hv : leafX (.mk op n s kids) = .mk 1 (decide (n.tmod 2 = 0)) 0 [] [] [] [] := by rw [leafX, if_pos h]
    rw [hv]
    have he := ei_rem .i64 n 2 (by decide)
    refine ac_wp fn32 cf32 cl32 rfl ?_
    simp only [ac32]
    unfold ab32
    simp only [WU, seval, strs_eq]
    refine (within5_ac (by decide) (by decide)).use ?_
    simp only [WU, seval, strs_eq, h, he, sg07, storeA, sets, setx, TS]
    exact ⟨_, pur_leafX, rfl⟩
  · have hv : leafX (.mk op n s kids) = .mk 2 false (bigN n) [] [] [] [] := by rw [leafX, if_neg (by omega), if_pos h]
    rw [hv]
    refine ac_wp fn32 cf32 cl32 rfl ?_
    simp only [ac32]
    unfold ab32
    simp only [WU, seval, strs_eq]
    refine (within5_ac (by decide) (by decide)).use ?_
    simp only [WU, seval, strs_eq, h]
    refine withinG_ac.use ?_
    simp only [WU, seval, strs_eq, sg07, storeA, sets, setx, TS]
    exact ⟨_, pur_leafX, rfl⟩
  · have hv : leafX (.mk op n s kids) = .mk 3 false 0 (idS s) [] [] [] := by rw [leafX, if_neg (by omega), if_neg (by omega), if_pos h]
    rw [hv]
    have hI : ∀ σ, AC Try.prog 35 [ints s] σ fun v s' => s' = σ ∧ v = .str (idS s) := fun σ => id5_ac hr.1
    simp only [ints_eq] at hI
    refine ac_wp fn32 cf32 cl32 rfl ?_
    simp only [ac32]
    unfold ab32
    simp only [WU, seval, strs_eq, ints_eq]
    refine (within5_ac (by decide) (by decide)).use ?_
    simp only [WU, seval, strs_eq, h]
    refine (hI _).use ?_
    simp only [WU, seval, strs_eq, sg07, storeA, sets, setx, TS]
    exact ⟨_, pur_leafX, rfl⟩
  · have hv : leafX (.mk op n s kids) = .mk 4 false 0 [] (uidT (wi n 5)) (idS s) [] := by rw [leafX, if_neg (by omega), if_neg (by omega), if_neg (by omega), if_pos h]
    rw [hv]
    have hI : ∀ σ, AC Try.prog 23 [.int .i64 n, ints s] σ fun v s' => s' = σ ∧ v = .agg [.str (uidT (wi n 5)), .str (idS s)] := fun σ => uidL_ac hr.1
    simp only [ints_eq] at hI
    refine ac_wp fn32 cf32 cl32 rfl ?_
    simp only [ac32]
    unfold ab32
    simp only [WU, seval, strs_eq, ints_eq]
    refine (within5_ac (by decide) (by decide)).use ?_
    simp only [WU, seval, strs_eq, h]
    refine (hI _).use ?_
    simp only [WU, seval, strs_eq, sg07, storeA, sets, setx, TS]
    exact ⟨_, pur_leafX, rfl⟩
  · have hv : leafX (.mk op n s kids) = .mk 5 false 0 (varN (wi n 3)) [] [] [] := by rw [leafX, if_neg (by omega), if_neg (by omega), if_neg (by omega), if_neg (by omega), if_pos h]
    rw [hv]
    have hwn := wi_range n (n := 3) (by decide)
    have q0 : (0 : Int) < (3 : Int) := by decide
    have q1 : (1 : Int) < (3 : Int) := by decide
    have q2 : (2 : Int) < (3 : Int) := by decide
    refine ac_wp fn32 cf32 cl32 rfl ?_
    simp only [ac32]
    unfold ab32
    simp only [WU, seval, strs_eq]
    refine (within5_ac (by decide) (by decide)).use ?_
    simp only [WU, seval, strs_eq, h, fillA]
    refine (within5_ac (by decide) (by decide)).use ?_
    rcases (by omega : wi n 3 = 0 ∨ wi n 3 = 1 ∨ wi n 3 = 2) with e | e | e
    · simp only [WU, seval, strs_eq, e, q0, push_cells, sg07, storeA, sets, setx, TS]
      exact ⟨_, pur_leafX, rfl⟩
    · simp only [WU, seval, strs_eq, e, q1, push_cells, sg07, storeA, sets, setx, TS]
      exact ⟨_, pur_leafX, rfl⟩
    · simp only [WU, seval, strs_eq, e, q2, push_cells, sg07, storeA, sets, setx, TS]
      exact ⟨_, pur_leafX, rfl⟩
  · have hv : leafX (.mk op n s kids) = .mk 6 false 0 [] [] [] [] := by rw [leafX, if_neg (by omega), if_neg (by omega), if_neg (by omega), if_neg (by omega), if_neg (by omega)]
    rw [hv]
    refine ac_wp fn32 cf32 cl32 rfl ?_
    simp only [ac32]
    unfold ab32
    simp only [WU, seval, strs_eq]
    refine (within5_ac (by decide) (by decide)).use ?_
    simp only [WU, seval, strs_eq, h, sg07, storeA, sets, setx, TS]
    exact ⟨_, pur_leafX, rfl⟩
theorem leaf5_ac {r : Rw} {σ : AState} (hr : r.ok) : AC Try.prog 32 [.agg r.c] σ fun v s => s = σ ∧ v = .agg (leafX r).c :=
  AC.share (.cons (.agg (Rw.fxd r)) .nil) (leaf5_st0 hr)
/- How many there are matters only as a number. -/
theorem few5_step {op n : Int} {s : List Int} {kids : List Rw} {m : Int} (hl : kids.length ≤ Most)
    (ih : ∀ e ∈ kids, ∀ m σ, AC Try.prog 12 [.agg e.c, .int .i64 m] σ fun v s' => s' = σ ∧ ∃ k, v = .int .i64 k) :
    AC Try.prog 12 [.agg (Rw.mk op n s kids).c, .int .i64 m] st0 fun v _ => ∃ k, v = .int .i64 k := by
  rw [Rw.c_eq]
  by_cases h1 : m ≤ 0
  · refine ac_wp fn12 cf12 cl12 rfl ?_
    simp only [ac12]
    unfold ab12
    simp only [WU, seval, strs_eq, h1, ints_eq]
    exact ⟨_, rfl⟩
  by_cases h2 : (12 : Int) < ((kids.length : Nat) : Int)
  · refine ac_wp fn12 cf12 cl12 rfl ?_
    simp only [ac12]
    unfold ab12
    simp only [WU, seval, strs_eq, h1, h2, ints_eq]
    exact ⟨_, rfl⟩
  by_cases h3 : (60 : Int) < ((s.length : Nat) : Int)
  · refine ac_wp fn12 cf12 cl12 rfl ?_
    simp only [ac12]
    unfold ab12
    simp only [WU, seval, strs_eq, h1, h2, h3, ints_eq]
    exact ⟨_, rfl⟩
  refine ac_wp fn12 cf12 cl12 rfl ?_
  simp only [ac12]
  unfold ab12
  simp only [WU, seval, strs_eq, h1, h2, h3, ints_eq]
  refine w_for (fun i ρ s' => ρ.rd 5 = .int .i64 i ∧ ρ.rd 2 = .ptr 0 0 ∧ s'.cells 0 = some [.int .i64 op, .int .i64 n, ints s, slc Rw.c kids] ∧ ∃ k, ρ.rd 1 = .int .i64 k) kids.length ?_ ?_
  · simp only [WU, seval, strs_eq, ints_eq]
    first | done | exact ⟨rfl, _, rfl⟩ | exact ⟨_, rfl⟩
  rintro i ρ s' hi ⟨h5, hp, c0, k, hk⟩
  by_cases hlt : i < kids.length
  rotate_left
  · have hge : ¬ ((i : Nat) : Int) < ((kids.length : Nat) : Int) := by omega
    simp only [WU, seval, strs_eq, h5, hp, c0, hk, hge]
    exact ⟨_, rfl⟩
  have hr := lt_idx hlt
  have hlt' := hr.2
  have hfit := rowc_fit Rw.c_len hlt
  have hall := rowc_seg Rw.c_len hlt
  have hw : IntKind.i64.wrap ((i : Int) + 1) = ((i + 1 : Nat) : Int) := wrap_succ (by have : Most = 9223372036854775807 := rfl; omega)
  by_cases hk0 : 0 < k
  · simp only [WU, seval, strs_eq, h5, hp, c0, hk, hlt', hk0, hr, hfit, hall]
    refine (ih _ (List.getElem_mem hlt) k s').mono ?_
    rintro v s1 ⟨rfl, k', rfl⟩
    simp only [WU, seval, strs_eq, h5, hp, c0, hw]
    exact ⟨hlt, _, rfl⟩
  · simp only [WU, seval, strs_eq, h5, hp, c0, hk, hlt', hk0]
    exact ⟨_, rfl⟩
theorem few5_share {e : Rw} {m : Int} {σ : AState} (h : AC Try.prog 12 [.agg e.c, .int .i64 m] st0 fun v _ => ∃ k, v = .int .i64 k) : AC Try.prog 12 [.agg e.c, .int .i64 m] σ fun v s' => s' = σ ∧ ∃ k, v = .int .i64 k :=
  AC.share (R := fun v => ∃ k, v = .int .i64 k) (.cons (.agg (Rw.fxd e)) (.cons (.flat rfl) .nil)) (h.mono fun v s h => by obtain ⟨k, rfl⟩ := h; exact ⟨_, .flat _ rfl, k, rfl⟩)
mutual
theorem few5_ac : (e : Rw) → e.ok → ∀ m σ, AC Try.prog 12 [.agg e.c, .int .i64 m] σ fun v s' => s' = σ ∧ ∃ k, v = .int .i64 k
  | .mk op n s kids, h, m, σ => few5_share (few5_step ((Rw.ok_eq ..).mp h).2.1 (few5_all kids ((Rw.ok_eq ..).mp h).2.2))
theorem few5_all : (l : List Rw) → Rw.oks l → ∀ e ∈ l, ∀ m σ, AC Try.prog 12 [.agg e.c, .int .i64 m] σ fun v s' => s' = σ ∧ ∃ k, v = .int .i64 k
  | [], _, e, he, m, σ => absurd he (by simp)
  | k :: l, hw, e, he, m, σ => by
    have hw' : k.ok ∧ Rw.oks l := by rw [Rw.oks] at hw; exact hw
    rcases List.mem_cons.1 he with h | h
    · rw [h]; exact few5_ac k hw'.1 m σ
    · exact few5_all l hw'.2 e h m σ
end
end Go.Proofs.Ytcdbpmmomgehfaa.Va
