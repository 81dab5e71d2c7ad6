/- The law TypesMade. Conditions: none. -/
import Derived.Test.YtcdbpmmomgehfaaTL4
import Derived.Test.YtcdbpmmomgehfaaTM
import Derived.Test.YtcdbpmmomgehfaaTy37
set_option maxRecDepth 100000
set_option maxHeartbeats 4000000
set_option linter.all false
namespace Go.Proofs.Ytcdbpmmomgehfaa.Va
open Go.Proofs
/- How many there are matters only as a number. -/
theorem few11_step {op n : Int} {s : List Int} {kids : List Rw} {m : Int} (hl : kids.length ≤ Most)
    (ih : ∀ e ∈ kids, ∀ m σ, AC Try.prog 17 [.agg e.c, .int .i64 m] σ fun v s' => s' = σ ∧ ∃ k, v = .int .i64 k) :
    AC Try.prog 17 [.agg (Rw.mk op n s kids).c, .int .i64 m] st0 fun v _ => ∃ k, v = .int .i64 k := by
  rw [Rw.c_eq]
  by_cases h1 : m ≤ 0
  · refine ac_wp fn17 cf17 cl17 rfl ?_
    simp only [ac17]
    unfold ab17
    simp only [WS, seval, stepW, evalA, evalBin, Option.getD, allocA, rowOf, fillA, partsV, setl, AV.len, evalUn, strs_eq, h1, ints_eq]
    exact ⟨_, rfl⟩
  by_cases h2 : (10 : Int) < ((kids.length : Nat) : Int)
  · refine ac_wp fn17 cf17 cl17 rfl ?_
    simp only [ac17]
    unfold ab17
    simp only [WS, seval, stepW, evalA, evalBin, Option.getD, allocA, rowOf, fillA, partsV, setl, AV.len, evalUn, strs_eq, h1, h2, ints_eq]
    exact ⟨_, rfl⟩
  by_cases h3 : (60 : Int) < ((s.length : Nat) : Int)
  · refine ac_wp fn17 cf17 cl17 rfl ?_
    simp only [ac17]
    unfold ab17
    simp only [WS, seval, stepW, evalA, evalBin, Option.getD, allocA, rowOf, fillA, partsV, setl, AV.len, evalUn, strs_eq, h1, h2, h3, ints_eq]
    exact ⟨_, rfl⟩
  refine ac_wp fn17 cf17 cl17 rfl ?_
  simp only [ac17]
  unfold ab17
  simp only [WS, seval, stepW, evalA, evalBin, Option.getD, allocA, rowOf, fillA, partsV, setl, AV.len, evalUn, strs_eq, h1, h2, h3, ints_eq]
  refine w_for (fun i ρ s' => ρ.rd 5 = .int .i64 i ∧ ρ.rd 2 = .ptr 0 0 ∧ s'.cells 0 = some [.int .i64 op, .int .i64 n, ints s, slc Rw.c kids] ∧ ∃ k, ρ.rd 1 = .int .i64 k) kids.length ?_ ?_
  · simp only [WS, seval, stepW, evalA, evalBin, Option.getD, allocA, rowOf, fillA, partsV, setl, AV.len, evalUn, strs_eq, ints_eq]
    first | done | exact ⟨rfl, _, rfl⟩ | exact ⟨_, rfl⟩
  rintro i ρ s' hi ⟨h5, hp, c0, k, hk⟩
  by_cases hlt : i < kids.length
  rotate_left
  · have hge : ¬ ((i : Nat) : Int) < ((kids.length : Nat) : Int) := by omega
    simp only [WS, seval, stepW, evalA, evalBin, Option.getD, allocA, rowOf, fillA, partsV, setl, AV.len, evalUn, strs_eq, h5, hp, c0, hk, hge]
    exact ⟨_, rfl⟩
  have hr := lt_idx hlt
  have hlt' := hr.2
  have hfit := rowc_fit Rw.c_len hlt
  have hall := rowc_seg Rw.c_len hlt
  have hw : IntKind.i64.wrap ((i : Int) + 1) = ((i + 1 : Nat) : Int) := wrap_succ (by have : Most = 9223372036854775807 := rfl; omega)
  by_cases hk0 : 0 < k
  · simp only [WS, seval, stepW, evalA, evalBin, Option.getD, allocA, rowOf, fillA, partsV, setl, AV.len, evalUn, strs_eq, h5, hp, c0, hk, hlt', hk0, hr, hfit, hall]
    refine (ih _ (List.getElem_mem hlt) k s').mono ?_
    rintro v s1 ⟨rfl, k', rfl⟩
    simp only [WS, seval, stepW, evalA, evalBin, Option.getD, allocA, rowOf, fillA, partsV, setl, AV.len, evalUn, strs_eq, h5, hp, c0, hw]
    exact ⟨hlt, _, rfl⟩
  · simp only [WS, seval, stepW, evalA, evalBin, Option.getD, allocA, rowOf, fillA, partsV, setl, AV.len, evalUn, strs_eq, h5, hp, c0, hk, hlt', hk0]
    exact ⟨_, rfl⟩
theorem few11_share {e : Rw} {m : Int} {σ : AState} (h : AC Try.prog 17 [.agg e.c, .int .i64 m] st0 fun v _ => ∃ k, v = .int .i64 k) : AC Try.prog 17 [.agg e.c, .int .i64 m] σ fun v s' => s' = σ ∧ ∃ k, v = .int .i64 k :=
  AC.share (R := fun v => ∃ k, v = .int .i64 k) (.cons (.agg (Rw.fxd e)) (.cons (.flat rfl) .nil)) (h.mono fun v s h => by obtain ⟨k, rfl⟩ := h; exact ⟨_, .flat _ rfl, k, rfl⟩)
mutual
theorem few11_ac : (e : Rw) → e.ok → ∀ m σ, AC Try.prog 17 [.agg e.c, .int .i64 m] σ fun v s' => s' = σ ∧ ∃ k, v = .int .i64 k
  | .mk op n s kids, h, m, σ => few11_share (few11_step ((Rw.ok_eq ..).mp h).2.1 (few11_all kids ((Rw.ok_eq ..).mp h).2.2))
theorem few11_all : (l : List Rw) → Rw.oks l → ∀ e ∈ l, ∀ m σ, AC Try.prog 17 [.agg e.c, .int .i64 m] σ fun v s' => s' = σ ∧ ∃ k, v = .int .i64 k
  | [], _, e, he, m, σ => absurd he (by simp)
  | k :: l, hw, e, he, m, σ => by
    have hw' : k.ok ∧ Rw.oks l := by rw [Rw.oks] at hw; exact hw
    rcases List.mem_cons.1 he with h | h
    · rw [h]; exact few11_ac k hw'.1 m σ
    · exact few11_all l hw'.2 e h m σ
end
theorem of_pur {S : Sc} {p a r : Str} {e : Ex} {x : AV} {σ : AState} (hs : ScR S) (hw : e.wf) (hx : Pur σ true x (.agg e.c)) : AC Try.prog 16 [.agg S.c, .agg [.str p, .str a, .str r], x] σ fun v s => s = σ ∧ v = .bool true :=
  AC.pure (R := fun v => v = .bool true) (.cons (pur_schema σ S) (.cons (pur_en σ ⟨p, a, r⟩) (.cons hx .nil))) ((ofL_ac (σ := st0) hs hw).mono fun v s h => ⟨_, by rw [h.2]; exact .flat _ rfl, rfl⟩)
theorem typesMade_ac {ks : List RKd} {ac : List RAc} {n t : Int} {A B : Rw} (hA : A.ok) (hB : B.ok) :
    AC Try.prog 4 [slc RKd.c ks, slc RAc.c ac, .int .i64 n, .int .i64 t, .agg A.c, .agg B.c] st0 fun v _ => v = .bool true := by
  have hfa : ∀ σ, AC Try.prog 17 [.agg A.c, .int .i64 60] σ fun v s' => s' = σ ∧ ∃ k, v = .int .i64 k := fun σ => few11_ac A hA 60 σ
  have hfb : ∀ σ, AC Try.prog 17 [.agg B.c, .int .i64 60] σ fun v s' => s' = σ ∧ ∃ k, v = .int .i64 k := fun σ => few11_ac B hB 60 σ
  have hmk : ∀ (S : Sc) (p a r : Str), ScN S → hasS S.kinds p = true → hasS S.kinds r = true → SubAC S p a r ((6 : Nat) : Int) (makeX S p r 6) := fun S p a r hS hp hr => make_sub hS.r.m (by have := hS.kl; omega) hp hr 6 (by decide)
  have hmA := fun (S : Sc) (p a r : Str) hS hp hr T σ hT => hmk S p a r hS hp hr T A σ hT hA
  have hmB := fun (S : Sc) (p a r : Str) hS hp hr T σ hT => hmk S p a r hS hp hr T B σ hT hB
  clear hmk
  have hX : ∃ mA : Sc → Str → Str → Ty → Ex, ∀ S p r T, mA S p r T = makeX S p r 6 T A := ⟨fun S p r T => makeX S p r 6 T A, fun _ _ _ _ => rfl⟩
  have hY : ∃ mB : Sc → Str → Str → Ty → Ex, ∀ S p r T, mB S p r T = makeX S p r 6 T B := ⟨fun S p r T => makeX S p r 6 T B, fun _ _ _ _ => rfl⟩
  obtain ⟨mA, hX⟩ := hX
  obtain ⟨mB, hY⟩ := hY
  have hmade : ∀ S p r T, ScN S → hasS S.kinds p = true → hasS S.kinds r = true → TyK S T → Made S p r T (mA S p r T) ∧ Made S p r T (mB S p r T) := fun S p r T hS hp hr hT => by
    rw [hX, hY]; exact ⟨made_all hS hp hr 6 T A hT, made_all hS hp hr 6 T B hT⟩
  simp only [← hX] at hmA
  simp only [← hY] at hmB
  clear hX hY
  obtain ⟨ao, an, as_, ak⟩ := A
  obtain ⟨bo, bn, bs, bk⟩ := B
  simp only [Rw.c_eq, ints_eq, slc_eq, mkC_eq, Ty.c_eq] at hfa hfb hmA hmB ⊢
  refine ac_s fn4 cf4 cl4 rfl ?_
  simp only [ac4]
  unfold ab4
  refine s_mid (fun ρ s => ρ.rd 0 = slc RKd.c ks ∧ ρ.rd 1 = slc RAc.c ac ∧ ρ.rd 2 = .int .i64 n ∧ ρ.rd 3 = .int .i64 t ∧ ρ.rd 10 = .ptr 0 0 ∧ ρ.rd 11 = .ptr 1 0 ∧ s.cells 0 = some [.int .i64 ao, .int .i64 an, .psl (ofInts as_) 0 as_.length, .psl (rowc Rw.c ak) 0 ak.length] ∧ s.cells 1 = some [.int .i64 bo, .int .i64 bn, .psl (ofInts bs) 0 bs.length, .psl (rowc Rw.c bk) 0 bk.length] ∧ s.n = 2) ?_ ?_
  · simp only [WS, seval, stepW, evalA, evalBin, Option.getD, allocA, rowOf, fillA, partsV, setl, AV.len, evalUn, strs_eq]
  rintro ρ s ⟨h0, h1, h2, h3, h10, h11, c0, c1, hn⟩
  refine s_mid (fun ρ s => ρ.rd 0 = slc RKd.c ks ∧ ρ.rd 1 = slc RAc.c ac ∧ ρ.rd 2 = .int .i64 n ∧ ρ.rd 3 = .int .i64 t ∧ ρ.rd 10 = .ptr 0 0 ∧ ρ.rd 11 = .ptr 1 0 ∧ s.cells 0 = some [.int .i64 ao, .int .i64 an, .psl (ofInts as_) 0 as_.length, .psl (rowc Rw.c ak) 0 ak.length] ∧ s.cells 1 = some [.int .i64 bo, .int .i64 bn, .psl (ofInts bs) 0 bs.length, .psl (rowc Rw.c bk) 0 bk.length] ∧ s.n = 2) ?_ ?_
  · simp only [WS, seval, stepW, evalA, evalBin, Option.getD, allocA, rowOf, fillA, partsV, setl, AV.len, evalUn, strs_eq, h2, h3, h10, h11, c0, c1]
    refine known11_ac.use ?_
    simp only [WS, seval, stepW, evalA, evalBin, Option.getD, allocA, rowOf, fillA, partsV, setl, AV.len, evalUn, strs_eq, h0, h1, h2, h3, h10, h11, c0, c1, hn]
  clear h0 h1 h2 h3 h10 h11 c0 c1 hn
  rintro ρ s ⟨h0, h1, h2, h3, h10, h11, c0, c1, hn⟩
  refine s_frz (fun ρ s => ρ.rd 2 = .int .i64 n ∧ ρ.rd 3 = .int .i64 t ∧ ρ.rd 10 = .ptr 0 0 ∧ ρ.rd 11 = .ptr 1 0 ∧ s.cells 0 = some [.int .i64 ao, .int .i64 an, .psl (ofInts as_) 0 as_.length, .psl (rowc Rw.c ak) 0 ak.length] ∧ s.cells 1 = some [.int .i64 bo, .int .i64 bn, .psl (ofInts bs) 0 bs.length, .psl (rowc Rw.c bk) 0 bk.length] ∧ ∃ b S, ρ.rd 13 = .ptr b 0 ∧ 2 ≤ b ∧ b < s.n ∧ s.cells b = some [.psl (rowc Kd.c S.kinds) 0 S.kinds.length, .psl (rowc Ac.c S.acts) 0 S.acts.length] ∧ ScN S) ?_ ?_
  · simp only [WS, seval, stepW, evalA, evalBin, Option.getD, allocA, rowOf, fillA, partsV, setl, AV.len, evalUn, strs_eq, h0, h1]
    refine good_frz fun x y s1 hx hy hk hM => ?_
    have hk1 := hk.1
    have d0 := (hk.cells (b := 0) (by omega)).trans c0
    have d1 := (hk.cells (b := 1) (by omega)).trans c1
    simp only [WS, seval, stepW, evalA, evalBin, Option.getD, allocA, rowOf, fillA, partsV, setl, AV.len, evalUn, strs_eq, h2, h3, h10, h11, c0, c1, hx, hy, frzQ_normal, frzQ_exit, frzQ_ret, storeA, sets, setx, TS]
    refine hM _ _ s1.n _ _ (by rw [put_get, if_pos rfl]) (Nat.le_refl _) (by simp only [put_n, push_n]; omega) (fun c hc => by rw [put_get, if_neg (by omega), push_get, if_neg (by omega)]) fun S s2 hS e1 e2 e3 => ?_
    have f0 := (e3 0 (by omega) (by omega)).trans (by rw [put_get, if_neg (by omega), push_get, if_neg (by omega)])
    have f1 := (e3 1 (by omega) (by omega)).trans (by rw [put_get, if_neg (by omega), push_get, if_neg (by omega)])
    simp only [WS, seval, stepW, evalA, evalBin, Option.getD, allocA, rowOf, fillA, partsV, setl, AV.len, evalUn, strs_eq, h2, h3, h10, h11, c0, c1, f0, f1]
    exact ⟨d0, d1, s1.n, S, rfl, by omega, by rw [e1]; exact Nat.lt_succ_self _, by simpa [slc_eq] using e2, hS⟩
  clear h0 h1 h2 h3 h10 h11 c0 c1 hn
  rintro ρ s ⟨h2, h3, h10, h11, c0, c1, b, S, h13, hb2, hb, cb, hS⟩
  have hR := hS.r
  have sg := scSeg S
  have hE : ∀ σ, AC Try.prog 15 [.agg S.c, .int .i64 n] σ fun v s => s = σ ∧ v = .tup [.agg (if hasEnv S = true then envX S n else noEn).c, .bool (hasEnv S)] := fun σ => env_ac hR.m (by have := hS.al; omega)
  cases hhas : hasEnv S with
  | false =>
    rw [hhas] at hE
    generalize (if false = true then envX S n else noEn) = X at *
    simp only [Sc.c_eq, slc_eq, En.c_eq] at hE
    refine s_wp ?_
    simp only [WS, seval, stepW, evalA, evalBin, Option.getD, allocA, rowOf, fillA, partsV, setl, AV.len, evalUn, strs_eq, h2, h3, h10, h11, c0, c1, h13, cb, sg]
    refine (hE _).use ?_
    simp only [WS, seval, stepW, evalA, evalBin, Option.getD, allocA, rowOf, fillA, partsV, setl, AV.len, evalUn, strs_eq, sg03, storeA, sets, setx, TS]
  | true =>
  have hkn := envs_known hS (envX_mem (n := n) hhas)
  rw [hhas, if_pos rfl] at hE
  generalize envX S n = X at *
  obtain ⟨hp, hr⟩ := hkn
  simp only [Sc.c_eq, slc_eq, En.c_eq] at hE
  have hmA := fun T σ hT => hmA S X.p X.a X.r hS hp hr T σ hT
  have hmB := fun T σ hT => hmB S X.p X.a X.r hS hp hr T σ hT
  have hmade := fun T hT => hmade S X.p X.r T hS hp hr hT
  refine s_mid (fun ρ s => ρ.rd 2 = .int .i64 n ∧ ρ.rd 3 = .int .i64 t ∧ ρ.rd 10 = .ptr 0 0 ∧ ρ.rd 11 = .ptr 1 0 ∧ s.cells 0 = some [.int .i64 ao, .int .i64 an, .psl (ofInts as_) 0 as_.length, .psl (rowc Rw.c ak) 0 ak.length] ∧ s.cells 1 = some [.int .i64 bo, .int .i64 bn, .psl (ofInts bs) 0 bs.length, .psl (rowc Rw.c bk) 0 bk.length] ∧ ρ.rd 13 = .ptr b 0 ∧ b < s.n ∧ s.cells b = some [.psl (rowc Kd.c S.kinds) 0 S.kinds.length, .psl (rowc Ac.c S.acts) 0 S.acts.length] ∧ ∃ e, ρ.rd 14 = .ptr e 0 ∧ b < e ∧ e < s.n ∧ s.cells e = some [.str X.p, .str X.a, .str X.r] ∧ ρ.rd 15 = .bool true) ?_ ?_
  · have n0 : ¬ 0 = s.n := by omega
    have n1 : ¬ 1 = s.n := by omega
    have nb : ¬ b = s.n := by omega
    simp only [WS, seval, stepW, evalA, evalBin, Option.getD, allocA, rowOf, fillA, partsV, setl, AV.len, evalUn, strs_eq, h2, h3, h10, h11, c0, c1, h13, hb, cb, sg]
    refine (hE _).use ?_
    simp only [WS, seval, stepW, evalA, evalBin, Option.getD, allocA, rowOf, fillA, partsV, setl, AV.len, evalUn, strs_eq, h2, h3, h10, h11, c0, c1, h13, hb, cb, sg03, n0, n1, nb, storeA, sets, setx, TS]
    exact ⟨by omega, s.n, rfl, by omega, by omega, by simp⟩
  clear h2 h3 h10 h11 c0 c1 h13 hb cb
  rintro ρ s ⟨h2, h3, h10, h11, c0, c1, h13, hb, cb, e, h14, hbe, he, ce, h15⟩
  refine s_mid (fun ρ s => ρ.rd 2 = .int .i64 n ∧ ρ.rd 3 = .int .i64 t ∧ ρ.rd 10 = .ptr 0 0 ∧ ρ.rd 11 = .ptr 1 0 ∧ s.cells 0 = some [.int .i64 ao, .int .i64 an, .psl (ofInts as_) 0 as_.length, .psl (rowc Rw.c ak) 0 ak.length] ∧ s.cells 1 = some [.int .i64 bo, .int .i64 bn, .psl (ofInts bs) 0 bs.length, .psl (rowc Rw.c bk) 0 bk.length] ∧ ρ.rd 13 = .ptr b 0 ∧ b < s.n ∧ s.cells b = some [.psl (rowc Kd.c S.kinds) 0 S.kinds.length, .psl (rowc Ac.c S.acts) 0 S.acts.length] ∧ ρ.rd 14 = .ptr e 0 ∧ e < s.n ∧ s.cells e = some [.str X.p, .str X.a, .str X.r]) ?_ ?_
  · simp only [WS, seval, stepW, evalA, evalBin, Option.getD, allocA, rowOf, fillA, partsV, setl, AV.len, evalUn, strs_eq, h2, h3, h10, h11, c0, c1, h13, hb, cb, h14, he, ce, h15, sg04]
    refine (hfa _).mono ?_
    rintro v s' ⟨rfl, k, rfl⟩
    by_cases hk0 : k = 0
    · simp only [WS, seval, stepW, evalA, evalBin, Option.getD, allocA, rowOf, fillA, partsV, setl, AV.len, evalUn, strs_eq, hk0, h2, h3, h10, h11, c0, c1, h13, hb, cb, h14, he, ce]
    · simp only [WS, seval, stepW, evalA, evalBin, Option.getD, allocA, rowOf, fillA, partsV, setl, AV.len, evalUn, strs_eq, hk0, h2, h3, h10, h11, c0, c1, h13, hb, cb, h14, he, ce, sg04]
      refine (hfb _).mono ?_
      rintro v s'' ⟨rfl, k2, rfl⟩
      by_cases hk2 : k2 = 0
      · simp only [WS, seval, stepW, evalA, evalBin, Option.getD, allocA, rowOf, fillA, partsV, setl, AV.len, evalUn, strs_eq, hk2, h2, h3, h10, h11, c0, c1, h13, hb, cb, h14, he, ce]
      · simp only [WS, seval, stepW, evalA, evalBin, Option.getD, allocA, rowOf, fillA, partsV, setl, AV.len, evalUn, strs_eq, hk2, h2, h3, h10, h11, c0, c1, h13, hb, cb, h14, he, ce]
  clear h2 h3 h10 h11 c0 c1 h13 hb cb h14 he ce h15
  rintro ρ s ⟨h2, h3, h10, h11, c0, c1, h13, hb, cb, h14, he, ce⟩
  refine s_mid (fun ρ s => ρ.rd 2 = .int .i64 n ∧ ρ.rd 3 = .int .i64 t ∧ ρ.rd 10 = .ptr 0 0 ∧ ρ.rd 11 = .ptr 1 0 ∧ s.cells 0 = some [.int .i64 ao, .int .i64 an, .psl (ofInts as_) 0 as_.length, .psl (rowc Rw.c ak) 0 ak.length] ∧ s.cells 1 = some [.int .i64 bo, .int .i64 bn, .psl (ofInts bs) 0 bs.length, .psl (rowc Rw.c bk) 0 bk.length] ∧ ρ.rd 13 = .ptr b 0 ∧ b < s.n ∧ s.cells b = some [.psl (rowc Kd.c S.kinds) 0 S.kinds.length, .psl (rowc Ac.c S.acts) 0 S.acts.length] ∧ ρ.rd 14 = .ptr e 0 ∧ e < s.n ∧ s.cells e = some [.str X.p, .str X.a, .str X.r] ∧ ∃ m, ρ.rd 16 = .ptr m 0 ∧ e < m ∧ m < s.n ∧ s.cells m = some [.psl (rowc Kd.c S.kinds) 0 S.kinds.length, .psl (rowc Ac.c S.acts) 0 S.acts.length, .str X.p, .str X.a, .str X.r, .int .i64 6]) ?_ ?_
  · have n0 : ¬ 0 = s.n := by omega
    have n1 : ¬ 1 = s.n := by omega
    have nb : ¬ b = s.n := by omega
    have ne : ¬ e = s.n := by omega
    simp only [WS, seval, stepW, evalA, evalBin, Option.getD, allocA, rowOf, fillA, partsV, setl, AV.len, evalUn, strs_eq, h2, h3, h10, h11, c0, c1, h13, hb, cb, h14, he, ce, sg, sg03, n0, n1, nb, ne, storeA, sets, setx, TS]
    exact ⟨by omega, by omega, s.n, rfl, by omega, by omega, by simp⟩
  clear h2 h3 h10 h11 c0 c1 h13 hb cb h14 he ce
  rintro ρ s ⟨h2, h3, h10, h11, c0, c1, h13, hb, cb, h14, he, ce, m, h16, hem, hm, cm⟩
  have hs1 : ∀ k σ, AC Try.prog 18 [.agg [.psl (rowc Kd.c S.kinds) 0 S.kinds.length, .psl (rowc Ac.c S.acts) 0 S.acts.length, .str X.p, .str X.a, .str X.r, .int .i64 6], .int .i64 k] σ fun v s => s = σ ∧ v = .agg (someT X.p X.r k).c := fun k σ => some_ac (S := S) (a := X.a) (d := 6)
  have hTB := fun k => someT_ok (S := S) hp hr k
  simp only [Ty.c_eq] at hs1
  generalize hT0 : someT X.p X.r t = T0
  have hs0 := hs1 t
  have hTB0 := hTB t
  rw [hT0] at hs0 hTB0
  refine s_mid (fun ρ s => ρ.rd 2 = .int .i64 n ∧ ρ.rd 3 = .int .i64 t ∧ ρ.rd 10 = .ptr 0 0 ∧ ρ.rd 11 = .ptr 1 0 ∧ s.cells 0 = some [.int .i64 ao, .int .i64 an, .psl (ofInts as_) 0 as_.length, .psl (rowc Rw.c ak) 0 ak.length] ∧ s.cells 1 = some [.int .i64 bo, .int .i64 bn, .psl (ofInts bs) 0 bs.length, .psl (rowc Rw.c bk) 0 bk.length] ∧ ρ.rd 13 = .ptr b 0 ∧ b < s.n ∧ s.cells b = some [.psl (rowc Kd.c S.kinds) 0 S.kinds.length, .psl (rowc Ac.c S.acts) 0 S.acts.length] ∧ ρ.rd 14 = .ptr e 0 ∧ e < s.n ∧ s.cells e = some [.str X.p, .str X.a, .str X.r] ∧ ρ.rd 16 = .ptr m 0 ∧ m < s.n ∧ s.cells m = some [.psl (rowc Kd.c S.kinds) 0 S.kinds.length, .psl (rowc Ac.c S.acts) 0 S.acts.length, .str X.p, .str X.a, .str X.r, .int .i64 6] ∧ ∃ w, ρ.rd 17 = .ptr w 0 ∧ m < w ∧ w < s.n ∧ s.cells w = some [.int .i64 T0.kind, .int .i64 T0.of_, .str T0.name]) ?_ ?_
  · have n0 : ¬ 0 = s.n := by omega
    have n1 : ¬ 1 = s.n := by omega
    have nb : ¬ b = s.n := by omega
    have ne : ¬ e = s.n := by omega
    have nm : ¬ m = s.n := by omega
    simp only [WS, seval, stepW, evalA, evalBin, Option.getD, allocA, rowOf, fillA, partsV, setl, AV.len, evalUn, strs_eq, h2, h3, h10, h11, c0, c1, h13, hb, cb, h14, he, ce, h16, hm, cm, sg06]
    refine (hs0 _).use ?_
    simp only [WS, seval, stepW, evalA, evalBin, Option.getD, allocA, rowOf, fillA, partsV, setl, AV.len, evalUn, strs_eq, h2, h3, h10, h11, c0, c1, h13, hb, cb, h14, he, ce, h16, hm, cm, n0, n1, nb, ne, nm, sg03, storeA, sets, setx, TS]
    exact ⟨by omega, by omega, by omega, s.n, rfl, by omega, by omega, by simp⟩
  clear h2 h3 h10 h11 c0 c1 h13 hb cb h14 he ce h16 hm cm
  rintro ρ s ⟨h2, h3, h10, h11, c0, c1, h13, hb, cb, h14, he, ce, h16, hm, cm, w, h17, hmw, hw, cw⟩
  obtain ⟨W, hW, hWK⟩ : ∃ W : Ty, W = (if t.tmod 6 = 5 then ⟨5, T0.kind, T0.name⟩ else T0) ∧ TyK S W := by
    refine ⟨_, rfl, ?_⟩
    split
    · exact tyK_set hTB0
    · exact .inl hTB0
  refine s_mid (fun ρ s => ρ.rd 2 = .int .i64 n ∧ ρ.rd 3 = .int .i64 t ∧ ρ.rd 10 = .ptr 0 0 ∧ ρ.rd 11 = .ptr 1 0 ∧ s.cells 0 = some [.int .i64 ao, .int .i64 an, .psl (ofInts as_) 0 as_.length, .psl (rowc Rw.c ak) 0 ak.length] ∧ s.cells 1 = some [.int .i64 bo, .int .i64 bn, .psl (ofInts bs) 0 bs.length, .psl (rowc Rw.c bk) 0 bk.length] ∧ ρ.rd 13 = .ptr b 0 ∧ b < s.n ∧ s.cells b = some [.psl (rowc Kd.c S.kinds) 0 S.kinds.length, .psl (rowc Ac.c S.acts) 0 S.acts.length] ∧ ρ.rd 14 = .ptr e 0 ∧ e < s.n ∧ s.cells e = some [.str X.p, .str X.a, .str X.r] ∧ ρ.rd 16 = .ptr m 0 ∧ m < s.n ∧ s.cells m = some [.psl (rowc Kd.c S.kinds) 0 S.kinds.length, .psl (rowc Ac.c S.acts) 0 S.acts.length, .str X.p, .str X.a, .str X.r, .int .i64 6] ∧ ρ.rd 17 = .ptr w 0 ∧ m < w ∧ w < s.n ∧ s.cells w = some [.int .i64 W.kind, .int .i64 W.of_, .str W.name]) ?_ ?_
  · have hrem := ei_rem .i64 t 6 (by decide)
    have n0 : ¬ 0 = w := by omega
    have n1 : ¬ 1 = w := by omega
    have nb : ¬ b = w := by omega
    have ne : ¬ e = w := by omega
    have nm : ¬ m = w := by omega
    by_cases h65 : t.tmod 6 = 5
    · rw [if_pos h65] at hW
      rw [hW]
      simp only [WS, seval, stepW, evalA, evalBin, Option.getD, allocA, rowOf, fillA, partsV, setl, AV.len, evalUn, strs_eq, h2, h3, h10, h11, c0, c1, h13, hb, cb, h14, he, ce, h16, hm, cm, h17, hmw, hw, cw, hrem, decide_eq_true h65, n0, n1, nb, ne, nm, storeA, sets, setx, TS]
    · rw [if_neg h65] at hW
      rw [hW]
      simp only [WS, seval, stepW, evalA, evalBin, Option.getD, allocA, rowOf, fillA, partsV, setl, AV.len, evalUn, strs_eq, h2, h3, h10, h11, c0, c1, h13, hb, cb, h14, he, ce, h16, hm, cm, h17, hmw, hw, cw, hrem, decide_eq_false h65]
  clear h2 h3 h10 h11 c0 c1 h13 hb cb h14 he ce h16 hm cm h17 hmw hw cw hW
  rintro ρ s ⟨h2, h3, h10, h11, c0, c1, h13, hb, cb, h14, he, ce, h16, hm, cm, h17, hmw, hw, cw⟩
  have hq := ei_quo t 5 (by decide)
  have hs5 := hs1 (quoI t 5)
  have hTB5 := hTB (quoI t 5)
  generalize someT X.p X.r (quoI t 5) = T5 at *
  have hxA := hmA W
  have hyB := hmB T5
  obtain ⟨hMx, _⟩ := hmade W hWK
  obtain ⟨_, hMy⟩ := hmade T5 (.inl hTB5)
  have hxA := fun σ => hxA σ hWK
  have hyB := fun σ => hyB σ (.inl hTB5)
  clear hmA hmB hmade hs1 hs0 hTB hTB0 hTB5 hT0 hfa hfb hE
  generalize mA S X.p X.r W = Ex1 at *
  generalize mB S X.p X.r T5 = Ey1 at *
  obtain ⟨xo, xb, xn, xs, xu, xv, xk⟩ := Ex1
  have hyl := Ex.c_len Ey1
  have hyone : Ey1.c.all AV.one = true := by obtain ⟨_, _, _, _, _, _, _⟩ := Ey1; rw [Ex.c_eq]; rfl
  have hyc : ∃ yo yb yn ys yu yv yk, Ey1.c = [.int .i64 yo, .bool yb, .int .i64 yn, .str ys, .str yu, .str yv, yk] ∧ yk.one = true := by
    obtain ⟨yo, yb, yn, ys, yu, yv, yk⟩ := Ey1
    exact ⟨yo, yb, yn, ys, yu, yv, _, Ex.c_eq .., rfl⟩
  obtain ⟨yo, yb, yn, ys, yu, yv, yk, hyc, hyk⟩ := hyc
  simp only [Ex.c_eq, slc_eq, hyc] at hxA hyB
  refine s_mid (fun ρ s => ∃ x y, ρ.rd 2 = .int .i64 n ∧ ρ.rd 13 = .ptr b 0 ∧ b < s.n ∧ s.cells b = some [.psl (rowc Kd.c S.kinds) 0 S.kinds.length, .psl (rowc Ac.c S.acts) 0 S.acts.length] ∧ ρ.rd 14 = .ptr e 0 ∧ e < s.n ∧ s.cells e = some [.str X.p, .str X.a, .str X.r] ∧ ρ.rd 17 = .ptr w 0 ∧ w < s.n ∧ s.cells w = some [.int .i64 W.kind, .int .i64 W.of_, .str W.name] ∧ ρ.rd 18 = .ptr x 0 ∧ x < s.n ∧ s.cells x = some [.int .i64 xo, .bool xb, .int .i64 xn, .str xs, .str xu, .str xv, .psl (rowc Ex.c xk) 0 xk.length] ∧ ρ.rd 19 = .ptr y 0 ∧ x < y ∧ y < s.n ∧ s.cells y = some [.int .i64 yo, .bool yb, .int .i64 yn, .str ys, .str yu, .str yv, yk] ∧ b < x ∧ e < x ∧ w < x) ?_ ?_
  · simp only [WS, seval, stepW, evalA, evalBin, Option.getD, allocA, rowOf, fillA, partsV, setl, AV.len, evalUn, strs_eq]
    refine w_dreg follow [(11, [.int .i64 0, .bool false, .int .i64 0, .str [], .str [], .str [], .nils]), (12, [.int .i64 0, .bool false, .int .i64 0, .str [], .str [], .str [], .nils])] rfl ?_
    have ga := slots_get (s := s) (m := 15) [(11, [.int .i64 0, .bool false, .int .i64 0, .str [], .str [], .str [], .nils]), (12, [.int .i64 0, .bool false, .int .i64 0, .str [], .str [], .str [], .nils])] 11 _ rfl
    have gb := slots_get (s := s) (m := 15) [(11, [.int .i64 0, .bool false, .int .i64 0, .str [], .str [], .str [], .nils]), (12, [.int .i64 0, .bool false, .int .i64 0, .str [], .str [], .str [], .nils])] 12 _ rfl
    have k0 := (slots_old (m := 15) [(11, [.int .i64 0, .bool false, .int .i64 0, .str [], .str [], .str [], .nils]), (12, [.int .i64 0, .bool false, .int .i64 0, .str [], .str [], .str [], .nils])] (b := 0) (by omega)).trans c0
    have k1 := (slots_old (m := 15) [(11, [.int .i64 0, .bool false, .int .i64 0, .str [], .str [], .str [], .nils]), (12, [.int .i64 0, .bool false, .int .i64 0, .str [], .str [], .str [], .nils])] (b := 1) (by omega)).trans c1
    have kb := (slots_old (m := 15) [(11, [.int .i64 0, .bool false, .int .i64 0, .str [], .str [], .str [], .nils]), (12, [.int .i64 0, .bool false, .int .i64 0, .str [], .str [], .str [], .nils])] hb).trans cb
    have ke := (slots_old (m := 15) [(11, [.int .i64 0, .bool false, .int .i64 0, .str [], .str [], .str [], .nils]), (12, [.int .i64 0, .bool false, .int .i64 0, .str [], .str [], .str [], .nils])] he).trans ce
    have km := (slots_old (m := 15) [(11, [.int .i64 0, .bool false, .int .i64 0, .str [], .str [], .str [], .nils]), (12, [.int .i64 0, .bool false, .int .i64 0, .str [], .str [], .str [], .nils])] hm).trans cm
    have kw := (slots_old (m := 15) [(11, [.int .i64 0, .bool false, .int .i64 0, .str [], .str [], .str [], .nils]), (12, [.int .i64 0, .bool false, .int .i64 0, .str [], .str [], .str [], .nils])] hw).trans cw
    have kn : (addSlots s.n 15 s [(11, [.int .i64 0, .bool false, .int .i64 0, .str [], .str [], .str [], .nils]), (12, [.int .i64 0, .bool false, .int .i64 0, .str [], .str [], .str [], .nils])]).n = s.n + 15 := rfl
    generalize addSlots s.n 15 s [(11, [.int .i64 0, .bool false, .int .i64 0, .str [], .str [], .str [], .nils]), (12, [.int .i64 0, .bool false, .int .i64 0, .str [], .str [], .str [], .nils])] = s1 at *
    have ca := cells_of ga
    have cb' := cells_of gb
    have n0a : ¬ 0 = s.n + 11 := by omega
    have n0b : ¬ 0 = s.n + 12 := by omega
    have n1a : ¬ 1 = s.n + 11 := by omega
    have n1b : ¬ 1 = s.n + 12 := by omega
    have nma : ¬ m = s.n + 11 := by omega
    have nmb : ¬ m = s.n + 12 := by omega
    have nwa : ¬ w = s.n + 11 := by omega
    have nwb : ¬ w = s.n + 12 := by omega
    have nba : ¬ b = s.n + 11 := by omega
    have nbb : ¬ b = s.n + 12 := by omega
    have nea : ¬ e = s.n + 11 := by omega
    have neb : ¬ e = s.n + 12 := by omega
    have nsn : ¬ s.n + 1 = s.n := by omega
    have nsn' : ¬ s.n = s.n + 1 := by omega
    simp only [WS, seval, stepW, evalA, evalBin, Option.getD, allocA, rowOf, fillA, partsV, setl, AV.len, evalUn, strs_eq, DS, isSl, AOp.pure, AOp.reader, allocD, AOp.quiet, isSlot, Nat.reduceBEq, h2, h3, h10, h11, h13, h14, h16, h17, k0, k1, kb, ke, km, kw, sg06, sg04, sg03]
    refine (hxA _).useD ?_
    simp only [WS, seval, stepW, evalA, evalBin, Option.getD, allocA, rowOf, fillA, partsV, setl, AV.len, evalUn, strs_eq, DS, isSl, AOp.pure, AOp.reader, allocD, AOp.quiet, isSlot, Nat.reduceBEq, h2, h3, h10, h11, h13, h14, h16, h17, k0, k1, kb, ke, km, kw, sg06, sg04, sg03, hq]
    refine (hs5 _).useD ?_
    simp only [WS, seval, stepW, evalA, evalBin, Option.getD, allocA, rowOf, fillA, partsV, setl, AV.len, evalUn, strs_eq, DS, isSl, AOp.pure, AOp.reader, allocD, AOp.quiet, isSlot, Nat.reduceBEq, h2, h3, h10, h11, h13, h14, h16, h17, k0, k1, kb, ke, km, kw, sg06, sg04, sg03]
    refine (hyB _).useD ?_
    simp only [WS, seval, stepW, evalA, evalBin, Option.getD, allocA, rowOf, fillA, partsV, setl, AV.len, evalUn, strs_eq, DS, isSl, AOp.pure, AOp.reader, allocD, AOp.quiet, isSlot, Nat.reduceBEq, h2, h3, h10, h11, h13, h14, h16, h17, ca, cb', hyk, nsn, nsn', storeA, sets, setx, TS]
    refine ⟨⟨?_, ?_⟩, ?_⟩
    · intro l hl c hc hf
      simp only [List.mem_cons, List.mem_nil_iff, List.not_mem_nil, or_false] at hl hc
      rcases hl with rfl | rfl | rfl | rfl | rfl | rfl <;> rcases hc with rfl | rfl | rfl | rfl | rfl | rfl <;> dsimp only at hf ⊢ <;> first
        | (exact absurd hf (by decide +kernel))
        | (simp only [WS, seval, stepW, evalA, evalBin, Option.getD, allocA, rowOf, fillA, partsV, setl, AV.len, evalUn, strs_eq, h2, h3, h10, h11, h13, h14, h16, h17, k0, k1, kb, ke, km, kw, n0a, n0b, n1a, n1b, nma, nmb, nwa, nwb, nba, nbb, nea, neb, nsn, nsn', sg06, sg04, sg03]; done)
    · intro sl hsl c hc hf
      simp only [List.mem_cons, List.mem_nil_iff, List.not_mem_nil, or_false] at hsl hc
      rcases hsl with rfl | rfl <;> rcases hc with rfl | rfl | rfl | rfl | rfl | rfl <;> dsimp only at hf ⊢ <;> first
        | exact ⟨by omega, ga⟩
        | exact ⟨by omega, gb⟩
        | exact ⟨by simp only [put_n]; omega, (put_h (by omega)).trans ga⟩
        | exact ⟨by simp only [put_n]; omega, (put_h (by omega)).trans gb⟩
        | (exact absurd hf (by decide +kernel))
    · simp only [WS, seval, stepW, evalA, evalBin, Option.getD, allocA, rowOf, fillA, partsV, setl, AV.len, evalUn, strs_eq, h2, h3, h10, h11, h13, h14, h16, h17, kb, ke, kw, n0a, n0b, n1a, n1b, nma, nmb, nwa, nwb, nba, nbb, nea, neb, nsn, nsn']
      refine ⟨s.n + 11, s.n + 12, by omega, by omega, by omega, rfl, by omega, by simp, rfl, by omega, by omega, by simp, by omega, by omega, by omega⟩
  clear h2 h3 h10 h11 c0 c1 h13 hb cb h14 he ce h16 hm cm h17 hmw hw cw
  rintro ρ s ⟨x, y, h2, h13, hb, cb, h14, he, ce, h17, hw, cw, h18, hx, cx, h19, hxy, hy, cy, hbx, hex, hwx⟩
  have hofx : ∀ σ, AC Try.prog 20 [.agg S.c, .agg [.str X.p, .str X.a, .str X.r], .agg (Ex.mk xo xb xn xs xu xv xk).c] σ fun v s => s = σ ∧ v = tyP (W, 0) := fun σ => by
    have := of_ac (p := X.p) (a := X.a) (r := X.r) hR _ hMx.1 σ
    rw [hMx.2] at this; exact this
  simp only [Ex.c_eq, Sc.c_eq, slc_eq, tyP, tyE, Ty.c_eq] at hofx
  refine s_mid (fun ρ s => ρ.rd 2 = .int .i64 n ∧ ρ.rd 13 = .ptr b 0 ∧ b < s.n ∧ s.cells b = some [.psl (rowc Kd.c S.kinds) 0 S.kinds.length, .psl (rowc Ac.c S.acts) 0 S.acts.length] ∧ ρ.rd 14 = .ptr e 0 ∧ e < s.n ∧ s.cells e = some [.str X.p, .str X.a, .str X.r] ∧ ρ.rd 17 = .ptr w 0 ∧ w < s.n ∧ s.cells w = some [.int .i64 W.kind, .int .i64 W.of_, .str W.name] ∧ ρ.rd 18 = .ptr x 0 ∧ x < s.n ∧ s.cells x = some [.int .i64 xo, .bool xb, .int .i64 xn, .str xs, .str xu, .str xv, .psl (rowc Ex.c xk) 0 xk.length] ∧ ρ.rd 19 = .ptr y 0 ∧ x < y ∧ y < s.n ∧ s.cells y = some [.int .i64 yo, .bool yb, .int .i64 yn, .str ys, .str yu, .str yv, yk] ∧ b < x ∧ e < x ∧ w < x ∧ ∃ g, ρ.rd 20 = .ptr g 0 ∧ s.cells g = some [.int .i64 W.kind, .int .i64 W.of_, .str W.name] ∧ ρ.rd 21 = .int .i64 0) ?_ ?_
  · have nb : ¬ b = s.n := by omega
    have ne : ¬ e = s.n := by omega
    have nw : ¬ w = s.n := by omega
    have nx : ¬ x = s.n := by omega
    have ny : ¬ y = s.n := by omega
    simp only [WS, seval, stepW, evalA, evalBin, Option.getD, allocA, rowOf, fillA, partsV, setl, AV.len, evalUn, strs_eq, h2, h13, hb, cb, h14, he, ce, h17, hw, cw, h18, hx, cx, h19, hxy, hy, cy, hbx, hex, hwx, sg, sg03, sg07]
    refine (hofx _).use ?_
    simp only [WS, seval, stepW, evalA, evalBin, Option.getD, allocA, rowOf, fillA, partsV, setl, AV.len, evalUn, strs_eq, h2, h13, hb, cb, h14, he, ce, h17, hw, cw, h18, hx, cx, h19, hxy, hy, cy, hbx, hex, hwx, nb, ne, nw, nx, ny, sg03, storeA, sets, setx, TS]
    exact ⟨by omega, by omega, by omega, by omega, by omega, s.n, rfl, by simp⟩
  clear h2 h13 hb cb h14 he ce h17 hw cw h18 hx cx h19 hxy hy cy hbx hex hwx
  rintro ρ s ⟨h2, h13, hb, cb, h14, he, ce, h17, hw, cw, h18, hx, cx, h19, hxy, hy, cy, hbx, hex, hwx, g, h20, cg, h21⟩
  refine s_mid (fun ρ s => ρ.rd 2 = .int .i64 n ∧ ρ.rd 13 = .ptr b 0 ∧ b < s.n ∧ s.cells b = some [.psl (rowc Kd.c S.kinds) 0 S.kinds.length, .psl (rowc Ac.c S.acts) 0 S.acts.length] ∧ ρ.rd 14 = .ptr e 0 ∧ e < s.n ∧ s.cells e = some [.str X.p, .str X.a, .str X.r] ∧ ρ.rd 17 = .ptr w 0 ∧ w < s.n ∧ s.cells w = some [.int .i64 W.kind, .int .i64 W.of_, .str W.name] ∧ ρ.rd 18 = .ptr x 0 ∧ x < s.n ∧ s.cells x = some [.int .i64 xo, .bool xb, .int .i64 xn, .str xs, .str xu, .str xv, .psl (rowc Ex.c xk) 0 xk.length] ∧ ρ.rd 19 = .ptr y 0 ∧ x < y ∧ y < s.n ∧ s.cells y = some [.int .i64 yo, .bool yb, .int .i64 yn, .str ys, .str yu, .str yv, yk] ∧ b < x ∧ e < x ∧ w < x) ?_ ?_
  · have hEq := eqTys W W
    have hd : decide (W = W) = true := by simp
    rw [hd] at hEq
    simp only [WS, seval, stepW, evalA, evalBin, Option.getD, allocA, rowOf, fillA, partsV, setl, AV.len, evalUn, strs_eq, h2, h13, hb, cb, h14, he, ce, h17, hw, cw, h18, hx, cx, h19, hxy, hy, cy, hbx, hex, hwx, h20, cg, h21, sg03, evalEq, hEq]
  clear h2 h13 hb cb h14 he ce h17 hw cw h18 hx cx h19 hxy hy cy hbx hex hwx h20 cg h21
  rintro ρ s ⟨h2, h13, hb, cb, h14, he, ce, h17, hw, cw, h18, hx, cx, h19, hxy, hy, cy, hbx, hex, hwx⟩
  refine s_mid (fun ρ s => ρ.rd 13 = .ptr b 0 ∧ s.cells b = some [.psl (rowc Kd.c S.kinds) 0 S.kinds.length, .psl (rowc Ac.c S.acts) 0 S.acts.length] ∧ ρ.rd 14 = .ptr e 0 ∧ s.cells e = some [.str X.p, .str X.a, .str X.r] ∧ ρ.rd 18 = .ptr x 0 ∧ ∃ z kids, s.cells x = some [.int .i64 xo, .bool xb, .int .i64 xn, .str xs, .str xu, .str xv, z] ∧ z.one = true ∧ Pur s true z (slc Ex.c kids) ∧ (Ex.mk xo xb xn xs xu xv kids).wf) ?_ ?_
  · cases xk with
    | nil =>
      have z0 : ¬ (0 : Int) < (([] : List Ex).length : Int) := by decide
      simp only [WS, seval, stepW, evalA, evalBin, Option.getD, allocA, rowOf, fillA, partsV, setl, AV.len, evalUn, strs_eq, h2, h13, hb, cb, h14, he, ce, h17, hw, cw, h18, hx, cx, h19, hxy, hy, cy, hbx, hex, hwx, z0, List.length_nil]
      exact ⟨_, [], rfl, rfl, .psl' (fun a ha => by cases ha), hMx.1⟩
    | cons k0' kr' =>
    have hpos : 0 < (k0' :: kr').length := by simp
    generalize k0' :: kr' = xk at *
    have z0 : (0 : Int) < ((xk.length : Nat) : Int) := by omega
    have hwfx := hMx.1
    rw [Ex.wf_eq] at hwfx
    have hlen := hwfx.2.1
    have hone : (rowc Ex.c xk).all AV.one = true := rowc_one' (fun e => by obtain ⟨_, _, _, _, _, _, _⟩ := e; rw [Ex.c_eq]; rfl) xk
    have hrow0 : RowP (fun b => s.n ≤ b) (s.push (.cells [])) (.sl s.n 0 0 (some 0) 7) [] 0 7 := .of (Nat.le_refl _) (Nat.lt_succ_self _) (push_cells _ _) rfl
    obtain ⟨z, s9, happ, hr9, hn9, hk9⟩ := app_rowP (bytes := 96) hrow0 (Nat.le_succ _) (y := .psl (rowc Ex.c xk) 0 xk.length) (k := xk.length) (new := rowc Ex.c xk) rfl (firstA_psl' (rowc_length Ex.c_len xk)) hone (rowc_length Ex.c_len xk) (by omega)
    rw [List.nil_append, Nat.zero_add] at hr9
    simp only [push_n] at hn9 hk9
    have hold : ∀ c, c < s.n → s9.cells c = s.cells c := fun c hc => (get_cells (hk9 c (by omega) (by omega))).trans (by rw [push_get, if_neg (by omega)])
    have jb := (hold b hb).trans cb
    have je := (hold e he).trans ce
    have jx := (hold x hx).trans cx
    have jy := (hold y hy).trans cy
    have hwr := wi_range (quoI n 7) (n := xk.length) (by omega)
    obtain ⟨kk, hkk⟩ : ∃ kk : Nat, wi (quoI n 7) xk.length = kk := ⟨(wi (quoI n 7) xk.length).toNat, by omega⟩
    have hWi : ∀ σ, AC Try.prog 21 [.int .i64 (quoI n 7), .int .i64 xk.length] σ fun v s' => s' = σ ∧ v = .int .i64 kk := fun σ => by
      have := within11_ac (n := quoI n 7) (k := xk.length) (σ := σ) (by omega) (by omega)
      rw [hkk] at this; exact this
    have hkl : kk < xk.length := by omega
    have hrk := lt_idx hkl
    have hq7 := ei_quo n 7 (by decide)
    have hrA := hr9.slots 9
    have ib : (addSlots s9.n 9 s9 []).cells b = _ := jb
    have ie : (addSlots s9.n 9 s9 []).cells e = _ := je
    have ix : (addSlots s9.n 9 s9 []).cells x = _ := jx
    have iy : (addSlots s9.n 9 s9 []).cells y = _ := jy
    generalize hs1 : addSlots s9.n 9 s9 [] = s1 at *
    obtain ⟨bq, cap, cs, hS9⟩ := hrA.some hpos
    have hzq := hS9.eq
    have hbq : s.n ≤ bq := hS9.own
    obtain ⟨hst, hrow'⟩ := store_rowP Ex.c_len hS9 rfl hkl Ey1 hyone
    simp only [hyc] at hst hrow'
    generalize sets cs (kk * 7) [.int .i64 yo, .bool yb, .int .i64 yn, .str ys, .str yu, .str yv, yk] = RW at hst hrow'
    subst hzq
    have nxs : ¬ x = s.n := by omega
    have nyq : ¬ y = bq := by omega
    have nxq : ¬ x = bq := by omega
    have nbq : ¬ b = bq := by omega
    have neq : ¬ e = bq := by omega
    simp only [WS, seval, stepW, evalA, evalBin, Option.getD, allocA, rowOf, fillA, partsV, setl, AV.len, evalUn, strs_eq, h2, h13, hb, cb, h14, he, ce, h17, hw, cw, h18, hx, cx, h19, hxy, hy, cy, hbx, hex, hwx, z0, nxs, fillA, happ]
    refine w_dreg follow [] rfl ?_
    generalize hs2 : addSlots _ _ s9 [] = s2
    have h21 : s2 = s1 := hs2.symm.trans hs1
    subst h21
    clear hs2
    simp only [WS, seval, stepW, evalA, evalBin, Option.getD, allocA, rowOf, fillA, partsV, setl, AV.len, evalUn, strs_eq, DS, isSl, AOp.pure, AOp.reader, allocD, AOp.quiet, isSlot, Nat.reduceBEq, h2, h13, h14, h18, h19, hq7]
    refine (hWi _).useD ?_
    simp only [WS, seval, stepW, evalA, evalBin, Option.getD, allocA, rowOf, fillA, partsV, setl, AV.len, evalUn, strs_eq, DS, isSl, AOp.pure, AOp.reader, allocD, AOp.quiet, isSlot, Nat.reduceBEq, h2, h13, h14, h18, h19, iy, sg07, hrk, hst]
    refine ⟨⟨?_, ?_⟩, ?_⟩
    · intro l hl c hc hf
      simp only [List.mem_cons, List.mem_nil_iff, List.not_mem_nil, or_false] at hl hc
      rcases hl with rfl <;> rcases hc with rfl | rfl | rfl <;> dsimp only at hf ⊢ <;> first
        | (exact absurd hf (by decide +kernel))
        | (simp only [WS, seval, stepW, evalA, evalBin, Option.getD, allocA, rowOf, fillA, partsV, setl, AV.len, evalUn, strs_eq, h19, iy, nyq, sg07]; done)
    · intro sl hsl; simp at hsl
    simp only [WS, seval, stepW, evalA, evalBin, Option.getD, allocA, rowOf, fillA, partsV, setl, AV.len, evalUn, strs_eq, h13, h14, h18, ib, ie, ix, nxq, nbq, neq, storeA, sets, setx, TS]
    have nbx : ¬ b = x := by omega
    have nex : ¬ e = x := by omega
    refine ⟨by simp [nbx], by simp [nex], _, xk.set kk Ey1, rfl, rfl, ?_, ?_⟩
    · have := (hrow'.put (b0 := x) (by omega) [.int .i64 xo, .bool xb, .int .i64 xn, .str xs, .str xu, .str xv, .sl bq 0 xk.length cap 7]).self fun a ha => by
        rw [← Ex.cs_eq] at ha
        exact pur_exs _ _ a ha
      first
        | (rw [List.length_set]; exact this)
        | (rw [slc_eq, List.length_set]; exact this)
    · rw [Ex.wf_eq, List.length_set]
      refine ⟨hwfx.1, hwfx.2.1, Ex.wfs_all.2 fun e he => ?_⟩
      rcases List.mem_or_eq_of_mem_set he with h | h
      · exact Ex.wfs_all.1 hwfx.2.2 e h
      · rw [h]; exact hMy.1
  clear h2 h13 hb cb h14 he ce h17 hw cw h18 hx cx h19 hxy hy cy hbx hex hwx
  rintro ρ s ⟨h13, cb, h14, ce, h18, z, kids, cx, hz, hpz, hwz⟩
  have hfin := of_pur (S := S) (p := X.p) (a := X.a) (r := X.r) (x := .agg [.int .i64 xo, .bool xb, .int .i64 xn, .str xs, .str xu, .str xv, z]) (σ := s) hR hwz (by
    rw [Ex.c_eq]
    exact .agg _ _ rfl (PurL.cons (.flat _ rfl) (.cons (.flat _ rfl) (.cons (.flat _ rfl) (.cons (.flat _ rfl) (.cons (.flat _ rfl) (.cons (.flat _ rfl) (.cons hpz .nil))))))).2)
  simp only [Sc.c_eq, slc_eq] at hfin
  refine s_wp ?_
  simp only [WS, seval, stepW, evalA, evalBin, Option.getD, allocA, rowOf, fillA, partsV, setl, AV.len, evalUn, strs_eq, h13, cb, h14, ce, h18, cx, sg, sg03, sg07]
  refine hfin.use ?_
  simp only [WS, seval, stepW, evalA, evalBin, Option.getD, allocA, rowOf, fillA, partsV, setl, AV.len, evalUn, strs_eq]
end Go.Proofs.Ytcdbpmmomgehfaa.Va
