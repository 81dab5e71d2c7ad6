/- Each operation does in the world what it does to abstract values, fourth part: operators, conversions. Conditions: none. -/
import Derived.Test.YthojhpjjkfjeiaaVa6
import Derived.Laws.BytesArg
set_option linter.unusedSimpArgs false
set_option linter.unusedVariables false
namespace Go.Proofs.Ythojhpjjkfjeiaa.Va
variable {P : Program}

theorem eqTag_spec {t : TypeId} : 
    (eqTag P t = .bool → P.underlying t = some .bool) ∧ (∀ l, eqTag P t = .agg l → flatK P 8 t = some l ∧ isAggT P t = some true ∧ P.eqGuardType P.depth t = false) ∧
    (eqTag P t = .ptr → ∃ e, P.underlying t = some (.pointer e)) ∧ (eqTag P t = .slice → ∃ e, P.underlying t = some (.slice e)) ∧
    (eqTag P t = .func → ∃ a b c, P.underlying t = some (.func a b c)) := by
  unfold eqTag
  split
  · rename_i h; refine ⟨fun _ => h, (nofun), (nofun), (nofun), (nofun)⟩
  · refine ⟨(nofun), (nofun), (nofun), (nofun), (nofun)⟩
  · refine ⟨(nofun), (nofun), (nofun), (nofun), (nofun)⟩
  · rename_i fs hu
    split
    · refine ⟨(nofun), (nofun), (nofun), (nofun), (nofun)⟩
    · rename_i hg
      split
      · rename_i l hl
        refine ⟨(nofun), fun l' e => ?_, (nofun), (nofun), (nofun)⟩
        injection e with e; subst e
        exact ⟨hl, by simp [isAggT, hu], by simpa using hg⟩
      · refine ⟨(nofun), (nofun), (nofun), (nofun), (nofun)⟩
  · rename_i e h; refine ⟨(nofun), (nofun), fun _ => ⟨e, h⟩, (nofun), (nofun)⟩
  · rename_i e h; refine ⟨(nofun), (nofun), (nofun), fun _ => ⟨e, h⟩, (nofun)⟩
  · rename_i a b c h; refine ⟨(nofun), (nofun), (nofun), (nofun), fun _ => ⟨a, b, c, h⟩⟩
  · refine ⟨(nofun), (nofun), (nofun), (nofun), (nofun)⟩

theorem evalEq_ok {K : Know} {t : TypeId} {a b : AV} {x y : Value} {r : Bool} (h : evalEq (eqTag P t) a b = some r) (ha : VR K a x) (hb : VR K b y) (w : World) :
    (Op.equal t x y).run P w = .ok r w := by
  obtain ⟨s1, s2, s3, s4, s5⟩ := eqTag_spec (P := P) (t := t)
  unfold evalEq at h
  obtain ⟨D, hD, hD8⟩ : ∃ D, Op.maxDepth = D + 1 ∧ 8 ≤ D + 1 := ⟨9999, rfl, by omega⟩
  unfold Op.equal
  rw [hD]
  split at h
  · rename_i p q ht
    injection h with h
    rw [ha.inv_bool, hb.inv_bool, ← h]; exact run_equalIn_bool w _ t p q (s1 ht)
  · rename_i l ca cb ht
    obtain ⟨hl, hagg, _⟩ := s2 l ht
    obtain ⟨agg, h1, _, _, _, hrun⟩ := flat_eq (P := P) (K := K) 8 t l hl
    rw [hagg] at h1; injection h1 with h1; subst h1
    obtain ⟨xs, rfl, hx⟩ := ha.inv_agg
    obtain ⟨ys, rfl, hy⟩ := hb.inv_agg
    exact hrun (D + 1) hD8 ca cb xs ys r w hx hy h
  · rename_i ht; obtain ⟨e, hu⟩ := s3 ht
    injection h with h
    rw [ha.inv_nilp, hb.inv_nilp, ← h]; simp [Op.equalIn, run_underT hu, Result.andThen]
  · rename_i b o ht; obtain ⟨e, hu⟩ := s3 ht
    injection h with h
    obtain ⟨_, _, _, hy, _⟩ := hb.inv_ptr
    rw [ha.inv_nilp, hy, ← h]; simp [Op.equalIn, run_underT hu, Result.andThen]
  · rename_i ht; obtain ⟨e, hu⟩ := s3 ht
    injection h with h
    rw [ha.inv_nilp]
    cases hb; subst h; simp [Op.equalIn, run_underT hu, Result.andThen]
  · rename_i ht; obtain ⟨e, hu⟩ := s3 ht
    injection h with h
    obtain ⟨_, _, _, hy, _⟩ := ha.inv_ptr
    rw [hb.inv_nilp, hy, ← h]; simp [Op.equalIn, run_underT hu, Result.andThen]
  · rename_i ht; obtain ⟨e, hu⟩ := s3 ht
    injection h with h
    rw [hb.inv_nilp]
    cases ha; subst h; simp [Op.equalIn, run_underT hu, Result.andThen]
  · rename_i ht; obtain ⟨e, hu⟩ := s4 ht
    injection h with h
    rw [ha.inv_nils, hb.inv_nils, ← h]; simp [Op.equalIn, run_underT hu, Result.andThen]
  · rename_i ht; obtain ⟨e, hu⟩ := s4 ht
    injection h with h
    obtain ⟨_, _, _, hy, _⟩ := hb.inv_slice
    rw [ha.inv_nils, hy, ← h]; simp [Op.equalIn, run_underT hu, Result.andThen]
  · rename_i ht; obtain ⟨e, hu⟩ := s4 ht
    injection h with h
    obtain ⟨_, _, hy, _, _, h3⟩ := hb.inv_psl
    rcases h3 with ⟨_, _, _, _, _, _, rfl, _⟩ | h3
    · rw [ha.inv_nils, hy, ← h]; simp [Op.equalIn, run_underT hu, Result.andThen]
    · cases h3
  · rename_i ht; obtain ⟨e, hu⟩ := s4 ht
    injection h with h
    obtain ⟨_, _, _, hy, _⟩ := ha.inv_slice
    rw [hb.inv_nils, hy, ← h]; simp [Op.equalIn, run_underT hu, Result.andThen]
  · rename_i ht; obtain ⟨e, hu⟩ := s4 ht
    injection h with h
    obtain ⟨_, _, hy, _, _, h3⟩ := ha.inv_psl
    rcases h3 with ⟨_, _, _, _, _, _, rfl, _⟩ | h3
    · rw [hb.inv_nils, hy, ← h]; simp [Op.equalIn, run_underT hu, Result.andThen]
    · cases h3
  · rename_i ht; obtain ⟨e, hu⟩ := s4 ht
    injection h with h
    obtain ⟨_, _, hy⟩ := hb.inv_pse
    rw [ha.inv_nils, hy, ← h]; simp [Op.equalIn, run_underT hu, Result.andThen]
  · rename_i ht; obtain ⟨e, hu⟩ := s4 ht
    injection h with h
    obtain ⟨_, _, hy⟩ := ha.inv_pse
    rw [hb.inv_nils, hy, ← h]; simp [Op.equalIn, run_underT hu, Result.andThen]
  · rename_i ht; obtain ⟨_, _, _, hu⟩ := s5 ht
    injection h with h
    rw [ha.inv_nilf, hb.inv_nilf, ← h]; simp [Op.equalIn, run_underT hu, Result.andThen]
  · rename_i ht; obtain ⟨_, _, _, hu⟩ := s5 ht
    injection h with h
    obtain ⟨_, hy, _⟩ := hb.inv_fn
    rw [ha.inv_nilf, hy, ← h]; simp [Op.equalIn, run_underT hu, Result.andThen]
  · rename_i ht; obtain ⟨_, _, _, hu⟩ := s5 ht
    injection h with h
    obtain ⟨_, hy, _⟩ := ha.inv_fn
    rw [hb.inv_nilf, hy, ← h]; simp [Op.equalIn, run_underT hu, Result.andThen]
  · cases h

theorem eqGuardIn_false : ∀ (d : Nat) (t : TypeId) (x y : Value) (w : World), P.eqGuardType P.depth t = false → True := fun _ _ _ _ _ _ => trivial

section
variable {dst : Option Tmp} {ty : TypeId} {pos : String} {aft : Array Edge} {gd : Option (Nat × Bool)} {ρ : Env} {σ σ' : AState} {v : AV}

theorem evalEq_guard {K : Know} {t : TypeId} {op : BinOp} {ox oy : Operand} {a b : AV} {x y : Value} {r : Bool} (h : evalEq (eqTag P t) a b = some r) (ha : VR K a x) (hb : VR K b y) (w : World) :
    (eqGuard op t ox oy x y).run P w = .ok () w := by
  obtain ⟨_, s2, _, _, _⟩ := eqTag_spec (P := P) (t := t)
  have hq : (∃ l ca cb, eqTag P t = .agg l ∧ a = .agg ca ∧ b = .agg cb) ∨ (∀ vs, x ≠ .agg vs) ∧ x ≠ .nilIface := by
    unfold evalEq at h
    split at h
    case h_2 l ca cb ht => exact .inl ⟨l, ca, cb, ht, rfl, rfl⟩
    all_goals first | (cases h; done) | (refine .inr ⟨fun vs e => ?_, fun e => ?_⟩ <;> subst e <;> cases ha)
  rcases hq with ⟨l, ca, cb, ht, rfl, rfl⟩ | ⟨hq, hq'⟩
  · obtain ⟨_, _, hg⟩ := s2 l ht
    obtain ⟨xs, rfl, hx⟩ := ha.inv_agg
    obtain ⟨ys, rfl, hy⟩ := hb.inv_agg
    unfold eqGuard
    cases op <;> simp [hg, Result.andThen]
  · unfold eqGuard
    cases op <;> simp <;> (cases x <;> first | rfl | exact absurd rfl hq' | exact absurd rfl (hq _))

theorem does_binOp {op : BinOp} {t yt : TypeId} {x y : Operand} (h : evalA (comp P ⟨dst, .binOp op t x y yt, ty, pos, aft, gd⟩) ρ σ = some (v, σ')) : Does P ⟨dst, .binOp op t x y yt, ty, pos, aft, gd⟩ ρ σ v σ' := by
  simp only [comp, evalA, Option.map_eq_some_iff, Prod.mk.injEq] at h
  obtain ⟨u, hb, rfl, rfl⟩ := h
  refine .still fun K N w ac hr he => ?_
  have hx := he.ev x
  have hy := he.ev y
  unfold evalBin at hb
  split at hb
  · rename_i k a k' b ex ey
    rw [ex] at hx; rw [ey] at hy
    have hx := hx.inv_int; have hy := hy.inv_int
    have hfin : ∀ (vc : Value), (binOp op t (.int k a) (.int k' b)).run P w = .ok vc w → (execOp ac.eval ⟨dst, .binOp op t x y yt, ty, pos, aft, gd⟩).run P w = .ok (.value vc) w := fun vc e => by
      simp only [execOp, hx, hy, eqGuard_at_int, Sem.run_bind, Sem.run_pure, Result.andThen_ok, e]
    split at hb
    · obtain ⟨vc, e, hv⟩ := evalShift_ok (P := P) (k' := k') hb t w
      exact ⟨vc, hfin vc e, hv K⟩
    · obtain ⟨vc, e, hv⟩ := evalShift_ok (P := P) (k' := k') hb t w
      exact ⟨vc, hfin vc e, hv K⟩
    · split at hb
      · rename_i hk; subst hk
        obtain ⟨vc, e, hv⟩ := evalInt_ok (P := P) hb t w
        exact ⟨vc, hfin vc e, hv K⟩
      · cases hb
  · rename_i a b ex ey
    rw [ex] at hx; rw [ey] at hy
    have hx := hx.inv_str; have hy := hy.inv_str
    obtain ⟨vc, e, hv⟩ := evalStr_ok (P := P) hb t w
    exact ⟨vc, by simp only [execOp, hx, hy, eqGuard_at_string, Sem.run_bind, Sem.run_pure, Result.andThen_ok, e], hv K⟩
  · rename_i hn1 hn2
    have notint : ∀ k a, ac.eval x = .int k a → ∀ k' b, ac.eval y = .int k' b → evalEq (eqTag P t) ((Opd.of x).ev ρ) ((Opd.of y).ev ρ) = none := by
      intro k a e1 k' b e2
      rw [e1] at hx; rw [e2] at hy
      generalize hA : (Opd.of x).ev ρ = A at *
      generalize hB : (Opd.of y).ev ρ = B at *
      cases hx <;> cases hy <;> first | exact absurd rfl (hn1 _ _ _ _ rfl) | (simp [evalEq])
    have notstr : ∀ a, ac.eval x = .string a → evalEq (eqTag P t) ((Opd.of x).ev ρ) ((Opd.of y).ev ρ) = none := by
      intro a e1
      rw [e1] at hx
      generalize hA : (Opd.of x).ev ρ = A at *
      cases hx <;> simp [evalEq]
    have hmain : ∀ r, evalEq (eqTag P t) ((Opd.of x).ev ρ) ((Opd.of y).ev ρ) = some r → (op = .eql ∨ op = .neq) →
        (binOp op t (ac.eval x) (ac.eval y)).run P w = .ok (.bool (if op = .eql then r else !r)) w := by
      intro r hr' hop
      have he := evalEq_ok (P := P) hr' hx hy w
      have hsh : (∀ k a, ac.eval x ≠ .int k a) ∧ (∀ a, ac.eval x ≠ .string a) ∧ (∀ k a, ac.eval x ≠ .float k a) ∧ (∀ k a b, ac.eval x ≠ .complex k a b) := by
        generalize hA : (Opd.of x).ev ρ = A at *
        generalize hB : (Opd.of y).ev ρ = B at *
        generalize hX : ac.eval x = X at *
        unfold evalEq at hr'
        split at hr' <;> first | (cases hr'; done) | skip
        all_goals (cases hx <;> (refine ⟨fun k a e => ?_, fun a e => ?_, fun k a e => ?_, fun k a b e => ?_⟩ <;> cases e))
      obtain ⟨h1, h2, h3, h4⟩ := hsh
      generalize ac.eval x = X at *
      rcases hop with rfl | rfl
      · cases X <;> first | exact absurd rfl (h1 _ _) | exact absurd rfl (h2 _) | exact absurd rfl (h3 _ _) | exact absurd rfl (h4 _ _ _) | simp [binOp, he, Result.andThen]
      · cases X <;> first | exact absurd rfl (h1 _ _) | exact absurd rfl (h2 _) | exact absurd rfl (h3 _ _) | exact absurd rfl (h4 _ _ _) | simp [binOp, he, Result.andThen]
    split at hb
    · simp only [Option.map_eq_some_iff] at hb
      obtain ⟨r, hr', rfl⟩ := hb
      refine ⟨.bool r, ?_, .bool r⟩
      simp only [execOp, Sem.run_bind, evalEq_guard (P := P) hr' hx hy, Result.andThen_ok, hmain r hr' (.inl rfl), if_true, Sem.run_pure]
    · simp only [Option.map_eq_some_iff] at hb
      obtain ⟨r, hr', rfl⟩ := hb
      refine ⟨.bool !r, ?_, .bool _⟩
      simp only [execOp, Sem.run_bind, evalEq_guard (P := P) hr' hx hy, Result.andThen_ok, hmain r hr' (.inr rfl), Sem.run_pure]
      rfl
    · cases hb
end
end Go.Proofs.Ythojhpjjkfjeiaa.Va
