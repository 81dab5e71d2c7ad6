/- Builtins; every operation that is no call does in the world what it does to abstract values. Conditions: none. -/
import Derived.Test.YthojhpjjkfjeiaaVaA
set_option linter.unusedSimpArgs false
set_option linter.unusedVariables false
namespace Go.Proofs.Ythojhpjjkfjeiaa.Va
variable {P : Program}
section
variable {dst : Option Tmp} {ty : TypeId} {pos : String} {aft : Array Edge} {gd : Option (Nat × Bool)} {ρ : Env} {σ σ' : AState} {v : AV}

theorem two_args {xs : Array Operand} {x y : Operand} (h : xs.toList = [x, y]) : xs = #[x, y] := by rw [← Array.toArray_toList (xs := xs), h]
theorem one_arg {xs : Array Operand} {x : Operand} (h : xs.toList = [x]) : xs = #[x] := by rw [← Array.toArray_toList (xs := xs), h]

theorem exec_builtin {f : Operand → Value} {b : Builtin} {args : Array Operand} {ats : Array TypeId} {w w' : World} {vc : Value} (s : Sem Value) (hs : s.run P w = .ok vc w')
    (hb : ∀ cs, builtin b ats ty cs (args.map f) = (do pure (.value (← s)))) : (execOp f ⟨dst, .call ⟨.builtin b, args, ats⟩, ty, pos, aft, gd⟩).run P w = .ok (.value vc) w' := by
  simp only [execOp, resolve, invoke, Sem.run_bind, Sem.run_pure, Result.andThen_ok, hb, hs]

theorem does_call {c : Call} (h : evalA (comp P ⟨dst, .call c, ty, pos, aft, gd⟩) ρ σ = some (v, σ')) : Does P ⟨dst, .call c, ty, pos, aft, gd⟩ ρ σ v σ' := by
  obtain ⟨callee, args, ats⟩ := c
  simp only [comp, compCall] at h
  split at h
  · simp [evalA] at h
  · simp [evalA] at h
  · simp [evalA] at h
  · -- len
    split at h
    · rename_i x t hargs hat
      have := one_arg hargs
      subst this
      have lenS : ∀ (w : World) (p : Option Addr) (n c : Nat) (e : TypeId) (f : Operand → Value), P.underlying t = some (.slice e) → f x = .slice p n c → (Builtin.len_ ats ty (#[x].map f)).run P w = .ok (.int .i64 n) w := by
        intro w p n c e f hu hf
        simp [Builtin.len_, hat, hf, run_underT hu, Result.andThen, goInt]
      split at h
      · rename_i hu
        simp only [evalA] at h
        split at h <;> first | (cases h; done) | skip
        rename_i l ex
        simp only [Option.some.injEq, Prod.mk.injEq] at h
        obtain ⟨rfl, rfl⟩ := h
        refine .still fun K N w ac hr he => ?_
        have hx := he.ev x
        rw [ex] at hx
        refine ⟨.int .i64 l.length, exec_builtin (Builtin.len_ ats ty (#[x].map ac.eval)) ?_ (fun cs => rfl), .int _ _⟩
        have hs : (ByteArray.mk l.toArray).size = l.length := by simp [ByteArray.size]
        simp only [Builtin.len_, hat, List.map_toArray, List.map_cons, List.map_nil, hx.inv_str, List.getElem?_toArray, List.getElem?_cons_zero, Sem.run_bind, run_underT hu, Result.andThen_ok, Sem.run_pure, goInt, hs]
      · rename_i hu
        simp only [evalA] at h
        split at h <;> first | (cases h; done) | skip
        all_goals
          rename_i ex
          simp only [Option.some.injEq, Prod.mk.injEq] at h
          obtain ⟨rfl, rfl⟩ := h
          refine .still fun K N w ac hr he => ?_
          have hx := he.ev x
          rw [ex] at hx
        · obtain ⟨_, _, _, hpv, _⟩ := hx.inv_slice
          exact ⟨_, exec_builtin _ (lenS w _ _ _ _ ac.eval hu hpv) (fun cs => rfl), .int _ _⟩
        · obtain ⟨_, _, hpv, _⟩ := hx.inv_psl
          exact ⟨_, exec_builtin _ (lenS w _ _ _ _ ac.eval hu hpv) (fun cs => rfl), .int _ _⟩
        · exact ⟨_, exec_builtin _ (lenS w _ _ _ _ ac.eval hu hx.inv_nils) (fun cs => rfl), .int _ _⟩
        · obtain ⟨_, _, hpv⟩ := hx.inv_pse
          exact ⟨_, exec_builtin _ (lenS w _ _ _ _ ac.eval hu hpv) (fun cs => rfl), .int _ _⟩
      · simp [evalA] at h
    · simp [evalA] at h
  · -- cap
    split at h
    · rename_i x t hargs hat
      have := one_arg hargs
      subst this
      split at h
      · rename_i hu
        have capS : ∀ (w : World) (p : Option Addr) (n c : Nat) (f : Operand → Value), f x = .slice p n c → (Builtin.cap_ ats ty (#[x].map f)).run P w = .ok (.int .i64 c) w := by
          intro w p n c f hf
          simp [Builtin.cap_, hat, hf, run_underT hu, Result.andThen, goInt]
        simp only [evalA] at h
        split at h <;> first | (cases h; done) | skip
        all_goals
          rename_i ex
          simp only [Option.some.injEq, Prod.mk.injEq] at h
          obtain ⟨rfl, rfl⟩ := h
          refine .still fun K N w ac hr he => ?_
          have hx := he.ev x
          rw [ex] at hx
        · exact ⟨_, exec_builtin _ (capS w _ _ _ ac.eval hx.inv_nils) (fun cs => rfl), .int _ _⟩
        · obtain ⟨_, _, c', hpv, _, hc, _⟩ := hx.inv_slice
          have := hc _ rfl
          subst this
          exact ⟨_, exec_builtin _ (capS w _ _ _ ac.eval hpv) (fun cs => rfl), .int _ _⟩
      · simp [evalA] at h
    · simp [evalA] at h
  · -- append
    split at h
    · rename_i x y t u hargs hat hau
      have := two_args hargs
      subst this
      split at h
      · rename_i e ud hel hu
        split at h
        · rename_i k
          split at h
          · rename_i n b z hn hb hz
            split at h
            · simp [evalA] at h
            · rename_i hcond
              simp only [not_or, Decidable.not_not] at hcond
              simp only [evalA] at h
              split at h
              · rename_i m ex ey
                split at h
                · rename_i hb2
                  obtain ⟨h1, h2, h3, _⟩ := hb2
                  simp only [Option.some.injEq, Prod.mk.injEq] at h
                  obtain ⟨rfl, rfl⟩ := h
                  intro K N w ac hr he
                  have hx := he.ev x
                  have hy := he.ev y
                  rw [ex] at hx
                  rw [ey] at hy
                  obtain ⟨vc, w', K', hrun, rest⟩ := appendZ_ok (P := P) hr hx hy h1 h2 h3 hel hu hn hb hz hcond.2.2 hcond.1 hcond.2.1 ty
                  refine ⟨vc, w', K', .inl (exec_builtin (Builtin.append_ ats ty (#[x, y].map ac.eval)) ?_ (fun cs => rfl)), rest⟩
                  have hap : Builtin.append_ ats ty (#[x, y].map ac.eval) = Builtin.append_ #[t, u] ty #[ac.eval x, ac.eval y] := by
                    simp [Builtin.append_, hat, hau]
                  rw [hap]; exact hrun
                · cases h
              · cases h
          · simp [evalA] at h
        · rename_i hud
          split at h
          · rename_i n b z hn hb hz
            split at h
            · simp [evalA] at h
            · rename_i hcond
              simp only [not_or, Decidable.not_not] at hcond
              simp only [evalA] at h
              intro K N w ac hr he
              obtain ⟨vc, w', K', hrun, rest⟩ := append_ok (P := P) hr h (he.ev x) (he.ev y) hel hu (fun k e => hud k e) hn hb hz hcond.2.2 hcond.1 hcond.2.1 ty
              refine ⟨vc, w', K', .inl (exec_builtin (Builtin.append_ ats ty (#[x, y].map ac.eval)) ?_ (fun cs => rfl)), rest⟩
              have hap : Builtin.append_ ats ty (#[x, y].map ac.eval) = Builtin.append_ #[t, u] ty #[ac.eval x, ac.eval y] := by
                simp [Builtin.append_, hat, hau]
              rw [hap]; exact hrun
          · simp [evalA] at h
      · simp [evalA] at h
    · simp [evalA] at h
  · -- copy
    split at h
    · rename_i x y t hargs hat
      have := two_args hargs
      subst this
      split at h
      · rename_i n hn
        split at h
        · simp [evalA] at h
        · rename_i hn0
          obtain ⟨e, hel, hsz⟩ : ∃ e, elemT P t = some e ∧ sizeT P e = some n := by
            cases he : elemT P t with
            | none => rw [he] at hn; cases hn
            | some e => rw [he] at hn; exact ⟨e, rfl, hn⟩
          have cp : ∀ (w w' : World) (f : Operand → Value) (base : Option Addr) (dl c : Nat) (m : Nat) (cells : List Value), f x = .slice base dl c → (Builtin.lenOf (f y)).run P w = .ok m w →
              (Builtin.firstCells n (Nat.min m dl) (f y)).run P w = .ok cells.toArray w → (match base with | none => w' = w | some a => (storeCells a cells).run P w = .ok () w') →
              (Builtin.copy_ ats ty (#[x, y].map f)).run P w = .ok (.int .i64 (Nat.min m dl)) w' := by
            intro w w' f base dl c m cells h1 h2 h3 h4
            cases base with
            | none => subst h4; simp [Builtin.copy_, hat, run_underT (elemT_some hel), h1, h2, h3, run_sizeT hsz, Result.andThen, goInt]
            | some a => simp only at h4; simp [Builtin.copy_, hat, run_underT (elemT_some hel), h1, h2, h3, h4, run_sizeT hsz, Result.andThen, goInt]
          have lenY : ∀ (K : Know) (w : World) (yv : Value) (m : Nat), VR K ((Opd.of y).ev ρ) yv → ((Opd.of y).ev ρ).len = some m → (Builtin.lenOf yv).run P w = .ok m w := by
            intro K w yv m hy hl
            rcases len_ok hy hl with ⟨p, c, rfl, _⟩ | ⟨s, rfl, hs⟩
            · simp [Builtin.lenOf]
            · simp [Builtin.lenOf, hs]
          simp only [evalA] at h
          split at h
          · rename_i b off dl cap sz' sn ex hl
            split at h
            · rename_i cs hf
              cases hc : Nat.beq sz' n && Nat.beq cs.length (min sn dl * n) with
              | false => rw [hc] at h; cases h
              | true =>
                rw [hc] at h
                simp only [cond_true] at h
                simp only [Bool.and_eq_true] at hc
                have hcl := Nat.eq_of_beq_eq_true hc.2
                cases h0 : Nat.beq (min sn dl) 0 with
                | true =>
                  rw [h0] at h
                  simp only [cond_true, Option.some.injEq, Prod.mk.injEq] at h
                  obtain ⟨rfl, rfl⟩ := h
                  have h0 := Nat.eq_of_beq_eq_true h0
                  refine .still fun K N w ac hr he => ?_
                  have hx := he.ev x
                  rw [ex] at hx
                  obtain ⟨blk, o, c', hpv, _⟩ := hx.inv_slice
                  obtain ⟨vs, hrun, hvr⟩ := firstA_ok (P := P) hr hf (he.ev y) hl (Nat.min_le_left _ _)
                  have hvs : vs = [] := by
                    have := hvr.1
                    rw [h0] at hcl
                    exact List.eq_nil_of_length_eq_zero (by omega)
                  subst hvs
                  have := cp w w ac.eval _ dl c' sn [] hpv (lenY K w _ sn (he.ev y) hl) hrun (by simp [storeCells])
                  have hm : Nat.min sn dl = 0 := h0
                  rw [hm] at this
                  exact ⟨.int .i64 0, exec_builtin _ this (fun cs => rfl), .int _ _⟩
                | false =>
                  rw [h0] at h
                  simp only [cond_false, Option.map_eq_some_iff, Prod.mk.injEq] at h
                  obtain ⟨σ1, hst, rfl, rfl⟩ := h
                  have hpos : 0 < min sn dl := by
                    rcases Nat.eq_zero_or_pos (min sn dl) with e | e
                    · rw [e] at h0; cases h0
                    · exact e
                  intro K N w ac hr he
                  have hx := he.ev x
                  rw [ex] at hx
                  obtain ⟨blk, o, c', hpv, _, _, h3⟩ := hx.inv_slice
                  obtain ⟨vs, hrun, hvr⟩ := firstA_ok (P := P) hr hf (he.ev y) hl (Nat.min_le_left _ _)
                  rcases h3 with ⟨bs, room, rfl, hμ, hroom⟩ | ⟨hd0, _⟩
                  · obtain ⟨blk', o', w', hpv', hrun', hrel⟩ := hr.storeA (P := P) (VR.ptr b off blk bs room hμ) hvr hst
                    simp only [Value.pointer.injEq, Option.some.injEq, Addr.mk.injEq, and_true] at hpv'
                    obtain ⟨rfl, rfl⟩ := hpv'
                    have := cp w w' ac.eval _ dl c' sn vs hpv (lenY K w _ sn (he.ev y) hl) hrun hrun'
                    exact ⟨.int .i64 (min sn dl : Nat), w', K, .inl (exec_builtin _ this (fun cs => rfl)), Know.le.refl K, hrel, .int _ _⟩
                  · omega
            · cases h
          · rename_i sn ex hl
            simp only [Option.some.injEq, Prod.mk.injEq] at h
            obtain ⟨rfl, rfl⟩ := h
            refine .still fun K N w ac hr he => ?_
            have hx := he.ev x
            rw [ex] at hx
            have hf : firstA σ n 0 ((Opd.of y).ev ρ) = some [] := by simp [firstA]
            obtain ⟨vs, hrun, hvr⟩ := firstA_ok (P := P) hr hf (he.ev y) hl (Nat.zero_le _)
            have hm : Nat.min sn 0 = 0 := Nat.min_zero sn
            have := cp w w ac.eval none 0 0 sn vs hx.inv_nils (lenY K w _ sn (he.ev y) hl) (by rw [hm]; exact hrun) rfl
            rw [hm] at this
            exact ⟨.int .i64 0, exec_builtin _ this (fun cs => rfl), .int _ _⟩
          · cases h
      · simp [evalA] at h
    · simp [evalA] at h
  · -- min
    simp only [evalA] at h
    split at h
    · rename_i a r hl
      simp only [Option.map_eq_some_iff, Prod.mk.injEq] at h
      obtain ⟨b, hb, rfl, rfl⟩ := h
      refine .still fun K N w ac hr he => ?_
      have hvl := he.list args.toList
      rw [hl] at hvl
      obtain ⟨y, ys, hys, ha, hr'⟩ := hvl.of_cons
      obtain ⟨rc, hrun, hrr⟩ := minMax_ok (P := P) (mx := false) (w := w) r ys a y b hb ha hr'
      refine ⟨rc, exec_builtin (Builtin.min_ ats ty (args.map ac.eval)) ?_ (fun cs => rfl), hrr⟩
      simp only [Builtin.min_, Array.toList_map, hys]
      exact hrun
    · cases h
  · -- max
    simp only [evalA] at h
    split at h
    · rename_i a r hl
      simp only [Option.map_eq_some_iff, Prod.mk.injEq] at h
      obtain ⟨b, hb, rfl, rfl⟩ := h
      refine .still fun K N w ac hr he => ?_
      have hvl := he.list args.toList
      rw [hl] at hvl
      obtain ⟨y, ys, hys, ha, hr'⟩ := hvl.of_cons
      obtain ⟨rc, hrun, hrr⟩ := minMax_ok (P := P) (mx := true) (w := w) r ys a y b hb ha hr'
      refine ⟨rc, exec_builtin (Builtin.max_ ats ty (args.map ac.eval)) ?_ (fun cs => rfl), hrr⟩
      simp only [Builtin.max_, Array.toList_map, hys]
      exact hrun
    · cases h
  · simp [evalA] at h
end

/- All of them. -/
theorem does {o : Oper} {ρ : Env} {σ σ' : AState} {v : AV} (h : evalA (comp P o) ρ σ = some (v, σ')) : Does P o ρ σ v σ' := by
  obtain ⟨dst, op, ty, pos, aft, gd⟩ := o
  cases op with
  | move x => exact does_mv h
  | assign x => exact does_assign h
  | pick c a b => exact does_pick h
  | alloc t =>
    have hc : (∃ z, comp P ⟨dst, .alloc t, ty, pos, aft, gd⟩ = .alloc z) ∨ comp P ⟨dst, .alloc t, ty, pos, aft, gd⟩ = .bad := by
      simp only [comp]; split
      · exact .inl ⟨_, rfl⟩
      · exact .inr rfl
    rcases hc with ⟨z, hc⟩ | hc
    · exact does_alloc (by rw [hc] at h ⊢; exact h)
    · rw [hc] at h; simp [evalA] at h
  | box t x => exact does_alloc (by have hc : comp P ⟨dst, .box t x, ty, pos, aft, gd⟩ = .box (.of x) := rfl; rw [hc] at h ⊢; exact h)
  | buildSlice t len ps =>
    have hc : (∃ a b c d, comp P ⟨dst, .buildSlice t len ps, ty, pos, aft, gd⟩ = .bslice a b c d) ∨ comp P ⟨dst, .buildSlice t len ps, ty, pos, aft, gd⟩ = .bad := by
      simp only [comp]
      split
      · split
        · split
          · exact .inr rfl
          · split
            · exact .inl ⟨_, _, _, _, rfl⟩
            · exact .inr rfl
        · exact .inr rfl
      · exact .inr rfl
    rcases hc with ⟨a, b, c, d, hc⟩ | hc
    · exact does_alloc (by rw [hc] at h ⊢; exact h)
    · rw [hc] at h; simp [evalA] at h
  | build t ps => exact does_build h
  | load t x => exact does_load h
  | store t a x => exact does_store h
  | nilCheck x => exact does_nilCheck h
  | binOp op t x y yt => exact does_binOp h
  | unOp op t x => exact does_unOp h
  | convert s d x => exact does_convert h
  | makeFunc fn first cap => exact does_makeFunc h
  | makeSlice t l c => exact does_makeSlice h
  | slice t x lo hi mx => exact does_slice h
  | fieldAddr t x f => exact does_fieldAddr h
  | field t x f => exact does_field h
  | indexAddr t x i => exact does_indexAddr h
  | index t x i => exact does_index h
  | range t x => exact does_range h
  | next x b => exact does_next h
  | extract x i => exact does_extract h
  | call c => exact does_call h
  | _ => simp [comp, evalA] at h
end Go.Proofs.Ythojhpjjkfjeiaa.Va
