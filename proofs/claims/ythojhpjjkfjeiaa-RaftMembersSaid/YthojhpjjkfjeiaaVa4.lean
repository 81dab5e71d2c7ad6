/- Each operation does in the world what it does to abstract values, first part. Conditions: none. -/
import Derived.Test.YthojhpjjkfjeiaaVa3
import Derived.Laws.EntriesVeiled
set_option linter.unusedSimpArgs false
set_option linter.unusedVariables false
namespace Go.Proofs.Ythojhpjjkfjeiaa.Va
variable {P : Program}

def Runs (P : Program) (o : Oper) (ρ : Operand → Value) (w : World) (v : Value) (w' : World) : Prop :=
  (execOp ρ o).run P w = .ok (.value v) w' ∨ ((execOp ρ o).run P w = .ok .skip w' ∧ v = undef)

def Does (P : Program) (o : Oper) (ρ : Env) (σ : AState) (v : AV) (σ' : AState) : Prop :=
  ∀ K N w ac, Rel K σ w → ERel K N ρ ac → ∃ vc w' K', Runs P o ac.eval w vc w' ∧ K.le K' ∧ Rel K' σ' w' ∧ VR K' v vc

/- An operation that turns nothing. -/
theorem Does.still {o : Oper} {ρ : Env} {σ : AState} {v : AV}
    (h : ∀ K N w ac, Rel K σ w → ERel K N ρ ac → ∃ vc, (execOp ac.eval o).run P w = .ok (.value vc) w ∧ VR K v vc) : Does P o ρ σ v σ :=
  fun K N w ac hr he => let ⟨vc, e, hv⟩ := h K N w ac hr he; ⟨vc, w, K, .inl e, Know.le.refl K, hr, hv⟩

section
variable {dst : Option Tmp} {ty : TypeId} {pos : String} {aft : Array Edge} {gd : Option (Nat × Bool)} {ρ : Env} {σ σ' : AState} {v : AV}

theorem does_mv {x : Operand} (h : evalA (comp P ⟨dst, .move x, ty, pos, aft, gd⟩) ρ σ = some (v, σ')) : Does P ⟨dst, .move x, ty, pos, aft, gd⟩ ρ σ v σ' := by
  simp only [comp, evalA, Option.some.injEq, Prod.mk.injEq] at h
  obtain ⟨rfl, rfl⟩ := h
  exact .still fun K N w ac hr he => ⟨_, rfl, he.ev x⟩
theorem does_assign {x : Operand} (h : evalA (comp P ⟨dst, .assign x, ty, pos, aft, gd⟩) ρ σ = some (v, σ')) : Does P ⟨dst, .assign x, ty, pos, aft, gd⟩ ρ σ v σ' := by
  simp only [comp, evalA, Option.some.injEq, Prod.mk.injEq] at h
  obtain ⟨rfl, rfl⟩ := h
  exact .still fun K N w ac hr he => ⟨_, rfl, he.ev x⟩
theorem does_pick {c a b : Operand} (h : evalA (comp P ⟨dst, .pick c a b, ty, pos, aft, gd⟩) ρ σ = some (v, σ')) : Does P ⟨dst, .pick c a b, ty, pos, aft, gd⟩ ρ σ v σ' := by
  simp only [comp, evalA] at h
  split at h
  · rename_i t hc
    simp only [Option.some.injEq, Prod.mk.injEq] at h
    obtain ⟨rfl, rfl⟩ := h
    refine .still fun K N w ac hr he => ?_
    have := he.ev c
    rw [hc] at this
    have := this.inv_bool
    cases t with
    | true => exact ⟨ac.eval a, by simp [execOp, asBool, Result.andThen, this], he.ev a⟩
    | false => exact ⟨ac.eval b, by simp [execOp, asBool, Result.andThen, this], he.ev b⟩
  · cases h

/- ------------------------------------------------ new blocks -/
theorem alloc_does {o : Oper} {cs : List AV} {f : Nat → AV} (h : allocA (comp P o) ρ = some (cs, f)) :
    ∀ K N w ac, ERel K N ρ ac → ∃ (arr : Array Value) (T : TypeId) (g : Nat → Value), (execOp ac.eval o).run P w = .ok (.value (g w.heap.size)) { w with heap := w.heap.push (.cells arr T (0, 0)) } ∧ CR K cs arr 0 ∧ cs.length = arr.size ∧
      ∀ K' id, K.le K' → K'.μ id = some (w.heap.size, 0, arr.size) → VR K' (f id) (g w.heap.size) := by
  intro K N w ac he
  have key : ∀ (c : Array Value), VRL K cs c.toList → CR K cs c 0 ∧ cs.length = c.size := fun c hc => by
    refine ⟨fun i hi => ?_, by simpa using hc.1⟩
    have hi' : i < c.size := by have := hc.1; simp at this; omega
    exact ⟨c[i], by simp [hi'], hc.2 i hi (by simpa using hi')⟩
  obtain ⟨dst, op, ty, pos, aft, gd⟩ := o
  cases op with
  | alloc t =>
    simp only [comp] at h
    split at h
    · rename_i z hz
      simp only [allocA] at h
      cases hb : z.all AV.one with
      | false => rw [hb] at h; cases h
      | true =>
        rw [hb] at h
        simp only [cond_true, Option.some.injEq, Prod.mk.injEq] at h
        obtain ⟨rfl, rfl⟩ := h
        obtain ⟨zv, hrun, hvr⟩ := run_zeroT (K := K) hz w
        obtain ⟨k1, k2⟩ := key _ hvr
        refine ⟨zv.cells, t, fun n => .pointer (some ⟨n, 0, none⟩), ?_, k1, k2, fun K' id hK hμ => ?_⟩
        · simp [execOp, Instr.alloc, hrun, newVar, newRow, Result.andThen]
        · exact .ptr id 0 _ 0 _ hμ
    · simp [allocA] at h
  | box t x =>
    simp only [comp, allocA] at h
    split at h
    · cases h
    · rename_i a hne
      cases hb : ((Opd.of x).ev ρ).cells.all AV.one with
      | false => rw [hb] at h; cases h
      | true =>
        rw [hb] at h
        simp only [cond_true, Option.some.injEq, Prod.mk.injEq] at h
        obtain ⟨rfl, rfl⟩ := h
        have hvr := (he.ev x).cells hne
        obtain ⟨k1, k2⟩ := key _ hvr
        refine ⟨(ac.eval x).cells, t, fun n => .pointer (some ⟨n, 0, none⟩), ?_, k1, k2, fun K' id hK hμ => ?_⟩
        · simp [execOp, Instr.box, newVar, newRow, Result.andThen]
        · exact .ptr id 0 _ 0 _ hμ
  | buildSlice t len ps =>
    simp only [comp] at h
    split at h
    · rename_i e hel
      split at h
      · rename_i n z hn hz
        split at h
        · simp [allocA] at h
        · rename_i hcond
          split at h
          · rename_i l hl
            simp only [allocA] at h
            cases hb : z.all AV.one with
            | false => rw [hb] at h; cases h
            | true =>
              rw [hb] at h
              simp only [cond_true, Option.map_eq_some_iff] at h
              obtain ⟨cs', hf, h⟩ := h
              simp only [Prod.mk.injEq] at h
              obtain ⟨rfl, rfl⟩ := h
              simp only [not_or, Nat.not_lt, Decidable.not_not] at hcond
              obtain ⟨hn0, hlen24, hzn⟩ := hcond
              obtain ⟨zv, hrun, hvr⟩ := run_zeroT (K := K) hz w
              have hrow := rowOf_ok hvr (by omega) len
              have hps := partsT_ok he ps.toList l hl
              obtain ⟨arr', hfill, hvr'⟩ := fill_ok (K := K) (fun i => some (i * n, n)) (evParts ac.eval ps.toList) (partsV ρ l) (rowOf z len) cs' _ hps.1 hps.2 hrow hf
              obtain ⟨k1, k2⟩ := key _ hvr'
              rw [hzn] at hfill
              refine ⟨arr', e, fun m => .slice (some ⟨m, 0, none⟩) len len, ?_, k1, k2, fun K' id hK hμ => ?_⟩
              · have h24 : ¬ len * n > 2 ^ 24 := by omega
                have hz' : (if len * n = 0 then (pure #[] : Sem (Array Value)) else do pure (← zeroValue e).cells).run P w = .ok (if len * n = 0 then #[] else zv.cells) w := by
                  split <;> simp [hrun, Result.andThen]
                have hfill' : Instr.fill (fun i => some (i * n, n)) ((Array.range (len * n)).map ((if len * n = 0 then #[] else zv.cells)[· % (if len * n = 0 then #[] else zv.cells).size]!)) (evParts ac.eval ps.toList) = some arr' := by
                  by_cases h0 : len * n = 0
                  · rw [h0] at hfill ⊢; simpa [Array.range_zero'] using hfill
                  · simpa only [h0, if_false] using hfill
                simp only [execOp, Instr.buildSlice, Sem.run_bind, run_underT (elemT_some hel), Result.andThen, run_sizeT hn, h24, if_false, Sem.run_ite]
                have hp : (Array.map (fun x : Nat × Operand => (x.fst, ac.eval x.snd)) ps).toList = evParts ac.eval ps.toList := by simp [evParts]
                rw [hp]
                by_cases h0 : len * n = 0
                · simp only [h0, if_true] at hfill' ⊢
                  simp only [Sem.run_pure, hfill', Sem.run_bind, newRow, run_newObj, Result.andThen]
                · simp only [h0, if_false] at hfill' ⊢
                  simp only [hrun, Sem.run_pure, hfill', Sem.run_bind, newRow, run_newObj, Result.andThen]
              · have := VR.sl (K := K') id 0 len len (some len) n w.heap.size 0 arr'.size hμ (fun c' e => by injection e) (Nat.le_refl _) (by
                  have h1 := k2
                  have h2 : cs'.length = len * n := by
                    have : (rowOf z len).length = len * n := by rw [rowOf_length, hzn]
                    rw [← this]; exact fillA_length _ _ _ hf
                  omega)
                simpa using this
          · simp [allocA] at h
      · simp [allocA] at h
    · simp [allocA] at h
  | call c =>
    have hcall : allocA (compCall P c ty) ρ = none := by
      unfold compCall
      repeat' split
      all_goals first | rfl | (split <;> rfl)
    simp only [comp] at h
    rw [hcall] at h; cases h
  | makeFunc fn first cap =>
    cases fn <;> simp only [comp] at h <;> repeat' split at h
    all_goals simp [allocA] at h
  | next x b =>
    cases b <;> simp only [comp] at h
    all_goals simp [allocA] at h
  | _ =>
    simp only [comp] at h
    repeat' split at h
    all_goals simp [allocA] at h

/- A block that the operation makes, as the next one. -/
theorem does_alloc {o : Oper} (h : ((allocA (comp P o) ρ).map fun r => (r.2 σ.n, σ.push (.cells r.1))) = some (v, σ')) : Does P o ρ σ v σ' := by
  intro K N w ac hr he
  simp only [Option.map_eq_some_iff] at h
  obtain ⟨⟨cs, f⟩, h1, h2⟩ := h
  simp only [Prod.mk.injEq] at h2
  obtain ⟨rfl, rfl⟩ := h2
  obtain ⟨arr, T, g, hrun, hcr, hlen, hval⟩ := alloc_does h1 K N w ac he
  obtain ⟨hle, hrel⟩ := hr.alloc (w' := { w with heap := w.heap.push (.cells arr T (0, 0)) }) rfl rfl rfl rfl (.inr rfl) hcr (by omega)
  exact ⟨_, _, _, .inl hrun, hle, hrel, hval _ _ hle (by simp [Know.bind])⟩
end
end Go.Proofs.Ythojhpjjkfjeiaa.Va
