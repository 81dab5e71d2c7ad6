/- Each operation does in the world what it does to abstract values, second part: reading, writing, parts, places. Conditions: none. -/
import Derived.Test.YthojhpjjkfjeiaaVa4
set_option linter.unusedSimpArgs false
set_option linter.unusedVariables false
namespace Go.Proofs.Ythojhpjjkfjeiaa.Va
variable {P : Program}
section
variable {dst : Option Tmp} {ty : TypeId} {pos : String} {aft : Array Edge} {gd : Option (Nat × Bool)} {ρ : Env} {σ σ' : AState} {v : AV}

theorem ite_some {α : Type} {c : Bool} {x y : α} (h : (bif c then some x else none) = some y) : c = true ∧ x = y := by
  cases c with
  | true => exact ⟨rfl, by simpa using h⟩
  | false => cases h

theorem does_load {t : TypeId} {x : Operand} (h : evalA (comp P ⟨dst, .load t x, ty, pos, aft, gd⟩) ρ σ = some (v, σ')) : Does P ⟨dst, .load t x, ty, pos, aft, gd⟩ ρ σ v σ' := by
  simp only [comp] at h
  split at h
  · rename_i a n ha hn
    simp only [evalA] at h
    have key : ∀ (cs : List AV) (off : Nat), (bif a then (bif Nat.ble (off + n) cs.length then some (AV.agg (seg cs off n), σ) else none) else (cs[off]?).map (·, σ)) = some (v, σ') →
        σ = σ' ∧ (bif a then (bif Nat.ble (off + n) cs.length then some (AV.agg (seg cs off n)) else none) else cs[off]?) = some v := by
      intro cs off e
      cases a with
      | true =>
        simp only [cond_true] at e ⊢
        obtain ⟨e1, e2⟩ := ite_some e
        simp only [Prod.mk.injEq] at e2
        rw [e1]; exact ⟨e2.2, by simp [e2.1]⟩
      | false =>
        simp only [cond_false, Option.map_eq_some_iff, Prod.mk.injEq] at e ⊢
        obtain ⟨b, e1, e2, e3⟩ := e
        exact ⟨e3, by rw [e1, e2]⟩
    split at h
    · rename_i b off hx
      split at h
      · rename_i cs hcs
        obtain ⟨rfl, hv⟩ := key cs off h
        refine .still fun K N w ac hr he => ?_
        have hp := he.ev x
        rw [hx] at hp
        obtain ⟨blk, bs, room, hpv, hμ⟩ := hp.inv_ptr
        obtain ⟨vc, hrun, hvr⟩ := sim_loadVar (P := P) ha hn (hr.lies hcs hμ) hv
        exact ⟨vc, by simp [execOp, Instr.loadAt, Instr.sureAddr, hpv, hrun, Result.andThen], hvr⟩
      · cases h
    · rename_i cs off hx
      obtain ⟨rfl, hv⟩ := key cs off h
      refine .still fun K N w ac hr he => ?_
      have hp := he.ev x
      rw [hx] at hp
      obtain ⟨blk, bs, hpv, hl⟩ := base_ptr hr hp (cs := cs) (off := off) rfl (by simp) (by simp)
      obtain ⟨vc, hrun, hvr⟩ := sim_loadVar (P := P) ha hn hl hv
      exact ⟨vc, by simp [execOp, Instr.loadAt, Instr.sureAddr, hpv, hrun, Result.andThen], hvr⟩
    · cases h
  · simp [evalA] at h

theorem does_store {t : TypeId} {a x : Operand} (h : evalA (comp P ⟨dst, .store t a x, ty, pos, aft, gd⟩) ρ σ = some (v, σ')) : Does P ⟨dst, .store t a x, ty, pos, aft, gd⟩ ρ σ v σ' := by
  simp only [comp] at h
  split at h
  · rename_i n hn
    simp only [evalA] at h
    split at h
    · cases h
    · rename_i u hne
      cases hb : Nat.beq ((Opd.of x).ev ρ).cells.length n with
      | false => rw [hb] at h; cases h
      | true =>
        rw [hb] at h
        simp only [cond_true, Option.map_eq_some_iff, Prod.mk.injEq] at h
        obtain ⟨σ1, hst, rfl, rfl⟩ := h
        intro K N w ac hr he
        have hcells := (he.ev x).cells hne
        obtain ⟨blk, o, w', hpv, hrun, hrel⟩ := hr.storeA (P := P) (he.ev a) hcells hst
        have hsz : (ac.eval x).cells.size = n := by have := hcells.1; have := Nat.eq_of_beq_eq_true hb; simp at *; omega
        refine ⟨undef, w', K, .inr ⟨?_, rfl⟩, Know.le.refl K, hrel, .undef _⟩
        simp [execOp, Instr.storeAt, Instr.sureAddr, hpv, storeVar, run_sizeT hn, hsz, hrun, Result.andThen]
  · simp [evalA] at h

theorem run_mapM_sizes {w : World} {α : Type} (g : Field → TypeId → Nat → α) : ∀ (fs : List Field), (∀ f ∈ fs, (sizeT P f.type).isSome) →
    (fs.mapM (m := Sem) fun f => do pure (f.offset, ← sizeOf f.type)).run P w = .ok (fs.map fun f => (f.offset, (sizeT P f.type).getD 0)) w := by
  intro fs
  induction fs with
  | nil => intro _; simp
  | cons f fs ih =>
    intro h
    obtain ⟨n, hn⟩ := Option.isSome_iff_exists.1 (h f (by simp))
    have := ih (fun f' hf' => h f' (by simp [hf']))
    simp only [List.mapM_cons, Sem.run_bind, run_sizeT hn, Result.andThen, Sem.run_pure, this, List.map_cons, hn, Option.getD_some]

theorem does_build {t : TypeId} {ps : Array (Nat × Operand)} (h : evalA (comp P ⟨dst, .build t ps, ty, pos, aft, gd⟩) ρ σ = some (v, σ')) : Does P ⟨dst, .build t ps, ty, pos, aft, gd⟩ ρ σ v σ' := by
  simp only [comp] at h
  split at h
  · rename_i fs z hu hz
    split at h
    · rename_i l hsz hl
      simp only [evalA, Option.map_eq_some_iff, Prod.mk.injEq] at h
      obtain ⟨cs, hf, rfl, rfl⟩ := h
      refine .still fun K N w ac hr he => ?_
      obtain ⟨zv, hrun, hvr⟩ := run_zeroT (K := K) hz w
      have hps := partsT_ok he ps.toList l hl
      obtain ⟨arr', hfill, hvr'⟩ := fill_ok (K := K) (structPlaces P fs) (evParts ac.eval ps.toList) (partsV ρ l) z cs zv.cells hps.1 hps.2 hvr hf
      have hfs : ∀ f ∈ fs.toList, (sizeT P f.type).isSome := fun f hf' => by have := List.all_eq_true.1 hsz f hf'; exact this
      have hpl : (fun i => ((fs.toList.map fun f => (f.offset, (sizeT P f.type).getD 0)).toArray)[i]?) = structPlaces P fs := by
        funext i
        simp only [structPlaces]
        cases e : fs[i]? with
        | none => simp [e]
        | some f =>
          have hmem : f ∈ fs.toList := by rw [Array.mem_toList_iff]; exact Array.mem_of_getElem? e
          obtain ⟨n, hn⟩ := Option.isSome_iff_exists.1 (hfs f hmem)
          simp [e, hn]
      refine ⟨.agg arr', ?_, ?_⟩
      · have hp : (Array.map (fun x : Nat × Operand => (x.fst, ac.eval x.snd)) ps).toList = evParts ac.eval ps.toList := by simp [evParts]
        have hm : (fs.mapM (m := Sem) fun f => do pure (f.offset, ← sizeOf f.type)).run P w = .ok (fs.toList.map fun f => (f.offset, (sizeT P f.type).getD 0)).toArray w := by
          rw [Array.mapM_eq_mapM_toList]
          simp only [Sem.run_map, run_mapM_sizes (w := w) (fun _ _ n => n) fs.toList hfs, Result.andThen]
        simp only [execOp, Instr.build, Sem.run_bind, hrun, run_underT hu, Result.andThen, hm, hp, hpl, hfill, Sem.run_pure]
      · have := VR.agg _ _ hvr'.1 hvr'.2
        simpa using this
    · simp [evalA] at h
  · rename_i k e z hu hz
    split at h
    · rename_i n hn
      split at h
      · rename_i l hl
        simp only [evalA, Option.map_eq_some_iff, Prod.mk.injEq] at h
        obtain ⟨cs, hf, rfl, rfl⟩ := h
        refine .still fun K N w ac hr he => ?_
        obtain ⟨zv, hrun, hvr⟩ := run_zeroT (K := K) hz w
        have hps := partsT_ok he ps.toList l hl
        obtain ⟨arr', hfill, hvr'⟩ := fill_ok (K := K) (fun i => some (i * n, n)) (evParts ac.eval ps.toList) (partsV ρ l) z cs zv.cells hps.1 hps.2 hvr hf
        refine ⟨.agg arr', ?_, ?_⟩
        · have hp : (Array.map (fun x : Nat × Operand => (x.fst, ac.eval x.snd)) ps).toList = evParts ac.eval ps.toList := by simp [evParts]
          simp only [execOp, Instr.build, Sem.run_bind, hrun, run_underT hu, Result.andThen, run_sizeT hn, hp, hfill, Sem.run_pure]
        · have := VR.agg _ _ hvr'.1 hvr'.2
          simpa using this
      · simp [evalA] at h
    · simp [evalA] at h
  · simp [evalA] at h

theorem does_nilCheck {x : Operand} (h : evalA (comp P ⟨dst, .nilCheck x, ty, pos, aft, gd⟩) ρ σ = some (v, σ')) : Does P ⟨dst, .nilCheck x, ty, pos, aft, gd⟩ ρ σ v σ' := by
  simp only [comp, evalA] at h
  split at h <;> first | (cases h; done) | skip
  all_goals
    rename_i hx
    simp only [Option.some.injEq, Prod.mk.injEq] at h
    obtain ⟨rfl, rfl⟩ := h
    refine .still fun K N w ac hr he => ?_
    have hp := he.ev x
    rw [hx] at hp
    refine ⟨ac.eval x, ?_, hp⟩
    generalize hy : ac.eval x = y at hp
    cases hp <;> simp [execOp, hy]

theorem does_makeFunc {fn : Fn} {first cap : Array Operand} (h : evalA (comp P ⟨dst, .makeFunc fn first cap, ty, pos, aft, gd⟩) ρ σ = some (v, σ')) : Does P ⟨dst, .makeFunc fn first cap, ty, pos, aft, gd⟩ ρ σ v σ' := by
  cases fn with
  | func f =>
    simp only [comp] at h
    split at h
    · rename_i hf
      simp only [evalA, Option.some.injEq, Prod.mk.injEq] at h
      obtain ⟨rfl, rfl⟩ := h
      refine .still fun K N w ac hr he => ?_
      have hl := he.list cap.toList
      have hf' : first = #[] := by simpa using hf
      refine ⟨.func (.func f) #[] (cap.toList.map ac.eval).toArray, ?_, .fn f _ _ hl.1 hl.2⟩
      subst hf'
      simp only [execOp, Instr.makeFunc, Sem.run_bind, Sem.run_pure, Result.andThen]
      congr 3
      all_goals (apply Array.ext'; simp)
    · simp [evalA] at h
  | _ => simp [comp, evalA] at h

theorem does_fieldAddr {t : TypeId} {x : Operand} {f : Nat} (h : evalA (comp P ⟨dst, .fieldAddr t x f, ty, pos, aft, gd⟩) ρ σ = some (v, σ')) : Does P ⟨dst, .fieldAddr t x f, ty, pos, aft, gd⟩ ρ σ v σ' := by
  simp only [comp] at h
  split at h
  · rename_i fs hu
    split at h
    · rename_i fd hfd
      split at h
      · rename_i n hn
        split at h
        · simp [evalA] at h
        · rename_i hn0
          simp only [evalA] at h
          have hplace : ∀ (w : World) (blk o : Nat), (fieldPlace ⟨blk, o, none⟩ fd).run P w = .ok ⟨blk, o + fd.offset, none⟩ w := by
            intro w blk o
            simp [fieldPlace, run_sizeT hn, hn0, Result.andThen, Addr.add_none]
          split at h
          · rename_i b o hx
            simp only [Option.some.injEq, Prod.mk.injEq] at h
            obtain ⟨rfl, rfl⟩ := h
            refine .still fun K N w ac hr he => ?_
            have hp := he.ev x
            rw [hx] at hp
            obtain ⟨blk, bs, room, hpv, hμ⟩ := hp.inv_ptr
            refine ⟨.pointer (some ⟨blk, bs + (o + fd.offset), none⟩), ?_, .ptr b _ blk bs room hμ⟩
            simp [execOp, Instr.fieldAt, Instr.sureAddr, run_underT hu, hfd, hpv, hplace, Result.andThen, Nat.add_assoc]
          · rename_i cs o hx
            simp only [Option.some.injEq, Prod.mk.injEq] at h
            obtain ⟨rfl, rfl⟩ := h
            refine .still fun K N w ac hr he => ?_
            have hp := he.ev x
            rw [hx] at hp
            generalize hy : ac.eval x = y at hp
            cases hp with
            | pptr cs off blk base arr T fz vs h1 h2 h3 =>
              refine ⟨.pointer (some ⟨blk, base + (o + fd.offset), none⟩), ?_, .pptr cs _ blk base arr T fz vs h1 h2 h3⟩
              simp [execOp, Instr.fieldAt, Instr.sureAddr, run_underT hu, hfd, hy, hplace, Result.andThen, Nat.add_assoc]
          · cases h
      · simp [evalA] at h
    · simp [evalA] at h
  · simp [evalA] at h

theorem sim_part {K : Know} {w : World} {t : TypeId} {agg : Bool} {n off : Nat} (ha : isAggT P t = some agg) (hn : sizeT P t = some n) {cs : List AV} {vs : List Value} (hvr : VRL K cs vs) {v : AV}
    (hv : (bif agg then (bif Nat.ble (off + n) cs.length then some (AV.agg (seg cs off n)) else none) else cs[off]?) = some v) :
    ∃ vc, (part t vs.toArray off).run P w = .ok vc w ∧ VR K v vc := by
  cases agg with
  | true =>
    simp only [cond_true] at hv
    obtain ⟨h1, rfl⟩ := ite_some hv
    have h2 := (hvr.drop off).take n
    have h3 := VR.agg _ _ h2.1 h2.2
    refine ⟨.agg ((vs.drop off).take n).toArray, ?_, h3⟩
    simp only [part, Sem.run_bind, run_isAggT ha, run_sizeT hn, Result.andThen, if_true, Sem.run_pure]
    congr 3
    apply Array.ext'
    simp [List.extract_eq_take_drop]
  | false =>
    simp only [cond_false] at hv
    obtain ⟨u, e, r⟩ := hvr.get hv
    exact ⟨u, by simp [part, run_isAggT ha, Result.andThen, e], r⟩

theorem does_field {t : TypeId} {x : Operand} {f : Nat} (h : evalA (comp P ⟨dst, .field t x f, ty, pos, aft, gd⟩) ρ σ = some (v, σ')) : Does P ⟨dst, .field t x f, ty, pos, aft, gd⟩ ρ σ v σ' := by
  simp only [comp] at h
  split at h
  · rename_i fs hu
    split at h
    · rename_i fd hfd
      split at h
      · rename_i a n ha hn
        simp only [evalA] at h
        split at h
        · rename_i cs hx
          have hs : σ = σ' ∧ (bif a then (bif Nat.ble (fd.offset + n) cs.length then some (AV.agg (seg cs fd.offset n)) else none) else cs[fd.offset]?) = some v := by
            cases a with
            | true =>
              simp only [cond_true] at h ⊢
              obtain ⟨e1, e2⟩ := ite_some h
              simp only [Prod.mk.injEq] at e2
              rw [e1]; exact ⟨e2.2, by simp [e2.1]⟩
            | false =>
              simp only [cond_false, Option.map_eq_some_iff, Prod.mk.injEq] at h ⊢
              obtain ⟨b, e1, e2, e3⟩ := h
              exact ⟨e3, by rw [e1, e2]⟩
          obtain ⟨rfl, hv⟩ := hs
          refine .still fun K N w ac hr he => ?_
          have hp := he.ev x
          rw [hx] at hp
          obtain ⟨vs, hpv, hvr⟩ := hp.inv_agg
          obtain ⟨vc, hrun, hvr'⟩ := sim_part (P := P) (w := w) ha hn hvr hv
          exact ⟨vc, by simp [execOp, Instr.field, run_underT hu, hfd, hpv, asAgg, hrun, Result.andThen], hvr'⟩
        · cases h
      · simp [evalA] at h
    · simp [evalA] at h
  · simp [evalA] at h

theorem asIdx_ok {K : Know} {a : AV} {v : Value} (h : VR K a v) {n : Int} (ha : asIdx a = some n) : ∃ k, v = .int k n := by
  unfold asIdx at ha
  split at ha
  · injection ha with ha; subst ha; exact ⟨_, h.inv_int⟩
  · cases ha

theorem does_indexAddr {t : TypeId} {x i : Operand} (h : evalA (comp P ⟨dst, .indexAddr t x i, ty, pos, aft, gd⟩) ρ σ = some (v, σ')) : Does P ⟨dst, .indexAddr t x i, ty, pos, aft, gd⟩ ρ σ v σ' := by
  simp only [comp] at h
  split at h
  · rename_i e hu
    split at h
    · rename_i n hn
      simp only [evalA] at h
      split at h
      · rename_i b off len cap sz j hx hi
        split at h
        · rename_i hb
          simp only [Option.some.injEq, Prod.mk.injEq] at h
          obtain ⟨rfl, rfl⟩ := h
          refine .still fun K N w ac hr he => ?_
          have hp := he.ev x
          rw [hx] at hp
          obtain ⟨k, hik⟩ := asIdx_ok (he.ev i) hi
          obtain ⟨blk, a, c', hpv, h1, h2, h3⟩ := hp.inv_slice
          rcases h3 with ⟨bs, room, rfl, hμ, hroom⟩ | ⟨h0, _⟩
          · refine ⟨.pointer (some ⟨blk, bs + (off + j.toNat * n), none⟩), ?_, .ptr b _ blk bs room hμ⟩
            simp [execOp, Instr.indexAt, hik, asIntOf, run_underT hu, hpv, Result.andThen, hb, run_sizeT hn, Addr.add_none, Nat.add_assoc]
          · omega
        · cases h
      · rename_i cs off len j hx hi
        split at h
        · rename_i hb
          simp only [Option.some.injEq, Prod.mk.injEq] at h
          obtain ⟨rfl, rfl⟩ := h
          refine .still fun K N w ac hr he => ?_
          have hp := he.ev x
          rw [hx] at hp
          obtain ⟨k, hik⟩ := asIdx_ok (he.ev i) hi
          obtain ⟨a, c', hpv, hsp, hle, h3⟩ := hp.inv_psl
          rcases h3 with ⟨blk, bs, arr, T, fz, vs, rfl, h1, h2, h3⟩ | h0
          · refine ⟨.pointer (some ⟨blk, bs + (off + j.toNat * n), none⟩), ?_, .pptr cs _ blk bs arr T fz vs h1 h2 h3⟩
            simp [execOp, Instr.indexAt, hik, asIntOf, run_underT hu, hpv, Result.andThen, hb, run_sizeT hn, Addr.add_none, Nat.add_assoc]
          · omega
        · cases h
      · cases h
    · simp [evalA] at h
  · rename_i len e hu
    split at h
    · rename_i n hn
      simp only [evalA] at h
      split at h
      · rename_i b off j hx hi
        split at h
        · rename_i hb
          simp only [Option.some.injEq, Prod.mk.injEq] at h
          obtain ⟨rfl, rfl⟩ := h
          refine .still fun K N w ac hr he => ?_
          have hp := he.ev x
          rw [hx] at hp
          obtain ⟨k, hik⟩ := asIdx_ok (he.ev i) hi
          obtain ⟨blk, bs, room, hpv, hμ⟩ := hp.inv_ptr
          refine ⟨.pointer (some ⟨blk, bs + (off + j.toNat * n), none⟩), ?_, .ptr b _ blk bs room hμ⟩
          simp [execOp, Instr.indexAt, Instr.sureAddr, hik, asIntOf, run_underT hu, hpv, Result.andThen, hb, run_sizeT hn, Addr.add_none, Nat.add_assoc]
        · cases h
      · rename_i cs off j hx hi
        split at h
        · rename_i hb
          simp only [Option.some.injEq, Prod.mk.injEq] at h
          obtain ⟨rfl, rfl⟩ := h
          refine .still fun K N w ac hr he => ?_
          have hp := he.ev x
          rw [hx] at hp
          obtain ⟨k, hik⟩ := asIdx_ok (he.ev i) hi
          generalize hy : ac.eval x = y at hp
          cases hp with
          | pptr cs off blk base arr T fz vs h1 h2 h3 =>
            refine ⟨.pointer (some ⟨blk, base + (off + j.toNat * n), none⟩), ?_, .pptr cs _ blk base arr T fz vs h1 h2 h3⟩
            simp [execOp, Instr.indexAt, Instr.sureAddr, hik, asIntOf, run_underT hu, hy, Result.andThen, hb, run_sizeT hn, Addr.add_none, Nat.add_assoc]
        · cases h
      · cases h
    · simp [evalA] at h
  · simp [evalA] at h
end
end Go.Proofs.Ythojhpjjkfjeiaa.Va
