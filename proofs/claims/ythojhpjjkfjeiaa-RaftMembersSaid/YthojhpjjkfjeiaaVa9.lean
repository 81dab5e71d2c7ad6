/- Each operation does in the world what it does to abstract values, sixth part: cuts, indexes, texts walked through, builtins but append. Conditions: none. -/
import Derived.Test.YthojhpjjkfjeiaaVa8
set_option linter.unusedSimpArgs false
set_option linter.unusedVariables false
namespace Go.Proofs.Ythojhpjjkfjeiaa.Va
variable {P : Program}

theorem optIdx_ok {K : Know} {N : Nat} {ρ : Env} {a : Act} (he : ERel K N ρ a) {d n : Int} {x : Option Operand} (h : optIdx ρ d (x.map Opd.of) = some n) :
    (x = none ∧ n = d) ∨ ∃ y k, x = some y ∧ a.eval y = .int k n := by
  cases x with
  | none => simp only [Option.map_none, optIdx, Option.some.injEq] at h; exact .inl ⟨rfl, h.symm⟩
  | some y =>
    simp only [Option.map_some, optIdx] at h
    obtain ⟨k, e⟩ := asIdx_ok (he.ev y) h
    exact .inr ⟨y, k, rfl, e⟩

theorem run_bound {w : World} {x : Value} {k : IntKind} {i : Int} {y : Nat} {c : BoundsCode} (hx : x = .int k i) (h0 : 0 ≤ i) (h1 : i ≤ y) : (Instr.sliceBound x y c).run P w = .ok i.toNat w := by
  subst hx
  simp [Instr.sliceBound, asIntOf, Result.andThen, h0, h1]

theorem run_bounds {K : Know} {N : Nat} {ρ : Env} {a : Act} (he : ERel K N ρ a) {w : World} {s : Bool} {len cap : Nat} {lo hi : Option Operand} {l h : Int} (hl : optIdx ρ 0 (lo.map Opd.of) = some l) (hh : optIdx ρ len (hi.map Opd.of) = some h)
    (h0 : 0 ≤ l) (h1 : l ≤ h) (h2 : h ≤ cap) : (Instr.sliceBounds s len cap (lo.map a.eval) (hi.map a.eval) none).run P w = .ok (l.toNat, h.toNat, cap) w := by
  have hb1 : (match hi.map a.eval, (none : Option Value) with
    | some v, some _ => Instr.sliceBound v cap .slice3B
    | some v, none => Instr.sliceBound v cap (if s then .sliceAcap else .sliceAlen)
    | none, none => pure len
    | none, some _ => stuck "Slice: max without high" : Sem Nat).run P w = .ok h.toNat w := by
    rcases optIdx_ok he hh with ⟨rfl, rfl⟩ | ⟨y, k, rfl, e⟩
    · simp
    · simp only [Option.map_some]; exact run_bound e (by omega) h2
  have hb2 : (match lo.map a.eval with
    | some v => Instr.sliceBound v h.toNat (if (none : Option Value).isSome then .slice3C else .sliceB)
    | none => pure 0 : Sem Nat).run P w = .ok l.toNat w := by
    rcases optIdx_ok he hl with ⟨rfl, rfl⟩ | ⟨y, k, rfl, e⟩
    · simp
    · simp only [Option.map_some]; exact run_bound e h0 (by omega)
  rcases optIdx_ok he hh with ⟨rfl, rfl⟩ | ⟨y, k, rfl, e⟩ <;> rcases optIdx_ok he hl with ⟨rfl, rfl⟩ | ⟨y', k', rfl, e'⟩ <;>
    simp only [Option.map_none, Option.map_some] at hb1 hb2 ⊢ <;> simp only [Instr.sliceBounds, Sem.run_bind, Sem.run_pure, Result.andThen_ok, hb1, hb2] <;> simp_all

theorem run_bounds3 {K : Know} {N : Nat} {ρ : Env} {a : Act} (he : ERel K N ρ a) {w : World} {len cap : Nat} {lo hi : Option Operand} {mx : Operand} {l h m : Int} (hl : optIdx ρ 0 (lo.map Opd.of) = some l) (hh : optIdx ρ len (hi.map Opd.of) = some h)
    (hm : asIdx ((Opd.of mx).ev ρ) = some m) (hhi : hi.isSome = true) (h0 : 0 ≤ l) (h1 : l ≤ h) (h2 : h ≤ m) (h3 : m ≤ cap) :
    (Instr.sliceBounds true len cap (lo.map a.eval) (hi.map a.eval) (some (a.eval mx))).run P w = .ok (l.toNat, h.toNat, m.toNat) w := by
  obtain ⟨km, em⟩ := asIdx_ok (he.ev mx) hm
  have hbm := run_bound (P := P) (w := w) (c := BoundsCode.slice3Acap) em (by omega) h3
  rcases optIdx_ok he hh with ⟨rfl, rfl⟩ | ⟨y, k, rfl, e⟩
  · cases hhi
  · have hbh := run_bound (P := P) (w := w) (y := m.toNat) (c := .slice3B) e (by omega) (by omega)
    rcases optIdx_ok he hl with ⟨rfl, rfl⟩ | ⟨y', k', rfl, e'⟩
    · simp only [Option.map_none, Option.map_some, Instr.sliceBounds, Sem.run_bind, Sem.run_pure, Result.andThen_ok, if_true, hbm, hbh]; rfl
    · have hbl := run_bound (P := P) (w := w) (y := h.toNat) (c := .slice3C) e' h0 (by omega)
      simp only [Option.map_some, Instr.sliceBounds, Sem.run_bind, Sem.run_pure, Result.andThen_ok, if_true, hbm, hbh, hbl, Option.isSome_some]

section
variable {dst : Option Tmp} {ty : TypeId} {pos : String} {aft : Array Edge} {gd : Option (Nat × Bool)} {ρ : Env} {σ σ' : AState} {v : AV}

theorem does_slice {t : TypeId} {x : Operand} {lo hi mx : Option Operand} (h : evalA (comp P ⟨dst, .slice t x lo hi mx, ty, pos, aft, gd⟩) ρ σ = some (v, σ')) : Does P ⟨dst, .slice t x lo hi mx, ty, pos, aft, gd⟩ ρ σ v σ' := by
  simp only [comp] at h
  split at h
  · rename_i hu
    split at h
    · simp [evalA] at h
    · rename_i hmx
      have hmx : mx = none := by simpa using hmx
      subst hmx
      simp only [evalA] at h
      split at h
      · rename_i s ex
        split at h
        · rename_i l hh el eh
          split at h
          · rename_i hb
            simp only [Option.some.injEq, Prod.mk.injEq] at h
            obtain ⟨rfl, rfl⟩ := h
            refine .still fun K N w ac hr he => ?_
            have hx := he.ev x
            rw [ex] at hx
            have hsz : (ByteArray.mk s.toArray).size = s.length := by simp [ByteArray.size]
            have hbd := run_bounds (P := P) (w := w) (s := false) (cap := s.length) he el eh hb.1 hb.2.1 hb.2.2
            refine ⟨.string ⟨((s.drop l.toNat).take (hh.toNat - l.toNat)).toArray⟩, ?_, .str _⟩
            simp only [execOp, Instr.sliceAt, Instr.slice, Sem.run_bind, run_underT hu, Result.andThen_ok, hx.inv_str, Option.map_none, Option.isSome_none, Bool.false_eq_true, if_false, hsz, hbd, Sem.run_pure]
            congr 3
            apply ByteArray.ext
            apply Array.ext'
            simp [ByteArray.data_extract, List.extract_eq_take_drop]
          · cases h
        · cases h
      · cases h
  · rename_i e hu
    split at h
    · rename_i n hn
      split at h
      · simp [evalA] at h
      · rename_i hn0
        simp only [not_or, not_and] at hn0
        simp only [evalA] at h
        split at h
        · rename_i ex
          split at h
          · rename_i el eh em
            simp only [Option.some.injEq, Prod.mk.injEq] at h
            obtain ⟨rfl, rfl⟩ := h
            refine .still fun K N w ac hr he => ?_
            have hx := he.ev x
            rw [ex] at hx
            refine ⟨.slice none 0 0, ?_, .nils⟩
            have hbd : (Instr.sliceBounds true 0 0 (lo.map ac.eval) (hi.map ac.eval) (mx.map ac.eval)).run P w = .ok (0, 0, 0) w := by
              cases mx with
              | none => exact run_bounds (P := P) (w := w) (s := true) (cap := 0) (len := 0) he el eh (by omega) (by omega) (by omega)
              | some m =>
                cases hi with
                | none => exact absurd rfl (hn0.2 rfl)
                | some y => exact run_bounds3 (P := P) (w := w) (cap := 0) (len := 0) he el eh em rfl (by omega) (by omega) (by omega) (by omega)
            simp only [execOp, Instr.sliceAt, Instr.slice, Sem.run_bind, run_underT hu, Result.andThen_ok, hx.inv_nils, hbd, run_sizeT hn, if_true, Sem.run_pure]
          · cases h
        · rename_i cs off len ex
          split at h
          · rename_i l hh el eh emx
            have hmx : mx = none := by cases mx <;> simp_all
            subst hmx
            split at h
            · rename_i hb
              simp only [Option.some.injEq, Prod.mk.injEq] at h
              obtain ⟨rfl, rfl⟩ := h
              refine .still fun K N w ac hr he => ?_
              have hx := he.ev x
              rw [ex] at hx
              obtain ⟨a, c', hpv, hsp, hle, h3⟩ := hx.inv_psl
              have hbd := run_bounds (P := P) (w := w) (s := true) (cap := c') he el eh hb.1 hb.2.1 (by omega)
              have hrun : (execOp ac.eval ⟨dst, .slice t x lo hi none, ty, pos, aft, gd⟩).run P w = .ok (.value (.slice (if c' = l.toNat then a else a.map (·.add (l.toNat * n))) (hh.toNat - l.toNat) (c' - l.toNat))) w := by
                simp only [execOp, Instr.sliceAt, Instr.slice, Sem.run_bind, run_underT hu, Result.andThen_ok, hpv, Option.map_none, hbd, run_sizeT hn, Sem.run_pure]
              refine ⟨_, hrun, ?_⟩
              by_cases hcl : c' = l.toNat
              · rw [if_pos hcl]
                have : hh.toNat - l.toNat = 0 := by omega
                rw [this]
                exact .psl_zero (fun e => by rw [hsp e]; omega)
              · rw [if_neg hcl]
                rcases h3 with ⟨blk, bs, arr, T, fz, vs, rfl, h1, h2, h3⟩ | h0
                · have := VR.psl (K := K) cs (off + l.toNat * n) (hh.toNat - l.toNat) (c' - l.toNat) blk bs arr T fz vs h1 h2 h3 (by omega)
                  simpa [Addr.add_none, Nat.add_assoc] using this
                · have : hh.toNat - l.toNat = 0 := by omega
                  rw [this]
                  exact .psl_zero (fun e => by rw [hsp (by simpa using e)]; omega)
            · cases h
          · cases h
        · rename_i b off len cap sz ex
          cases hz : Nat.beq sz n with
          | false => rw [hz] at h; cases h
          | true =>
            rw [hz] at h
            have := Nat.eq_of_beq_eq_true hz
            subst this
            simp only [cond_true] at h
            have fin : ∀ (l hh m : Int) (c' : Nat) (a : Addr) (K : Know), 0 ≤ l → l ≤ hh → hh ≤ m → m ≤ c' → (∀ c'', cap = some c'' → c' = c'') → ∀ blk o, a = ⟨blk, o, none⟩ →
                ((∃ bs room, o = bs + off ∧ K.μ b = some (blk, bs, room) ∧ bs + off + c' * sz ≤ room) ∨ (len = 0 ∧ c' = 0)) → ∀ cap', (∀ c'', cap' = some c'' → m.toNat - l.toNat = c'') →
                VR K (.sl b (off + l.toNat * sz) (hh.toNat - l.toNat) cap' sz) (.slice (if m.toNat = l.toNat then some a else (some a).map (·.add (l.toNat * sz))) (hh.toNat - l.toNat) (m.toNat - l.toNat)) := by
              intro l hh m c' a K h0 h1 h2 h3 hc blk o ha h4 cap' hcap'
              subst ha
              by_cases hml : m.toNat = l.toNat
              · rw [if_pos hml]
                have e1 : hh.toNat - l.toNat = 0 := by omega
                have e2 : m.toNat - l.toNat = 0 := by omega
                rw [e1, e2]
                exact .sl0 b _ cap' sz blk o (fun c'' e => by have := hcap' c'' e; omega)
              · rw [if_neg hml]
                rcases h4 with ⟨bs, room, rfl, hμ, hroom⟩ | ⟨_, h0⟩
                · have hmul : l.toNat * sz + (m.toNat - l.toNat) * sz ≤ c' * sz := by
                    rw [← Nat.add_mul]; exact Nat.mul_le_mul_right _ (by omega)
                  have := VR.sl (K := K) b (off + l.toNat * sz) (hh.toNat - l.toNat) (m.toNat - l.toNat) cap' sz blk bs room hμ hcap' (by omega) (by omega)
                  simpa [Addr.add_none, Nat.add_assoc] using this
                · omega
            split at h
            · rename_i l hh el eh emx
              have hmx : mx = none := by cases mx <;> simp_all
              subst hmx
              split at h
              · rename_i hb
                simp only [Option.some.injEq, Prod.mk.injEq] at h
                obtain ⟨rfl, rfl⟩ := h
                refine .still fun K N w ac hr he => ?_
                have hx := he.ev x
                rw [ex] at hx
                obtain ⟨blk, o, c', hpv, hle, hc, h3⟩ := hx.inv_slice
                have hcap : (cap.getD len : Nat) ≤ c' := by
                  cases cap with
                  | none => simpa using hle
                  | some c => have := hc c rfl; simp; omega
                have hbd := run_bounds (P := P) (w := w) (s := true) (cap := c') he el eh hb.1 hb.2.1 (by omega)
                refine ⟨.slice (if (c' : Int).toNat = l.toNat then some ⟨blk, o, none⟩ else (some (⟨blk, o, none⟩ : Addr)).map (·.add (l.toNat * sz))) (hh.toNat - l.toNat) ((c' : Int).toNat - l.toNat), ?_,
                  fin l hh c' c' ⟨blk, o, none⟩ K hb.1 hb.2.1 (by omega) (by omega) hc blk o rfl h3 _ (fun c'' e => by
                    cases cap with
                    | none => cases e
                    | some c => have := hc c rfl; simp at e; omega)⟩
                simp only [execOp, Instr.sliceAt, Instr.slice, Sem.run_bind, run_underT hu, Result.andThen_ok, hpv, Option.map_none, hbd, run_sizeT hn, Sem.run_pure, Int.toNat_natCast]
              · cases h
            · rename_i l hh m el eh emx
              obtain ⟨my, hmy, rfl⟩ : ∃ my, mx = some my ∧ m = Opd.of my := by
                cases mx with
                | none => simp at emx
                | some y => simp at emx; exact ⟨y, rfl, emx.symm⟩
              subst hmy
              split at h
              · rename_i mi em
                split at h
                · rename_i hb
                  simp only [Option.some.injEq, Prod.mk.injEq] at h
                  obtain ⟨rfl, rfl⟩ := h
                  refine .still fun K N w ac hr he => ?_
                  have hx := he.ev x
                  rw [ex] at hx
                  obtain ⟨blk, o, c', hpv, hle, hc, h3⟩ := hx.inv_slice
                  have hcap : (cap.getD len : Nat) ≤ c' := by
                    cases cap with
                    | none => simpa using hle
                    | some c => have := hc c rfl; simp; omega
                  have hhi : hi.isSome = true := by
                    cases hi with
                    | none => exact absurd rfl (hn0.2 rfl)
                    | some y => rfl
                  have hbd := run_bounds3 (P := P) (w := w) (cap := c') he el eh em hhi hb.1 hb.2.1 hb.2.2.1 (by omega)
                  refine ⟨.slice (if mi.toNat = l.toNat then some ⟨blk, o, none⟩ else (some (⟨blk, o, none⟩ : Addr)).map (·.add (l.toNat * sz))) (hh.toNat - l.toNat) (mi.toNat - l.toNat), ?_,
                    fin l hh mi c' ⟨blk, o, none⟩ K hb.1 hb.2.1 hb.2.2.1 (by omega) hc blk o rfl h3 _ (fun c'' e => by injection e)⟩
                  simp only [execOp, Instr.sliceAt, Instr.slice, Sem.run_bind, run_underT hu, Result.andThen_ok, hpv, Option.map_some, hbd, run_sizeT hn, Sem.run_pure]
                · cases h
              · cases h
            · cases h
        · cases h
    · simp [evalA] at h
  · rename_i n e hu
    split at h
    · rename_i z hz
      split at h
      · simp [evalA] at h
      · rename_i hcond
        simp only [not_or, Bool.not_eq_true, Option.isSome_eq_false_iff, Option.isNone_iff_eq_none] at hcond
        obtain ⟨hmx, hz0⟩ := hcond
        subst hmx
        simp only [evalA] at h
        split at h
        · rename_i b off ex
          split at h
          · rename_i l hh cs el eh ecs
            split at h
            · rename_i hb
              simp only [Option.some.injEq, Prod.mk.injEq] at h
              obtain ⟨rfl, rfl⟩ := h
              refine .still fun K N w ac hr he => ?_
              have hx := he.ev x
              rw [ex] at hx
              obtain ⟨blk, bs, room, hpv, hμ⟩ := hx.inv_ptr
              have hbd := run_bounds (P := P) (w := w) (s := false) (cap := n) he el eh hb.1 hb.2.1 hb.2.2.1
              obtain ⟨arr, T, flo, fhi, hh2, hfz, hsz, hcr, hlen, hfx⟩ := hr.cells b cs (AState.cells_eq ecs) _ hμ
              simp only at hsz hlen
              refine ⟨.slice (some (if n = l.toNat then ⟨blk, bs + off, none⟩ else (⟨blk, bs + off, none⟩ : Addr).add (l.toNat * z))) (hh.toNat - l.toNat) (n - l.toNat), ?_, ?_⟩
              · simp only [execOp, Instr.sliceAt, Instr.sureAddr, Sem.run_bind, run_underT hu, Result.andThen_ok, hpv, Option.map_none, hbd, run_sizeT hz, Sem.run_pure]
              · by_cases hml : n = l.toNat
                · rw [if_pos hml]
                  have e1 : hh.toNat - l.toNat = 0 := by omega
                  have e2 : n - l.toNat = 0 := by omega
                  rw [e1, e2]
                  exact .sl0 b _ _ z blk _ (fun c'' e => by injection e)
                · rw [if_neg hml]
                  have hmul : l.toNat * z + (n - l.toNat) * z ≤ n * z := by
                    rw [← Nat.add_mul]; exact Nat.mul_le_mul_right _ (by omega)
                  have := VR.sl (K := K) b (off + l.toNat * z) (hh.toNat - l.toNat) (n - l.toNat) (some (n - l.toNat)) z blk bs room hμ (fun c'' e => by injection e) (by omega) (by omega)
                  simpa [Addr.add_none, Nat.add_assoc] using this
            · cases h
          · cases h
        · cases h
    · simp [evalA] at h
  · simp [evalA] at h
end
end Go.Proofs.Ythojhpjjkfjeiaa.Va
