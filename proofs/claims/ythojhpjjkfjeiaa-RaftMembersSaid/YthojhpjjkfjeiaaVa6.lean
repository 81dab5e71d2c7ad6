/- Each operation does in the world what it does to abstract values, third part: numbers, texts, comparisons, conversions. Conditions: none. -/
import Derived.Test.YthojhpjjkfjeiaaVa5
import Derived.Laws.StructEq
import Derived.Laws.Pointers
import Derived.Laws.Cover3
import Derived.WalkSpells
set_option linter.unusedSimpArgs false
set_option linter.unusedVariables false
namespace Go.Proofs.Ythojhpjjkfjeiaa.Va
variable {P : Program}

theorem evalInt_ok {op : BinOp} {k : IntKind} {a b : Int} {v : AV} (h : evalInt op k a b = some v) (t : TypeId) (w : World) :
    ∃ vc, (binOp op t (.int k a) (.int k b)).run P w = .ok vc w ∧ ∀ K, VR K v vc := by
  cases op <;> simp only [evalInt] at h
  case quo | rem =>
    split at h
    · cases h
    · rename_i hb
      injection h with h; subst h
      exact ⟨_, by simp [binOp, Op.intDiv, hb], fun K => .int _ _⟩
  case shl | shr => cases h
  all_goals
    injection h with h; subst h
    exact ⟨_, by simp only [binOp, Op.intArith, Op.intBits, Op.intCmp, ne_eq, not_true_eq_false, if_false, Sem.run_pure]; rfl, fun K => by constructor⟩

theorem evalShift_ok {op : BinOp} {k k' : IntKind} {a b : Int} {v : AV} (h : evalShift op k a b = some v) (t : TypeId) (w : World) :
    ∃ vc, (binOp op t (.int k a) (.int k' b)).run P w = .ok vc w ∧ ∀ K, VR K v vc := by
  unfold evalShift at h
  split at h
  · cases h
  · rename_i hb
    cases op <;> simp only at h <;> first | (cases h; done) | skip
    all_goals
      injection h with h; subst h
      exact ⟨_, by simp [binOp, Op.shift, hb], fun K => .int _ _⟩

theorem evalStr_ok {op : BinOp} {a b : List UInt8} {v : AV} (h : evalStr op a b = some v) (t : TypeId) (w : World) :
    ∃ vc, (binOp op t (.string ⟨a.toArray⟩) (.string ⟨b.toArray⟩)).run P w = .ok vc w ∧ ∀ K, VR K v vc := by
  cases op <;> simp only [evalStr] at h <;> first | (cases h; done) | skip
  case add =>
    obtain ⟨h1, rfl⟩ := ite_some h
    have h1 := Nat.le_of_ble_eq_true h1
    have hs : ∀ l : List UInt8, (ByteArray.mk l.toArray).size = l.length := fun l => by simp [ByteArray.size]
    have h2 : ¬ (((ByteArray.mk a.toArray).size + (ByteArray.mk b.toArray).size : Nat) : Int) > IntKind.i64.max := by rw [hs, hs, IntKind.max_i64]; omega
    have happ : (ByteArray.mk a.toArray ++ ByteArray.mk b.toArray) = ByteArray.mk (a ++ b).toArray := by
      apply ByteArray.ext
      simp [ByteArray.data_append]
    refine ⟨.string ⟨(a ++ b).toArray⟩, ?_, fun K => .str _⟩
    simp only [binOp, Op.stringOp, if_neg h2, happ, Sem.run_pure]
  all_goals
    injection h with h; subst h
    refine ⟨_, ?_, fun K => .bool _⟩
    simp [binOp, Op.stringOp]

/- ------------------------------------------------ structs held against one another -/
theorem under_info {t : TypeId} {d : TypeDesc} (h : P.underlying t = some d) : ∃ i, P.info? t = some i := by
  unfold Program.underlying at h
  cases e : P.info? t with
  | none => rw [e] at h; cases h
  | some i => exact ⟨i, rfl⟩
theorem sizeT_of {t : TypeId} {d : TypeDesc} (h : P.underlying t = some d) : sizeT P t = some (P.cellsOf t) := by
  obtain ⟨i, hi⟩ := under_info h
  simp [sizeT, Program.cellsOf, hi]

theorem eqCells_length : ∀ (l : List LK) (a b : List AV) (r : Bool), eqCells l a b = some r → a.length = l.length ∧ b.length = l.length := by
  intro l
  induction l with
  | nil => intro a b r h; cases a <;> cases b <;> simp_all [eqCells]
  | cons k l ih =>
    intro a b r h
    cases a with
    | nil => simp [eqCells] at h
    | cons a as =>
      cases b with
      | nil => simp [eqCells] at h
      | cons b bs =>
        simp only [eqCells] at h
        split at h
        · rename_i p q h1 h2
          have := ih as bs q h2
          simp [this]
        · cases h
theorem eqCells_append : ∀ (l1 l2 : List LK) (a b : List AV) (r : Bool), eqCells (l1 ++ l2) a b = some r →
    ∃ p q, eqCells l1 (a.take l1.length) (b.take l1.length) = some p ∧ eqCells l2 (a.drop l1.length) (b.drop l1.length) = some q ∧ r = (p && q) := by
  intro l1
  induction l1 with
  | nil => intro l2 a b r h; exact ⟨true, r, by simp [eqCells], by simpa using h, by simp⟩
  | cons k l1 ih =>
    intro l2 a b r h
    cases a with
    | nil => simp [eqCells] at h
    | cons a as =>
      cases b with
      | nil => simp [eqCells] at h
      | cons b bs =>
        simp only [List.cons_append, eqCells] at h
        split at h
        · rename_i p q h1 h2
          injection h with h
          obtain ⟨p', q', e1, e2, e3⟩ := ih l2 as bs q h2
          refine ⟨p && p', q', by simp [eqCells, h1, e1], by simpa using e2, by rw [← h, e3, Bool.and_assoc]⟩
        · cases h

def mkV (agg : Bool) (xs : List Value) : Value := bif agg then .agg xs.toArray else xs.headD undef

theorem run_part_mkV {w : World} {t : TypeId} {agg : Bool} {n off : Nat} (ha : isAggT P t = some agg) (hn : sizeT P t = some n) (vs : List Value) (hoff : agg = false → off < vs.length) (hn1 : agg = false → n = 1) :
    (part t vs.toArray off).run P w = .ok (mkV agg ((vs.drop off).take n)) w := by
  cases agg with
  | true =>
    simp only [part, Sem.run_bind, run_isAggT ha, run_sizeT hn, Result.andThen, if_true, Sem.run_pure, mkV, cond_true]
    congr 3
    apply Array.ext'
    simp [List.extract_eq_take_drop]
  | false =>
    have := hn1 rfl
    subst this
    simp only [part, Sem.run_bind, run_isAggT ha, Result.andThen, Bool.false_eq_true, if_false, mkV, cond_false]
    have hlt : off < vs.length := hoff rfl
    have e : (vs.drop off).take 1 = [vs[off]] := by
      rw [List.drop_eq_getElem_cons hlt]; rfl
    rw [e]; simp [hlt]

theorem flat_eq {K : Know} : ∀ (dep : Nat) (t : TypeId) (l : List LK), flatK P dep t = some l → ∃ agg, isAggT P t = some agg ∧ (agg = false → l.length = 1) ∧ l.length = P.cellsOf t ∧ sizeT P t = some l.length ∧
    ∀ (D : Nat), dep ≤ D → ∀ (as bs : List AV) (xs ys : List Value) (r : Bool) (w : World), VRL K as xs → VRL K bs ys → eqCells l as bs = some r →
      (Op.equalIn D t (mkV agg xs) (mkV agg ys)).run P w = .ok r w := by
  intro dep
  induction dep with
  | zero => intro t l h; cases h
  | succ dep ih =>
    intro t l h
    have scalar : ∀ (k : LK) (d : TypeDesc), P.underlying t = some d → (match d with | .struct _ | .array _ _ => true | _ => false) = false → P.cellsOf t = 1 →
        (∀ (D : Nat) (a b : AV) (x y : Value) (r : Bool) (w : World), VR K a x → VR K b y → eqCell k a b = some r → (Op.equalIn (D + 1) t x y).run P w = .ok r w) →
        ∃ agg, isAggT P t = some agg ∧ (agg = false → [k].length = 1) ∧ [k].length = P.cellsOf t ∧ sizeT P t = some [k].length ∧
          ∀ (D : Nat), dep + 1 ≤ D → ∀ (as bs : List AV) (xs ys : List Value) (r : Bool) (w : World), VRL K as xs → VRL K bs ys → eqCells [k] as bs = some r →
            (Op.equalIn D t (mkV agg xs) (mkV agg ys)).run P w = .ok r w := by
      intro k d hu hd hc hrun
      refine ⟨false, by simp only [isAggT, hu, Option.map_some]; exact congrArg some hd, fun _ => rfl, by simp [hc], by rw [sizeT_of hu, hc]; rfl, fun D hD as bs xs ys r w hx hy he => ?_⟩
      have hlen := eqCells_length _ _ _ _ he
      obtain ⟨a, rfl⟩ : ∃ a, as = [a] := by
        match as, hlen.1 with | [a], _ => exact ⟨a, rfl⟩
      obtain ⟨b, rfl⟩ : ∃ b, bs = [b] := by
        match bs, hlen.2 with | [b], _ => exact ⟨b, rfl⟩
      obtain ⟨x, xs', rfl, hax, hx'⟩ := hx.of_cons
      obtain ⟨y, ys', rfl, hby, hy'⟩ := hy.of_cons
      have := hx'.of_nil; subst this
      have := hy'.of_nil; subst this
      obtain ⟨D', rfl⟩ : ∃ D', D = D' + 1 := ⟨D - 1, by omega⟩
      have he' : eqCell k a b = some r := by
        simp only [eqCells] at he
        cases e : eqCell k a b with
        | none => rw [e] at he; cases he
        | some p => rw [e] at he; simpa using he
      exact hrun D' a b x y r w hax hby he'
    simp only [flatK] at h
    split at h
    · rename_i hu
      split at h
      · rename_i hc
        injection h with h; subst h
        refine scalar .b _ hu rfl hc fun D a b x y r w ha hb he => ?_
        cases a <;> cases b <;> simp only [eqCell, Option.some.injEq] at he <;> first | (cases he; done) | skip
        rw [ha.inv_bool, hb.inv_bool, ← he]; exact run_equalIn_bool w D t _ _ hu
      · cases h
    · rename_i k hu
      split at h
      · rename_i hc
        injection h with h; subst h
        refine scalar .i _ hu rfl hc fun D a b x y r w ha hb he => ?_
        cases a <;> cases b <;> simp only [eqCell] at he <;> first | (cases he; done) | skip
        split at he
        · rename_i e; subst e
          injection he with he
          rw [ha.inv_int, hb.inv_int, ← he]; exact run_equalIn_int w D t _ k _ _ hu
        · cases he
      · cases h
    · rename_i hu
      split at h
      · rename_i hc
        injection h with h; subst h
        refine scalar .s _ hu rfl hc fun D a b x y r w ha hb he => ?_
        cases a <;> cases b <;> simp only [eqCell, Option.some.injEq] at he <;> first | (cases he; done) | skip
        rw [ha.inv_str, hb.inv_str, run_equalIn_string w D t _ _ hu, ← he]; simp
      · cases h
    · rename_i fs hu
      split at h
      · cases h
      · rename_i hst
        split at h
        · rename_i l' hf
          split at h
          · rename_i hc
            injection h with h; subst h
            refine ⟨true, by simp [isAggT, hu], fun e => (by cases e), hc, by rw [sizeT_of hu, hc], fun D hD as bs xs ys r w hx hy he => ?_⟩
            obtain ⟨D', rfl⟩ : ∃ D', D = D' + 1 := ⟨D - 1, by omega⟩
            have hfo : P.fieldsOf t = fs := by simp [Program.fieldsOf, hu]
            simp only [mkV, cond_true]
            rw [run_equalIn_struct w D' t _ _ (by rw [hfo]; exact hu) (by simpa using hst), hfo]
            have key : ∀ (fl : List Field) (at_ : Nat) (l : List LK), fieldsK (flatK P dep) fl at_ = some l → ∀ (r : Bool), eqCells l (as.drop at_) (bs.drop at_) = some r →
                (Op.eqFields D' xs.toArray ys.toArray fl).run P w = .ok r w := by
              intro fl
              induction fl with
              | nil =>
                intro at_ l hl r he
                simp only [fieldsK, Option.some.injEq] at hl
                subst hl
                have hlen := eqCells_length _ _ _ _ he
                have e1 : as.drop at_ = [] := List.eq_nil_of_length_eq_zero hlen.1
                have e2 : bs.drop at_ = [] := List.eq_nil_of_length_eq_zero hlen.2
                rw [e1, e2] at he
                simp only [eqCells, Option.some.injEq] at he
                simp [Op.eqFields, ← he]
              | cons f fl ihf =>
                intro at_ l hl r he
                simp only [fieldsK] at hl
                split at hl
                · cases hl
                · rename_i hcond
                  simp only [not_or, Decidable.not_not] at hcond
                  obtain ⟨hname, hoff⟩ := hcond
                  split at hl
                  · cases hl
                  · rename_i l1 hl1
                    simp only [Option.map_eq_some_iff] at hl
                    obtain ⟨l2, hl2, rfl⟩ := hl
                    obtain ⟨p, q, e1, e2, rfl⟩ := eqCells_append l1 l2 _ _ _ he
                    obtain ⟨agg, ha, h1, hlen1, hsz, hrun⟩ := ih f.type l1 hl1
                    have hlenA := eqCells_length _ _ _ _ e1
                    have hAx : agg = false → at_ < xs.length := fun e => by
                      have h2 := hlenA.1; have h3 := hx.1; have h4 := h1 e
                      simp at h2; omega
                    have hAy : agg = false → at_ < ys.length := fun e => by
                      have h2 := hlenA.2; have h3 := hy.1; have h4 := h1 e
                      simp at h2; omega
                    have px := run_part_mkV (P := P) (w := w) (off := at_) ha hsz xs hAx h1
                    have py := run_part_mkV (P := P) (w := w) (off := at_) ha hsz ys hAy h1
                    have pe := hrun D' (by omega) _ _ _ _ p w ((hx.drop at_).take l1.length) ((hy.drop at_).take l1.length) e1
                    rw [List.drop_drop, List.drop_drop] at e2
                    have pr := ihf (at_ + l1.length) l2 hl2 q e2
                    subst hoff
                    rw [Op.eqFields]
                    simp only [ne_eq, hname, not_false_eq_true, if_true, Sem.run_bind, px, py, pe, Result.andThen_ok]
                    cases p
                    · simp
                    · simpa using pr
            exact key fs.toList 0 l' hf r (by simpa using he)
          · cases h
        · cases h
    · cases h
end Go.Proofs.Ythojhpjjkfjeiaa.Va
