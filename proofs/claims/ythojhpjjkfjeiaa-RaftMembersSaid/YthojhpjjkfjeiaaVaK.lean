/- What comes in, as fixed data: a reading of plain types (truths, numbers, texts, rows, structs) tells the cells. Conditions: none. -/
import Derived.Test.YthojhpjjkfjeiaaVaJ
set_option linter.unusedSimpArgs false
set_option linter.unusedVariables false
namespace Go.Proofs.Ythojhpjjkfjeiaa.Va
variable {P : Program}

def WtFs (W : TypeId → List AV → Prop) : List Field → List AV → Prop
  | [], acs => acs = []
  | f :: r, acs => ∃ p q, acs = p ++ q ∧ W f.type p ∧ WtFs W r q
/- Cells that are a value of a plain type. -/
def Wt (P : Program) : Nat → TypeId → List AV → Prop
  | 0, _, _ => False
  | n + 1, t, acs =>
    match P.underlying t with
    | some .bool => ∃ b, acs = [.bool b]
    | some (.int k) => ∃ n, acs = [.int k n] ∧ (Lit.int k n).wf = true
    | some .string => ∃ l, acs = [.str l] ∧ l.length ≤ maxLen
    | some (.slice e) => ∃ cs : List (List AV), acs = [.psl cs.flatten 0 cs.length] ∧ cs.length ≤ maxLen ∧ ∀ c ∈ cs, Wt P n e c
    | some (.struct fs) => WtFs (Wt P n) fs.toList acs
    | _ => False

def tiles (P : Program) : List Field → Nat → Nat → Bool
  | [], a, n => Nat.beq a n
  | f :: r, a, n => Nat.beq f.offset a && tiles P r (a + P.cellsOf f.type) n
/- A row of types such that all their parts are in the row, and plain. -/
def plainT (P : Program) (T : List TypeId) : Bool :=
  T.all fun t => match P.underlying t with
    | some .bool | some (.int _) | some .string => true
    | some (.slice e) => T.contains e && Nat.blt 0 (P.cellsOf e)
    | some (.struct fs) => fs.toList.all (fun f => T.contains f.type) && tiles P fs.toList 0 (P.cellsOf t)
    | _ => false

theorem mapM_some {α β : Type} {f : α → Option β} : ∀ (l : List α) (r : List β), l.mapM f = some r → r.length = l.length ∧ ∀ (i : Nat) (a : α), l[i]? = some a → ∃ b, r[i]? = some b ∧ f a = some b := by
  intro l
  induction l with
  | nil => intro r h; simp at h; subst h; simp
  | cons a l ih =>
    intro r h
    simp only [List.mapM_cons, Option.pure_def, Option.bind_eq_bind, Option.bind_eq_some_iff, Option.some.injEq] at h
    obtain ⟨b, h1, r', h2, rfl⟩ := h
    obtain ⟨h3, h4⟩ := ih r' h2
    refine ⟨by simp [h3], fun i a' ha => ?_⟩
    cases i with
    | zero => simp at ha; subst ha; exact ⟨b, by simp, h1⟩
    | succ i => simp at ha; simpa using h4 i a' ha

theorem cellsQ {w : World} {base n : Nat} {a : Addr} {l : List Value} (h : w.cells? base a n = some l) : l.length = n ∧ ∀ i, i < n → w.cell? (a.add i) = l[i]? := by
  unfold World.cells? at h
  split at h
  · obtain ⟨h1, h2⟩ := mapM_some _ _ h
    refine ⟨by simpa using h1, fun i hi => ?_⟩
    obtain ⟨b, h3, h4⟩ := h2 i i (by simp [hi])
    rw [h3, h4]
  · cases h

theorem vrl_flatten {K : Know} : ∀ (as : List (List AV)) (vs : List (List Value)), as.length = vs.length → (∀ (i : Nat) (a : List AV) (v : List Value), as[i]? = some a → vs[i]? = some v → VRL K a v) → VRL K as.flatten vs.flatten := by
  intro as
  induction as with
  | nil => intro vs h _; have : vs = [] := List.eq_nil_of_length_eq_zero (by simpa using h.symm); subst this; exact VRL.nil
  | cons a as ih =>
    intro vs h hr
    cases vs with
    | nil => simp at h
    | cons v vs =>
      simp only [List.flatten_cons]
      exact (hr 0 a v (by simp) (by simp)).append (ih vs (by simpa using h) fun i a' v' ha hv => hr (i + 1) a' v' (by simpa using ha) (by simpa using hv))

/- Choosing, for each place of a row. -/
theorem choose_row {α β : Type} {R : Nat → α → β → Prop} : ∀ (l : List α), (∀ (i : Nat) (a : α), l[i]? = some a → ∃ b, R i a b) → ∃ r : List β, r.length = l.length ∧ ∀ (i : Nat) (a : α) (b : β), l[i]? = some a → r[i]? = some b → R i a b := by
  intro l
  induction l generalizing R with
  | nil => intro _; exact ⟨[], rfl, fun i a b h => by simp at h⟩
  | cons a l ih =>
    intro h
    obtain ⟨b, hb⟩ := h 0 a (by simp)
    obtain ⟨r, h1, h2⟩ := ih (R := fun i => R (i + 1)) fun i a' ha => h (i + 1) a' (by simpa using ha)
    refine ⟨b :: r, by simp [h1], fun i a' b' ha hb' => ?_⟩
    cases i with
    | zero => simp at ha hb'; subst ha; subst hb'; exact hb
    | succ i => exact h2 i a' b' (by simpa using ha) (by simpa using hb')

theorem flatten_get {α : Type} {sz : Nat} (hsz : 0 < sz) : ∀ (l : List (List α)) (k : Nat), (∀ x ∈ l, x.length = sz) → k < l.length * sz → l.flatten[k]? = (l[k / sz]?).bind fun x => x[k % sz]? := by
  intro l
  induction l with
  | nil => intro k _ h; simp at h
  | cons x l ih =>
    intro k hl hk
    have hx := hl x (by simp)
    simp only [List.flatten_cons]
    by_cases h : k < sz
    · rw [List.getElem?_append_left (by omega), Nat.div_eq_of_lt h, Nat.mod_eq_of_lt h]; simp
    · rw [List.getElem?_append_right (by omega), hx, ih (k - sz) (fun y hy => hl y (by simp [hy])) (by simp [Nat.succ_mul] at hk; omega)]
      have h1 : k / sz = (k - sz) / sz + 1 := by rw [Nat.div_eq_sub_div hsz (by omega)]
      have h2 : k % sz = (k - sz) % sz := by rw [Nat.mod_eq_sub_mod (by omega)]
      rw [h1, h2]; simp
theorem flatten_len {α : Type} {sz : Nat} : ∀ (l : List (List α)), (∀ x ∈ l, x.length = sz) → l.flatten.length = l.length * sz := by
  intro l
  induction l with
  | nil => intro _; simp
  | cons x l ih =>
    intro h
    simp only [List.flatten_cons, List.length_append, List.length_cons, ih fun y hy => h y (by simp [hy]), h x (by simp), Nat.succ_mul]
    omega

theorem trod_wt {H : Type} {enc : TypeId × Value → H} {w : World} {base : Nat} {spare : Nat → Bool} {held : Bool} {T : List TypeId} (hT : plainT P T = true) :
    ∀ (n : Nat) (t : TypeId) (cs : List Value) (r : DataW H × List MemPlace), T.contains t = true → DataW.trod enc P w base spare held n t cs = some r → ∃ acs, Wt P n t acs ∧ VRL (K0 w) acs cs := by
  intro n
  induction n with
  | zero => intro t cs r _ h; simp [DataW.trod] at h
  | succ n ih =>
    intro t cs r ht h
    have hp := List.all_eq_true.1 hT t (by simpa using ht)
    rw [DataW.trod.eq_def] at h
    simp only at h
    simp only [Wt]
    split at hp
    · rename_i hu
      simp only [hu] at h ⊢
      split at h <;> first | (rename_i hx; simp only [Option.some.injEq, reduceCtorEq] at hx; done) | (rename_i hx _; simp only [Option.some.injEq, reduceCtorEq] at hx; done) | (cases h; done) | skip
      exact ⟨_, ⟨_, rfl⟩, VRL.one (.bool _)⟩
    · rename_i k hu
      simp only [hu] at h ⊢
      split at h <;> first | (rename_i hx; simp only [Option.some.injEq, reduceCtorEq] at hx; done) | (cases h; done) | skip
      rename_i k1 k2 n' hx
      simp only [Option.some.injEq, TypeDesc.int.injEq] at hx
      subst hx
      split at h
      · rename_i hk
        obtain ⟨rfl, hw⟩ := hk
        exact ⟨_, ⟨_, rfl, hw⟩, VRL.one (.int _ _)⟩
      · cases h
    · rename_i hu
      simp only [hu] at h ⊢
      split at h <;> first | (rename_i hx; simp only [Option.some.injEq, reduceCtorEq] at hx; done) | (cases h; done) | skip
      rename_i s _
      split at h
      · rename_i hs
        exact ⟨[.str s.data.toList], ⟨_, rfl, by rw [Array.length_toList]; exact hs⟩, VRL.one (.str _)⟩
      · cases h
    · rename_i e hu
      simp only [hu] at h ⊢
      simp only [Bool.and_eq_true] at hp
      have hsz : 0 < P.cellsOf e := Nat.le_of_ble_eq_true hp.2
      split at h <;> first | (cases h; done) | (rename_i hx; simp only [Option.some.injEq, reduceCtorEq] at hx; done) | skip
      · exact ⟨[.psl [] 0 0], ⟨[], rfl, Nat.zero_le _, fun c hc => by cases hc⟩, VRL.one (.pslN _ _)⟩
      · rename_i e' a len cap he
        simp only [Option.some.injEq, TypeDesc.slice.injEq] at he
        subst he
        split at h
        · rename_i hb
          simp only [Option.bind_eq_some_iff, Option.map_eq_some_iff] at h
          obtain ⟨elems, he, _⟩ := h
          obtain ⟨h1, h2⟩ := mapM_some _ _ he
          simp only [List.length_range] at h1
          have h3 : ∀ i, i < len → ∃ vs, w.cells? base (a.add (i * P.cellsOf e)) (P.cellsOf e) = some vs ∧ ∃ acs, Wt P n e acs ∧ VRL (K0 w) acs vs := by
            intro i hi
            obtain ⟨b, _, h4⟩ := h2 i i (by rw [List.getElem?_range hi])
            simp only [Option.bind_eq_some_iff] at h4
            obtain ⟨vs, h5, h6⟩ := h4
            exact ⟨vs, h5, ih e vs b hp.1 h6⟩
          obtain ⟨vss, g1, g2⟩ := choose_row (R := fun i (_ : Nat) vs => w.cells? base (a.add (i * P.cellsOf e)) (P.cellsOf e) = some vs ∧ ∃ acs, Wt P n e acs ∧ VRL (K0 w) acs vs) (List.range len) fun i j hj => h3 i (by
            have := (List.getElem?_eq_some_iff.1 hj).1; rwa [List.length_range] at this)
          simp only [List.length_range] at g1
          have g2' : ∀ i (hi : i < vss.length), w.cells? base (a.add (i * P.cellsOf e)) (P.cellsOf e) = some vss[i] ∧ ∃ acs, Wt P n e acs ∧ VRL (K0 w) acs vss[i] := fun i hi =>
            g2 i i vss[i] (List.getElem?_range (by omega)) (List.getElem?_eq_getElem hi)
          obtain ⟨ass, g3, g4⟩ := choose_row (R := fun (_ : Nat) (vs : List Value) (acs : List AV) => Wt P n e acs ∧ VRL (K0 w) acs vs) vss fun i vs hv => by
            obtain ⟨hi, rfl⟩ := List.getElem?_eq_some_iff.1 hv
            exact (g2' i hi).2
          have hlen : ∀ x ∈ vss, x.length = P.cellsOf e := fun x hx => by
            obtain ⟨i, hi, rfl⟩ := List.getElem_of_mem hx
            exact (cellsQ (g2' i hi).1).1
          refine ⟨[.psl ass.flatten 0 ass.length], ⟨ass, rfl, by omega, fun c hc => ?_⟩, VRL.one ?_⟩
          · obtain ⟨i, hi, rfl⟩ := List.getElem_of_mem hc
            exact (g4 i (vss[i]'(by omega)) ass[i] (List.getElem?_eq_getElem _) (List.getElem?_eq_getElem _)).1
          · have e1 : ass.length = len := by omega
            rw [e1]
            rcases Nat.eq_zero_or_pos len with rfl | hpos
            · exact .psl0 _ _ _ _
            · have hvr : VRL (K0 w) ass.flatten vss.flatten := vrl_flatten _ _ (by omega) fun i x v hx hv => (g4 i v x hv hx).2
              have hfl : vss.flatten.length = len * P.cellsOf e := by
                rw [flatten_len _ hlen, g1]
              have hcell : ∀ i j, i < len → j < P.cellsOf e → w.cell? ((a.add (i * P.cellsOf e)).add j) = (vss.flatten)[i * P.cellsOf e + j]? := by
                intro i j hi hj
                rw [flatten_get hsz _ _ hlen (by
                  rw [g1]
                  calc i * P.cellsOf e + j < i * P.cellsOf e + P.cellsOf e := by omega
                    _ = (i + 1) * P.cellsOf e := by rw [Nat.succ_mul]
                    _ ≤ len * P.cellsOf e := Nat.mul_le_mul_right _ hi)]
                rw [Nat.mul_comm i, Nat.mul_add_div hsz, Nat.div_eq_of_lt hj, Nat.mul_add_mod, Nat.mod_eq_of_lt hj, Nat.mul_comm _ i, Nat.add_zero, List.getElem?_eq_getElem (by omega : i < vss.length), Option.bind_some]
                exact (cellsQ (g2' i (by omega)).1).2 j hj
              have h00 := hcell 0 0 hpos hsz
              simp only [Nat.zero_mul, Addr.add, if_true, Nat.add_zero] at h00
              have h0l : 0 < vss.flatten.length := by rw [hfl]; exact Nat.mul_pos hpos hsz
              have hne : vss.flatten[0]? = some (vss.flatten[0]'h0l) := List.getElem?_eq_getElem h0l
              rw [hne] at h00
              unfold World.cell? at h00
              split at h00
              · rename_i c T' fz hheap
                split at h00
                · cases h00
                · rename_i hsp
                  have hsp' : a.spot = none := by simpa using hsp
                  obtain ⟨blk, off, spot⟩ := a
                  simp only at hsp' hheap h00 hcell
                  subst hsp'
                  have hall : ∀ k, k < len * P.cellsOf e → c[off + k]? = vss.flatten[k]? := by
                    intro k hk
                    have hd : k / P.cellsOf e < len := Nat.div_lt_of_lt_mul (by rw [Nat.mul_comm]; exact hk)
                    have := hcell (k / P.cellsOf e) (k % P.cellsOf e) hd (Nat.mod_lt _ hsz)
                    rw [Nat.mul_comm (k / _), Nat.div_add_mod] at this
                    rw [← this, Addr.add_none, Addr.add_none]
                    simp only [World.cell?, hheap, Option.isSome_none, Bool.false_eq_true, if_false]
                    congr 1
                    rw [Nat.add_assoc, Nat.div_add_mod]
                  have := VR.psl (K := K0 w) ass.flatten 0 len cap blk off c T' fz (fun k => (vss.flatten[k]?).getD (.bool false)) ⟨hheap, trivial⟩
                    (fun k hk => by
                      have hk' : k < vss.flatten.length := by rw [← hvr.1]; exact hk
                      rw [hall k (by omega), List.getElem?_eq_getElem hk', Option.getD_some])
                    (fun k hk => by
                      have hk' : k < vss.flatten.length := by rw [← hvr.1]; exact hk
                      have := hvr.2 k hk hk'
                      rw [List.getElem?_eq_getElem hk', Option.getD_some]; exact this) hb.2.1
                  simpa using this
              · cases h00
        · cases h
    · rename_i fs hu
      simp only [hu] at h ⊢
      rw [Bool.and_eq_true, List.all_eq_true] at hp
      split at h
      · rename_i hl
        simp only [Option.map_eq_some_iff] at h
        obtain ⟨xs, h1, _⟩ := h
        obtain ⟨_, h2⟩ := mapM_some _ _ h1
        have key : ∀ (l : List Field) (at_ : Nat), tiles P l at_ cs.length = true → at_ ≤ cs.length → (∀ f ∈ l, T.contains f.type = true ∧ ∃ x, DataW.trod enc P w base spare held n f.type ((cs.drop f.offset).take (P.cellsOf f.type)) = some x) →
            ∃ acs, WtFs (Wt P n) l acs ∧ VRL (K0 w) acs (cs.drop at_) := by
          intro l
          induction l with
          | nil =>
            intro at_ ht hle _
            have := Nat.eq_of_beq_eq_true ht
            exact ⟨[], rfl, by rw [this]; simpa using VRL.nil⟩
          | cons f l ihl =>
            intro at_ ht hle hf
            simp only [tiles, Bool.and_eq_true] at ht
            have hoff := Nat.eq_of_beq_eq_true ht.1
            obtain ⟨hc, x, hx⟩ := hf f (by simp)
            obtain ⟨a1, w1, r1⟩ := ih f.type _ x hc hx
            have hle2 : at_ + P.cellsOf f.type ≤ cs.length := by
              have : ∀ (l : List Field) (b n : Nat), tiles P l b n = true → b ≤ n := by
                intro l
                induction l with
                | nil => intro b n h; exact Nat.le_of_eq (Nat.eq_of_beq_eq_true h)
                | cons g l ih => intro b n h; simp only [tiles, Bool.and_eq_true] at h; have := ih _ _ h.2; omega
              exact this _ _ _ ht.2
            obtain ⟨a2, w2, r2⟩ := ihl (at_ + P.cellsOf f.type) ht.2 hle2 fun g hg => hf g (by simp [hg])
            refine ⟨a1 ++ a2, ⟨a1, a2, rfl, w1, w2⟩, ?_⟩
            have : cs.drop at_ = (cs.drop at_).take (P.cellsOf f.type) ++ cs.drop (at_ + P.cellsOf f.type) := by
              rw [← List.drop_drop, List.take_append_drop]
            rw [this]
            rw [hoff] at r1
            exact r1.append r2
        obtain ⟨acs, g1, g2⟩ := key fs.toList 0 (by rw [hl]; exact hp.2) (Nat.zero_le _) fun f hf => ⟨hp.1 f hf, by
          obtain ⟨i, hi, rfl⟩ := List.getElem_of_mem hf
          obtain ⟨b, _, h4⟩ := h2 i _ (List.getElem?_eq_getElem hi)
          exact ⟨b, h4⟩⟩
        exact ⟨acs, g1, by simpa using g2⟩
      · cases h
    · cases hp

/- A parameter of a plain type. -/
def AV.ofCells (agg : Bool) (acs : List AV) : AV := bif agg then .agg acs else acs.headD .undef
theorem arg_wt {H : Type} {enc : TypeId × Value → H} {w : World} {base : Nat} {spare : Nat → Bool} {held : Bool} {T : List TypeId} (hT : plainT P T = true) {t : TypeId} {v : Value} {d : DataW H} {ps : List MemPlace}
    (ht : T.contains t = true) (h : DataW.Trod enc P w base spare held t v d ps) : ∃ n acs, Wt P n t acs ∧ VRL (K0 w) acs v.cells.toList := by
  obtain ⟨n, h⟩ := h
  obtain ⟨acs, h1, h2⟩ := trod_wt hT n t _ _ ht h
  exact ⟨n, acs, h1, h2⟩

/- Rows of such as are told by a Lean type. -/
theorem wt_row {n : Nat} {e : TypeId} {α : Type} {f : α → List AV} {good : α → Prop} (hf : ∀ c, Wt P n e c → ∃ x, c = f x ∧ good x) {cs : List (List AV)} (h : ∀ c ∈ cs, Wt P n e c) :
    ∃ l : List α, cs = l.map f ∧ ∀ x ∈ l, good x := by
  induction cs with
  | nil => exact ⟨[], rfl, by simp⟩
  | cons c cs ih =>
    obtain ⟨l, rfl, hl⟩ := ih fun c hc => h c (by simp [hc])
    obtain ⟨x, rfl, hx⟩ := hf c (h c (by simp))
    exact ⟨x :: l, rfl, by simpa using ⟨hx, hl⟩⟩
end Go.Proofs.Ythojhpjjkfjeiaa.Va
