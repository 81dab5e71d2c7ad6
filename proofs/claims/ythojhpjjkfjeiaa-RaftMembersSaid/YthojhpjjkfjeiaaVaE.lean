/- Regions whose order is drawn, second part: the theorem. Conditions: none. -/
import Derived.Test.YthojhpjjkfjeiaaVaD
set_option linter.unusedSimpArgs false
set_option linter.unusedVariables false
namespace Go.Proofs.Ythojhpjjkfjeiaa.Va
variable {P : Program}

/- What a temporary holds behind the operations of a set: what the last of them that writes it has written. -/
def gS : List (Option Nat × AV) → Nat → (Nat → Bool) → (Nat → Option AV) → Nat → Option AV
  | [], _, _, g, t => g t
  | p :: r, i, S, g, t => gS r (i + 1) S (fun t' => if S i = true ∧ p.1 = some t' then some p.2 else g t') t

theorem gS_congr : ∀ (l : List (Option Nat × AV)) (i : Nat) (S S' : Nat → Bool) (g g' : Nat → Option AV) (t : Nat), (∀ j p, l[j]? = some p → p.1 = some t → S (i + j) = S' (i + j)) → g t = g' t → gS l i S g t = gS l i S' g' t := by
  intro l
  induction l with
  | nil => intro i S S' g g' t _ h; exact h
  | cons p r ih =>
    intro i S S' g g' t h hg
    simp only [gS]
    refine ih (i + 1) S S' _ _ t (fun j q hq e => by have := h (j + 1) q (by simpa using hq) e; rwa [show i + (j + 1) = i + 1 + j by omega] at this) ?_
    have h0 := h 0 p (by simp)
    simp only [Nat.add_zero] at h0
    by_cases e : p.1 = some t
    · simp only [e, and_true, h0 e, hg]
    · simp only [e, and_false, if_false, hg]
theorem gS_none : ∀ (l : List (Option Nat × AV)) (i : Nat) (S : Nat → Bool) (g : Nat → Option AV) (t : Nat), (∀ j p, l[j]? = some p → p.1 = some t → S (i + j) = false) → gS l i S g t = g t := by
  intro l
  induction l with
  | nil => intro i S g t _; rfl
  | cons p r ih =>
    intro i S g t h
    simp only [gS]
    rw [ih (i + 1) S _ t (fun j q hq e => by have := h (j + 1) q (by simpa using hq) e; rwa [show i + (j + 1) = i + 1 + j by omega] at this)]
    have h0 := h 0 p (by simp)
    simp only [Nat.add_zero] at h0
    by_cases e : p.1 = some t
    · simp [h0 e]
    · simp [e]
theorem gS_last : ∀ (l : List (Option Nat × AV)) (i : Nat) (S : Nat → Bool) (g : Nat → Option AV) (t j : Nat) (v : AV), l[j]? = some (some t, v) → S (i + j) = true → (∀ j' p, j < j' → l[j']? = some p → p.1 = some t → S (i + j') = false) →
    gS l i S g t = some v := by
  intro l
  induction l with
  | nil => intro i S g t j v h; simp at h
  | cons p r ih =>
    intro i S g t j v h hs hl
    simp only [gS]
    cases j with
    | zero =>
      simp only [List.getElem?_cons_zero, Option.some.injEq] at h
      subst h
      simp only [Nat.add_zero] at hs
      rw [gS_none _ _ _ _ _ (fun j q hq e => by have := hl (j + 1) q (by omega) (by simpa using hq) e; rwa [show i + (j + 1) = i + 1 + j by omega] at this)]
      simp [hs]
    | succ j =>
      simp only [List.getElem?_cons_succ] at h
      exact ih (i + 1) S _ t j v h (by rw [show i + 1 + j = i + (j + 1) by omega]; exact hs) (fun j' q hlt hq e => by
        have := hl (j' + 1) q (by omega) (by simpa using hq) e
        rwa [show i + (j' + 1) = i + 1 + j' by omega] at this)

def pairs : List AOper → List AV → List (Option Nat × AV)
  | o :: r, v :: vs => (o.dst, v) :: pairs r vs
  | _, _ => []
theorem pairs_get : ∀ (l : List AOper) (vs : List AV) (j : Nat) (o : AOper) (v : AV), l[j]? = some o → vs[j]? = some v → (pairs l vs)[j]? = some (o.dst, v) := by
  intro l
  induction l with
  | nil => intro vs j o v h; simp at h
  | cons a r ih =>
    intro vs j o v ho hv
    cases vs with
    | nil => simp at hv
    | cons b vs =>
      cases j with
      | zero => simp at ho hv; subst ho; subst hv; simp [pairs]
      | succ j => simpa [pairs] using ih vs j o v (by simpa using ho) (by simpa using hv)
theorem pairs_some : ∀ (l : List AOper) (vs : List AV) (j : Nat) (p : Option Nat × AV), (pairs l vs)[j]? = some p → ∃ o, l[j]? = some o ∧ p.1 = o.dst ∧ vs[j]? = some p.2 := by
  intro l
  induction l with
  | nil => intro vs j p h; simp [pairs] at h
  | cons a r ih =>
    intro vs j p h
    cases vs with
    | nil => simp [pairs] at h
    | cons b vs =>
      cases j with
      | zero => simp [pairs] at h; subst h; exact ⟨a, rfl, rfl, rfl⟩
      | succ j => simpa [pairs] using ih vs j p (by simpa [pairs] using h)

theorem putAll_get : ∀ (l : List AOper) (vs : List AV) (i j : Nat) (ρ : Env) (t : Nat) (g : Nat → Option AV), (∀ t, ρ.get t = g t) → l.length = vs.length → (putAll ρ (l.take j) (vs.take j)).get t = gS (pairs l vs) i (fun q => decide (q < i + j)) g t := by
  intro l
  induction l with
  | nil => intro vs i j ρ t g hg hl; have : vs = [] := List.eq_nil_of_length_eq_zero (by simpa using hl.symm); subst this; simp [putAll, pairs, gS, hg]
  | cons o r ih =>
    intro vs i j ρ t g hg hl
    cases vs with
    | nil => simp at hl
    | cons v vs =>
      cases j with
      | zero =>
        simp only [List.take_zero, putAll]
        rw [gS_none _ _ _ _ _ (fun j p _ _ => by simp)]
        exact hg t
      | succ j =>
        simp only [List.take_succ_cons, putAll, pairs, gS]
        rw [ih vs (i + 1) j _ t (fun t' => if decide (i < i + (j + 1)) = true ∧ o.dst = some t' then some v else g t') (fun t' => ?_) (by simpa using hl)]
        · congr 1
          funext q
          congr 1
          rw [show i + 1 + j = i + (j + 1) by omega]
        · have h1 : i < i + (j + 1) := by omega
          simp only [h1, decide_true, true_and]
          cases hd : o.dst with
          | none => simp [Env.put, hg]
          | some d =>
            simp only [Env.put, Tr.get_set, Option.some.injEq, hg]
            by_cases e : t' = d
            · subst e; simp
            · have : ¬ d = t' := fun e' => e e'.symm
              simp [e, this]

theorem addSlots_get : ∀ (slots : List (Nat × List AV)) (h : Tr ABlk) (base b : Nat), b < base → (slots.foldr (fun s h => h.set (base + s.1) (some (.cells s.2))) h).get b = h.get b := by
  intro slots
  induction slots with
  | nil => intro h base b _; rfl
  | cons s r ih =>
    intro h base b hb
    simp only [List.foldr_cons, Tr.get_set]
    rw [if_neg (by omega)]
    exact ih h base b hb

theorem rel_addSlots {K : Know} {σ : AState} {w : World} (h : Rel K σ w) (m : Nat) (slots : List (Nat × List AV)) : Rel K (addSlots σ.n m σ slots) w := by
  have hlt : ∀ b x, K.μ b = some x → b < σ.n := fun b x e => by
    rcases Nat.lt_or_ge b σ.n with h' | h'
    · exact h'
    · rw [h.fresh b h'] at e; cases e
  have hg : ∀ b x, K.μ b = some x → (addSlots σ.n m σ slots).h.get b = σ.h.get b := fun b x e => addSlots_get slots σ.h σ.n b (hlt b x e)
  refine ⟨fun b cs e x hx => h.cells b cs (by rw [← hg b x hx]; exact e) x hx, fun b s p e x hx => h.iters b s p (by rw [← hg b x hx]; exact e) x hx,
    fun b b' x x' hne h1 h2 hx hx' => h.apart b b' x x' hne (by rw [← hg b x hx]; exact h1) (by rw [← hg b' x' hx']; exact h2) hx hx', h.fix, h.old, fun b hb => h.fresh b (by simp only [Va.addSlots] at hb; omega), fun b hb => ⟨(h.res b hb).1, by have := (h.res b hb).2; simp only [Va.addSlots]; omega⟩, h.os, h.tape, h.output⟩

theorem Rel.setRes {K : Know} {σ : AState} {w : World} (h : Rel K σ w) {r : Nat → Bool} (hr : ∀ b, r b = true → K.μ b = none ∧ b < σ.n) : Rel { K with res := r } σ w := by
  have hs : K.sub { K with res := r } := ⟨fun _ _ h => h, fun _ _ h => h, fun _ h => h, fun _ h => .inl h⟩
  exact ⟨fun b cs e x hx => let ⟨arr, T, lo, hi, h1, h2, h3, h4, h5⟩ := h.cells b cs e x hx; ⟨arr, T, lo, hi, h1, h2, h3, h4.sub hs, h5⟩, h.iters, h.apart, h.fix, h.old, h.fresh, hr, h.os, h.tape, h.output⟩

theorem compOps_get {N : Nat} {all : List Oper} : ∀ (l : List Oper) (as : List AOper), compOps P N all l = some as → as.length = l.length ∧ ∀ (j : Nat) (o : Oper), l[j]? = some o → ∃ a, as[j]? = some a ∧ compOper P N all o = some a := by
  intro l
  induction l with
  | nil => intro as h; simp only [compOps, Option.some.injEq] at h; subst h; exact ⟨rfl, fun j o h => by simp at h⟩
  | cons o l ih =>
    intro as h
    simp only [compOps] at h
    split at h
    · rename_i a as' h1 h2
      injection h with h; subst h
      obtain ⟨i1, i2⟩ := ih as' h2
      refine ⟨by simp [i1], fun j o' ho => ?_⟩
      cases j with
      | zero => simp at ho; subst ho; exact ⟨a, by simp, h1⟩
      | succ j => simpa using i2 j o' (by simpa using ho)
    · cases h

theorem actsOf_mem : ∀ (as : List AOper) (sl : List Nat) (i k : Nat), k ∈ actsOf sl as i ↔ ∃ j o, k = i + j ∧ as[j]? = some o ∧ o.op.quiet = false ∧ sl.contains k = false := by
  intro as
  induction as with
  | nil => intro sl i k; simp [actsOf]
  | cons a r ih =>
    intro sl i k
    have hsplit : (∃ j o, k = i + j ∧ (a :: r)[j]? = some o ∧ o.op.quiet = false ∧ sl.contains k = false) ↔ (k = i ∧ a.op.quiet = false ∧ sl.contains k = false) ∨ ∃ j o, k = i + 1 + j ∧ r[j]? = some o ∧ o.op.quiet = false ∧ sl.contains k = false := by
      constructor
      · rintro ⟨j, o, hk, ho, h1, h2⟩
        cases j with
        | zero => simp at ho; subst ho; exact .inl ⟨by omega, h1, h2⟩
        | succ j => exact .inr ⟨j, o, by omega, by simpa using ho, h1, h2⟩
      · rintro (⟨rfl, h1, h2⟩ | ⟨j, o, hk, ho, h1, h2⟩)
        · exact ⟨0, a, rfl, by simp, h1, h2⟩
        · exact ⟨j + 1, o, by omega, by simpa using ho, h1, h2⟩
    rw [hsplit]
    simp only [actsOf]
    cases h : (a.op.quiet || sl.contains i) with
    | true =>
      simp only [cond_true, ih]
      constructor
      · exact .inr
      · rintro (⟨rfl, h1, h2⟩ | h')
        · rw [h1, h2] at h; cases h
        · exact h'
    | false =>
      simp only [Bool.or_eq_false_iff] at h
      simp only [cond_false, List.mem_cons, ih]
      constructor
      · rintro (rfl | h')
        · exact .inl ⟨rfl, h.1, h.2⟩
        · exact .inr h'
      · rintro (⟨rfl, _, _⟩ | h')
        · exact .inl rfl
        · exact .inr h'

theorem contains_isSlot {slots : List (Nat × List AV)} {i : Nat} : (slots.map (·.1)).contains i = isSlot slots i := by
  induction slots with
  | nil => rfl
  | cons s r ih =>
    simp only [List.map_cons, List.contains_cons, isSlot, List.any_cons] at ih ⊢
    rw [ih]
    congr 1
    rw [Bool.eq_iff_iff]; simp only [beq_iff_eq]; exact eq_comm

theorem step_put {o : Oper} {ρ : Env} {σ σ1 : AState} {v : AV} {K : Know} {N : Nat} {w : World} {ac : Act} (h : stepA P (comp P o) ρ σ fun v' s' => v' = v ∧ s' = σ1) (hr : Rel K σ w) (he : ERel K N ρ ac)
    (hd : ∀ t, o.dst = some t → t < N) {Q : Exit → Act → World → Prop} :
    o.wp P ac w (fun a' w' => ∃ K'' vc, a' = ac.put o.dst vc ∧ K.le K'' ∧ Rel K'' σ1 w' ∧ VR K'' v vc) Q :=
  step_sound2 h hr he hd fun v' σ' K' vc w' hk hle hrel hv => by
    obtain ⟨rfl, rfl⟩ := hk
    exact ⟨K', vc, rfl, hle, hrel, hv⟩

/- ------------------------------------------------ the theorem -/
theorem sim_drawn {N : Nat} {Q : AExit → Env → AState → Prop} {ρ : Env} {σ : AState} {id : Nat} {ops : Array Oper} {as : List AOper} (slots : List (Nat × List AV)) (acts : List Nat) (E : List (List Nat)) (B : List Nat)
    (hfollow : P.follows .mixedOrders = true) (hc : compOps P N ops.toList ops.toList = some as) (hE : ops.toList.map preds = E) (hB : befGo E [] = B) (hacts : actsOf (slots.map (·.1)) as 0 = acts)
    (hok : dOk E B as acts (slots.map (·.1)) = true)
    (h : dgo P σ.n slots as 0 ρ (addSlots σ.n as.length σ slots) [(0, addSlots σ.n as.length σ slots)] [] fun ρ' σ' cuts loads => dchk acts B σ.n slots cuts loads ∧ Q .normal ρ' σ') :
    SimC P N (.region id ops true) Q ρ σ := by
  intro K w ac hr he
  refine wp_region_any hfollow ?_
  subst hE; subst hB; subst hacts
  obtain ⟨hEl, hpre, hord, hchain, hslt⟩ := dOk_spec hok
  obtain ⟨hlen, hcomp⟩ := compOps_get ops.toList as hc
  obtain ⟨vs, St, cuts, loads, hvl, hSt0, hfact, hcut0, _, ⟨hchk1, hchk2⟩, hQ⟩ := dgo_facts as 0 ρ _ _ _ h
  let m := as.length
  let E := ops.toList.map preds
  let B := befGo E []
  let acts := actsOf (slots.map (·.1)) as 0
  have hm : ops.size = m := by simpa using hlen.symm
  have hElen : E.length = as.length := hEl
  have hEget : ∀ i (o : Oper), ops.toList[i]? = some o → E.getD i [] = preds o := by
    intro i o ho
    simp only [E, List.getD, List.getElem?_map, ho, Option.map_some, Option.getD_some]
  have hact : ∀ i (o : AOper), as[i]? = some o → (i ∈ acts ↔ (o.op.quiet || isSlot slots i) = false) := by
    intro i o ho
    simp only [acts, actsOf_mem, contains_isSlot, Nat.zero_add, Bool.or_eq_false_iff]
    constructor
    · rintro ⟨j, o', rfl, ho', h1, h2⟩
      rw [ho] at ho'; injection ho' with ho'; subst ho'
      exact ⟨h1, h2⟩
    · rintro ⟨h1, h2⟩
      exact ⟨i, o, rfl, ho, h1, h2⟩
  have hactlt : ∀ i ∈ acts, i < m := by
    intro i hi
    simp only [acts, actsOf_mem] at hi
    obtain ⟨j, o, e, ho, _⟩ := hi
    have := (List.getElem?_eq_some_iff.1 ho).1
    omega
  let pr := pairs as vs
  let S : Array Bool → Nat → Bool := fun listed i => listed.getD i false
  -- what an operation looks at is, whatever has been done, what it was in the text's order
  have henv : ∀ (listed : Array Bool) (a : Act) (K' : Know), (∀ i, S listed i = true → ∀ p ∈ E.getD i [], S listed p = true) → (∀ t v, gS pr 0 (S listed) ρ.get t = some v → VR K' v (a.tmps.getD t undef)) → a.tmps.size = N → a.defers = [] →
      ∀ i (o : AOper), as[i]? = some o → S listed i = false → (∀ p ∈ E.getD i [], S listed p = true) → ERel K' N (envOf (putAll ρ (as.take i) (vs.take i)) o.tmps) a := by
    intro listed a K' hD hT hsz hdf i o ho hun hrdy
    refine ⟨hsz, hdf, fun t v ht => ?_⟩
    rw [envOf_get] at ht
    split at ht
    · rename_i htm
      injection ht with ht
      have hi : i < as.length := (List.getElem?_eq_some_iff.1 ho).1
      have hbl := bef_listed hD i (show i < E.length by rw [hElen]; first | exact hi | exact him) hrdy
      have hsame : gS pr 0 (S listed) ρ.get t = gS pr 0 (fun q => decide (q < 0 + i)) ρ.get t := by
        refine gS_congr pr 0 _ _ _ _ t (fun j p hp hpt => ?_) rfl
        obtain ⟨o', ho', hpd, _⟩ := pairs_some as vs j p hp
        simp only [Nat.zero_add]
        by_cases hij : i = j
        · subst hij; simp [hun]
        · have := hord i j o o' t ho ho' hij (by rw [← hpd]; exact hpt) (.inl htm)
          rcases Nat.lt_or_gt_of_ne hij with hlt | hgt
          · -- j behind i: not yet
            have hb := this.2 hlt
            have hnot : S listed j = false := by
              cases hs : S listed j with
              | false => rfl
              | true =>
                have hj : j < as.length := (List.getElem?_eq_some_iff.1 ho').1
                have := bef_listed hD j (show j < E.length by rw [hElen]; first | exact hj | exact hjm) (hD j hs) i hb
                rw [hun] at this; cases this
            rw [hnot]
            have : ¬ j < i := by omega
            simp [this]
          · have hb := this.1 hgt
            rw [hbl j hb]
            simp [hgt]
      have hput := putAll_get as vs 0 i ρ t ρ.get (fun _ => rfl) hvl.symm
      simp only [Env.rd] at ht
      cases hg : (putAll ρ (as.take i) (vs.take i)).get t with
      | none => rw [hg] at ht; subst ht; exact .undef _
      | some u =>
        rw [hg] at ht hput
        simp only [Option.getD_some] at ht
        subst ht
        exact hT t u (by rw [hsame]; exact hput.symm)
    · cases ht
  -- the states between two operations that turn memory are one
  have hstay : ∀ i, i < m → i ∉ acts → St (i + 1) = St i := by
    intro i hi hna
    have hi' : i < as.length := hi
    have ho : as[i]? = some as[i] := List.getElem?_eq_getElem hi'
    have hv : vs[i]? = some (vs[i]'(by omega)) := List.getElem?_eq_getElem (by omega)
    obtain ⟨hf, _, _⟩ := hfact i _ _ ho hv
    have hq : (as[i].op.quiet || isSlot slots i) = true := by
      cases hc : (as[i].op.quiet || isSlot slots i) with
      | true => rfl
      | false => exact absurd ((hact i _ ho).2 hc) hna
    rcases hf with ⟨_, _, e⟩ | ⟨_, ⟨_, _, _, _, _, e⟩ | ⟨_, _, _, e⟩ | ⟨_, _, _, _, e⟩ | ⟨h1, h2, h3, _⟩⟩
    · exact e
    · exact e
    · exact e
    · exact e
    · exfalso
      have : isSlot slots i = false := by
        cases hs : isSlot slots i with
        | false => rfl
        | true => obtain ⟨cs, e⟩ := isSlot_iff.1 hs; simp only [Nat.zero_add] at h1; rw [h1] at e; cases e
      simp [AOp.quiet, h2, h3, this] at hq
  have hsame : ∀ (d p : Nat), p + d ≤ m → (∀ j ∈ acts, j < p ↔ j < p + d) → St (p + d) = St p := by
    intro d
    induction d with
    | zero => intro p _ _; rfl
    | succ d ih =>
      intro p hp hj
      have h1 := ih p (by omega) (fun j hj' => ⟨fun h => by omega, fun h => (hj j hj').2 (by omega)⟩)
      rw [show p + (d + 1) = p + d + 1 by omega, hstay (p + d) (by omega) (fun hmem => by have := (hj _ hmem).2 (by omega); omega), h1]
  have hsame2 : ∀ p q, p ≤ m → q ≤ m → (∀ j ∈ acts, j < p ↔ j < q) → St p = St q := by
    intro p q hp hq hj
    rcases Nat.le_total p q with hle | hle
    · have := hsame (q - p) p (by omega) (fun j hj' => by rw [show p + (q - p) = q by omega]; exact hj j hj')
      rw [show p + (q - p) = q by omega] at this; exact this.symm
    · have := hsame (p - q) q (by omega) (fun j hj' => by rw [show q + (p - q) = p by omega]; exact (hj j hj').symm)
      rw [show q + (p - q) = p by omega] at this; exact this
  have hn : ∀ p ≤ m, (St p).n = σ.n + m ∨ True := fun _ _ => .inr trivial
  -- what holds all along
  let R : Array Bool → Nat → Bool := fun listed b => K.res b || slots.any fun s => b == σ.n + s.1 && !S listed s.1
  let Inv : Array Bool → Act → World → Prop := fun listed a w => listed.size = m ∧ (∀ i, S listed i = true → ∀ p ∈ E.getD i [], S listed p = true) ∧
    ∃ K' p, K.sub K' ∧ (K'.os = K.os ∧ K'.tape = K.tape ∧ K'.output = K.output) ∧ K'.res = R listed ∧ p ≤ m ∧ (p, St p) ∈ cuts ∧ (∀ j ∈ acts, S listed j = decide (j < p)) ∧ Rel K' (St p) w ∧ a.tmps.size = N ∧ a.defers = [] ∧
      (∀ t v, gS pr 0 (S listed) ρ.get t = some v → VR K' v (a.tmps.getD t undef))
  have hset : ∀ (listed : Array Bool) (i : Nat), i < listed.size → ∀ j, S (listed.setIfInBounds i true) j = if j = i then true else S listed j := by
    intro listed i hi j
    simp only [S]
    by_cases e : j = i
    · subst e; simp [hi]
    · rw [if_neg e, getD_set_ne false (Ne.symm e)]
  have main : ∀ (fuel : Nat) (listed : Array Bool) (a : Act) (w : World), Inv listed a w → ((List.range m).filter fun i => !S listed i).length ≤ fuel → wpAny P .any ops (Post K N Q) fuel listed a w := by
    -- at the end
    have hend : ∀ (listed : Array Bool) (a : Act) (w : World), Inv listed a w → (∀ i, i < m → S listed i = true) → Post K N Q .normal a w := by
      intro listed a w hI hall
      obtain ⟨hsz, hD, K', p, hsub, hso, hres, hp, hcp, hj, hrel, hts, hdf, hT⟩ := hI
      have hSt : St p = St m := hsame2 p m hp (Nat.le_refl _) (fun j hj' => by
        have h1 := hj j hj'
        rw [hall j (hactlt j hj')] at h1
        have := hactlt j hj'
        have h2 : j < p := by simpa using h1.symm
        exact ⟨fun _ => this, fun _ => h2⟩)
      have hrel2 : Rel { K' with res := K.res } (St m) w := by
        rw [← hSt]
        exact hrel.setRes fun b hb => hrel.res b (by rw [hres]; simp only [R]; rw [hb]; rfl)
      have hsub2 : K'.sub { K' with res := K.res } := ⟨fun _ _ h => h, fun _ _ h => h, fun _ h => h, fun _ h => .inl h⟩
      refine ⟨.normal, _, _, { K' with res := K.res }, rfl, hQ, ⟨hsub.μ, hsub.fix, hso.1, hso.2.1, hso.2.2, rfl, hsub.sh, hsub.new⟩, hrel2, hts, hdf, fun t v ht => ?_⟩
      have hput := putAll_get as vs 0 m ρ t ρ.get (fun _ => rfl) hvl.symm
      rw [List.take_of_length_le (Nat.le_refl _), List.take_of_length_le (by rw [hvl]; exact Nat.le_refl _)] at hput
      refine (hT t v ?_).sub hsub2
      rw [← ht, hput]
      refine gS_congr pr 0 _ _ _ _ t (fun j q hq _ => ?_) rfl
      obtain ⟨o', ho', _, _⟩ := pairs_some as vs j q hq
      have hjm : j < m := (List.getElem?_eq_some_iff.1 ho').1
      simp only [Nat.zero_add]
      rw [hall j hjm]; simp [hjm]
    -- somebody is ready, or all is done
    have hprog : ∀ (listed : Array Bool), listed.size = m → Region.ready .any ops listed = [] → ∀ i, i < m → S listed i = true := by
      intro listed hsz hnil i
      induction i using Nat.strongRecOn with
      | _ i ih =>
        intro hi
        cases hs : S listed i with
        | true => rfl
        | false =>
          exfalso
          have ho : ops[i]? = some (ops[i]'(by omega)) := Array.getElem?_eq_getElem (by omega)
          have : i ∈ Region.ready .any ops listed := by
            rw [mem_ready]
            refine ⟨?_, _, ho, fun e hem hbind => ?_⟩
            · have hlt : i < listed.size := by omega
              simp only [S] at hs
              simp [hlt] at hs ⊢
              exact hs
            · have hpe : e.on ∈ E.getD i [] := by
                rw [hEget i _ (by rw [Array.getElem?_toList]; exact ho)]
                simp only [preds, List.mem_map, List.mem_filter]
                exact ⟨e, ⟨by simpa using hem, hbind⟩, rfl⟩
              have hlt := hpre i (by omega) _ hpe
              exact ih e.on hlt (by omega)
          rw [hnil] at this; cases this
    intro fuel
    induction fuel with
    | zero =>
      intro listed a w hI hfu
      have hall : ∀ i, i < m → S listed i = true := by
        intro i hi
        cases hs : S listed i with
        | true => rfl
        | false =>
          have : i ∈ (List.range m).filter fun i => !S listed i := by simp [hi, hs]
          have h0 : (List.range m).filter (fun i => !S listed i) = [] := List.eq_nil_of_length_eq_zero (by omega)
          rw [h0] at this; cases this
      refine ⟨?_, hend listed a w hI hall⟩
      refine List.eq_nil_iff_forall_not_mem.2 fun i hi => ?_
      rw [mem_ready] at hi
      obtain ⟨hun, o, ho, _⟩ := hi
      have hi : i < m := by have := (Array.getElem?_eq_some_iff.1 ho).1; omega
      have := hall i hi
      have hlt : i < listed.size := by have := hI.1; omega
      simp only [S] at this
      simp [hlt] at this hun
      rw [this] at hun; cases hun
    | succ fuel ih =>
      intro listed a w hI hfu
      refine ⟨fun hnil => hend listed a w hI (hprog listed hI.1 hnil), fun i hi => ?_⟩
      obtain ⟨hsz, hD, K', p, hsub, hso, hres, hp, hcp, hj, hrel, hts, hdf, hT⟩ := hI
      rw [mem_ready] at hi
      obtain ⟨hun', o, ho, hedge⟩ := hi
      have him : i < m := by have := (Array.getElem?_eq_some_iff.1 ho).1; omega
      have hil : i < listed.size := by omega
      have hun : S listed i = false := by
        simp only [S]; simp [hil] at hun' ⊢; exact hun'
      have hol : ops.toList[i]? = some o := by simpa using ho
      have hrdy : ∀ p ∈ E.getD i [], S listed p = true := by
        intro p hp
        rw [hEget i o hol] at hp
        simp only [preds, List.mem_map, List.mem_filter] at hp
        obtain ⟨e, ⟨h1, h2⟩, rfl⟩ := hp
        exact hedge e (by simpa using h1) h2
      obtain ⟨oa, hoa, hcomp1⟩ := hcomp i o hol
      obtain ⟨hdst, hopc, hdlt⟩ := comp_dst hcomp1
      obtain ⟨vi, hvi⟩ : ∃ vi, vs[i]? = some vi := ⟨_, List.getElem?_eq_getElem (show i < vs.length by rw [hvl]; exact him)⟩
      obtain ⟨hf, hcutA, hloadA⟩ := hfact i oa vi hoa hvi
      simp only [Nat.zero_add] at hf hcutA hloadA
      have herel := henv listed a K' hD hT hts hdf i oa hoa hun hrdy
      generalize he0 : envOf (putAll ρ (as.take i) (vs.take i)) oa.tmps = e0 at *
      have hbl := bef_listed hD i (show i < E.length by rw [hElen]; first | exact hi | exact him) hrdy
      have hafter : ∀ j, j < m → bit B j i = true → S listed j = false := by
        intro j hjm hb
        cases hs : S listed j with
        | false => rfl
        | true => have := bef_listed hD j (show j < E.length by rw [hElen]; first | exact hj | exact hjm) (hD j hs) i hb; rw [hun] at this; cases this
      have hfeas : feas acts B i p = true := by
        simp only [feas, List.all_eq_true, Bool.and_eq_true, Bool.or_eq_true, Bool.not_eq_true']
        intro j hja
        have h1 := hj j hja
        have hblt : Nat.blt j p = decide (j < p) := by
          cases hb : Nat.blt j p with
          | true => have := Nat.le_of_ble_eq_true hb; simp; omega
          | false =>
            have : ¬ j < p := fun h => by have := Nat.ble_eq_true_of_le (show j + 1 ≤ p from h); rw [show Nat.blt j p = Nat.ble (j + 1) p from rfl] at hb; rw [hb] at this; cases this
            simp [this]
        constructor
        · cases hb : bit B i j with
          | false => exact .inl rfl
          | true => refine .inr ?_; rw [hblt, ← h1]; exact hbl j hb
        · cases hb : bit B j i with
          | false => exact .inl rfl
          | true => refine .inr ?_; rw [hblt, ← h1]; exact hafter j (hactlt j hja) hb
      -- what is left to do once the operation is done
      have step : ∀ (K'' : Know) (p' : Nat) (vc : Value) (w' : World), K'.sub K'' → (K''.os = K.os ∧ K''.tape = K.tape ∧ K''.output = K.output) → K''.res = R (listed.setIfInBounds i true) → p' ≤ m → (p', St p') ∈ cuts → (∀ j ∈ acts, (if j = i then true else S listed j) = decide (j < p')) → Rel K'' (St p') w' → VR K'' vi vc →
          wpAny P .any ops (Post K N Q) fuel (listed.setIfInBounds i true) (a.put o.dst vc) w' := by
        intro K'' p' vc w' hle' hso' hres' hp' hcp' hj' hrel' hv'
        refine ih _ _ _ ⟨by simp [hsz], fun j hsj q hq => ?_, K'', p', hsub.trans hle', hso', hres', hp', hcp', fun j hja => ?_, hrel', ?_, ?_, fun t u hu => ?_⟩ ?_
        · rw [hset listed i hil] at hsj ⊢
          split
          · rfl
          · split at hsj
            · rename_i e; subst e; exact hrdy q hq
            · exact hD j hsj q hq
        · rw [hset listed i hil]; exact hj' j hja
        · cases o.dst <;> simp [Act.put, hts]
        · cases o.dst <;> simp [Act.put, hdf]
        · have hSset : ∀ j, S (listed.setIfInBounds i true) j = if j = i then true else S listed j := hset listed i hil
          by_cases htd : oa.dst = some t
          · have hlast := gS_last pr 0 (S (listed.setIfInBounds i true)) ρ.get t i vi (by
              have := pairs_get as vs i oa vi hoa hvi
              rw [htd] at this; exact this) (by rw [Nat.zero_add, hSset, if_pos rfl]) (fun j' q hlt hq hqt => by
              obtain ⟨o', ho', hqd, _⟩ := pairs_some as vs j' q hq
              rw [Nat.zero_add, hSset, if_neg (by omega)]
              have := hord i j' oa o' t hoa ho' (by omega) (by rw [← hqd]; exact hqt) (.inr htd)
              exact hafter j' (List.getElem?_eq_some_iff.1 ho').1 (this.2 hlt))
            rw [hlast] at hu
            injection hu with hu; subst hu
            have ht : t < N := hdlt t (by rw [← hdst]; exact htd)
            rw [← hdst, htd]
            simp only [Act.put]
            rw [Array.getD_eq_getD_getElem?, Array.getElem?_setIfInBounds_self_of_lt (by omega)]
            exact hv'
          · have hsm : gS pr 0 (S (listed.setIfInBounds i true)) ρ.get t = gS pr 0 (S listed) ρ.get t := by
              refine gS_congr pr 0 _ _ _ _ t (fun j q hq hqt => ?_) rfl
              obtain ⟨o', ho', hqd, _⟩ := pairs_some as vs j q hq
              rw [Nat.zero_add, hSset]
              by_cases e : j = i
              · subst e; rw [hoa] at ho'; injection ho' with ho'; subst ho'
                exact absurd (by rw [← hqd]; exact hqt) htd
              · rw [if_neg e]
            rw [hsm] at hu
            have hold := (hT t u hu).sub hle'
            rw [← hdst]
            cases hd : oa.dst with
            | none => exact hold
            | some d =>
              have hne : d ≠ t := fun e => htd (by rw [hd, e])
              simp only [Act.put]
              rw [Array.getD_eq_getD_getElem?, Array.getElem?_setIfInBounds_ne hne, ← Array.getD_eq_getD_getElem?]
              exact hold
        · have : ((List.range m).filter fun k => !S (listed.setIfInBounds i true) k).length < ((List.range m).filter fun k => !S listed k).length := by
            have hsub : (List.range m).filter (fun k => !S (listed.setIfInBounds i true) k) = ((List.range m).filter fun k => !S listed k).filter fun k => decide (k ≠ i) := by
              rw [List.filter_filter]
              refine List.filter_congr fun k _ => ?_
              rw [hset listed i hil]
              by_cases e : k = i <;> simp [e]
            rw [hsub]
            have hmem : i ∈ (List.range m).filter fun k => !S listed k := by simp [him, hun]
            exact List.length_filter_lt_length_iff_exists.2 ⟨i, hmem, by simp⟩
          omega
      have hna : (oa.op.quiet || isSlot slots i) = true → ∀ j ∈ acts, (if j = i then true else S listed j) = decide (j < p) := by
        intro hq j hja
        have : j ≠ i := fun e => by
          subst e
          have := (hact j oa hoa).1 hja
          rw [hq] at this; cases this
        rw [if_neg this]; exact hj j hja
      have hyes : (oa.op.quiet || isSlot slots i) = false → (∀ j ∈ acts, (if j = i then true else S listed j) = decide (j < i + 1)) ∧ St p = St i := by
        intro hq
        have hia : i ∈ acts := (hact i oa hoa).2 hq
        have hlt : ∀ j ∈ acts, j ≠ i → S listed j = decide (j < i) := by
          intro j hja hne
          rcases Nat.lt_or_gt_of_ne hne with h1 | h1
          · have := hchain i hia j hja h1
            rw [hbl j this]; simp [h1]
          · have := hchain j hja i hia h1
            rw [hafter j (hactlt j hja) this]
            have : ¬ j < i := by omega
            simp [this]
        refine ⟨fun j hja => ?_, hsame2 p i hp (by omega) (fun j hja => ?_)⟩
        · by_cases e : j = i
          · subst e; simp
          · rw [if_neg e, hlt j hja e]
            have : j < i ↔ j < i + 1 := by omega
            simp [this]
        · have h1 := hj j hja
          by_cases e : j = i
          · subst e; rw [hun] at h1
            have : ¬ j < p := by simpa using h1.symm
            exact ⟨fun h => absurd h this, fun h => by omega⟩
          · rw [hlt j hja e] at h1
            have h3 : j < i ↔ j < p := by simpa using h1
            exact h3.symm
      have hRmono : ∀ b, R (listed.setIfInBounds i true) b = true → R listed b = true := by
        intro b hb
        simp only [R, Bool.or_eq_true, List.any_eq_true, Bool.and_eq_true, beq_iff_eq, Bool.not_eq_true'] at hb ⊢
        rcases hb with hb | ⟨s', h1, h2, h3⟩
        · exact .inl hb
        · refine .inr ⟨s', h1, h2, ?_⟩
          rw [hset listed i hil] at h3
          split at h3
          · cases h3
          · exact h3
      have hRns : isSlot slots i = false → R listed = R (listed.setIfInBounds i true) := by
        intro hns
        funext b
        simp only [R]
        congr 1
        rw [Bool.eq_iff_iff, List.any_eq_true, List.any_eq_true]
        have : ∀ s' ∈ slots, S (listed.setIfInBounds i true) s'.1 = S listed s'.1 := by
          intro s' hs'
          rw [hset listed i hil, if_neg]
          intro e
          have : isSlot slots i = true := by simp only [isSlot, List.any_eq_true]; exact ⟨s', hs', by simp [e]⟩
          rw [hns] at this; cases this
        constructor <;> rintro ⟨s', h1, h2⟩ <;> exact ⟨s', h1, by rw [this s' h1] at *; exact h2⟩
      unfold wpOp
      rw [ho]
      simp only
      rcases hf with ⟨hw, rfl, hSti⟩ | ⟨hw, hf⟩
      · -- passed over
        have hwant := wants_ok herel hcomp1 hw
        simp only [Array.toArray_toList] at hwant
        rw [if_neg (by rw [hwant]; simp)]
        cases hq : (oa.op.quiet || isSlot slots i) with
        | true => exact step { K' with res := R (listed.setIfInBounds i true) } p undef w ⟨fun _ _ h => h, fun _ _ h => h, fun _ h => h, fun _ h => .inl h⟩ hso rfl hp hcp (hna hq) (hrel.setRes fun b hb => hrel.res b (by rw [hres]; exact hRmono b hb)) undef_tup
        | false =>
          obtain ⟨y1, y2⟩ := hyes hq
          exact step { K' with res := R (listed.setIfInBounds i true) } (i + 1) undef w ⟨fun _ _ h => h, fun _ _ h => h, fun _ h => h, fun _ h => .inl h⟩ hso rfl (by omega) (hcutA hq) y1
            (by rw [hSti, ← y2]; exact hrel.setRes fun b hb => hrel.res b (by rw [hres]; exact hRmono b hb)) undef_tup
      · have hwant := wants_ok herel hcomp1 hw
        simp only [Array.toArray_toList] at hwant
        rw [if_pos hwant]
        refine .inl ?_
        rcases hf with ⟨cs, f, hs, hal, rfl, hSti⟩ | ⟨hs, hpu, hev, hSti⟩ | ⟨hs, hpu, hrd, hev, hSti⟩ | ⟨hs, hpu, hrd, hst⟩
        · -- a new block
          rw [hopc] at hal
          have hsl : isSlot slots i = true := isSlot_iff.2 ⟨cs, hs⟩
          have hrid : K'.res (σ.n + i) = true := by
            rw [hres]
            simp only [R, Bool.or_eq_true, List.any_eq_true, Bool.and_eq_true, beq_iff_eq, Bool.not_eq_true']
            exact .inr ⟨(i, cs), slotOf_mem hs, rfl, hun⟩
          have hμ := (hrel.res _ hrid).1
          obtain ⟨hidlt, hget⟩ := hchk2 (i, cs) (slotOf_mem hs) (p, St p) hcp hfeas
          simp only at hidlt hget
          let K1 : Know := { K' with res := R (listed.setIfInBounds i true) }
          have hsub1 : K'.sub K1 := ⟨fun _ _ h => h, fun _ _ h => h, fun _ h => h, fun _ h => .inl h⟩
          have hrel1 : Rel K1 (St p) w := hrel.setRes fun b hb => hrel.res b (by rw [hres]; exact hRmono b hb)
          obtain ⟨arr, T, flo, fhi, g, w', hrun, q1, q2, q3, q4, q5, hcr, hlen2, hval⟩ := allocD_does (P := P) hal K1 N w a (herel.sub hsub1)
          have hnr : K1.res (σ.n + i) = false := by
            simp only [K1, R, Bool.or_eq_false_iff]
            refine ⟨?_, ?_⟩
            · cases e : K.res (σ.n + i) with
              | false => rfl
              | true => have := (hr.res _ e).2; omega
            · rw [List.any_eq_false]
              intro s' _
              simp only [Bool.and_eq_true, beq_iff_eq, Bool.not_eq_true', not_and, Bool.not_eq_false]
              intro e
              rw [hset listed i hil, if_pos (by omega)]
          have hle2 : K1.le (K1.bind (σ.n + i) (w.heap.size, 0, arr.size)) := Know.le_bind hμ
          have hrel2 := hrel1.born (w' := w') (room := arr.size) hμ hidlt hnr q1 q2 q3 q4 (fun cs' e => by
            rw [hget] at e; injection e with e; injection e with e; subst e
            exact ⟨arr, T, flo, fhi, rfl, q5, rfl, hcr, hlen2⟩) (fun s' pos e => by rw [hget] at e; injection e with e; cases e)
          unfold Oper.wp
          rw [hrun]
          exact step _ p (g w.heap.size) _ ⟨fun b x e => hle2.μ b x e, fun b x e => e, fun _ h => h, fun _ h => .inl h⟩ hso rfl hp hcp (hna (by rw [hsl]; simp)) hrel2 (hval _ _ hle2 (by simp [Know.bind]))
        · -- neither reads nor turns memory
          have hq : (oa.op.quiet || isSlot slots i) = true := by simp [AOp.quiet, hpu]
          have hev' := evalP_ok hpu hev (St p)
          rw [hopc] at hev'
          obtain ⟨vc, w', K'', hrun, hle'', hrel'', hv''⟩ := does (P := P) hev' K' N w a hrel herel
          unfold Oper.wp
          have fin := step K'' p vc w' hle''.sub ⟨hle''.os.trans hso.1, hle''.tape.trans hso.2.1, hle''.output.trans hso.2.2⟩ (hle''.res.trans (hres.trans (hRns (by
            cases e : isSlot slots i with
            | false => rfl
            | true => obtain ⟨_, e'⟩ := isSlot_iff.1 e; rw [hs] at e'; cases e')))) hp hcp (hna hq) hrel'' hv''
          rcases hrun with hrun | ⟨hrun, rfl⟩ <;> (rw [hrun]; exact fin)
        · -- reads memory
          have hq : (oa.op.quiet || isSlot slots i) = true := by simp [AOp.quiet, hrd]
          have hch := hchk1 _ (hloadA hw hs hpu hrd) (p, St p) hcp hfeas
          simp only [Option.map_eq_some_iff] at hch
          obtain ⟨r, hr1, hr2⟩ := hch
          have hr3 := reader_ok hrd (show evalA oa.op e0 (St p) = some (r.1, r.2) from hr1)
          have hev' : evalA oa.op e0 (St p) = some (vi, St p) := by rw [hr1, ← hr2, ← hr3]
          rw [hopc] at hev'
          obtain ⟨vc, w', K'', hrun, hle'', hrel'', hv''⟩ := does (P := P) hev' K' N w a hrel herel
          unfold Oper.wp
          have fin := step K'' p vc w' hle''.sub ⟨hle''.os.trans hso.1, hle''.tape.trans hso.2.1, hle''.output.trans hso.2.2⟩ (hle''.res.trans (hres.trans (hRns (by
            cases e : isSlot slots i with
            | false => rfl
            | true => obtain ⟨_, e'⟩ := isSlot_iff.1 e; rw [hs] at e'; cases e')))) hp hcp (hna hq) hrel'' hv''
          rcases hrun with hrun | ⟨hrun, rfl⟩ <;> (rw [hrun]; exact fin)
        · -- turns memory
          have hsl : isSlot slots i = false := by
            cases e : isSlot slots i with
            | false => rfl
            | true => obtain ⟨_, e'⟩ := isSlot_iff.1 e; rw [hs] at e'; cases e'
          have hq : (oa.op.quiet || isSlot slots i) = false := by simp [AOp.quiet, hpu, hrd, hsl]
          obtain ⟨y1, y2⟩ := hyes hq
          rw [hopc] at hst
          unfold stepX at hst
          rw [← y2] at hst
          -- what comes back is just vi, the memory just the next state
          have hgen : o.wp P a w (fun a' w' => ∃ K'' vc, a' = a.put o.dst vc ∧ K'.le K'' ∧ Rel K'' (St (i + 1)) w' ∧ VR K'' vi vc) (Post K N Q) := step_put hst hrel herel hdlt
          refine Oper.wp_mono ?_ hgen
          rintro a' w' ⟨K'', vc, rfl, hle'', hrel'', hv''⟩
          exact step K'' (i + 1) vc w' hle''.sub ⟨hle''.os.trans hso.1, hle''.tape.trans hso.2.1, hle''.output.trans hso.2.2⟩ (hle''.res.trans (hres.trans (hRns hsl))) (by omega) (hcutA hq) y1 hrel'' hv''
  have hS0 : ∀ i, S (Array.replicate ops.size false) i = false := by
    intro i
    simp only [S, Array.getD_eq_getD_getElem?, Array.getElem?_replicate]
    split <;> rfl
  have hs0 : Rel K (St 0) w := by rw [hSt0]; exact rel_addSlots hr _ _
  have hI : Inv (Array.replicate ops.size false) ac { w with drawn := w.drawn + 1 } := by
    refine ⟨by simp [hm], fun i hi => ?_, { K with res := R (Array.replicate ops.size false) }, 0, ⟨fun _ _ h => h, fun _ _ h => h, fun _ h => h, fun _ h => .inl h⟩, ⟨rfl, rfl, rfl⟩, rfl, Nat.zero_le _, ?_, fun j _ => ?_, ?_, he.size, he.defers, fun t v ht => ?_⟩
    · rw [hS0] at hi; cases hi
    · rw [hSt0]; exact hcut0 _ (by simp)
    · rw [hS0]; simp
    · refine (Rel.congr (Rel.setRes hs0 fun b hb => ?_) (w' := { w with drawn := w.drawn + 1 }) rfl rfl rfl rfl)
      simp only [R, Bool.or_eq_true, List.any_eq_true, Bool.and_eq_true, beq_iff_eq] at hb
      rcases hb with hb | ⟨s', h1, rfl, _⟩
      · exact hs0.res b hb
      · refine ⟨hr.fresh _ (by omega), ?_⟩
        have := hslt s'.1 (List.mem_map_of_mem h1)
        rw [hSt0]; simp only [addSlots]; omega
    · rw [gS_none pr 0 _ _ _ (fun j p _ _ => by rw [hS0])] at ht
      exact VR.sub (K := K) (K' := { K with res := R (Array.replicate ops.size false) }) ⟨fun _ _ h => h, fun _ _ h => h, fun _ h => h, fun _ h => .inl h⟩ (he.tmps t v ht)
  refine main ops.size _ ac _ hI ?_
  · have : ((List.range m).filter fun i => !S (Array.replicate ops.size false) i).length ≤ (List.range m).length := List.length_filter_le _ _
    simp at this
    omega
end Go.Proofs.Ythojhpjjkfjeiaa.Va
