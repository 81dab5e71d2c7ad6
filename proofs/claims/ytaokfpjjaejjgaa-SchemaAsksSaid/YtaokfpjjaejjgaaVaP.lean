/- Rows of one's own in named places; they become fixed data. Conditions: none. -/
import Derived.Test.YtaokfpjjaejjgaaVaO
set_option linter.all false
namespace Go.Proofs.Ytaokfpjjaejjgaa.Va
open Go.Proofs
variable {P : Program}
/- A row of one's own: its block is one of p. -/
def RowP (p : Nat → Prop) (σ : AState) (x : AV) (c : List AV) (n sz : Nat) : Prop :=
  (x = .nils ∧ n = 0 ∧ c = []) ∨ ∃ b cap cs, x = .sl b 0 n cap sz ∧ p b ∧ b < σ.n ∧ σ.cells b = some cs ∧ c = seg cs 0 (n * sz) ∧ n * sz ≤ cs.length ∧ ∀ k, cap = some k → n ≤ k
theorem RowP.nil (p : Nat → Prop) (σ : AState) (sz : Nat) : RowP p σ .nils [] 0 sz := .inl ⟨rfl, rfl, rfl⟩
theorem RowP.of {p : Nat → Prop} {σ : AState} {c : List AV} {n sz b : Nat} {cap : Option Nat} (hp : p b) (hb : b < σ.n) (hc : σ.cells b = some c) (hl : c.length = n * sz) (hcap : ∀ k, cap = some k → n ≤ k := by first | (intro k h; cases h; omega) | (intro k h; cases h)) : RowP p σ (.sl b 0 n cap sz) c n sz :=
  .inr ⟨b, cap, c, rfl, hp, hb, hc, (seg_self _ _ hl).symm, by omega, hcap⟩
theorem RowP.len {p : Nat → Prop} {σ : AState} {x : AV} {c : List AV} {n sz : Nat} (h : RowP p σ x c n sz) : x.len = some n ∧ c.length = n * sz := by
  rcases h with ⟨rfl, rfl, rfl⟩ | ⟨b, cap, cs, rfl, _, _, _, rfl, hl, _⟩
  · exact ⟨rfl, by simp⟩
  · exact ⟨rfl, by simp [seg]; omega⟩
theorem RowP.keep {p : Nat → Prop} {σ s : AState} {x : AV} {c : List AV} {n sz : Nat} (h : RowP p σ x c n sz) (hn : σ.n ≤ s.n) (hk : ∀ b, b < σ.n → p b → s.cells b = σ.cells b) : RowP p s x c n sz := by
  rcases h with h | ⟨b, cap, cs, rfl, hp, hb, hc, h2, hl⟩
  · exact .inl h
  · exact .inr ⟨b, cap, cs, rfl, hp, Nat.lt_of_lt_of_le hb hn, by rw [hk b hb hp, hc], h2, hl⟩
theorem RowP.keeps {p : Nat → Prop} {σ s : AState} {x : AV} {c : List AV} {n sz m : Nat} (h : RowP p σ x c n sz) (hk : Keeps m σ s) (hp : ∀ b, p b → b < m) : RowP p s x c n sz := by
  rcases h with h | ⟨b, cap, cs, rfl, hpb, hb, hc, h2, hl⟩
  · exact .inl h
  · exact .inr ⟨b, cap, cs, rfl, hpb, Nat.lt_of_lt_of_le (hp b hpb) hk.1, by rw [hk.cells (hp b hpb), hc], h2, hl⟩
theorem RowP.mono {p q : Nat → Prop} {σ : AState} {x : AV} {c : List AV} {n sz : Nat} (h : RowP p σ x c n sz) (hq : ∀ b, p b → b < σ.n → q b) : RowP q σ x c n sz := by
  rcases h with h | ⟨b, cap, cs, rfl, hp, hb, r⟩
  · exact .inl h
  · exact .inr ⟨b, cap, cs, rfl, hq b hp hb, hb, r⟩
theorem RowP.push {p : Nat → Prop} {σ : AState} {x : AV} {c : List AV} {n sz : Nat} (h : RowP p σ x c n sz) (o : List AV) : RowP p (σ.push (.cells o)) x c n sz :=
  h.keep (Nat.le_succ _) fun b hb _ => by rw [push_get, if_neg (by omega)]
theorem RowP.put {p : Nat → Prop} {σ : AState} {x : AV} {c : List AV} {n sz : Nat} (h : RowP p σ x c n sz) {b0 : Nat} (hb0 : ¬ p b0) (o : List AV) : RowP p (σ.put b0 o) x c n sz :=
  h.keep (Nat.le_refl _) fun b hb hp => by rw [put_get, if_neg (fun e : b = b0 => hb0 (by rw [← e]; exact hp))]
theorem RowP.slots {p : Nat → Prop} {σ : AState} {x : AV} {c : List AV} {n sz : Nat} (h : RowP p σ x c n sz) (m : Nat) : RowP p (addSlots σ.n m σ []) x c n sz :=
  h.keep (Nat.le_add_right _ _) fun b hb hp => rfl
theorem RowP.firstA {p : Nat → Prop} {σ : AState} {x : AV} {c : List AV} {n sz : Nat} (h : RowP p σ x c n sz) : firstA σ sz n x = some c := by
  rcases h with ⟨rfl, rfl, rfl⟩ | ⟨b, cap, cs, rfl, _, _, hc, rfl, hl, _⟩
  · rfl
  · unfold Va.firstA
    cases h0 : Nat.beq n 0 with
    | true =>
      have := Nat.eq_of_beq_eq_true h0
      subst this
      simp [seg]
    | false =>
      have hb : Nat.ble (0 + n * sz) cs.length = true := Nat.ble_eq_true_of_le (by omega)
      simp only [cond_false, base, hc, hb, cond_true]
theorem RowP.pur {p : Nat → Prop} {σ : AState} {x : AV} {c : List AV} {n sz : Nat} (al : Bool) (h : RowP p σ x c n sz) {c' : List AV} (hl : c'.length = c.length) (hp : ∀ i (hi : i < c.length) (hi' : i < c'.length), Pur σ al c[i] c'[i]) : Pur σ al x (.psl c' 0 n) := by
  rcases h with ⟨rfl, rfl, rfl⟩ | ⟨b, cap, cs, rfl, _, _, hc, rfl, hlc, _⟩
  · exact .nils _ _
  · have hsl : (seg cs 0 (n * sz)).length = n * sz := by simp [seg]; omega
    refine .sl b 0 n cap sz cs c' hc (by omega) (by omega) fun i hi hi' => ?_
    have hi2 : i < (seg cs 0 (n * sz)).length := by omega
    have := hp i hi2 hi'
    have e : (seg cs 0 (n * sz))[i] = cs[0 + i] := by simp [seg]
    rw [e] at this
    exact this
/- A row with something in it. -/
structure RowS (p : Nat → Prop) (σ : AState) (x : AV) (c : List AV) (n sz b : Nat) (cap : Option Nat) (cs : List AV) : Prop where
  eq : x = .sl b 0 n cap sz
  own : p b
  lt : b < σ.n
  cells : σ.cells b = some cs
  seg : c = seg cs 0 (n * sz)
  fit : n * sz ≤ cs.length
  capd : ∀ k, cap = .some k → n ≤ k
theorem RowP.some {p : Nat → Prop} {σ : AState} {x : AV} {c : List AV} {n sz : Nat} (h : RowP p σ x c n sz) (hn : 0 < n) : ∃ b cap cs, RowS p σ x c n sz b cap cs := by
  rcases h with ⟨_, rfl, _⟩ | ⟨b, cap, cs, h1, h2, h3, h4, h5, h6⟩
  · omega
  · exact ⟨b, cap, cs, h1, h2, h3, h4, h5, h6.1, h6.2⟩
theorem seg_in {cs : List AV} {m o k : Nat} (h : o + k ≤ m) : seg (seg cs 0 m) o k = seg cs o k := by
  simp only [seg, List.drop_zero]
  rw [List.drop_take, List.take_take, Nat.min_eq_left (by omega)]
theorem seg_get {cs : List AV} {m o : Nat} (h : o < m) : (seg cs 0 m)[o]? = cs[o]? := by
  simp only [seg, List.drop_zero, List.getElem?_take, h, if_true]
theorem RowS.row {p : Nat → Prop} {σ : AState} {x : AV} {c cs : List AV} {n sz b : Nat} {cap : Option Nat} (h : RowS p σ x c n sz b cap cs) {i : Nat} (hi : i < n) : i * sz + sz ≤ cs.length ∧ Va.seg cs (i * sz) sz = Va.seg c (i * sz) sz := by
  have h1 : i * sz + sz ≤ n * sz := by
    calc i * sz + sz = (i + 1) * sz := by rw [Nat.succ_mul]
      _ ≤ n * sz := Nat.mul_le_mul_right _ hi
  refine ⟨Nat.le_trans h1 h.fit, ?_⟩
  rw [h.seg, seg_in h1]
theorem RowS.get {p : Nat → Prop} {σ : AState} {x : AV} {c cs : List AV} {n sz b : Nat} {cap : Option Nat} (h : RowS p σ x c n sz b cap cs) {o : Nat} (ho : o < n * sz) : cs[o]? = c[o]? := by
  rw [h.seg, seg_get ho]
theorem RowP.form {p : Nat → Prop} {σ : AState} {x : AV} {c : List AV} {n sz : Nat} (h : RowP p σ x c n sz) : x = .nils ∨ ∃ b cap, x = .sl b 0 n cap sz := by
  rcases h with ⟨rfl, _⟩ | ⟨b, cap, _, rfl, _⟩
  · exact .inl rfl
  · exact .inr ⟨b, cap, rfl⟩
/- One more. -/
theorem app_rowP {p : Nat → Prop} {σ : AState} {x y : AV} {c new : List AV} {n k sz bytes : Nat} (hx : RowP p σ x c n sz) (hp : p σ.n) (hy : y.len = some k) (hf : Va.firstA σ sz k y = some new) (hone : new.all AV.one = true) (hl : new.length = k * sz)
    (hb : (2 * (n + k) + 1024) * bytes ≤ 140737488355328) : ∃ x' s, appendA σ sz bytes x y = some (x', s) ∧ RowP p s x' (c ++ new) (n + k) sz ∧ σ.n ≤ s.n ∧ ∀ b, b < σ.n → ¬ p b → s.h.get b = σ.h.get b := by
  have h1 : Nat.ble ((2 * (n + k) + 1024) * bytes) 140737488355328 = true := Nat.ble_eq_true_of_le hb
  have h2 : Nat.beq new.length (k * sz) = true := by rw [hl]; exact Nat.beq_refl _
  obtain ⟨hxl, hcl⟩ := hx.len
  have fresh : ∀ (s0 : AState), s0.n = σ.n → ∀ cap, (∀ j, cap = some j → n + k ≤ j) → RowP p (s0.push (.cells (c ++ new))) (.sl s0.n 0 (n + k) cap sz) (c ++ new) (n + k) sz := fun s0 h0 cap hcap =>
    .of (by rw [h0]; exact hp) (Nat.lt_succ_self _) (push_cells _ _) (by rw [List.length_append, hcl, hl, Nat.add_mul]) hcap
  have nocap : ∀ j : Nat, (none : Option Nat) = some j → n + k ≤ j := fun j h => by cases h
  have kpush : ∀ b, b < σ.n → ¬ p b → (σ.push (.cells (c ++ new))).h.get b = σ.h.get b := fun b hb _ => by
    have : ¬ b = σ.n := by omega
    simp only [AState.push, Tr.get_set, this, if_false]
  have kkill : ∀ b', p b' → ∀ b, b < σ.n → ¬ p b → ((σ.kill b').push (.cells (c ++ new))).h.get b = σ.h.get b := fun b' hb' b hb hnp => by
    have h3 : ¬ b = (σ.kill b').n := by rw [kill_n]; omega
    have h4 : ¬ b = b' := fun e => hnp (e ▸ hb')
    simp only [AState.push, Tr.get_set, h3, if_false, AState.kill, h4]
    rw [kill_n] at h3
    simp only [h3, if_false]
  unfold appendA
  simp only [hxl, hy, hf, h1, h2, hone, Bool.and_true, Bool.true_and, cond_true]
  rcases hx with ⟨rfl, rfl, rfl⟩ | ⟨b, cap, cs, rfl, hpb, hbn, hcs, hc, hlc, _⟩
  · cases h0 : Nat.beq k 0 with
    | true =>
      have := Nat.eq_of_beq_eq_true h0
      subst this
      have : new = [] := List.eq_nil_of_length_eq_zero (by omega)
      subst this
      exact ⟨_, _, rfl, RowP.nil _ _ _, Nat.le_refl _, fun _ _ _ => rfl⟩
    | false =>
      have := fresh σ rfl none nocap
      simp only [Nat.zero_add, List.nil_append] at this kpush ⊢
      exact ⟨_, _, rfl, this, Nat.le_succ _, kpush⟩
  · have h3 : Nat.beq sz sz = true := Nat.beq_refl _
    have h4 : Nat.ble (0 + n * sz) cs.length = true := Nat.ble_eq_true_of_le (by omega)
    simp only [hcs, h3, h4, Bool.and_true, cond_true, ← hc]
    cases cap with
    | none => exact ⟨_, _, rfl, fresh (σ.kill b) rfl none nocap, Nat.le_succ _, kkill b hpb⟩
    | some c' =>
      simp only
      cases hle : Nat.ble (n + k) c' with
      | true => exact ⟨_, _, rfl, fresh (σ.kill b) rfl (some c') (fun j hj => by cases hj; exact Nat.le_of_ble_eq_true hle), Nat.le_succ _, kkill b hpb⟩
      | false => exact ⟨_, _, rfl, fresh σ rfl none nocap, Nat.le_succ _, kpush⟩
theorem app_lit {p : Nat → Prop} {σ : AState} {x : AV} {c new : List AV} {n k sz bytes : Nat} (hx : RowP p σ x c n sz) (hp : ∀ b, σ.n ≤ b → p b) (hone : new.all AV.one = true) (hl : new.length = k * sz) (hk : 0 < k) (hb : (2 * (n + k) + 1024) * bytes ≤ 140737488355328) :
    ∃ b cap s, appendA (σ.push (.cells new)) sz bytes x (.sl σ.n 0 k (some k) sz) = some (.sl b 0 (n + k) cap sz, s) ∧ RowP p s (.sl b 0 (n + k) cap sz) (c ++ new) (n + k) sz ∧ σ.n < s.n ∧ ∀ b, b < σ.n → ¬ p b → s.h.get b = σ.h.get b := by
  have hy : RowP (fun b => b = σ.n) (σ.push (.cells new)) (.sl σ.n 0 k (some k) sz) new k sz := .of rfl (Nat.lt_succ_self _) (push_cells _ _) hl
  obtain ⟨x', s, h1, h2, h3, h4⟩ := app_rowP (bytes := bytes) (hx.push new) (hp _ (Nat.le_succ _)) hy.len.1 hy.firstA hone hl hb
  have hx' : ∃ b cap, x' = .sl b 0 (n + k) cap sz := by
    rcases h2 with ⟨_, h, _⟩ | ⟨b, cap, cs, rfl, _⟩
    · omega
    · exact ⟨b, cap, rfl⟩
  obtain ⟨b, cap, rfl⟩ := hx'
  refine ⟨b, cap, s, h1, h2, h3, fun b hb hnp => ?_⟩
  rw [h4 b (Nat.lt_succ_of_lt hb) hnp]
  have : ¬ b = σ.n := by omega
  simp only [AState.push, Tr.get_set, this, if_false]
theorem put_h {s : AState} {b b' : Nat} {cs : List AV} (h : b' ≠ b) : (s.put b cs).h.get b' = s.h.get b' := by simp only [AState.put, Tr.get_set, h, if_false]
theorem push_h {s : AState} {b' : Nat} {o : ABlk} (h : b' < s.n) : (s.push o).h.get b' = s.h.get b' := by
  have : ¬ b' = s.n := by omega
  simp only [AState.push, Tr.get_set, this, if_false]
theorem get_cells {s σ : AState} {b : Nat} (h : s.h.get b = σ.h.get b) : s.cells b = σ.cells b := by simp only [AState.cells, h]
/- A row in a cell of another block becomes fixed data there. -/
theorem Frz.row {N : Nat} {Q : Env → AState → Prop} {ρ : Env} {σ : AState} {p : Nat → Prop} {x : AV} {c d : List AV} {n sz b0 i : Nat} (hx : RowP p σ x c n sz) (h0 : σ.cells b0 = some d) (hb0 : ¬ p b0) (hi : d[i]? = some x)
    (hq : ∀ s, s.n = σ.n → s.cells b0 = some (d.set i (.psl c 0 n)) → (∀ b, b ≠ b0 → ¬ p b → s.h.get b = σ.h.get b) → Q ρ s) : Frz N Q ρ σ := by
  rcases hx with ⟨rfl, rfl, rfl⟩ | ⟨b, cap, cs, rfl, hpb, hbn, hcs, rfl, hlc, _⟩
  · refine Frz.nils (cs := []) (off := 0) h0 hi (hq _ rfl (by rw [put_get, if_pos rfl]) fun b hb _ => ?_)
    simp only [AState.put, Tr.get_set, hb, if_false]
  · have hne : b0 ≠ b := fun e => hb0 (e ▸ hpb)
    refine Frz.cell hcs h0 hne hi (by omega) (hq _ rfl (by rw [put_get, if_pos rfl]) fun b' hb' hnp => ?_)
    have : ¬ b' = b := fun e => hnp (e ▸ hpb)
    simp only [AState.put, AState.kill, Tr.get_set, hb', this, if_false]
/- One is put in another's place. -/
theorem sets_eq : ∀ (as cs : List AV) (i : Nat), i + as.length ≤ cs.length → sets cs i as = cs.take i ++ as ++ cs.drop (i + as.length) := by
  intro as
  induction as with
  | nil => intro cs i h; simp [sets]
  | cons a as ih =>
    intro cs i h
    simp only [List.length_cons] at h
    rw [sets, ih _ _ (by rw [setx_length (by omega)]; omega)]
    unfold setx
    have hl : (cs.take i).length = i := by simp; omega
    rw [List.take_append, List.drop_append, hl, List.take_of_length_le (by omega), List.drop_of_length_le (by omega : (cs.take i).length ≤ i + 1 + as.length)]
    have e1 : i + 1 - i = 1 := by omega
    have e2 : i + 1 + as.length - i = as.length + 1 := by omega
    rw [e1, e2]
    simp only [List.take_succ_cons, List.take_zero, List.drop_succ_cons, List.drop_drop, List.nil_append, List.length_cons, List.append_assoc, List.cons_append]
    congr 4
    omega
theorem drop_two {α : Type} {a b c : List α} {i k : Nat} (ha : a.length = i) (hb : b.length = k) : (a ++ (b ++ c)).drop (i + k) = c := by
  rw [← List.drop_drop, List.drop_left' ha, List.drop_left' hb]
theorem take_past {α : Type} {a d : List α} {m : Nat} (h : a.length ≤ m) : (a ++ d).take m = a ++ d.take (m - a.length) := by
  rw [List.take_append, List.take_of_length_le h]
theorem rowc_set {α : Type} {f : α → List AV} {sz : Nat} (hf : ∀ x, (f x).length = sz) (l : List α) (i : Nat) (y : α) (h : i < l.length) : rowc f (l.set i y) = (rowc f l).take (i * sz) ++ f y ++ (rowc f l).drop (i * sz + sz) := by
  have h1 : l.set i y = l.take i ++ y :: l.drop (i + 1) := List.set_eq_take_append_cons_drop.trans (by simp [h])
  have h2 : rowc f l = rowc f (l.take i) ++ (f l[i] ++ rowc f (l.drop (i + 1))) := by
    conv => lhs; rw [← List.take_append_drop i l, List.drop_eq_getElem_cons h, rowc_append, rowc_cons]
  have hl : (rowc f (l.take i)).length = i * sz := by rw [rowc_length hf, List.length_take, Nat.min_eq_left (by omega)]
  rw [h1, rowc_append, rowc_cons, h2]
  rw [List.take_left' hl, drop_two hl (hf _), List.append_assoc]
theorem store_rowP {p : Nat → Prop} {σ : AState} {x : AV} {α : Type} {f : α → List AV} {sz : Nat} (hf : ∀ x, (f x).length = sz) {l : List α} {n b : Nat} {cap : Option Nat} {cs : List AV} (h : RowS p σ x (rowc f l) n sz b cap cs) (hn : n = l.length) {i : Nat} (hi : i < l.length) (y : α) (hone : (f y).all AV.one = true) :
    storeA σ (.ptr b (i * sz)) (f y) = some (σ.put b (sets cs (i * sz) (f y))) ∧ RowP p (σ.put b (sets cs (i * sz) (f y))) x (rowc f (l.set i y)) n sz := by
  subst hn
  obtain ⟨h1, h2⟩ := h.row hi
  have hble : Nat.ble (i * sz + (f y).length) cs.length = true := Nat.ble_eq_true_of_le (by rw [hf]; exact h1)
  refine ⟨by simp only [storeA, h.cells, hble, hone, Bool.and_self, cond_true], .inr ⟨b, cap, sets cs (i * sz) (f y), h.eq, h.own, h.lt, by rw [put_get, if_pos rfl], ?_, ?_, h.capd⟩⟩
  · have hle : i * sz + sz ≤ l.length * sz := by
      calc i * sz + sz = (i + 1) * sz := by rw [Nat.succ_mul]
        _ ≤ l.length * sz := Nat.mul_le_mul_right _ hi
    rw [rowc_set hf _ _ _ hi, sets_eq _ _ _ (by rw [hf]; exact h1), h.seg, hf]
    have hfit := h.fit
    simp only [Va.seg, List.drop_zero]
    have e1 : (cs.take (i * sz)).length = i * sz := by simp; omega
    have e2 : (cs.take (i * sz) ++ f y).length = i * sz + sz := by rw [List.length_append, e1, hf]
    rw [List.take_take, Nat.min_eq_left (by omega), take_past (by rw [e2]; exact hle), e2, List.drop_take]
  · rw [sets_eq _ _ _ (by rw [hf]; exact h1)]
    have hfit := h.fit
    simp only [List.length_append, List.length_take, List.length_drop, hf]
    omega
/- One cell is put in another's place. -/
theorem setx_append {a b : List AV} {j : Nat} {v : AV} {i : Nat} (ha : a.length = i) : setx (a ++ b) (i + j) v = a ++ setx b j v := by
  unfold setx
  have e : i + j + 1 = i + (j + 1) := by omega
  rw [e, ← ha, List.take_length_add_append, List.drop_length_add_append, List.append_assoc]
theorem setx_append_left {a b : List AV} {j : Nat} {v : AV} (h : j < a.length) : setx (a ++ b) j v = setx a j v ++ b := by
  unfold setx
  rw [List.take_append_of_le_length (by omega), List.drop_append_of_le_length (by omega)]
  simp
theorem rowc_setx {α : Type} {f : α → List AV} {sz : Nat} (hf : ∀ x, (f x).length = sz) {l : List α} {i j : Nat} (h : i < l.length) (hj : j < sz) {v : AV} {y : α} (hy : f y = setx (f l[i]) j v) : setx (rowc f l) (i * sz + j) v = rowc f (l.set i y) := by
  have h2 : rowc f l = rowc f (l.take i) ++ (f l[i] ++ rowc f (l.drop (i + 1))) := by
    conv => lhs; rw [← List.take_append_drop i l, List.drop_eq_getElem_cons h, rowc_append, rowc_cons]
  have hl : (rowc f (l.take i)).length = i * sz := by rw [rowc_length hf, List.length_take, Nat.min_eq_left (by omega)]
  have h1 : l.set i y = l.take i ++ y :: l.drop (i + 1) := List.set_eq_take_append_cons_drop.trans (by simp [h])
  rw [h2, setx_append hl, setx_append_left (by rw [hf]; exact hj), h1, rowc_append, rowc_cons, hy]
theorem seg_setx {cs : List AV} {m o : Nat} {v : AV} (ho : o < m) (hm : m ≤ cs.length) : seg (setx cs o v) 0 m = setx (seg cs 0 m) o v := by
  refine List.ext_getElem? fun j => ?_
  have hl : (seg cs 0 m).length = m := by simp [seg]; omega
  rw [setx_get (by omega)]
  by_cases hj : j < m
  · rw [seg_get hj, setx_get (by omega), seg_get hj]
  · have h1 : (seg (setx cs o v) 0 m)[j]? = none := by
      refine List.getElem?_eq_none ?_
      simp [seg]; omega
    rw [h1, if_neg (by omega), List.getElem?_eq_none (by omega)]
theorem RowS.setx {p : Nat → Prop} {σ : AState} {x : AV} {c cs : List AV} {n sz b : Nat} {cap : Option Nat} (h : RowS p σ x c n sz b cap cs) {o : Nat} (ho : o < n * sz) (v : AV) : RowP p (σ.put b (Va.setx cs o v)) x (Va.setx c o v) n sz := by
  have hf := h.fit
  refine .inr ⟨b, cap, Va.setx cs o v, h.eq, h.own, h.lt, by rw [put_get, if_pos rfl], ?_, ?_, h.capd⟩
  · rw [h.seg, seg_setx ho hf]
  · rw [setx_length (by omega)]; omega
theorem pur_setx {s : AState} {al : Bool} {c : List AV} {v a : AV} {o : Nat} (hc : ∀ x ∈ c, Pur s al x x) (hv : Pur s al v a) (ho : o < c.length) : ∀ i (hi : i < (setx c o v).length) (hi' : i < (setx c o a).length), Pur s al (setx c o v)[i] (setx c o a)[i] := by
  intro i hi hi'
  have h1 := setx_get (cs := c) (i := o) (j := i) (a := v) (by omega)
  have h2 := setx_get (cs := c) (i := o) (j := i) (a := a) (by omega)
  rw [List.getElem?_eq_getElem hi] at h1
  rw [List.getElem?_eq_getElem hi'] at h2
  by_cases e : i = o
  · rw [if_pos e] at h1 h2
    rw [Option.some.inj h1, Option.some.inj h2]; exact hv
  · rw [if_neg e] at h1 h2
    have hl : i < c.length := by
      rcases Nat.lt_or_ge i c.length with h' | h'
      · exact h'
      · rw [List.getElem?_eq_none h'] at h1; cases h1
    rw [List.getElem?_eq_getElem hl] at h1 h2
    rw [Option.some.inj h1, Option.some.inj h2]
    exact hc _ (List.getElem_mem hl)
/- Fixed data is seen as itself. -/
theorem Pur.psl' {s : AState} {cs : List AV} {o n : Nat} (h : ∀ a ∈ cs, Pur s true a a) : Pur s true (.psl cs o n) (.psl cs o n) := .psl rfl _ _ _ _ rfl fun i hi _ => h _ (List.getElem_mem hi)
theorem rowc_pur {α : Type} {f : α → List AV} {s : AState} (hf : ∀ x, ∀ a ∈ f x, Pur s true a a) (l : List α) : ∀ a ∈ rowc f l, Pur s true a a := by
  intro a ha
  simp only [rowc, List.mem_flatten, List.mem_map] at ha
  obtain ⟨_, ⟨x, _, rfl⟩, h⟩ := ha
  exact hf x a h
theorem slc_pur {α : Type} {f : α → List AV} {s : AState} (hf : ∀ x, ∀ a ∈ f x, Pur s true a a) (l : List α) : Pur s true (slc f l) (slc f l) := .psl' (rowc_pur hf l)
theorem RowP.self {p : Nat → Prop} {σ : AState} {x : AV} {c : List AV} {n sz : Nat} (h : RowP p σ x c n sz) (hc : ∀ a ∈ c, Pur σ true a a) : Pur σ true x (.psl c 0 n) := h.pur true rfl fun i hi _ => hc _ (List.getElem_mem hi)
/- What is fixed stays so while the blocks that it stands in stay. -/
theorem Pur.move {s s' : AState} {al : Bool} {v a : AV} (h : Pur s al v a) (hk : ∀ b cs, s.cells b = some cs → s'.cells b = some cs) : Pur s' al v a := by
  induction h with
  | flat v h => exact .flat v h
  | ptr b off n cs cs' h hn hl hr ih => exact .ptr b off n cs cs' (hk _ _ h) hn hl ih
  | sl0 b off cap sz => exact .sl0 b off cap sz
  | nils cs off => exact .nils cs off
  | pse cs off => exact .pse cs off
  | sl b off len cap sz cs cs' h hn hl hr ih => exact .sl b off len cap sz cs cs' (hk _ _ h) hn hl ih
  | psl hal cs cs' off len hl hr ih => exact .psl hal cs cs' off len hl ih
  | pslc hal cs cs' off len n hn hl hr ih => exact .pslc hal cs cs' off len n hn hl ih
  | pptr hal cs cs' off hl hr ih => exact .pptr hal cs cs' off hl ih
  | fn f cs cs' hl hr ih => exact .fn f cs cs' hl ih
  | agg cs cs' hl hr ih => exact .agg cs cs' hl ih
  | tup cs cs' hl hr ih => exact .tup cs cs' hl ih
theorem pur_slots {s : AState} {al : Bool} {v a : AV} {m : Nat} (h : Pur s al v a) : Pur (addSlots s.n m s []) al v a := h.move fun b cs e => e
end Go.Proofs.Ytaokfpjjaejjgaa.Va
