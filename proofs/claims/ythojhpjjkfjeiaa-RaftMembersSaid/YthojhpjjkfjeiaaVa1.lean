/- Abstract memory: a new block, a cell that is read, cells that are written. Conditions: none. -/
import Derived.Test.YthojhpjjkfjeiaaVa0
set_option linter.unusedSimpArgs false
set_option linter.unusedVariables false
namespace Go.Proofs.Ythojhpjjkfjeiaa.Va
variable {P : Program}

def Know.bind (K : Know) (b : Nat) (x : Nat × Nat × Nat) : Know := { K with μ := fun b' => if b' = b then some x else K.μ b' }
theorem Know.le_bind {K : Know} {b : Nat} {x : Nat × Nat × Nat} (h : K.μ b = none) : K.le (K.bind b x) :=
  ⟨fun b' y e => by
    simp only [Know.bind]
    split
    · rename_i hb; subst hb; rw [h] at e; cases e
    · exact e, fun _ _ h => h, rfl, rfl, rfl, rfl, fun _ h => h, fun _ h => .inl h⟩

theorem World.cell_cells {w : World} {blk off : Nat} {arr : Array Value} {T : TypeId} {fz : Nat × Nat} (h : w.heap[blk]? = some (.cells arr T fz)) :
    w.cell? ⟨blk, off, none⟩ = arr[off]? := by
  simp [World.cell?, h]

/- A new abstract block that stands for nothing yet. -/
theorem Rel.grow {K : Know} {σ : AState} {w : World} (h : Rel K σ w) (o : ABlk) : Rel K (σ.push o) w := by
  have hf := h.fresh σ.n (Nat.le_refl _)
  refine ⟨fun b cs e x hx => ?_, fun b s p e x hx => ?_, fun b b' x x' hne h1 h2 hx hx' => ?_, h.fix, h.old, fun b hb => h.fresh b ?_, fun b hb => ⟨(h.res b hb).1, by have := (h.res b hb).2; simp only [AState.push]; omega⟩, h.os, h.tape, h.output⟩
  · simp only [AState.push, Tr.get_set] at e
    split at e
    · rename_i hb; subst hb; rw [hf] at hx; cases hx
    · exact h.cells b cs e x hx
  · simp only [AState.push, Tr.get_set] at e
    split at e
    · rename_i hb; subst hb; rw [hf] at hx; cases hx
    · exact h.iters b s p e x hx
  · have nb : b ≠ σ.n := fun e => by subst e; rw [hf] at hx; cases hx
    have nb' : b' ≠ σ.n := fun e => by subst e; rw [hf] at hx'; cases hx'
    simp only [AState.push, Tr.get_set, nb, nb', if_false] at h1 h2
    exact h.apart b b' x x' hne h1 h2 hx hx'
  · simp only [AState.push] at hb; omega

/- A block that stood for nothing comes to be. -/
theorem Rel.born {K : Know} {σ : AState} {w w' : World} (h : Rel K σ w) {id : Nat} (hid : K.μ id = none) (hlt : id < σ.n) (hres : K.res id = false) {ob : Obj} {room : Nat}
    (hw : w'.heap = w.heap.push ob) (hos : w'.os = w.os) (ht : w'.tape = w.tape) (hp : w'.output = w.output)
    (hc : ∀ cs, σ.h.get id = some (.cells cs) → ∃ arr T lo hi, ob = .cells arr T (lo, hi) ∧ (arr.size ≤ lo ∨ hi = lo) ∧ arr.size = room ∧ CR K cs arr 0 ∧ cs.length ≤ arr.size)
    (hit : ∀ s pos, σ.h.get id = some (.iter s pos) → ob = .stringIter ⟨s.toArray⟩ pos) :
    Rel (K.bind id (w.heap.size, 0, room)) σ w' := by
  have hle : K.le (K.bind id (w.heap.size, 0, room)) := Know.le_bind hid
  have hold : ∀ k, k < w.heap.size → w'.heap[k]? = w.heap[k]? := fun k hk => by rw [hw, Array.getElem?_push, if_neg (by omega)]
  have hnew : w'.heap[w.heap.size]? = some ob := by rw [hw]; simp
  have hfixlt : ∀ blk o, K.fix blk = some o → blk < w.heap.size := fun blk o e => (Array.getElem?_eq_some_iff.1 (h.fix blk o e)).1
  have hfixnew : K.fix w.heap.size = none := by
    cases e : K.fix w.heap.size with
    | none => rfl
    | some o => have := hfixlt _ _ e; omega
  have hμ : ∀ b x, (K.bind id (w.heap.size, 0, room)).μ b = some x → (b = id ∧ x = (w.heap.size, 0, room)) ∨ (b ≠ id ∧ K.μ b = some x) := by
    intro b x e
    simp only [Know.bind] at e
    split at e
    · rename_i hb; injection e with e; exact .inl ⟨hb, e.symm⟩
    · rename_i hb; exact .inr ⟨hb, e⟩
  refine ⟨fun b cs e x hx => ?_, fun b s p e x hx => ?_, fun b b' x x' hne h1 h2 hx hx' => ?_, fun blk o e => ?_, fun b x hx => ?_, fun b hb => ?_, fun b hb => ?_, hos.trans h.os, ht.trans h.tape, hp.trans h.output⟩
  · rcases hμ b x hx with ⟨rfl, rfl⟩ | ⟨hb, hx⟩
    · obtain ⟨arr, T, lo, hi, rfl, hfz, hroom, hcr, hlen⟩ := hc cs e
      exact ⟨arr, T, lo, hi, hnew, hfz, hroom, hcr.mono hle, by simpa using hlen, hfixnew⟩
    · obtain ⟨arr, T, lo, hi, hh, hfz, hroom, hcr, hlen, hfx⟩ := h.cells b cs e x hx
      exact ⟨arr, T, lo, hi, by rw [hold _ (h.old b x hx)]; exact hh, hfz, hroom, hcr.mono hle, hlen, hfx⟩
  · rcases hμ b x hx with ⟨rfl, rfl⟩ | ⟨hb, hx⟩
    · exact ⟨by rw [hnew, hit s p e], hfixnew, rfl⟩
    · obtain ⟨h1, h2, h3⟩ := h.iters b s p e x hx
      exact ⟨by rw [hold _ (h.old b x hx)]; exact h1, h2, h3⟩
  · rcases hμ b x hx with ⟨rfl, rfl⟩ | ⟨hb, hxx⟩ <;> rcases hμ b' x' hx' with ⟨rfl, rfl⟩ | ⟨hb', hxx'⟩
    · exact absurd rfl hne
    · have := h.old b' x' hxx'; simp only; omega
    · have := h.old b x hxx; simp only; omega
    · exact h.apart b b' x x' hne h1 h2 hxx hxx'
  · rw [hold _ (hfixlt _ _ e)]; exact h.fix blk o e
  · rw [hw, Array.size_push]
    rcases hμ b x hx with ⟨rfl, rfl⟩ | ⟨hb, hx⟩
    · simp
    · have := h.old b x hx; omega
  · have : b ≠ id := by omega
    simp only [Know.bind, this, if_false]
    exact h.fresh b hb
  · have : b ≠ id := fun e => by subst e; rw [show (K.bind b (w.heap.size, 0, room)).res b = K.res b from rfl, hres] at hb; cases hb
    simp only [Know.bind, this, if_false]
    exact h.res b hb

theorem Rel.res_n {K : Know} {σ : AState} {w : World} (h : Rel K σ w) : K.res σ.n = false := by
  cases e : K.res σ.n with
  | false => rfl
  | true => have := (h.res σ.n e).2; omega

/- A new block of cells, as the next abstract one. -/
theorem Rel.alloc {K : Know} {σ : AState} {w w' : World} (h : Rel K σ w) {arr : Array Value} {T : TypeId} {lo hi : Nat} {cs : List AV}
    (hw : w'.heap = w.heap.push (.cells arr T (lo, hi))) (hos : w'.os = w.os) (ht : w'.tape = w.tape) (hp : w'.output = w.output)
    (hfz : arr.size ≤ lo ∨ hi = lo) (hcr : CR K cs arr 0) (hlen : cs.length ≤ arr.size) :
    K.le (K.bind σ.n (w.heap.size, 0, arr.size)) ∧ Rel (K.bind σ.n (w.heap.size, 0, arr.size)) (σ.push (.cells cs)) w' := by
  have hf := h.fresh σ.n (Nat.le_refl _)
  refine ⟨Know.le_bind hf, (h.grow (.cells cs)).born hf (by simp [AState.push]) h.res_n hw hos ht hp (fun cs' e => ?_) (fun s pos e => ?_)⟩
  · simp [AState.push] at e
    subst e
    exact ⟨arr, T, lo, hi, rfl, hfz, rfl, hcr, hlen⟩
  · simp [AState.push] at e

theorem CR.of_list {K : Know} {cs : List AV} {vs : List Value} (h : VRL K cs vs) (rest : Array Value) : CR K cs (vs.toArray ++ rest) 0 := by
  intro i hi
  have hi' : i < vs.length := h.1 ▸ hi
  exact ⟨vs[i], by simp [hi', Array.getElem?_append], h.2 i hi hi'⟩

/- Where cells lie in the world. -/
def Lies (K : Know) (w : World) (cs : List AV) (blk base : Nat) : Prop := ∀ i (hi : i < cs.length), ∃ v, w.cell? ⟨blk, base + i, none⟩ = some v ∧ VR K cs[i] v

theorem Rel.lies {K : Know} {σ : AState} {w : World} (h : Rel K σ w) {b : Nat} {cs : List AV} (hb : σ.cells b = some cs) {x : Nat × Nat × Nat} (hx : K.μ b = some x) :
    Lies K w cs x.1 x.2.1 := by
  unfold AState.cells at hb
  split at hb
  · rename_i cs' e
    injection hb with hb; subst hb
    obtain ⟨arr, T, lo, hi, hh, -, -, hcr, -⟩ := h.cells b cs' e x hx
    intro i hi
    obtain ⟨v, e, r⟩ := hcr i hi
    exact ⟨v, by rw [World.cell_cells hh]; exact e, r⟩
  · cases hb
theorem Rel.lies_fix {K : Know} {σ : AState} {w : World} (h : Rel K σ w) {cs : List AV} {blk base : Nat} {arr : Array Value} {T : TypeId} {fz : Nat × Nat} {vs : Nat → Value}
    (hf : K.fix blk = some (.cells arr T fz)) (hv : ∀ i, i < cs.length → arr[base + i]? = some (vs i)) (hr : ∀ i (hi : i < cs.length), VR K cs[i] (vs i)) :
    Lies K w cs blk base := fun i hi => ⟨vs i, by rw [World.cell_cells (h.fix _ _ hf)]; exact hv i hi, hr i hi⟩

/- What a pointer, a slice lies over. -/
def base (σ : AState) : AV → Option (List AV × Nat)
  | .ptr b off => match σ.cells b with | some cs => some (cs, off) | none => none
  | .pptr cs off => some (cs, off)
  | .sl b off _ _ _ => match σ.cells b with | some cs => some (cs, off) | none => none
  | .psl cs off _ => some (cs, off)
  | _ => none

theorem base_ptr {K : Know} {σ : AState} {w : World} (h : Rel K σ w) {p : AV} {v : Value} (hp : VR K p v) {cs : List AV} {off : Nat} (hb : base σ p = some (cs, off))
    (hn : ∀ b o l c s, p ≠ .sl b o l c s) (hn' : ∀ c o l, p ≠ .psl c o l) :
    ∃ blk bs, v = .pointer (some ⟨blk, bs + off, none⟩) ∧ Lies K w cs blk bs := by
  cases hp with
  | ptr b off' blk bs room hμ =>
    simp only [base] at hb
    split at hb
    · rename_i cs' e
      simp only [Option.some.injEq, Prod.mk.injEq] at hb
      obtain ⟨rfl, rfl⟩ := hb
      exact ⟨blk, bs, rfl, h.lies e hμ⟩
    · cases hb
  | pptr cs' off' blk bs arr T fz vs hf hv hr =>
    simp only [base, Option.some.injEq, Prod.mk.injEq] at hb
    obtain ⟨rfl, rfl⟩ := hb
    exact ⟨blk, bs, rfl, h.lies_fix hf.1 hv hr⟩
  | sl => exact absurd rfl (hn _ _ _ _ _)
  | sl0 => exact absurd rfl (hn _ _ _ _ _)
  | psl => exact absurd rfl (hn' _ _ _)
  | psl0 => exact absurd rfl (hn' _ _ _)
  | pslN => exact absurd rfl (hn' _ _ _)
  | _ => simp [base] at hb

def AV.len : AV → Option Nat
  | .sl _ _ n _ _ => some n
  | .psl _ _ n => some n
  | .nils => some 0
  | .pse => some 0
  | .str s => some s.length
  | _ => none

theorem base_slice {K : Know} {σ : AState} {w : World} (h : Rel K σ w) {p : AV} {v : Value} (hp : VR K p v) {cs : List AV} {off n : Nat} (hb : base σ p = some (cs, off))
    (hn : ∀ b o, p ≠ .ptr b o) (hn' : ∀ c o, p ≠ .pptr c o) (hlen : p.len = some n) (hpos : 0 < n) :
    ∃ blk bs c, v = .slice (some ⟨blk, bs + off, none⟩) n c ∧ Lies K w cs blk bs := by
  cases hp with
  | sl b off' len c cap sz blk bs room hμ hc hl hroom =>
    simp only [base] at hb
    split at hb
    · rename_i cs' e
      simp only [Option.some.injEq, Prod.mk.injEq] at hb
      obtain ⟨rfl, rfl⟩ := hb
      simp only [AV.len, Option.some.injEq] at hlen
      subst hlen
      exact ⟨blk, bs, c, rfl, h.lies e hμ⟩
    · cases hb
  | psl cs' off' len c blk bs arr T fz vs hf hv hr hl =>
    simp only [base, Option.some.injEq, Prod.mk.injEq] at hb
    obtain ⟨rfl, rfl⟩ := hb
    simp only [AV.len, Option.some.injEq] at hlen
    subst hlen
    exact ⟨blk, bs, c, rfl, h.lies_fix hf.1 hv hr⟩
  | sl0 => simp [AV.len] at hlen; omega
  | psl0 => simp [AV.len] at hlen; omega
  | pslN => simp [AV.len] at hlen; omega
  | pse => simp [base] at hb
  | ptr => exact absurd rfl (hn _ _)
  | pptr => exact absurd rfl (hn' _ _)
  | _ => simp [base] at hb

/- Reading. -/
theorem Addr.add_none (blk o n : Nat) : (⟨blk, o, none⟩ : Addr).add n = ⟨blk, o + n, none⟩ := by
  unfold Addr.add; split
  · rename_i h; subst h; rfl
  · rfl

theorem run_load_lies {K : Know} {w : World} {cs : List AV} {blk bs off : Nat} (h : Lies K w cs blk bs) {a : AV} (ha : cs[off]? = some a) :
    ∃ v, (load ⟨blk, bs + off, none⟩).run P w = .ok v w ∧ VR K a v := by
  obtain ⟨hi, rfl⟩ := List.getElem?_eq_some_iff.1 ha
  obtain ⟨v, e, r⟩ := h off hi
  exact ⟨v, by simp [e], r⟩

def seg (cs : List AV) (off n : Nat) : List AV := (cs.drop off).take n

theorem run_loadCells_lies {K : Know} {w : World} {cs : List AV} {blk bs off n : Nat} (h : Lies K w cs blk bs) (hn : off + n ≤ cs.length) :
    ∃ vs : List Value, (loadCells ⟨blk, bs + off, none⟩ n).run P w = .ok vs.toArray w ∧ VRL K (seg cs off n) vs := by
  let f : Nat → Value := fun j => (w.cell? ⟨blk, bs + off + j, none⟩).getD undef
  have hf : ∀ j, j < n → w.cell? ((⟨blk, bs + off, none⟩ : Addr).add j) = some (f j) := fun j hj => by
    obtain ⟨v, e, r⟩ := h (off + j) (by omega)
    rw [Addr.add_none]
    have e' : w.cell? ⟨blk, bs + off + j, none⟩ = some v := by rw [show bs + off + j = bs + (off + j) by omega]; exact e
    simp [f, e']
  refine ⟨(List.range n).map f, run_loadCells w _ n f hf, by simp [seg]; omega, fun i hi hi' => ?_⟩
  simp only [seg, List.getElem_take, List.getElem_drop, List.getElem_map, List.getElem_range]
  obtain ⟨v, e, r⟩ := h (off + i) (by simp at hi'; omega)
  have e' : w.cell? ⟨blk, bs + off + i, none⟩ = some v := by rw [show bs + off + i = bs + (off + i) by omega]; exact e
  simpa [f, e'] using r

/- Writing. -/
def setx (cs : List AV) (i : Nat) (a : AV) : List AV := cs.take i ++ a :: cs.drop (i + 1)
theorem setx_length {cs : List AV} {i : Nat} {a : AV} (h : i ≤ cs.length) : (setx cs i a).length = max cs.length (i + 1) := by simp [setx]; omega
theorem setx_get {cs : List AV} {i j : Nat} {a : AV} (h : i ≤ cs.length) : (setx cs i a)[j]? = if j = i then some a else cs[j]? := by
  unfold setx
  rw [List.getElem?_append]
  simp only [List.length_take]
  by_cases hj : j < i
  · rw [if_pos (by omega), if_neg (by omega), List.getElem?_take, if_pos hj]
  · rw [if_neg (by omega)]
    by_cases e : j = i
    · subst e; simp [Nat.min_eq_left h]
    · rw [if_neg e]
      have : j - min i cs.length = (j - i - 1) + 1 := by omega
      rw [this, List.getElem?_cons_succ, List.getElem?_drop]
      congr 1; omega

theorem AState.cells_eq {σ : AState} {b : Nat} {cs : List AV} (h : σ.cells b = some cs) : σ.h.get b = some (.cells cs) := by
  unfold AState.cells at h
  split at h
  · rename_i cs' e; injection h with h; subst h; exact e
  · cases h

theorem Rel.store1 {K : Know} {σ : AState} {w : World} (h : Rel K σ w) {b : Nat} {cs : List AV} (hb : σ.cells b = some cs) {blk bs room : Nat} (hx : K.μ b = some (blk, bs, room))
    {i : Nat} (hi : i ≤ cs.length) (hroom : bs + i < room) {a : AV} {v : Value} (ha : VR K a v) (hone : a.one = true) :
    (store ⟨blk, bs + i, none⟩ v).run P w = .ok () (w.setCell ⟨blk, bs + i, none⟩ v) ∧ Rel K (σ.put b (setx cs i a)) (w.setCell ⟨blk, bs + i, none⟩ v) := by
  have hg := AState.cells_eq hb
  obtain ⟨arr, T, lo, hi', hh, hfz, hsz, hcr, hlen, hfx⟩ := h.cells b cs hg _ hx
  simp only at hh hsz hcr hlen hfx
  have hlt : bs + i < arr.size := by omega
  have hc : w.cell? ⟨blk, bs + i, none⟩ = some arr[bs + i] := by rw [World.cell_cells hh]; simp [hlt]
  have hfr : w.frozen? ⟨blk, bs + i, none⟩ = false := by
    simp only [World.frozen?, hh]
    rcases hfz with hfz | hfz
    · simp; omega
    · simp; omega
  have hblk : blk < w.heap.size := h.old b _ hx
  have hheap : ∀ k, (w.setCell ⟨blk, bs + i, none⟩ v).heap[k]? = if k = blk then some (.cells (arr.setIfInBounds (bs + i) v) T (lo, hi')) else w.heap[k]? := by
    intro k
    simp only [World.setCell, Array.getElem?_modify]
    by_cases e : k = blk
    · subst e; simp [hh]
    · have : ¬ blk = k := fun e' => e e'.symm
      simp [e, this]
  refine ⟨by rw [run_store P w _ v _ (ha.oneCell hone), hc]; simp [hfr], ?_⟩
  refine ⟨fun b' cs' e x hx' => ?_, fun b' s p e x hx' => ?_, fun b1 b2 x1 x2 hne h1 h2 hx1 hx2 => ?_, fun k o e => ?_, fun b' x hx' => ?_, h.fresh, h.res, h.os, h.tape, h.output⟩
  · simp only [AState.put, Tr.get_set] at e
    split at e
    · rename_i hb'; subst hb'
      rw [hx] at hx'
      injection hx' with hx'; subst hx'
      injection e with e; injection e with e; subst e
      refine ⟨arr.setIfInBounds (bs + i) v, T, lo, hi', by simp [hheap], by simpa using hfz, by simpa using hsz, ?_, by rw [setx_length hi]; simp; omega, hfx⟩
      intro j hj
      have hj' := hj
      rw [setx_length hi] at hj'
      have hgj := setx_get (cs := cs) (i := i) (j := j) (a := a) hi
      have hsj : (setx cs i a)[j]? = some (setx cs i a)[j] := by simp [hj]
      rw [hsj] at hgj
      simp only [Array.getElem?_setIfInBounds]
      by_cases e : j = i
      · subst e
        rw [if_pos rfl] at hgj
        injection hgj with hgj
        exact ⟨v, by simp [hlt], by rw [hgj]; exact ha⟩
      · rw [if_neg e] at hgj
        have hjc : j < cs.length := by
          rcases Nat.lt_or_ge j cs.length with h' | h'
          · exact h'
          · rw [List.getElem?_eq_none h'] at hgj; cases hgj
        obtain ⟨u, eu, ru⟩ := hcr j hjc
        have : ¬ bs + i = bs + j := by omega
        refine ⟨u, by rw [if_neg this]; exact eu, ?_⟩
        simp only [hjc, List.getElem?_eq_getElem, Option.some.injEq] at hgj
        rw [hgj]; exact ru
    · rename_i hb'
      obtain ⟨arr', T', lo', hi'', hh', rest⟩ := h.cells b' cs' e x hx'
      have hne : x.1 ≠ blk := by
        have := h.apart b' b x (blk, bs, room) hb' (by rw [e]; rfl) (by rw [hg]; rfl) hx' hx
        simpa using this
      exact ⟨arr', T', lo', hi'', by rw [hheap, if_neg hne]; exact hh', rest⟩
  · simp only [AState.put, Tr.get_set] at e
    split at e
    · cases e
    · rename_i hb'
      obtain ⟨h1, h2, h3⟩ := h.iters b' s p e x hx'
      have hne : x.1 ≠ blk := by
        have := h.apart b' b x (blk, bs, room) hb' (by rw [e]; rfl) (by rw [hg]; rfl) hx' hx
        simpa using this
      exact ⟨by rw [hheap, if_neg hne]; exact h1, h2, h3⟩
  · have old : ∀ b', ((σ.put b (setx cs i a)).h.get b').isSome → (σ.h.get b').isSome := by
      intro b' hs
      simp only [AState.put, Tr.get_set] at hs
      split at hs
      · rename_i e; subst e; rw [hg]; rfl
      · exact hs
    exact h.apart b1 b2 x1 x2 hne (old _ h1) (old _ h2) hx1 hx2
  · have hne : k ≠ blk := fun e' => by subst e'; rw [hfx] at e; cases e
    rw [hheap, if_neg hne]; exact h.fix k o e
  · simp only [World.setCell, Array.size_modify]; exact h.old b' x hx'

def sets (cs : List AV) (i : Nat) : List AV → List AV
  | [] => cs
  | a :: as => sets (setx cs i a) (i + 1) as

theorem AState.put_cells (σ : AState) (b : Nat) (cs : List AV) : (σ.put b cs).cells b = some cs := by simp [AState.cells, AState.put]

theorem Rel.stores {K : Know} {b blk bs room : Nat} (hx : K.μ b = some (blk, bs, room)) : ∀ (as : List AV) (vs : List Value) (j : Nat) (off : Nat) (σ : AState) (w : World) (cs : List AV),
    Rel K σ w → σ.cells b = some cs → off + j ≤ cs.length → bs + off + j + as.length ≤ room → VRL K as vs → as.all AV.one = true →
    ∃ σ' w', (storeCells ⟨blk, bs + off, none⟩ vs j).run P w = .ok () w' ∧ Rel K σ' w' ∧ σ'.n = σ.n ∧ (∀ b', σ'.h.get b' = if b' = b then some (.cells (sets cs (off + j) as)) else σ.h.get b') := by
  intro as
  induction as with
  | nil =>
    intro vs j off σ w cs h hb hi hroom hr hone
    have := hr.of_nil; subst this
    refine ⟨σ, w, by simp [storeCells], h, rfl, fun b' => ?_⟩
    split
    · rename_i e; subst e; exact AState.cells_eq hb
    · rfl
  | cons a as ih =>
    intro vs j off σ w cs h hb hi hroom hr hone
    obtain ⟨v, vs', rfl, ha, hr'⟩ := hr.of_cons
    simp only [List.all_cons, Bool.and_eq_true] at hone
    simp only [List.length_cons] at hroom
    obtain ⟨hrun, h1⟩ := h.store1 (P := P) hb hx (i := off + j) hi (by omega) ha hone.1
    obtain ⟨σ', w', hrun', h2, hn, hg⟩ := ih vs' (j + 1) off (σ.put b (setx cs (off + j) a)) _ (setx cs (off + j) a) h1 (AState.put_cells _ _ _) (by rw [setx_length hi]; omega) (by omega) hr' hone.2
    refine ⟨σ', w', ?_, h2, hn, fun b' => ?_⟩
    · rw [show bs + (off + j) = bs + off + j from by omega] at hrun hrun'
      simp only [storeCells, Sem.run_bind, Addr.add_none, hrun, Result.andThen]
      exact hrun'
    · rw [hg]
      by_cases e : b' = b
      · subst e; simp [sets, Nat.add_assoc]
      · simp [e, AState.put]
end Go.Proofs.Ythojhpjjkfjeiaa.Va
