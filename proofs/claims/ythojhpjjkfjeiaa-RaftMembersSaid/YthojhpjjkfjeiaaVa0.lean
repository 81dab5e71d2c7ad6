/- Abstract values, abstract memory, and what it means that they describe a world. Conditions: none. -/
import Derived.Orders
import Derived.Laws.Cells
import Derived.Laws.CopyRow
import Derived.Below
import Derived.KernelRfl
set_option linter.unusedSimpArgs false
set_option linter.unusedVariables false
namespace Go.Proofs.Ythojhpjjkfjeiaa.Va

/- A table by numbers, as a tree: quick for the kernel; for a proof two equations say all. -/
inductive Tr (α : Type) where
  | nil
  | node (v : Option α) (l r : Tr α)

namespace Tr
variable {α : Type}
def get : Tr α → Nat → Option α
  | .nil, _ => none
  | .node v l r, k => bif Nat.beq k 0 then v else bif Nat.beq (Nat.mod k 2) 1 then l.get (Nat.div k 2) else r.get (Nat.div k 2 - 1)
def setF : Nat → Tr α → Nat → Option α → Tr α
  | 0, t, _, _ => t
  | f + 1, .nil, k, x => bif Nat.beq k 0 then .node x .nil .nil else bif Nat.beq (Nat.mod k 2) 1 then .node none (setF f .nil (Nat.div k 2) x) .nil else .node none .nil (setF f .nil (Nat.div k 2 - 1) x)
  | f + 1, .node v l r, k, x => bif Nat.beq k 0 then .node x l r else bif Nat.beq (Nat.mod k 2) 1 then .node v (setF f l (Nat.div k 2) x) r else .node v l (setF f r (Nat.div k 2 - 1) x)
def set (t : Tr α) (k : Nat) (x : Option α) : Tr α := setF (k + 1) t k x

theorem beq_no {a b : Nat} (h : ¬ a = b) : Nat.beq a b = false := Bool.eq_false_iff.2 fun e => h (Nat.eq_of_beq_eq_true e)
theorem beq_yes {a b : Nat} (h : a = b) : Nat.beq a b = true := by subst h; exact Nat.beq_refl a
theorem get_setF : ∀ (f : Nat) (t : Tr α) (k j : Nat) (x : Option α), k < f → (setF f t k x).get j = if j = k then x else t.get j := by
  intro f
  induction f with
  | zero => intro t k j x h; omega
  | succ f ih =>
    intro t k j x h
    have hm : ∀ n : Nat, Nat.mod n 2 = n % 2 := fun _ => rfl
    have hd : ∀ n : Nat, Nat.div n 2 = n / 2 := fun _ => rfl
    have key : ∀ (v : Option α) (l r : Tr α),
        get (bif Nat.beq k 0 then .node x l r else bif Nat.beq (Nat.mod k 2) 1 then .node v (setF f l (Nat.div k 2) x) r else .node v l (setF f r (Nat.div k 2 - 1) x)) j = if j = k then x else get (.node v l r) j := by
      intro v l r
      simp only [hm, hd]
      by_cases k0 : k = 0
      · subst k0
        simp only [Nat.beq_refl, cond_true, get, hm, hd]
        by_cases j0 : j = 0
        · subst j0; simp
        · have : Nat.beq j 0 = false := beq_no j0
          simp [this, j0]
      · have hk0 : Nat.beq k 0 = false := beq_no k0
        simp only [hk0, cond_false]
        by_cases k1 : k % 2 = 1
        · have hk1 : Nat.beq (k % 2) 1 = true := beq_yes k1
          simp only [hk1, cond_true, get, hm, hd]
          by_cases j0 : j = 0
          · subst j0; have : ¬ 0 = k := by omega
            simp [this]
          · have hj0 : Nat.beq j 0 = false := beq_no j0
            simp only [hj0, cond_false]
            by_cases j1 : j % 2 = 1
            · have hj1 : Nat.beq (j % 2) 1 = true := beq_yes j1
              simp only [hj1, cond_true]
              rw [ih _ _ _ _ (by omega)]
              by_cases e : j = k
              · subst e; simp
              · have : ¬ j / 2 = k / 2 := by omega
                simp [e, this]
            · have hj1 : Nat.beq (j % 2) 1 = false := beq_no j1
              have : ¬ j = k := by intro e; subst e; exact j1 k1
              simp [hj1, this]
        · have hk1 : Nat.beq (k % 2) 1 = false := beq_no k1
          simp only [hk1, cond_false, get, hm, hd]
          by_cases j0 : j = 0
          · subst j0; have : ¬ 0 = k := by omega
            simp [this]
          · have hj0 : Nat.beq j 0 = false := beq_no j0
            simp only [hj0, cond_false]
            by_cases j1 : j % 2 = 1
            · have hj1 : Nat.beq (j % 2) 1 = true := beq_yes j1
              have : ¬ j = k := by intro e; subst e; exact k1 j1
              simp [hj1, this]
            · have hj1 : Nat.beq (j % 2) 1 = false := beq_no j1
              simp only [hj1, cond_false]
              rw [ih _ _ _ _ (by omega)]
              by_cases e : j = k
              · subst e; simp
              · have : ¬ j / 2 - 1 = k / 2 - 1 := by omega
                simp [e, this]
    cases t with
    | nil =>
      have := key none .nil .nil
      simp only [setF]
      rw [this]
      have hnil : get (.node none .nil .nil : Tr α) j = none := by
        simp only [get]; cases Nat.beq j 0 <;> simp
      rw [hnil]; rfl
    | node v l r => simpa only [setF] using key v l r

@[simp] theorem get_set (t : Tr α) (k j : Nat) (x : Option α) : (t.set k x).get j = if j = k then x else t.get j :=
  get_setF _ _ _ _ _ (by omega)
@[simp] theorem get_nil (j : Nat) : (Tr.nil : Tr α).get j = none := rfl
end Tr

/- Abstract values. 'ptr', 'sl': into a block that the call has made (by its abstract number); 'pptr', 'psl': into cells that are never written again, given with what they hold ('psl' of length 0: also nil). 'pse': a row that is empty, not nil. -/
inductive AV where
  | undef
  | bool (b : Bool)
  | int (k : IntKind) (n : Int)
  | str (s : List UInt8)
  | nilp
  | ptr (b off : Nat)
  | pptr (cs : List AV) (off : Nat)
  | nils
  | sl (b off len : Nat) (cap : Option Nat) (sz : Nat)
  | psl (cs : List AV) (off len : Nat)
  | pse
  | fn (f : FuncId) (cap : List AV)
  | nilf
  | agg (cs : List AV)
  | tup (vs : List AV)
  | nili

instance : Inhabited AV := ⟨.undef⟩

inductive ABlk where
  | cells (cs : List AV)
  | iter (s : List UInt8) (pos : Nat)

structure AState where
  n : Nat
  h : Tr ABlk

def AState.cells (σ : AState) (b : Nat) : Option (List AV) :=
  match σ.h.get b with
  | some (.cells cs) => some cs
  | _ => none
def AState.put (σ : AState) (b : Nat) (cs : List AV) : AState := { σ with h := σ.h.set b (some (.cells cs)) }
def AState.kill (σ : AState) (b : Nat) : AState := { σ with h := σ.h.set b none }
def AState.push (σ : AState) (o : ABlk) : AState := { n := σ.n + 1, h := σ.h.set σ.n (some o) }

/- What is known of the world: which block stands for which abstract one (its number, where it begins, how many cells the block has); which blocks stay as they are. -/
structure Know where
  μ : Nat → Option (Nat × Nat × Nat)
  fix : Nat → Option Obj
  os : Os
  tape : Nat → Question → Nat
  output : Array (Nat × ByteArray)
  res : Nat → Bool        -- numbers that are kept free
  sh : Nat → Prop        -- blocks to which fixed data may point
/- A block that stays as it is, and to which fixed data may point. -/
def Know.fx (K : Know) (blk : Nat) (o : Obj) : Prop := K.fix blk = some o ∧ K.sh blk

/- More is known. -/
structure Know.sub (K K' : Know) : Prop where
  μ : ∀ b x, K.μ b = some x → K'.μ b = some x
  fix : ∀ b o, K.fix b = some o → K'.fix b = some o
  sh : ∀ b, K.sh b → K'.sh b
  new : ∀ b, K'.sh b → K.sh b ∨ K.fix b = none
structure Know.le (K K' : Know) : Prop where
  μ : ∀ b x, K.μ b = some x → K'.μ b = some x
  fix : ∀ b o, K.fix b = some o → K'.fix b = some o
  os : K'.os = K.os
  tape : K'.tape = K.tape
  output : K'.output = K.output
  res : K'.res = K.res
  sh : ∀ b, K.sh b → K'.sh b
  new : ∀ b, K'.sh b → K.sh b ∨ K.fix b = none

theorem Know.new_trans {K K' K'' : Know} (hf : ∀ b o, K.fix b = some o → K'.fix b = some o) (h : ∀ b, K'.sh b → K.sh b ∨ K.fix b = none) (h' : ∀ b, K''.sh b → K'.sh b ∨ K'.fix b = none) : ∀ b, K''.sh b → K.sh b ∨ K.fix b = none := by
  intro b hb
  rcases h' b hb with h1 | h1
  · exact h b h1
  · refine .inr ?_
    cases e : K.fix b with
    | none => rfl
    | some o => rw [hf b o e] at h1; cases h1
theorem Know.le.refl (K : Know) : K.le K := ⟨fun _ _ h => h, fun _ _ h => h, rfl, rfl, rfl, rfl, fun _ h => h, fun _ h => .inl h⟩
theorem Know.le.trans {K K' K'' : Know} (h : K.le K') (h' : K'.le K'') : K.le K'' :=
  ⟨fun b x e => h'.μ b x (h.μ b x e), fun b x e => h'.fix b x (h.fix b x e), h'.os.trans h.os, h'.tape.trans h.tape, h'.output.trans h.output, h'.res.trans h.res, fun b e => h'.sh b (h.sh b e), Know.new_trans h.fix h.new h'.new⟩
theorem Know.le.sub {K K' : Know} (h : K.le K') : K.sub K' := ⟨h.μ, h.fix, h.sh, h.new⟩
theorem Know.sub.trans {K K' K'' : Know} (h : K.sub K') (h' : K'.sub K'') : K.sub K'' := ⟨fun b x e => h'.μ b x (h.μ b x e), fun b x e => h'.fix b x (h.fix b x e), fun b e => h'.sh b (h.sh b e), Know.new_trans h.fix h.new h'.new⟩
theorem Know.sub.fx {K K' : Know} (h : K.sub K') {b : Nat} {o : Obj} (e : K.fx b o) : K'.fx b o := ⟨h.fix b o e.1, h.sh b e.2⟩

inductive VR (K : Know) : AV → Value → Prop
  | undef (v : Value) : VR K .undef v
  | bool (b : Bool) : VR K (.bool b) (.bool b)
  | int (k : IntKind) (n : Int) : VR K (.int k n) (.int k n)
  | str (l : List UInt8) : VR K (.str l) (.string ⟨l.toArray⟩)
  | nilp : VR K .nilp (.pointer none)
  | ptr (b off blk base room : Nat) (h : K.μ b = some (blk, base, room)) : VR K (.ptr b off) (.pointer (some ⟨blk, base + off, none⟩))
  | pptr (cs : List AV) (off blk base : Nat) (arr : Array Value) (T : TypeId) (fz : Nat × Nat) (vs : Nat → Value)
      (h : K.fx blk (.cells arr T fz)) (hv : ∀ i, i < cs.length → arr[base + i]? = some (vs i))
      (hr : ∀ i (hi : i < cs.length), VR K cs[i] (vs i)) : VR K (.pptr cs off) (.pointer (some ⟨blk, base + off, none⟩))
  | nils : VR K .nils (.slice none 0 0)
  | sl (b off len c : Nat) (cap : Option Nat) (sz blk base room : Nat) (h : K.μ b = some (blk, base, room)) (hc : ∀ c', cap = some c' → c = c')
      (hl : len ≤ c) (hroom : base + off + c * sz ≤ room) : VR K (.sl b off len cap sz) (.slice (some ⟨blk, base + off, none⟩) len c)
  | sl0 (b off : Nat) (cap : Option Nat) (sz : Nat) (blk o : Nat) (hc : ∀ c', cap = some c' → 0 = c') : VR K (.sl b off 0 cap sz) (.slice (some ⟨blk, o, none⟩) 0 0)
  | psl (cs : List AV) (off len c blk base : Nat) (arr : Array Value) (T : TypeId) (fz : Nat × Nat) (vs : Nat → Value)
      (h : K.fx blk (.cells arr T fz)) (hv : ∀ i, i < cs.length → arr[base + i]? = some (vs i))
      (hr : ∀ i (hi : i < cs.length), VR K cs[i] (vs i)) (hl : len ≤ c) : VR K (.psl cs off len) (.slice (some ⟨blk, base + off, none⟩) len c)
  | psl0 (cs : List AV) (off c : Nat) (a : Addr) : VR K (.psl cs off 0) (.slice (some a) 0 c)
  | pslN (cs : List AV) (off : Nat) : VR K (.psl cs off 0) (.slice none 0 0)
  | pse (c : Nat) (a : Addr) : VR K .pse (.slice (some a) 0 c)
  | fn (f : FuncId) (cap : List AV) (vs : List Value) (hl : cap.length = vs.length) (hr : ∀ i (hi : i < cap.length) (hi' : i < vs.length), VR K cap[i] vs[i]) :
      VR K (.fn f cap) (.func (.func f) #[] vs.toArray)
  | nilf : VR K .nilf .nilFunc
  | agg (cs : List AV) (vs : List Value) (hl : cs.length = vs.length) (hr : ∀ i (hi : i < cs.length) (hi' : i < vs.length), VR K cs[i] vs[i]) :
      VR K (.agg cs) (.agg vs.toArray)
  | tup (cs : List AV) (vs : List Value) (hl : cs.length = vs.length) (hr : ∀ i (hi : i < cs.length) (hi' : i < vs.length), VR K cs[i] vs[i]) :
      VR K (.tup cs) (.tuple vs.toArray)
  | nili : VR K .nili .nilIface

theorem VR.sub {K K' : Know} (hK : K.sub K') {a : AV} {v : Value} (h : VR K a v) : VR K' a v := by
  induction h with
  | undef v => exact .undef v
  | bool b => exact .bool b
  | int k n => exact .int k n
  | str s => exact .str s
  | nilp => exact .nilp
  | ptr b off blk base room h => exact .ptr b off blk base room (hK.μ _ _ h)
  | pptr cs off blk base arr T fz vs h hv hr ih => exact .pptr cs off blk base arr T fz vs (hK.fx h) hv ih
  | nils => exact .nils
  | sl b off len c cap sz blk base room h hc hl hroom => exact .sl b off len c cap sz blk base room (hK.μ _ _ h) hc hl hroom
  | sl0 b off cap sz blk o hc => exact .sl0 b off cap sz blk o hc
  | psl cs off len c blk base arr T fz vs h hv hr hl ih => exact .psl cs off len c blk base arr T fz vs (hK.fx h) hv ih hl
  | psl0 cs off c a => exact .psl0 cs off c a
  | pslN cs off => exact .pslN cs off
  | pse c a => exact .pse c a
  | fn f cap vs hl hr ih => exact .fn f cap vs hl ih
  | nilf => exact .nilf
  | agg cs vs hl hr ih => exact .agg cs vs hl ih
  | tup cs vs hl hr ih => exact .tup cs vs hl ih
  | nili => exact .nili

theorem VR.mono {K K' : Know} (hK : K.le K') {a : AV} {v : Value} (h : VR K a v) : VR K' a v := h.sub hK.sub

/- Lists of values. -/
def VRL (K : Know) (cs : List AV) (vs : List Value) : Prop := cs.length = vs.length ∧ ∀ i (hi : i < cs.length) (hi' : i < vs.length), VR K cs[i] vs[i]

namespace VRL
variable {K : Know}
theorem mono {K' : Know} (hK : K.le K') {cs : List AV} {vs : List Value} (h : VRL K cs vs) : VRL K' cs vs := ⟨h.1, fun i hi hi' => (h.2 i hi hi').mono hK⟩
theorem nil : VRL K [] [] := ⟨rfl, fun i hi => by simp at hi⟩
theorem cons {a : AV} {v : Value} {cs : List AV} {vs : List Value} (h : VR K a v) (hs : VRL K cs vs) : VRL K (a :: cs) (v :: vs) :=
  ⟨by simp [hs.1], fun i hi hi' => by
    cases i with
    | zero => simpa using h
    | succ i => simpa using hs.2 i (by simpa using hi) (by simpa using hi')⟩
theorem of_nil {vs : List Value} (h : VRL K [] vs) : vs = [] := List.eq_nil_of_length_eq_zero (by simpa using h.1.symm)
theorem of_cons {a : AV} {cs : List AV} {vs : List Value} (h : VRL K (a :: cs) vs) : ∃ v vs', vs = v :: vs' ∧ VR K a v ∧ VRL K cs vs' := by
  cases vs with
  | nil => have := h.1; simp at this
  | cons v vs => exact ⟨v, vs, rfl, h.2 0 (by simp) (by simp), by simpa using h.1, fun i hi hi' => h.2 (i + 1) (by simpa using hi) (by simpa using hi')⟩
theorem append {cs ds : List AV} {vs us : List Value} (h : VRL K cs vs) (h' : VRL K ds us) : VRL K (cs ++ ds) (vs ++ us) := by
  refine ⟨by simp [h.1, h'.1], fun i hi hi' => ?_⟩
  by_cases hlt : i < cs.length
  · rw [List.getElem_append_left hlt, List.getElem_append_left (h.1 ▸ hlt)]; exact h.2 i hlt _
  · rw [List.getElem_append_right (by omega), List.getElem_append_right (by have := h.1; omega)]
    have e : i - cs.length = i - vs.length := by rw [h.1]
    have := h'.2 (i - cs.length) (by simp at hi; omega) (by have := h'.1; simp at hi; omega)
    simpa only [e] using this
theorem get {cs : List AV} {vs : List Value} (h : VRL K cs vs) {i : Nat} {a : AV} (ha : cs[i]? = some a) : ∃ v, vs[i]? = some v ∧ VR K a v := by
  obtain ⟨hi, rfl⟩ := List.getElem?_eq_some_iff.1 ha
  exact ⟨vs[i]'(h.1 ▸ hi), by simp [h.1 ▸ hi], h.2 i hi _⟩
theorem drop {cs : List AV} {vs : List Value} (h : VRL K cs vs) (n : Nat) : VRL K (cs.drop n) (vs.drop n) :=
  ⟨by simp [h.1], fun i hi hi' => by simp only [List.getElem_drop]; exact h.2 _ (by simp at hi; omega) (by simp at hi'; omega)⟩
theorem take {cs : List AV} {vs : List Value} (h : VRL K cs vs) (n : Nat) : VRL K (cs.take n) (vs.take n) :=
  ⟨by simp [h.1], fun i hi hi' => by simp only [List.getElem_take]; exact h.2 _ (by simp at hi; omega) (by simp at hi'; omega)⟩
theorem set {cs : List AV} {vs : List Value} (h : VRL K cs vs) (n : Nat) {a : AV} {v : Value} (ha : VR K a v) : VRL K (cs.set n a) (vs.set n v) :=
  ⟨by simp [h.1], fun i hi hi' => by
    simp only [List.getElem_set]
    split
    · exact ha
    · exact h.2 _ (by simpa using hi) (by simpa using hi')⟩
theorem one {a : AV} {v : Value} (h : VR K a v) : VRL K [a] [v] := cons h nil
theorem replicate {a : AV} {v : Value} (h : VR K a v) (n : Nat) : VRL K (List.replicate n a) (List.replicate n v) :=
  ⟨by simp, fun i hi hi' => by simpa using h⟩
end VRL

/- The cells of a value, as a variable of its type holds them. -/
def AV.cells : AV → List AV
  | .agg cs => cs
  | v => [v]
/- What may lie in one cell. -/
def AV.one : AV → Bool
  | .agg _ | .tup _ | .undef => false
  | _ => true

theorem VR.oneCell {K : Know} {a : AV} {v : Value} (h : VR K a v) (ha : a.one = true) : v.oneCell' = true := by
  cases h <;> simp_all [AV.one, Value.oneCell']
theorem VR.cells {K : Know} {a : AV} {v : Value} (h : VR K a v) (ha : a ≠ .undef) : VRL K a.cells v.cells.toList := by
  cases h with
  | undef v => exact absurd rfl ha
  | agg cs vs hl hr => exact ⟨by simpa [AV.cells, Value.cells] using hl, by simpa [AV.cells, Value.cells] using hr⟩
  | _ => simp only [AV.cells, Value.cells]; exact VRL.one (by constructor <;> assumption)

/- Cells of a block, from 'base' on. -/
def CR (K : Know) (cs : List AV) (arr : Array Value) (base : Nat) : Prop := ∀ i (hi : i < cs.length), ∃ v, arr[base + i]? = some v ∧ VR K cs[i] v

theorem CR.sub {K K' : Know} (hK : K.sub K') {cs : List AV} {arr : Array Value} {base : Nat} (h : CR K cs arr base) : CR K' cs arr base :=
  fun i hi => let ⟨v, e, r⟩ := h i hi; ⟨v, e, r.sub hK⟩
theorem CR.mono {K K' : Know} (hK : K.le K') {cs : List AV} {arr : Array Value} {base : Nat} (h : CR K cs arr base) : CR K' cs arr base :=
  fun i hi => let ⟨v, e, r⟩ := h i hi; ⟨v, e, r.mono hK⟩
theorem CR.fits {K : Know} {cs : List AV} {arr : Array Value} {base : Nat} (h : CR K cs arr base) (hne : 0 < cs.length) : base + cs.length ≤ arr.size := by
  obtain ⟨v, e, _⟩ := h (cs.length - 1) (by omega)
  have := (Array.getElem?_eq_some_iff.1 e).1
  omega

/- The abstract memory describes the world. -/
structure Rel (K : Know) (σ : AState) (w : World) : Prop where
  cells : ∀ b cs, σ.h.get b = some (.cells cs) → ∀ x, K.μ b = some x →
    ∃ arr T lo hi, w.heap[x.1]? = some (.cells arr T (lo, hi)) ∧ (arr.size ≤ lo ∨ hi = lo) ∧ arr.size = x.2.2 ∧ CR K cs arr x.2.1 ∧ x.2.1 + cs.length ≤ arr.size ∧ K.fix x.1 = none
  iters : ∀ b s pos, σ.h.get b = some (.iter s pos) → ∀ x, K.μ b = some x →
    w.heap[x.1]? = some (.stringIter ⟨s.toArray⟩ pos) ∧ K.fix x.1 = none ∧ x.2.1 = 0
  apart : ∀ b b' x x', b ≠ b' → (σ.h.get b).isSome → (σ.h.get b').isSome → K.μ b = some x → K.μ b' = some x' → x.1 ≠ x'.1
  fix : ∀ blk o, K.fix blk = some o → w.heap[blk]? = some o
  old : ∀ b x, K.μ b = some x → x.1 < w.heap.size
  fresh : ∀ b, σ.n ≤ b → K.μ b = none
  res : ∀ b, K.res b = true → K.μ b = none ∧ b < σ.n
  os : w.os = K.os
  tape : w.tape = K.tape
  output : w.output = K.output

/- Only the heap and the streams count. -/
theorem Rel.congr {K : Know} {σ : AState} {w w' : World} (h : Rel K σ w) (hh : w'.heap = w.heap) (ho : w'.os = w.os) (ht : w'.tape = w.tape) (hp : w'.output = w.output) : Rel K σ w' :=
  ⟨fun b cs e x hx => by rw [hh]; exact h.cells b cs e x hx, fun b s p e x hx => by rw [hh]; exact h.iters b s p e x hx, h.apart,
   fun b o e => by rw [hh]; exact h.fix b o e, fun b x e => by rw [hh]; exact h.old b x e, h.fresh, h.res, ho.trans h.os, ht.trans h.tape, hp.trans h.output⟩

/- Forgetting a block, or several. -/
theorem Rel.weaken {K : Know} {σ σ' : AState} {w : World} (h : Rel K σ w) (hn : σ'.n = σ.n) (hh : ∀ b o, σ'.h.get b = some o → σ.h.get b = some o) : Rel K σ' w :=
  ⟨fun b cs e => h.cells b cs (hh _ _ e), fun b s p e => h.iters b s p (hh _ _ e),
   fun b b' x x' hne h1 h2 => by
     obtain ⟨o, ho⟩ := Option.isSome_iff_exists.1 h1
     obtain ⟨o', ho'⟩ := Option.isSome_iff_exists.1 h2
     exact h.apart b b' x x' hne (by rw [hh _ _ ho]; rfl) (by rw [hh _ _ ho']; rfl),
   h.fix, h.old, fun b hb => h.fresh b (hn ▸ hb), fun b hb => by rw [hn]; exact h.res b hb, h.os, h.tape, h.output⟩
theorem Rel.kill {K : Know} {σ : AState} {w : World} (h : Rel K σ w) (b : Nat) : Rel K (σ.kill b) w :=
  h.weaken rfl fun b' o e => by
    simp only [AState.kill, Tr.get_set] at e
    split at e
    · cases e
    · exact e

end Go.Proofs.Ythojhpjjkfjeiaa.Va
