/- What has been built may be seen as fixed data: contracts over fixed data serve in every state. Conditions: none. -/
import Derived.Test.YthojhpjjkfjeiaaVaG
set_option linter.unusedSimpArgs false
set_option linter.unusedVariables false
namespace Go.Proofs.Ythojhpjjkfjeiaa.Va
open Go.ChangeShapes Go.WideShapes Go.ChangeAt Go.RowKit
variable {P : Program}

def AV.flat : AV → Bool
  | .undef | .bool _ | .int _ _ | .str _ | .nilp | .nils | .nilf | .nili => true
  | _ => false

/- 'v', in the state s, is the fixed data 'a'; 'al': may 'v' itself hold fixed data? -/
inductive Pur (s : AState) (al : Bool) : AV → AV → Prop
  | flat (v : AV) (h : v.flat = true) : Pur s al v v
  | ptr (b off n : Nat) (cs cs' : List AV) (h : s.cells b = some cs) (hn : off + n ≤ cs.length) (hl : cs'.length = n) (hr : ∀ i (hi : off + i < cs.length) (hi' : i < cs'.length), Pur s al cs[off + i] cs'[i]) : Pur s al (.ptr b off) (.pptr cs' 0)
  | sl0 (b off : Nat) (cap : Option Nat) (sz : Nat) : Pur s al (.sl b off 0 cap sz) (.psl [] 0 0)
  | nils (cs : List AV) (off : Nat) : Pur s al .nils (.psl cs off 0)
  | pse (cs : List AV) (off : Nat) : Pur s al .pse (.psl cs off 0)
  | sl (b off len : Nat) (cap : Option Nat) (sz : Nat) (cs cs' : List AV) (h : s.cells b = some cs) (hn : off + len * sz ≤ cs.length) (hl : cs'.length = len * sz)
      (hr : ∀ i (hi : off + i < cs.length) (hi' : i < cs'.length), Pur s al cs[off + i] cs'[i]) : Pur s al (.sl b off len cap sz) (.psl cs' 0 len)
  | psl (hal : al = true) (cs cs' : List AV) (off len : Nat) (hl : cs'.length = cs.length) (hr : ∀ i (hi : i < cs.length) (hi' : i < cs'.length), Pur s al cs[i] cs'[i]) : Pur s al (.psl cs off len) (.psl cs' off len)
  | pslc (hal : al = true) (cs cs' : List AV) (off len n : Nat) (hn : off + n ≤ cs.length) (hl : cs'.length = n) (hr : ∀ i (hi : off + i < cs.length) (hi' : i < cs'.length), Pur s al cs[off + i] cs'[i]) : Pur s al (.psl cs off len) (.psl cs' 0 len)
  | pptr (hal : al = true) (cs cs' : List AV) (off : Nat) (hl : cs'.length = cs.length) (hr : ∀ i (hi : i < cs.length) (hi' : i < cs'.length), Pur s al cs[i] cs'[i]) : Pur s al (.pptr cs off) (.pptr cs' off)
  | fn (f : FuncId) (cs cs' : List AV) (hl : cs'.length = cs.length) (hr : ∀ i (hi : i < cs.length) (hi' : i < cs'.length), Pur s al cs[i] cs'[i]) : Pur s al (.fn f cs) (.fn f cs')
  | agg (cs cs' : List AV) (hl : cs'.length = cs.length) (hr : ∀ i (hi : i < cs.length) (hi' : i < cs'.length), Pur s al cs[i] cs'[i]) : Pur s al (.agg cs) (.agg cs')
  | tup (cs cs' : List AV) (hl : cs'.length = cs.length) (hr : ∀ i (hi : i < cs.length) (hi' : i < cs'.length), Pur s al cs[i] cs'[i]) : Pur s al (.tup cs) (.tup cs')

theorem pur_ok {K K' : Know} {s : AState} {al : Bool} {w : World} (hr : Rel K s w) (hO : ∀ b cs x, s.h.get b = some (.cells cs) → K.μ b = some x → K'.fix x.1 = w.heap[x.1]? ∧ K'.sh x.1)
    (hP : al = true → ∀ blk o, K.fx blk o → K'.fx blk o) {v a : AV} (h : Pur s al v a) : ∀ x, VR K v x → VR K' a x := by
  induction h with
  | flat v hf =>
    intro x hx
    cases v <;> first | (cases hf; done) | (cases hx; constructor)
  | ptr b off n cs cs' h hn hl hr' ih =>
    intro x hx
    cases hx with
    | ptr _ _ blk base room hμ =>
      have hg := AState.cells_eq h
      obtain ⟨arr, T, lo, hi, hh, _, hsz, hcr, hlen, _⟩ := hr.cells b cs hg _ hμ
      have hfix := hO b cs _ hg hμ
      simp only at hh hsz hcr hlen hfix
      rw [hh] at hfix
      have := VR.pptr (K := K') cs' 0 blk (base + off) arr T (lo, hi) (fun i => (arr[base + off + i]?).getD (.bool false)) hfix
        (fun i hi' => by
          obtain ⟨u, eu, _⟩ := hcr (off + i) (by omega)
          rw [← Nat.add_assoc] at eu
          rw [eu]; rfl)
        (fun i hi' => by
          obtain ⟨u, eu, ru⟩ := hcr (off + i) (by omega)
          rw [← Nat.add_assoc] at eu
          simp only [eu, Option.getD_some]
          exact ih i (by omega) hi' u ru)
      simpa using this
  | sl0 b off cap sz =>
    intro x hx
    cases hx with
    | sl _ _ _ c _ _ blk base room hμ hc hl hroom => exact .psl0 _ _ _ _
    | sl0 _ _ _ _ blk o hc => exact .psl0 _ _ _ _
  | nils cs off =>
    intro x hx
    cases hx
    exact .pslN _ _
  | pse cs off =>
    intro x hx
    cases hx
    exact .psl0 _ _ _ _
  | sl b off len cap sz cs cs' h hn hl hr' ih =>
    intro x hx
    cases hx with
    | sl _ _ _ c _ _ blk base room hμ hc hlc hroom =>
      have hg := AState.cells_eq h
      obtain ⟨arr, T, lo, hi, hh, _, hsz, hcr, hlen, _⟩ := hr.cells b cs hg _ hμ
      have hfix := hO b cs _ hg hμ
      simp only at hh hsz hcr hlen hfix
      rw [hh] at hfix
      have := VR.psl (K := K') cs' 0 len c blk (base + off) arr T (lo, hi) (fun i => (arr[base + off + i]?).getD (.bool false)) hfix
        (fun i hi' => by
          obtain ⟨u, eu, _⟩ := hcr (off + i) (by omega)
          rw [← Nat.add_assoc] at eu
          rw [eu]; rfl)
        (fun i hi' => by
          obtain ⟨u, eu, ru⟩ := hcr (off + i) (by omega)
          rw [← Nat.add_assoc] at eu
          simp only [eu, Option.getD_some]
          exact ih i (by omega) hi' u ru) hlc
      simpa using this
    | sl0 _ _ _ _ blk o hc => exact .psl0 _ _ _ _
  | psl hal cs cs' off len hl hr' ih =>
    intro x hx
    cases hx with
    | psl _ _ _ c blk base arr T fz vs hf hv hvr hlc =>
      exact .psl cs' off len c blk base arr T fz vs (hP hal _ _ hf) (fun i hi => hv i (by omega)) (fun i hi => ih i (by omega) hi _ (hvr i (by omega))) hlc
    | psl0 _ _ c a => exact .psl0 _ _ _ _
    | pslN => exact .pslN _ _
  | pslc hal cs cs' off len n hn hl hr' ih =>
    intro x hx
    cases hx with
    | psl _ _ _ c blk base arr T fz vs hf hv hvr hlc =>
      have := VR.psl (K := K') cs' 0 len c blk (base + off) arr T fz (fun i => vs (off + i)) (hP hal _ _ hf) (fun i hi => by rw [Nat.add_assoc]; exact hv (off + i) (by omega))
        (fun i hi => ih i (by omega) hi _ (hvr (off + i) (by omega))) hlc
      simpa using this
    | psl0 _ _ c a => exact .psl0 _ _ _ _
    | pslN => exact .pslN _ _
  | pptr hal cs cs' off hl hr' ih =>
    intro x hx
    cases hx with
    | pptr _ _ blk base arr T fz vs hf hv hvr =>
      exact .pptr cs' off blk base arr T fz vs (hP hal _ _ hf) (fun i hi => hv i (by omega)) (fun i hi => ih i (by omega) hi _ (hvr i (by omega)))
  | fn f cs cs' hl hr' ih =>
    intro x hx
    cases hx with
    | fn _ _ vs hl2 hvr => exact .fn f cs' vs (by omega) fun i hi hi' => ih i (by omega) hi _ (hvr i (by omega) hi')
  | agg cs cs' hl hr' ih =>
    intro x hx
    cases hx with
    | agg _ vs hl2 hvr => exact .agg cs' vs (by omega) fun i hi hi' => ih i (by omega) hi _ (hvr i (by omega) hi')
  | tup cs cs' hl hr' ih =>
    intro x hx
    cases hx with
    | tup _ vs hl2 hvr => exact .tup cs' vs (by omega) fun i hi hi' => ih i (by omega) hi _ (hvr i (by omega) hi')

def PurL (s : AState) (al : Bool) (cs cs' : List AV) : Prop := cs'.length = cs.length ∧ ∀ i (hi : i < cs.length) (hi' : i < cs'.length), Pur s al cs[i] cs'[i]
theorem PurL.nil {s : AState} {al : Bool} : PurL s al [] [] := ⟨rfl, fun i hi => by simp at hi⟩
theorem PurL.cons {s : AState} {al : Bool} {a a' : AV} {l l' : List AV} (h : Pur s al a a') (hl : PurL s al l l') : PurL s al (a :: l) (a' :: l') :=
  ⟨by simp [hl.1], fun i hi hi' => by
    cases i with
    | zero => exact h
    | succ i => exact hl.2 i (by simpa using hi) (by simpa using hi')⟩

/- What is left in place, and what is new. -/
def K2of (K K' : Know) (w w' : World) : Know := { K with fix := fun blk => if blk < w.heap.size then K.fix blk else w'.heap[blk]?, sh := fun b => K.sh b ∨ w.heap.size ≤ b }
theorem keep_old {K K' : Know} {w w' : World} {s : AState} (hK : ∀ k o, w.heap[k]? = some o → K.fix k = some o) (hle : K.le K') (hrel : Rel K' s w') : (∀ k, k < w.heap.size → w'.heap[k]? = w.heap[k]?) ∧ w.heap.size ≤ w'.heap.size := by
  have hkeep : ∀ k, k < w.heap.size → w'.heap[k]? = w.heap[k]? := by
    intro k hk
    have : w.heap[k]? = some w.heap[k] := by simp [hk]
    rw [this]
    exact hrel.fix k _ (hle.fix k _ (hK k _ this))
  refine ⟨hkeep, ?_⟩
  rcases Nat.eq_zero_or_pos w.heap.size with h0 | h0
  · omega
  · have := hkeep (w.heap.size - 1) (by omega)
    rcases Nat.lt_or_ge (w.heap.size - 1) w'.heap.size with h1 | h1
    · omega
    · rw [Array.getElem?_eq_none h1] at this
      simp at this
      omega
theorem heap_lt {w : World} {k : Nat} {o : Obj} (e : w.heap[k]? = some o) : k < w.heap.size := by
  rcases Nat.lt_or_ge k w.heap.size with h1 | h1
  · exact h1
  · rw [Array.getElem?_eq_none h1] at e; cases e
theorem rel_back {K K' K1 : Know} {σ s : AState} {w w' : World} (hr : Rel K σ w) (hrel : Rel K' s w') (h1 : ∀ k, k < w.heap.size → w'.heap[k]? = w.heap[k]?) (hsize : w.heap.size ≤ w'.heap.size) (ho : K'.os = K.os) (ht : K'.tape = K.tape) (hp : K'.output = K.output) :
    K.le (K2of K K1 w w') ∧ Rel (K2of K K1 w w') σ w' := by
  have hle2 : K.le (K2of K K1 w w') := ⟨fun _ _ e => e, fun blk o e => by
    have := heap_lt (hr.fix blk o e)
    simp only [K2of, this, if_true]; exact e, rfl, rfl, rfl, rfl, fun b h => .inl h, fun b h => by
    rcases h with h | h
    · exact .inl h
    · refine .inr ?_
      cases e : K.fix b with
      | none => rfl
      | some o => have := heap_lt (hr.fix b o e); omega⟩
  refine ⟨hle2, ⟨fun b cs e x hx => ?_, fun b t p e x hx => ?_, hr.apart, fun blk o e => ?_, fun b x hx => Nat.lt_of_lt_of_le (hr.old b x hx) hsize, hr.fresh, hr.res, ?_, ?_, ?_⟩⟩
  · obtain ⟨arr, T, lo, hi, g1, h2, h3, h4, h5, h6⟩ := hr.cells b cs e x hx
    have hx1 := hr.old b x hx
    exact ⟨arr, T, lo, hi, by rw [h1 _ hx1]; exact g1, h2, h3, h4.sub hle2.sub, h5, by simp only [K2of, hx1, if_true]; exact h6⟩
  · obtain ⟨g1, h2, h3⟩ := hr.iters b t p e x hx
    have hx1 := hr.old b x hx
    exact ⟨by rw [h1 _ hx1]; exact g1, by simp only [K2of, hx1, if_true]; exact h2, h3⟩
  · simp only [K2of] at e
    split at e
    · rename_i hb
      rw [h1 _ hb]; exact hr.fix blk o e
    · exact e
  · rw [hrel.os, ho]; rfl
  · rw [hrel.tape, ht]; rfl
  · rw [hrel.output, hp]; rfl

/- What a call over fixed data gives serves in every state: nothing that is there turns, what is new is fixed data. -/
theorem AC.pure {f : FuncId} {args args' : List AV} {σ : AState} {R : AV → Prop} (hp : PurL σ true args args') (h : AC P f args' st0 fun v s => ∃ a, Pur s false v a ∧ R a) :
    AC P f args σ fun v s => s = σ ∧ R v := by
  refine ⟨h.1, fun K w vs hr hv => ?_⟩
  have hv' : VRL (K0 w) args' vs := ⟨by rw [hp.1, hv.1], fun i hi hi' => pur_ok (K' := K0 w) hr (fun b cs x _ _ => ⟨rfl, trivial⟩) (fun _ blk o e => ⟨hr.fix blk o e.1, trivial⟩) (hp.2 i (by rw [hv.1]; exact hi') hi) _ (hv.2 i (by rw [hv.1]; exact hi') hi')⟩
  refine (h.2 (K0 w) w vs (rel0 w) hv').mono ?_
  rintro e w' ⟨v, vc, s, K', rfl, ⟨a, hpa, ha⟩, hle, hrel, hvr⟩
  obtain ⟨hkeep, hsize⟩ := keep_old (K := K0 w) (fun k o e => e) hle hrel
  obtain ⟨hle2, hrel2⟩ := rel_back (K1 := K') hr hrel hkeep hsize (hle.os.trans hr.os) (hle.tape.trans hr.tape) (hle.output.trans hr.output)
  refine ⟨a, vc, σ, K2of K K' w w', rfl, ⟨rfl, ha⟩, hle2, hrel2, ?_⟩
  refine pur_ok hrel (fun b cs x hg hx => ?_) (fun h => by cases h) hpa vc hvr
  obtain ⟨_, _, _, _, _, _, _, _, _, hfx⟩ := hrel.cells b cs hg x hx
  have : ¬ x.1 < w.heap.size := by
    intro hlt'
    have hs : w.heap[x.1]? = some w.heap[x.1] := by simp [hlt']
    have := hle.fix x.1 _ hs
    rw [hfx] at this; cases this
  exact ⟨by simp only [K2of, this, if_false], .inr (by omega)⟩

/- Fixed data: it points to nothing of one's own. -/
def Fxd (a : AV) : Prop := ∀ (K K' : Know) (v : Value), (∀ blk o, K.fx blk o → K'.fx blk o) → VR K a v → VR K' a v
def FxdL (l : List AV) : Prop := ∀ a ∈ l, Fxd a
theorem Fxd.flat {a : AV} (h : a.flat = true) : Fxd a := by
  intro K K' v _ hv
  cases a <;> first | (cases h; done) | (cases hv; constructor)
theorem FxdL.nil : FxdL [] := fun a h => by cases h
theorem FxdL.cons {a : AV} {l : List AV} (h : Fxd a) (hl : FxdL l) : FxdL (a :: l) := fun b hb => by
  rcases List.mem_cons.1 hb with rfl | hb
  · exact h
  · exact hl b hb
theorem FxdL.append {a b : List AV} (h : FxdL a) (hl : FxdL b) : FxdL (a ++ b) := fun x hx => by
  rcases List.mem_append.1 hx with hb | hb
  · exact h x hb
  · exact hl x hb
theorem Fxd.psl {cs : List AV} {o n : Nat} (h : FxdL cs) : Fxd (.psl cs o n) := by
  intro K K' v hk hv
  cases hv with
  | psl _ _ _ c blk base arr T fz vs h1 hv hr hl => exact .psl _ _ _ c blk base arr T fz vs (hk _ _ h1) hv (fun i hi => h _ (List.getElem_mem hi) K K' _ hk (hr i hi)) hl
  | psl0 _ _ c a => exact .psl0 _ _ _ _
  | pslN => exact .pslN _ _
theorem Fxd.pptr {cs : List AV} {o : Nat} (h : FxdL cs) : Fxd (.pptr cs o) := by
  intro K K' v hk hv
  cases hv with
  | pptr _ _ blk base arr T fz vs h1 hv hr => exact .pptr _ _ blk base arr T fz vs (hk _ _ h1) hv (fun i hi => h _ (List.getElem_mem hi) K K' _ hk (hr i hi))
theorem Fxd.agg {cs : List AV} (h : FxdL cs) : Fxd (.agg cs) := by
  intro K K' v hk hv
  cases hv with
  | agg _ vs hl hr => exact .agg _ vs hl (fun i hi hi' => h _ (List.getElem_mem hi) K K' _ hk (hr i hi hi'))
theorem Fxd.tup {cs : List AV} (h : FxdL cs) : Fxd (.tup cs) := by
  intro K K' v hk hv
  cases hv with
  | tup _ vs hl hr => exact .tup _ vs hl (fun i hi hi' => h _ (List.getElem_mem hi) K K' _ hk (hr i hi hi'))
theorem Fxd.fn {f : FuncId} {cs : List AV} (h : FxdL cs) : Fxd (.fn f cs) := by
  intro K K' v hk hv
  cases hv with
  | fn _ _ vs hl hr => exact .fn _ _ vs hl (fun i hi hi' => h _ (List.getElem_mem hi) K K' _ hk (hr i hi hi'))
theorem Fxd.pse : Fxd .pse := by
  intro K K' v hk hv
  cases hv
  exact .pse _ _

/- What a call gives of fixed data alone: what is new may be told beside what came in. -/
theorem AC.share {f : FuncId} {args : List AV} {σ : AState} {R : AV → Prop} (hp : FxdL args) (h : AC P f args st0 fun v s => ∃ a, Pur s true v a ∧ R a) :
    AC P f args σ fun v s => s = σ ∧ R v := by
  refine ⟨h.1, fun K w vs hr hv => ?_⟩
  let K1 : Know := { K0 w with sh := fun b => K.sh b ∧ (K.fix b).isSome = true }
  have hr1 : Rel K1 st0 w := ⟨fun b cs e x hx => (nomatch hx), (rel0 w).iters, (rel0 w).apart, (rel0 w).fix, (rel0 w).old, (rel0 w).fresh, (rel0 w).res, rfl, rfl, rfl⟩
  have hv' : VRL K1 args vs := ⟨hv.1, fun i hi hi' => hp _ (List.getElem_mem hi) K K1 _ (fun blk o e => ⟨hr.fix blk o e.1, e.2, by rw [e.1]; rfl⟩) (hv.2 i hi hi')⟩
  refine (h.2 K1 w vs hr1 hv').mono ?_
  rintro e w' ⟨v, vc, s, K', rfl, ⟨a, hpa, ha⟩, hle, hrel, hvr⟩
  obtain ⟨hkeep, hsize⟩ := keep_old (K := K1) (fun k o e => e) hle hrel
  obtain ⟨hle2, hrel2⟩ := rel_back (K1 := K') hr hrel hkeep hsize (hle.os.trans hr.os) (hle.tape.trans hr.tape) (hle.output.trans hr.output)
  refine ⟨a, vc, σ, K2of K K' w w', rfl, ⟨rfl, ha⟩, hle2, hrel2, ?_⟩
  refine pur_ok hrel (fun b cs x hg hx => ?_) (fun _ blk o e => ?_) hpa vc hvr
  · obtain ⟨_, _, _, _, _, _, _, _, _, hfx⟩ := hrel.cells b cs hg x hx
    have : ¬ x.1 < w.heap.size := by
      intro hlt'
      have hs : w.heap[x.1]? = some w.heap[x.1] := by simp [hlt']
      have := hle.fix x.1 _ hs
      rw [hfx] at this; cases this
    exact ⟨by simp only [K2of, this, if_false], .inr (by omega)⟩
  · by_cases hlt : blk < w.heap.size
    · have hs : w.heap[blk]? = some w.heap[blk] := by simp [hlt]
      have h1 := hle.fix blk _ hs
      rw [e.1] at h1
      injection h1 with h1
      subst h1
      rcases hle.new blk e.2 with ⟨h2, h3⟩ | h2
      · obtain ⟨o', ho'⟩ := Option.isSome_iff_exists.1 h3
        have := hr.fix blk o' ho'
        rw [hs] at this
        injection this with this
        exact ⟨by simp only [K2of, hlt, if_true]; rw [ho', this], .inl h2⟩
      · have : w.heap[blk]? = none := h2
        rw [hs] at this; cases this
    · exact ⟨by simp only [K2of, hlt, if_false]; exact hrel.fix blk o e.1, .inr (by omega)⟩

/- A plain answer of a closed run serves in every state. -/
theorem AC.plain {f : FuncId} {σ : AState} {a : AV} {args : List AV} (ha : a.flat = true) (hargs : ∀ x ∈ args, x.flat = true) (h : AC P f args st0 fun v _ => v = a) : AC P f args σ fun v s => v = a ∧ s = σ := by
  have hp : PurL σ true args args := ⟨rfl, fun i hi hi' => .flat _ (hargs _ (List.getElem_mem hi))⟩
  exact (AC.pure (R := fun v => v = a) hp (h.mono fun v s hv => ⟨a, by subst hv; exact .flat _ ha, rfl⟩)).mono fun v s hv => ⟨hv.2, hv.1⟩
/- A row that may be nil: once as nil, once as empty. -/
theorem AC.nil_split {f : FuncId} {σ : AState} {pre post cs : List AV} {off : Nat} {Q : AV → AState → Prop} (h1 : AC P f (pre ++ .nils :: post) σ Q) (h2 : AC P f (pre ++ .pse :: post) σ Q) :
    AC P f (pre ++ .psl cs off 0 :: post) σ Q := by
  refine ⟨h1.1, fun K w vs hr hv => ?_⟩
  have hpre := hv.take pre.length
  have hpost := hv.drop pre.length
  rw [List.take_left'  rfl] at hpre
  rw [List.drop_left' rfl] at hpost
  have hvs : vs = vs.take pre.length ++ vs.drop pre.length := (List.take_append_drop _ _).symm
  obtain ⟨v, vs', hd, hv1, hv2⟩ := hpost.of_cons
  rw [hvs, hd]
  rw [hd] at hpost
  have hcase : VR K .nils v ∨ VR K .pse v := by
    cases hv1 with
    | psl _ _ _ c blk base arr T fz vs h hv hr hl => exact .inr (.pse _ _)
    | psl0 _ _ c a => exact .inr (.pse _ _)
    | pslN => exact .inl .nils
  rcases hcase with h | h
  · exact h1.2 K w _ hr (hpre.append (.cons h hv2))
  · exact h2.2 K w _ hr (hpre.append (.cons h hv2))
end Go.Proofs.Ythojhpjjkfjeiaa.Va
