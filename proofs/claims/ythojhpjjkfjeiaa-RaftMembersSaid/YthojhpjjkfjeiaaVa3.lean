/- What the operations do to abstract values is what they do in the world: reading, writing, new blocks, parts. Conditions: none. -/
import Derived.Test.YthojhpjjkfjeiaaVa2
import Derived.Laws.Append
import Derived.Laws.Strings
import Derived.Laws.BytesString
import Derived.Lib.ConvBytes
set_option linter.unusedSimpArgs false
set_option linter.unusedVariables false
namespace Go.Proofs.Ythojhpjjkfjeiaa.Va
variable {P : Program}

/- ------------------------------------------------ what a value is -/
section
variable {K : Know} {v : Value}
theorem VR.inv_bool {b : Bool} (h : VR K (.bool b) v) : v = .bool b := by cases h; rfl
theorem VR.inv_int {k : IntKind} {n : Int} (h : VR K (.int k n) v) : v = .int k n := by cases h; rfl
theorem VR.inv_str {l : List UInt8} (h : VR K (.str l) v) : v = .string ⟨l.toArray⟩ := by cases h; rfl
theorem VR.inv_nilp (h : VR K .nilp v) : v = .pointer none := by cases h; rfl
theorem VR.inv_pse (h : VR K .pse v) : ∃ a c, v = .slice (some a) 0 c := by cases h; exact ⟨_, _, rfl⟩
theorem VR.inv_nils (h : VR K .nils v) : v = .slice none 0 0 := by cases h; rfl
theorem VR.inv_nilf (h : VR K .nilf v) : v = .nilFunc := by cases h; rfl
theorem VR.inv_nili (h : VR K .nili v) : v = .nilIface := by cases h; rfl
theorem VR.inv_ptr {b o : Nat} (h : VR K (.ptr b o) v) : ∃ blk bs room, v = .pointer (some ⟨blk, bs + o, none⟩) ∧ K.μ b = some (blk, bs, room) := by cases h; exact ⟨_, _, _, rfl, by assumption⟩
theorem VR.inv_agg {cs : List AV} (h : VR K (.agg cs) v) : ∃ vs : List Value, v = .agg vs.toArray ∧ VRL K cs vs := by cases h; exact ⟨_, rfl, by assumption, by assumption⟩
theorem VR.inv_tup {cs : List AV} (h : VR K (.tup cs) v) : ∃ vs : List Value, v = .tuple vs.toArray ∧ VRL K cs vs := by cases h; exact ⟨_, rfl, by assumption, by assumption⟩
theorem VR.inv_fn {f : FuncId} {cs : List AV} (h : VR K (.fn f cs) v) : ∃ vs : List Value, v = .func (.func f) #[] vs.toArray ∧ VRL K cs vs := by cases h; exact ⟨_, rfl, by assumption, by assumption⟩
theorem VR.inv_slice {b o n sz : Nat} {c : Option Nat} (h : VR K (.sl b o n c sz) v) : ∃ blk a c', v = .slice (some ⟨blk, a, none⟩) n c' ∧ n ≤ c' ∧ (∀ c'', c = some c'' → c' = c'') ∧
    ((∃ bs room, a = bs + o ∧ K.μ b = some (blk, bs, room) ∧ bs + o + c' * sz ≤ room) ∨ (n = 0 ∧ c' = 0)) := by
  cases h with
  | sl b off len c cap sz blk base room h hc hl hroom => exact ⟨_, _, _, rfl, hl, hc, .inl ⟨_, _, rfl, h, hroom⟩⟩
  | sl0 b off cap sz blk o hc => exact ⟨_, _, _, rfl, Nat.le_refl _, hc, .inr ⟨rfl, rfl⟩⟩
theorem VR.inv_psl {cs : List AV} {o n : Nat} (h : VR K (.psl cs o n) v) : ∃ (a : Option Addr) (c' : Nat), v = .slice a n c' ∧ (a = none → c' = 0) ∧ (n ≤ c') ∧ ((∃ (blk bs : Nat) (arr : Array Value) (T : TypeId) (fz : Nat × Nat) (vs : Nat → Value), a = some ⟨blk, bs + o, none⟩ ∧ K.fx blk (.cells arr T fz) ∧
    (∀ i, i < cs.length → arr[bs + i]? = some (vs i)) ∧ (∀ i (hi : i < cs.length), VR K cs[i] (vs i))) ∨ n = 0) := by
  cases h with
  | psl cs off len c blk base arr T fz vs h hv hr hl => exact ⟨_, _, rfl, fun e => (nomatch e), hl, .inl ⟨_, _, _, _, _, _, rfl, h, hv, hr⟩⟩
  | psl0 cs off c a => exact ⟨_, _, rfl, fun e => (nomatch e), Nat.zero_le _, .inr rfl⟩
  | pslN cs off => exact ⟨_, _, rfl, fun _ => rfl, Nat.zero_le _, .inr rfl⟩
theorem VR.psl_zero {cs : List AV} {o c : Nat} {a : Option Addr} (hn : a = none → c = 0) : VR K (.psl cs o 0) (.slice a 0 c) := by
  cases a with
  | none => rw [hn rfl]; exact .pslN _ _
  | some x => exact .psl0 _ _ _ _
end
/- ------------------------------------------------ types -/
theorem run_underT {t : TypeId} {d : TypeDesc} (h : P.underlying t = some d) (w : World) : (underlying t).run P w = .ok d w := run_underlying h w
theorem run_sizeT {t : TypeId} {n : Nat} (h : sizeT P t = some n) (w : World) : (sizeOf t).run P w = .ok n w := by
  unfold sizeT at h
  cases e : P.info? t with
  | none => rw [e] at h; cases h
  | some i => rw [e] at h; injection h with h; simp [sizeOf, typeInfo, e, h, Result.andThen]
theorem run_infoT {t : TypeId} {i : TypeInfo} (h : P.info? t = some i) (w : World) : (typeInfo t).run P w = .ok i w := by simp [typeInfo, h, Result.andThen]
theorem run_isAggT {t : TypeId} {a : Bool} (h : isAggT P t = some a) (w : World) : (isAgg t).run P w = .ok a w := by
  unfold isAggT at h
  cases e : P.underlying t with
  | none => rw [e] at h; cases h
  | some d =>
    rw [e] at h; injection h with h
    simp only [isAgg, Sem.run_bind, run_underT e, Result.andThen]
    cases d <;> simp_all
theorem elemT_some {t e : TypeId} (h : elemT P t = some e) : P.underlying t = some (.slice e) := by
  unfold elemT at h
  cases hd : P.underlying t with
  | none => rw [hd] at h; cases h
  | some d => rw [hd] at h; cases d <;> simp_all

theorem ofScalar_ok {K : Know} (v : Value) : VR K (.ofScalar v) v := by
  unfold AV.ofScalar
  split
  · exact .bool _
  · exact .int _ _
  · rename_i s; exact .str s.data.toList
  · exact .nilp
  · exact .nils
  · exact .fn _ [] [] rfl (fun i hi => by simp at hi)
  · exact .nilf
  · exact .nili
  · exact .undef _
theorem map_ofScalar_ok {K : Know} (l : List Value) : VRL K (l.map AV.ofScalar) l :=
  ⟨by simp, fun i hi hi' => by simp only [List.getElem_map]; exact ofScalar_ok _⟩
theorem ofConst_ok {K : Know} (v : Value) : VR K (.ofConst v) v := by
  unfold AV.ofConst
  split
  · rename_i cs
    have := map_ofScalar_ok (K := K) cs.toList
    have := VR.agg _ _ this.1 this.2
    simpa using this
  · rename_i cs
    have := map_ofScalar_ok (K := K) cs.toList
    have := VR.tup _ _ this.1 this.2
    simpa using this
  · exact ofScalar_ok _

theorem run_zeroT {K : Know} {t : TypeId} {z : List AV} (h : zeroT P t = some z) (w : World) : ∃ v, (zeroValue t).run P w = .ok v w ∧ VRL K z v.cells.toList := by
  unfold zeroT at h
  cases e : P.info? t with
  | none => rw [e] at h; cases h
  | some i =>
    rw [e] at h
    simp only [Option.bind_some] at h
    cases ez : i.zero with
    | none => rw [ez] at h; cases h
    | some v =>
      rw [ez] at h
      injection h with h; subst h
      exact ⟨v, by simp [zeroValue, run_infoT e, ez, Result.andThen], map_ofScalar_ok _⟩

/- ------------------------------------------------ frames -/
structure ERel (K : Know) (N : Nat) (ρ : Env) (a : Act) : Prop where
  size : a.tmps.size = N
  defers : a.defers = []
  tmps : ∀ t v, ρ.get t = some v → VR K v (a.tmps.getD t undef)

theorem ERel.sub {K K' : Know} (hK : K.sub K') {N : Nat} {ρ : Env} {a : Act} (h : ERel K N ρ a) : ERel K' N ρ a := ⟨h.size, h.defers, fun t v e => (h.tmps t v e).sub hK⟩
theorem ERel.mono {K K' : Know} (hK : K.le K') {N : Nat} {ρ : Env} {a : Act} (h : ERel K N ρ a) : ERel K' N ρ a := ⟨h.size, h.defers, fun t v e => (h.tmps t v e).mono hK⟩
theorem ERel.ev {K : Know} {N : Nat} {ρ : Env} {a : Act} (h : ERel K N ρ a) (x : Operand) : VR K ((Opd.of x).ev ρ) (a.eval x) := by
  cases x with
  | tmp t =>
    simp only [Opd.of, Opd.ev, Env.rd, Act.eval]
    cases e : ρ.get t with
    | none => exact .undef _
    | some v => exact h.tmps t v e
  | const v => exact ofConst_ok v
  | global g => exact .undef _
  | func f => exact .fn f [] [] rfl (fun i hi => by simp at hi)
theorem ERel.put {K : Know} {N : Nat} {ρ : Env} {a : Act} (h : ERel K N ρ a) {d : Option Nat} (hd : ∀ t, d = some t → t < N) {v : AV} {vc : Value} (hv : VR K v vc) :
    ERel K N (ρ.put d v) (a.put d vc) := by
  cases d with
  | none => exact h
  | some t =>
    have ht := hd t rfl
    refine ⟨by simp [Act.put, h.size], by simp [Act.put, h.defers], fun t' v' e => ?_⟩
    simp only [Env.put, Tr.get_set] at e
    have hlt : t < a.tmps.size := by rw [h.size]; exact ht
    split at e
    · rename_i ht'; subst ht'
      injection e with e; subst e
      simpa [Act.put, hlt] using hv
    · rename_i ht'
      have : t ≠ t' := fun e' => ht' e'.symm
      have := h.tmps t' v' e
      simpa [Act.put, Array.getElem?_setIfInBounds_ne (Ne.symm ht' |> fun h => h)] using this

theorem ERel.list {K : Know} {N : Nat} {ρ : Env} {a : Act} (h : ERel K N ρ a) (xs : List Operand) : VRL K ((xs.map Opd.of).map (·.ev ρ)) (xs.map a.eval) :=
  ⟨by simp, fun i hi hi' => by simp only [List.getElem_map]; exact h.ev _⟩

/- ------------------------------------------------ reading -/
theorem sim_loadVar {K : Know} {w : World} {t : TypeId} {agg : Bool} {n : Nat} (ha : isAggT P t = some agg) (hn : sizeT P t = some n) {cs : List AV} {off blk bs : Nat}
    (hl : Lies K w cs blk bs) {v : AV} (hv : (bif agg then (bif Nat.ble (off + n) cs.length then some (AV.agg (seg cs off n)) else none) else cs[off]?) = some v) :
    ∃ vc, (loadVar t ⟨blk, bs + off, none⟩).run P w = .ok vc w ∧ VR K v vc := by
  cases agg with
  | true =>
    simp only [cond_true] at hv
    cases hb : Nat.ble (off + n) cs.length with
    | false => rw [hb] at hv; cases hv
    | true =>
      rw [hb] at hv; injection hv with hv; subst hv
      obtain ⟨vs, hr, hvr⟩ := run_loadCells_lies (P := P) hl (Nat.le_of_ble_eq_true hb)
      exact ⟨.agg vs.toArray, by simp [loadVar, run_isAggT ha, run_sizeT hn, hr, Result.andThen], .agg _ _ hvr.1 hvr.2⟩
  | false =>
    simp only [cond_false] at hv
    obtain ⟨vc, hr, hvr⟩ := run_load_lies (P := P) hl hv
    exact ⟨vc, by simp [loadVar, run_isAggT ha, Result.andThen, hr], hvr⟩

/- ------------------------------------------------ writing -/
theorem Rel.storeA {K : Know} {σ σ' : AState} {w : World} (h : Rel K σ w) {p : AV} {pv : Value} (hp : VR K p pv) {as : List AV} {vs : List Value} (hvs : VRL K as vs)
    (hst : storeA σ p as = some σ') : ∃ blk o w', pv = .pointer (some ⟨blk, o, none⟩) ∧ (storeCells ⟨blk, o, none⟩ vs).run P w = .ok () w' ∧ Rel K σ' w' := by
  unfold Va.storeA at hst
  split at hst
  · rename_i b off
    cases hp with
    | ptr b off blk bs room hμ =>
      split at hst
      · rename_i cs hcs
        cases hb : Nat.ble (off + as.length) cs.length && as.all AV.one with
        | false => rw [hb] at hst; cases hst
        | true =>
          rw [hb] at hst; injection hst with hst; subst hst
          simp only [Bool.and_eq_true] at hb
          have hle := Nat.le_of_ble_eq_true hb.1
          obtain ⟨arr, T, lo, hi, hh, hfz, hsz, hcr, hlen, hfx⟩ := h.cells b cs (AState.cells_eq hcs) _ hμ
          simp only at hsz hlen
          obtain ⟨σ'', w', hrun, hrel, hn, hg⟩ := Rel.stores (P := P) hμ as vs 0 off σ w cs h hcs (by omega) (by omega) hvs hb.2
          refine ⟨blk, bs + off, w', rfl, hrun, hrel.weaken hn.symm fun b' o e => ?_⟩
          simp only [AState.put, Tr.get_set] at e
          rw [hg]
          split at e
          · rename_i e'; subst e'; rw [if_pos rfl]; simpa using e
          · rename_i e'; rw [if_neg e']; exact e
      · cases hst
  · cases hst

/- ------------------------------------------------ parts of structs and slices -/
theorem setl_ok {K : Know} : ∀ (as : List AV) (vs : List Value) (cs : List AV) (arr : Array Value) (o k : Nat), VRL K as vs → VRL K cs arr.toList →
    VRL K (setl cs (o + k) as) ((vs.zipIdx k).foldl (fun cs (c, j) => cs.setIfInBounds (o + j) c) arr).toList := by
  intro as
  induction as with
  | nil =>
    intro vs cs arr o k hv hc
    have := hv.of_nil; subst this
    exact hc
  | cons a as ih =>
    intro vs cs arr o k hv hc
    obtain ⟨v, vs', rfl, ha, hv'⟩ := hv.of_cons
    simp only [List.zipIdx_cons, List.foldl_cons, setl]
    have := ih vs' (cs.set (o + k) a) (arr.setIfInBounds (o + k) v) o (k + 1) hv' (by rw [Array.toList_setIfInBounds]; exact hc.set _ ha)
    simpa only [Nat.add_assoc] using this

def evParts (f : Operand → Value) (ps : List (Nat × Operand)) : List (Nat × Value) := ps.map fun (i, x) => (i, f x)
theorem partsT_ok {K : Know} {N : Nat} {ρ : Env} {a : Act} (he : ERel K N ρ a) {sizes : Nat → Option (Nat × Nat)} : ∀ (ps : List (Nat × Operand)) (l : List (Nat × Nat × Opd)), partsT sizes ps = some l →
    (partsV ρ l).length = (evParts a.eval ps).length ∧ ∀ i (hi : i < (evParts a.eval ps).length) (hi' : i < (partsV ρ l).length),
      sizes ((evParts a.eval ps)[i]).1 = some ((partsV ρ l)[i].1, (partsV ρ l)[i].2.1) ∧ VR K (partsV ρ l)[i].2.2 ((evParts a.eval ps)[i]).2 := by
  intro ps
  induction ps with
  | nil =>
    intro l h
    simp only [partsT, Option.some.injEq] at h
    subst h
    exact ⟨rfl, fun i hi => by simp [evParts] at hi⟩
  | cons p ps ih =>
    intro l h
    obtain ⟨i, x⟩ := p
    simp only [partsT] at h
    split at h
    · rename_i o n l' h1 h2
      injection h with h; subst h
      obtain ⟨i1, i2⟩ := ih l' h2
      refine ⟨by simpa [partsV, evParts] using i1, fun j hj hj' => ?_⟩
      cases j with
      | zero => simpa [partsV, evParts] using ⟨h1, he.ev x⟩
      | succ j => simpa [partsV, evParts] using i2 j (by simpa [evParts] using hj) (by simpa [partsV, evParts] using hj')
    · cases h

theorem setl_length : ∀ (as cs : List AV) (i : Nat), (setl cs i as).length = cs.length := by
  intro as
  induction as with
  | nil => intro cs i; rfl
  | cons a as ih => intro cs i; simp only [setl]; rw [ih]; simp
theorem fillA_length : ∀ (qs : List (Nat × Nat × AV)) (cs cs' : List AV), fillA cs qs = some cs' → cs'.length = cs.length := by
  intro qs
  induction qs with
  | nil => intro cs cs' h; simp only [fillA, Option.some.injEq] at h; rw [h]
  | cons q qs ih =>
    intro cs cs' h
    obtain ⟨o, n, a⟩ := q
    have hne : a ≠ .undef := by intro e; subst e; simp [fillA] at h
    have hf' : (bif Nat.beq a.cells.length n && Nat.ble (o + n) cs.length && a.cells.all AV.one then fillA (setl cs o a.cells) qs else none) = some cs' := by
      cases a <;> first | exact absurd rfl hne | exact h
    cases hb : Nat.beq a.cells.length n && Nat.ble (o + n) cs.length && a.cells.all AV.one with
    | false => rw [hb] at hf'; cases hf'
    | true => rw [hb] at hf'; rw [ih _ _ hf', setl_length]

theorem one_all {vs : List AV} (h : vs.all AV.one = true) : ∀ a ∈ vs, a ≠ .undef := fun a ha e => by
  have := List.all_eq_true.1 h a ha
  rw [e] at this; simp [AV.one] at this

/- What 'build' and 'buildSlice' fill in. -/
theorem fill_ok {K : Know} (place : Nat → Option (Nat × Nat)) : ∀ (ps : List (Nat × Value)) (qs : List (Nat × Nat × AV)) (cs cs' : List AV) (arr : Array Value),
    qs.length = ps.length → (∀ i (hi : i < ps.length) (hi' : i < qs.length), place ps[i].1 = some (qs[i].1, qs[i].2.1) ∧ VR K qs[i].2.2 ps[i].2) → VRL K cs arr.toList →
    fillA cs qs = some cs' → ∃ arr', Instr.fill place arr ps = some arr' ∧ VRL K cs' arr'.toList := by
  intro ps
  induction ps with
  | nil =>
    intro qs cs cs' arr hlen _ hc hf
    have : qs = [] := List.eq_nil_of_length_eq_zero (by simpa using hlen)
    subst this
    simp only [fillA, Option.some.injEq] at hf
    subst hf
    exact ⟨arr, rfl, hc⟩
  | cons p ps ih =>
    intro qs cs cs' arr hlen hq hc hf
    obtain ⟨i, v⟩ := p
    cases qs with
    | nil => simp at hlen
    | cons q qs =>
      obtain ⟨o, n, a⟩ := q
      obtain ⟨hpl, hva⟩ := hq 0 (by simp) (by simp)
      simp only [List.getElem_cons_zero] at hpl hva
      have hne : a ≠ .undef := by intro e; subst e; simp [fillA] at hf
      have hf' : (bif Nat.beq a.cells.length n && Nat.ble (o + n) cs.length && a.cells.all AV.one then fillA (setl cs o a.cells) qs else none) = some cs' := by
        cases a <;> first | exact absurd rfl hne | exact hf
      cases hb : Nat.beq a.cells.length n && Nat.ble (o + n) cs.length && a.cells.all AV.one with
      | false => rw [hb] at hf'; cases hf'
      | true =>
        rw [hb] at hf'
        simp only [Bool.and_eq_true] at hb
        have h1 := Nat.eq_of_beq_eq_true hb.1.1
        have h2 := Nat.le_of_ble_eq_true hb.1.2
        have hcells := hva.cells hne
        have h3 : v.cells.size = n := by have := hcells.1; simp at this; omega
        have h4 : cs.length = arr.size := by simpa using hc.1
        simp only [Instr.fill, hpl]
        rw [if_neg (by simp [h3]; omega)]
        have hset := setl_ok a.cells v.cells.toList cs arr o 0 hcells hc
        have hz : v.cells.zipIdx.foldl (fun cs (c, j) => cs.setIfInBounds (o + j) c) arr = (v.cells.toList.zipIdx 0).foldl (fun cs (c, j) => cs.setIfInBounds (o + j) c) arr := by
          rw [← Array.foldl_toList]; simp
        rw [hz]
        exact ih qs (setl cs o a.cells) cs' _ (by simpa using hlen) (fun j hj hj' => hq (j + 1) (by simpa using hj) (by simpa using hj')) (by simpa using hset) hf'

theorem rowOf_length (z : List AV) (n : Nat) : (rowOf z n).length = n * z.length := by
  induction n with
  | zero => simp [rowOf]
  | succ n ih => simp [rowOf, ih, Nat.succ_mul]; omega
theorem rowOf_get {z : List AV} : ∀ (n i : Nat), i < n * z.length → (rowOf z n)[i]? = z[i % z.length]? := by
  intro n
  induction n with
  | zero => intro i h; simp at h
  | succ n ih =>
    intro i h
    simp only [rowOf]
    by_cases hi : i < z.length
    · rw [List.getElem?_append_left hi, Nat.mod_eq_of_lt hi]
    · rw [List.getElem?_append_right (by omega), ih _ (by rw [Nat.succ_mul] at h; omega), ← Nat.mod_eq_sub_mod (by omega)]
theorem rowOf_ok {K : Know} {z : List AV} {v : Array Value} (h : VRL K z v.toList) (hne : 0 < z.length) (n : Nat) :
    VRL K (rowOf z n) ((Array.range (n * z.length)).map (v[· % v.size]!)).toList := by
  have hsz : v.size = z.length := by have := h.1; simp at this; omega
  refine ⟨by simp [rowOf_length], fun i hi hi' => ?_⟩
  have hi2 : i < n * z.length := by simpa [rowOf_length] using hi
  have hm : i % z.length < z.length := Nat.mod_lt _ hne
  have e := rowOf_get (z := z) n i hi2
  rw [List.getElem?_eq_getElem hi, List.getElem?_eq_getElem hm] at e
  injection e with e
  rw [e]
  have := h.2 (i % z.length) hm (by simp; omega)
  simp only [Array.toList_map, List.getElem_map, Array.getElem_toList, Array.getElem_range]
  rw [hsz, getElem!_pos v (i % z.length) (by omega)]
  simpa using this
end Go.Proofs.Ythojhpjjkfjeiaa.Va
