/- A block of one's own becomes fixed data. Conditions: none. -/
import Derived.Test.YtaokfpjjaejjgaaVaN
set_option linter.all false
namespace Go.Proofs.Ytaokfpjjaejjgaa.Va
open Go.Proofs
def frK (K : Know) (w : World) (k : Nat) : Know := { K with fix := fun b => if b = k then w.heap[k]? else K.fix b, sh := fun b => K.sh b ∨ b = k }
theorem frK_le {K : Know} {w : World} {k : Nat} (h : K.fix k = none) : K.le (frK K w k) where
  μ := fun _ _ h => h
  fix := fun b o e => by
    have : b ≠ k := fun hb => by rw [hb, h] at e; cases e
    simp only [frK, this, if_false]; exact e
  os := rfl
  tape := rfl
  output := rfl
  res := rfl
  sh := fun _ h => .inl h
  new := fun b hb => by
    rcases hb with hb | rfl
    · exact .inl hb
    · exact .inr h
theorem freeze {K : Know} {σ : AState} {w : World} {b : Nat} {cs : List AV} (hr : Rel K σ w) (hb : σ.cells b = some cs) :
    ∃ K', K.le K' ∧ Rel K' (σ.kill b) w ∧ ∀ (off n : Nat) (cap : Option Nat) (sz : Nat) x, off + n * sz ≤ cs.length → VR K' (.sl b off n cap sz) x → VR K' (.psl (seg cs off (n * sz)) 0 n) x := by
  have hg := AState.cells_eq hb
  cases hm : K.μ b with
  | none =>
    refine ⟨K, Know.le.refl K, hr.kill b, fun off n cap sz x hl hv => ?_⟩
    cases hv with
    | sl _ _ _ c _ _ blk base room hμ hc hlc hroom => rw [hm] at hμ; cases hμ
    | sl0 => exact .psl0 _ _ _ _
  | some p =>
    obtain ⟨arr, T, lo, hi, hh, _, hsz, hcr, hlen, hfx⟩ := hr.cells b cs hg p hm
    have hle := frK_le (w := w) hfx
    have hk := hr.kill b
    refine ⟨frK K w p.1, hle, ?_, fun off n cap sz x hl hv => ?_⟩
    · have live : ∀ b' (o : ABlk), (σ.kill b).h.get b' = some o → b' ≠ b ∧ σ.h.get b' = some o := fun b' o e => by
        simp only [AState.kill, Tr.get_set] at e
        split at e
        · cases e
        · exact ⟨by assumption, e⟩
      refine ⟨fun b' cs' e x hx => ?_, fun b' s pos e x hx => ?_, hk.apart, fun blk o e => ?_, hk.old, hk.fresh, hk.res, hk.os, hk.tape, hk.output⟩
      · obtain ⟨arr', T', lo', hi', h1, h2, h3, h4, h5, h6⟩ := hk.cells b' cs' e x hx
        obtain ⟨hne, e'⟩ := live b' _ e
        have hd := hr.apart b' b x p hne (by rw [e']; rfl) (by rw [hg]; rfl) hx hm
        exact ⟨arr', T', lo', hi', h1, h2, h3, h4.mono hle, h5, by simp only [frK, hd, if_false]; exact h6⟩
      · obtain ⟨h1, h2, h3⟩ := hk.iters b' s pos e x hx
        obtain ⟨hne, e'⟩ := live b' _ e
        have hd := hr.apart b' b x p hne (by rw [e']; rfl) (by rw [hg]; rfl) hx hm
        exact ⟨h1, by simp only [frK, hd, if_false]; exact h2, h3⟩
      · simp only [frK] at e
        split at e
        · rename_i hx; rw [hx]; exact e
        · exact hr.fix _ _ e
    · cases hv with
      | sl0 => exact .psl0 _ _ _ _
      | sl _ _ _ c _ _ blk base room hμ hc hlc hroom =>
        have hμ' : K.μ b = some (blk, base, room) := hμ
        rw [hm] at hμ'
        cases hμ'
        simp only at hh hsz hcr hlen hfx
        have hlen' : (seg cs off (n * sz)).length = n * sz := by simp [seg]; omega
        have hfx' : (frK K w blk).fx blk (.cells arr T (lo, hi)) := ⟨by simp only [frK, if_true]; exact hh, .inr rfl⟩
        have := VR.psl (K := frK K w blk) (seg cs off (n * sz)) 0 n c blk (base + off) arr T (lo, hi) (fun i => (arr[base + off + i]?).getD (.bool false)) hfx'
          (fun i hi' => by
            obtain ⟨u, eu, _⟩ := hcr (off + i) (by omega)
            rw [← Nat.add_assoc] at eu
            simp only [eu, Option.getD_some])
          (fun i hi' => by
            obtain ⟨u, eu, ru⟩ := hcr (off + i) (by omega)
            rw [← Nat.add_assoc] at eu
            simp only [eu, Option.getD_some]
            have e : (seg cs off (n * sz))[i] = cs[off + i] := by simp [seg]
            rw [e]
            exact VR.mono hle ru) hlc
        simpa using this
/- A block's cells told in other words. -/
theorem Rel.recell {K : Know} {σ : AState} {w : World} {b : Nat} {d d' : List AV} (hr : Rel K σ w) (h0 : σ.cells b = some d) (hl : d'.length = d.length)
    (hv : ∀ i (hi : i < d.length) (hi' : i < d'.length) x, VR K d[i] x → VR K d'[i] x) : Rel K (σ.put b d') w := by
  have hg := AState.cells_eq h0
  have live : ∀ b' (o : ABlk), (σ.put b d').h.get b' = some o → (b' = b ∧ o = .cells d') ∨ (b' ≠ b ∧ σ.h.get b' = some o) := fun b' o e => by
    simp only [AState.put, Tr.get_set] at e
    split at e
    · exact .inl ⟨by assumption, by cases e; rfl⟩
    · exact .inr ⟨by assumption, e⟩
  have some' : ∀ b', ((σ.put b d').h.get b').isSome → (σ.h.get b').isSome := fun b' h => by
    obtain ⟨o, e⟩ := Option.isSome_iff_exists.1 h
    rcases live b' o e with ⟨rfl, _⟩ | ⟨_, e'⟩
    · rw [hg]; rfl
    · rw [e']; rfl
  refine ⟨fun b' cs' e x hx => ?_, fun b' s pos e x hx => ?_, fun b1 b2 x1 x2 hn h1 h2 => hr.apart b1 b2 x1 x2 hn (some' _ h1) (some' _ h2), hr.fix, hr.old, hr.fresh, hr.res, hr.os, hr.tape, hr.output⟩
  · rcases live b' _ e with ⟨rfl, e1⟩ | ⟨_, e'⟩
    · cases e1
      obtain ⟨arr, T, lo, hi, h1, h2, h3, h4, h5, h6⟩ := hr.cells _ d hg x hx
      refine ⟨arr, T, lo, hi, h1, h2, h3, fun i hi' => ?_, by omega, h6⟩
      obtain ⟨u, eu, ru⟩ := h4 i (by omega)
      exact ⟨u, eu, hv i (by omega) hi' u ru⟩
    · exact hr.cells b' cs' e' x hx
  · rcases live b' _ e with ⟨rfl, e1⟩ | ⟨_, e'⟩
    · cases e1
    · exact hr.iters b' s pos e' x hx
/- .. at the end of a piece of code. -/
def Frz (N : Nat) (Q : Env → AState → Prop) (ρ : Env) (σ : AState) : Prop :=
  ∃ ρ' σ', Q ρ' σ' ∧ ∀ K w ac, Rel K σ w → ERel K N ρ ac → ∃ K', K.le K' ∧ Rel K' σ' w ∧ ERel K' N ρ' ac
theorem SimA.frz {P : Program} {N : Nat} {c : ACode} {Q : AExit → Env → AState → Prop} {ρ : Env} {σ : AState} (h : SimA P N c (fun e ρ σ => Frz N (Q e) ρ σ) ρ σ) : SimA P N c Q ρ σ := by
  intro cc hc K w ac hr he
  refine wp_mono (h cc hc K w ac hr he) ?_
  rintro e ac' w' ⟨ae, ρ1, σ1, K1, rfl, ⟨ρ2, σ2, hq, hf⟩, hle, hr1, he1⟩
  obtain ⟨K2, hle2, hr2, he2⟩ := hf K1 w' ac' hr1 he1
  exact ⟨ae, ρ2, σ2, K2, rfl, hq, hle.trans hle2, hr2, he2⟩
/- A row of one's own that stands in a cell of another block becomes fixed data there. -/
theorem Frz.cell {N : Nat} {Q : Env → AState → Prop} {ρ : Env} {σ : AState} {b b0 i off n sz : Nat} {cap : Option Nat} {cs d : List AV} (hb : σ.cells b = some cs) (h0 : σ.cells b0 = some d) (hne : b0 ≠ b) (hi : d[i]? = some (.sl b off n cap sz)) (hl : off + n * sz ≤ cs.length)
    (hq : Q ρ ((σ.kill b).put b0 (d.set i (.psl (seg cs off (n * sz)) 0 n)))) : Frz N Q ρ σ := by
  refine ⟨ρ, _, hq, fun K w ac hr he => ?_⟩
  obtain ⟨K', hle, hr', hv⟩ := freeze hr hb
  have hk0 : (σ.kill b).cells b0 = some d := by rw [kill_get, if_neg hne]; exact h0
  refine ⟨K', hle, hr'.recell hk0 (by simp) fun j hj hj' x hx => ?_, he.mono hle⟩
  by_cases hji : i = j
  · subst hji
    have e : d[i] = .sl b off n cap sz := by
      have := List.getElem?_eq_getElem hj
      rw [this] at hi; exact Option.some.inj hi
    rw [e] at hx
    simpa using hv off n cap sz x hl hx
  · simpa [List.getElem_set, hji] using hx
theorem Frz.nils {N : Nat} {Q : Env → AState → Prop} {ρ : Env} {σ : AState} {b0 i off : Nat} {cs d : List AV} (h0 : σ.cells b0 = some d) (hi : d[i]? = some .nils)
    (hq : Q ρ (σ.put b0 (d.set i (.psl cs off 0)))) : Frz N Q ρ σ := by
  refine ⟨ρ, _, hq, fun K w ac hr he => ⟨K, Know.le.refl K, hr.recell h0 (by simp) fun j hj hj' x hx => ?_, he⟩⟩
  by_cases hji : i = j
  · subst hji
    have e : d[i] = .nils := by
      have := List.getElem?_eq_getElem hj
      rw [this] at hi; exact Option.some.inj hi
    rw [e] at hx
    cases hx
    simpa using VR.pslN (K := K) cs off
  · simpa [List.getElem_set, hji] using hx
theorem Frz.now {N : Nat} {Q : Env → AState → Prop} {ρ : Env} {σ : AState} (h : Q ρ σ) : Frz N Q ρ σ := ⟨ρ, σ, h, fun K w ac hr he => ⟨K, Know.le.refl K, hr, he⟩⟩
theorem Frz.trans {N : Nat} {Q : Env → AState → Prop} {ρ : Env} {σ : AState} (h : Frz N (Frz N Q) ρ σ) : Frz N Q ρ σ := by
  obtain ⟨ρ1, σ1, ⟨ρ2, σ2, hq, h2⟩, h1⟩ := h
  refine ⟨ρ2, σ2, hq, fun K w ac hr he => ?_⟩
  obtain ⟨K1, hl1, hr1, he1⟩ := h1 K w ac hr he
  obtain ⟨K2, hl2, hr2, he2⟩ := h2 K1 w ac hr1 he1
  exact ⟨K2, hl1.trans hl2, hr2, he2⟩
end Go.Proofs.Ytaokfpjjaejjgaa.Va
