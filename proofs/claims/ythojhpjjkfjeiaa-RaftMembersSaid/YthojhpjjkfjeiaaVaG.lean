/- From a contract to the call. Conditions: none. -/
import Derived.Test.YthojhpjjkfjeiaaVaF
import Derived.ProofKit
import Derived.OpenShut
import Derived.Carry
set_option linter.unusedSimpArgs false
set_option linter.unusedVariables false
namespace Go.Proofs.Ythojhpjjkfjeiaa.Va
open Go.ChangeShapes Go.WideShapes Go.ChangeAt Go.RowKit
variable {P : Program}

/- All that is there stays. -/
def K0 (w : World) : Know := { μ := fun _ => none, fix := fun b => w.heap[b]?, os := w.os, tape := w.tape, output := w.output, res := fun _ => false, sh := fun _ => True }
def st0 : AState := ⟨0, .nil⟩

theorem rel0 (w : World) : Rel (K0 w) st0 w :=
  ⟨fun b cs e x hx => by simp [K0] at hx, fun b s p e x hx => by simp [K0] at hx, fun b b' x x' _ _ _ h _ => by simp [K0] at h, fun blk o e => e, fun b x e => by simp [K0] at e,
   fun b _ => rfl, fun b e => by simp [K0] at e, rfl, rfl, rfl⟩

theorem ac_calls {f : FuncId} {args : List AV} (h : AC P f args st0 fun v _ => v = .bool true) {w : World} {vs : List Value} (hv : VRL (K0 w) args vs) :
    Calls P f vs.toArray w fun e w' => e = .returned (.bool true) ∧ Below w.heap.size w w' := by
  refine (h.2 (K0 w) w vs (rel0 w) hv).mono ?_
  rintro e w' ⟨v, vc, σ', K', rfl, rfl, hle, hrel, hvr⟩
  have hb : vc = .bool true := by cases hvr; rfl
  subst hb
  have hfix : ∀ k, k < w.heap.size → w'.heap[k]? = w.heap[k]? := by
    intro k hk
    have : w.heap[k]? = some w.heap[k] := by simp [hk]
    rw [this]
    exact hrel.fix k _ (hle.fix k _ this)
  refine ⟨rfl, by rw [hrel.os, hle.os]; rfl, by rw [hrel.tape, hle.tape]; rfl, by rw [hrel.output, hle.output]; rfl, ?_, hfix⟩
  rcases Nat.eq_zero_or_pos w.heap.size with h0 | h0
  · omega
  · have := hfix (w.heap.size - 1) (by omega)
    rcases Nat.lt_or_ge (w.heap.size - 1) w'.heap.size with h1 | h1
    · omega
    · rw [Array.getElem?_eq_none h1] at this
      simp at this
      omega

theorem trodAll_below {H : Type} {enc : TypeId × Value → H} (hl : laidOutB P = true) {W W' : World} (hb : Below W.heap.size W W') : ∀ (ts : List TypeId) (vs : List Value) (ds : List (DataW H)) (ps : List MemPlace),
    (∀ t ∈ ts, P.readableRec t = true ∧ t < P.types.size) → DataW.TrodAll enc P W 0 (fun _ => true) true ts vs ds ps → (∀ x ∈ ps, x.block < W.heap.size) →
    DataW.TrodAll enc P W' 0 (fun b => decide (b < W.heap.size)) true ts vs ds ps := by
  intro ts
  induction ts with
  | nil =>
    intro vs ds ps _ h _
    obtain ⟨rfl, rfl, rfl⟩ := trodAll_nil h
    exact trodAll_mk0
  | cons t ts ih =>
    intro vs ds ps ht h hlt
    obtain ⟨v, vs1, d, ds1, a, b, rfl, rfl, rfl, h1, h2⟩ := trodAll_cons h
    refine trodAll_cons_mk ?_ (ih _ _ _ (fun t' h' => ht t' (List.mem_cons_of_mem _ h')) h2 fun x hx => hlt x (List.mem_append_right _ hx))
    exact Below.trod hl (ht t (List.mem_cons_self ..)).1 (ht t (List.mem_cons_self ..)).2 h1 hb fun x hx => hlt x (List.mem_append_left _ hx)

/- What a row of this kind asks behind the call. -/
theorem post_of_below {H : Type} {enc : TypeId × Value → H} {f : Func} {s : ChangeSpec} {W W' : World} {args : Array Value} {ds gs : List (DataW H)} {before : List MemPlace} {tb : TypeId}
    (hl : laidOutB P = true) (hp : ∀ t ∈ f.params.toList, P.readableRec t = true ∧ t < P.types.size) (hv : s.vars = []) (htb : P.underlying tb = some .bool) (hrt : f.resultTypes = #[tb])
    (hW : DataW.Whole enc P f.params.toList s.vars false W args.toList ds gs before) (hs : ∀ ds : List (DataW H), ds.length = f.params.size → s.fn H ds = { results := [.lit (.bool true)], args := ds })
    (hb : Below W.heap.size W W') : s.post enc P f false true false false W args (.bool true) W' := by
  have hW' := hW
  obtain ⟨p, q, hA, hV, rfl, hfz, hnd⟩ := hW
  rw [hv] at hV
  obtain ⟨rfl, rfl⟩ := trodVars_none hV
  have hlen : ∀ (ts : List TypeId) (vs : List Value) (ds : List (DataW H)) (ps : List MemPlace), DataW.TrodAll enc P W 0 (fun _ => true) true ts vs ds ps → ds.length = ts.length := by
    intro ts
    induction ts with
    | nil => intro vs ds ps h; obtain ⟨_, rfl, _⟩ := trodAll_nil h; rfl
    | cons t ts ih =>
      intro vs ds ps h
      obtain ⟨v, vs1, d, ds1, a, b, rfl, rfl, rfl, h1, h2⟩ := trodAll_cons h
      simp [ih _ _ _ h2]
  have hs1 := hs ds (by rw [hlen _ _ _ _ hA]; simp)
  have hlt : ∀ x ∈ p, x.block < W.heap.size := fun x hx => by simpa using hW'.lt x (by simp [hx])
  refine ⟨ds, [], p ++ [], [], p, [], hW', ?_, ?_, ?_, hb.frame _, fun h => by cases h⟩
  · rw [List.append_nil, hs1, hrt]
    exact trodAll_cons_mk (shut_bool htb _) trodAll_mk0
  · rw [List.append_nil, hs1]
    exact trodAll_below hl hb _ _ _ _ hp hA hlt
  · rw [List.append_nil, hs1, hv]
    exact hV

def isYes : AV → Bool
  | .bool true => true
  | _ => false
theorem isYes_eq {v : AV} (h : isYes v = true) : v = .bool true := by
  unfold isYes at h
  split at h
  · rfl
  · cases h

/- ------------------------------------------------ 'within': a number from 0 to n - 1 -/
def wi (x n : Int) : Int := if x.tmod n < 0 then x.tmod n + n else x.tmod n
theorem wi_range (x : Int) {n : Int} (h : 0 < n) : 0 ≤ wi x n ∧ wi x n < n := by
  unfold wi
  have h1 := Int.tmod_lt_of_pos x h
  have h2 : -n < x.tmod n := by
    rcases (by omega : x < 0 ∨ x ≥ 0) with hx | hx
    · have := Int.tmod_lt_of_pos (-x) h
      rw [Int.neg_tmod] at this
      omega
    · have := Int.tmod_nonneg n hx
      omega
  split <;> omega

def withinBody : ACode := .seq (.reg [⟨(some 4), (.mv (.con (.int .i64 0))), none⟩])
 (.seq (.reg [⟨(some 6), (.mv (.tmp 0)), none⟩, ⟨(some 7), (.mv (.tmp 1)), none⟩, ⟨(some 8), (.bin .rem .plain (.tmp 6) (.tmp 7)), none⟩, ⟨(some 5), (.mv (.tmp 8)), none⟩])
 (.seq (.seq (.reg [⟨(some 9), (.mv (.tmp 5)), none⟩, ⟨(some 10), (.bin .lss .plain (.tmp 9) (.con (.int .i64 0))), none⟩])
 (.cond (.tmp 10)
 (.reg [⟨(some 11), (.mv (.tmp 5)), none⟩, ⟨(some 12), (.mv (.tmp 1)), none⟩, ⟨(some 13), (.bin .add .plain (.tmp 11) (.tmp 12)), none⟩, ⟨(some 5), (.mv (.tmp 13)), none⟩])
 .skip))
 (.seq (.reg [⟨(some 14), (.mv (.tmp 5)), none⟩, ⟨(some 4), (.mv (.tmp 14)), none⟩])
 .ret)))
def withinFun : AFun := ⟨2, 15, withinBody, [(.tmp 4)]⟩

theorem within_sim {N : Nat} {x n : Int} {σ : AState} (h0 : 0 < n) (h1 : n < 4611686018427387904) :
    SimA P N withinBody (fun e ρ s => e = .ret ∧ s = σ ∧ ρ.rd 4 = .int .i64 (wi x n)) (Env.ofArgs [.int .i64 x, .int .i64 n] 0) σ := by
  have hr := wi_range x h0
  have hn : ¬ n = 0 := by omega
  refine a_seq (a_reg ?_)
  simp only [wpOpsA, AOper.wants, stepA, evalA, Opd.ev, Env.put]
  refine a_seq (a_reg ?_)
  simp [wpOpsA, AOper.wants, stepA, evalA, Opd.ev, Env.put, Env.ofArgs, Env.rd, evalBin, evalInt, hn]
  refine a_seq (a_seq (a_reg ?_))
  simp [wpOpsA, AOper.wants, stepA, evalA, Opd.ev, Env.put, Env.ofArgs, Env.rd, evalBin, evalInt]
  refine a_cond (b := decide (x.tmod n < 0)) (by simp [Opd.ev, Env.rd]) ?_
  have hfin : ∀ ρ : Env, ρ.rd 5 = .int .i64 (wi x n) → SimA P N (.seq (.reg [⟨(some 14), (.mv (.tmp 5)), none⟩, ⟨(some 4), (.mv (.tmp 14)), none⟩]) .ret) (fun e ρ s => e = .ret ∧ s = σ ∧ ρ.rd 4 = .int .i64 (wi x n)) ρ σ := by
    intro ρ h
    refine a_seq (a_reg ?_)
    simp only [wpOpsA, AOper.wants, stepA, evalA, Opd.ev, Env.put]
    refine a_ret ⟨rfl, rfl, ?_⟩
    simp [Env.rd] at h ⊢
    exact h
  by_cases hx : x.tmod n < 0
  · simp only [hx, decide_true, if_true]
    refine a_reg ?_
    have hw : IntKind.i64.wrap (x.tmod n + n) = wi x n := by
      have : wi x n = x.tmod n + n := by simp [wi, hx]
      rw [this] at hr
      rw [wrap_small hr.1 (by omega), this]
    simp [wpOpsA, AOper.wants, stepA, evalA, Opd.ev, Env.put, Env.ofArgs, Env.rd, evalBin, evalInt, AExit.then, hw]
    exact hfin _ (by simp [Env.rd])
  · simp only [hx, decide_false]
    refine a_skip ?_
    simp only [AExit.then]
    exact hfin _ (by simp [Env.rd, wi, hx])

theorem within_ac {f : FuncId} {fn : Func} (hf : P.funcs[f]? = some fn) (hcf : compF P fn = some withinFun) (hca : callable P f = true) {x n : Int} {σ : AState} (h0 : 0 < n) (h1 : n < 4611686018427387904) :
    AC P f [.int .i64 x, .int .i64 n] σ fun v s => v = .int .i64 (wi x n) ∧ s = σ := by
  refine ac_of_fun hf hcf hca rfl ((within_sim h0 h1).mono ?_)
  rintro e ρ s ⟨rfl, rfl, h⟩
  exact ⟨(fun i h => nomatch h), _, by simp [retA, withinFun, rvs, RV.ev, h], rfl, rfl⟩
end Go.Proofs.Ythojhpjjkfjeiaa.Va
