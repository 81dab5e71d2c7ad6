/- What is told of trees: nodes over a row of one's own. Conditions: none. -/
import Derived.Test.YtcdbpmmomgehfaaTy18
set_option maxRecDepth 100000
set_option maxHeartbeats 4000000
set_option linter.all false
namespace Go.Proofs.Ytcdbpmmomgehfaa.Va
open Go.Proofs
theorem one_of {α : Type} {l : List α} (h : l.length = 1) : ∃ a, l = [a] := by
  match l, h with
  | [a], _ => exact ⟨a, rfl⟩
theorem two_of {α : Type} {l : List α} (h : l.length = 2) : ∃ a b, l = [a, b] := by
  match l, h with
  | [a, b], _ => exact ⟨a, b, rfl⟩
theorem three_of {α : Type} {l : List α} (h : l.length = 3) : ∃ a b c, l = [a, b, c] := by
  match l, h with
  | [a, b, c], _ => exact ⟨a, b, c, rfl⟩
theorem node_st0 {S : Sc} {l : List Ty} {op : Int} {b : Bool} {n : Int} {s ut ui : Str} {kids : List Ex} (hs : ScR S) (hl : l.length ≤ 1000) (ha : arity op l.length) (h6 : 6 ≤ op) :
    AC Try.prog 40 [.agg S.c, .agg (Ex.mk op b n s ut ui kids).c, slc Ty.c l] st0 fun v _ => v = tyP (nodeP S op s l) := by
  rcases ha with ⟨_, h, _⟩ | h | ⟨h, h1⟩ | ⟨h, h2⟩ | ⟨h, h3⟩
  · omega
  · subst h
    cases l with
    | nil => exact node60_st0
    | cons a r => exact node61_st0 hl (by simp)
  · rcases h with h | h | h | h | h <;> subst h
    · obtain ⟨a, rfl⟩ := one_of h1; exact node7_st0 hs.m
    · obtain ⟨a, rfl⟩ := one_of h1; exact node8_st0
    · obtain ⟨a, rfl⟩ := one_of h1; exact node10_st0
    · exact node11_st0 hl (by omega)
    · exact node12_st0 hl (by omega)
  · rcases h with h | ⟨h, h'⟩
    · subst h
      obtain ⟨a, b, rfl⟩ := two_of h2; exact node9_st0
    · have : op = 13 ∨ op = 14 ∨ op = 15 ∨ op = 16 ∨ op = 17 ∨ op = 18 ∨ op = 19 ∨ op = 20 ∨ op = 21 ∨ op = 22 ∨ op = 23 ∨ op = 24 := by omega
      rcases this with h | h | h | h | h | h | h | h | h | h | h | h <;> subst h
      · exact node13_st0 hl (by omega)
      · exact node14_st0 hl (by omega)
      · exact node15_st0 hl (by omega)
      · exact node16_st0 hl (by omega)
      · exact node17_st0 hl (by omega)
      · exact node18_st0 hl (by omega)
      · exact node19_st0 hl (by omega)
      · exact node20_st0 hl (by omega)
      · exact node21_st0 hl (by omega)
      · obtain ⟨a, b, rfl⟩ := two_of h2; exact node22_st0
      · exact node23_st0 hl (by omega)
      · exact node24_st0 hl (by omega)
  · subst h
    obtain ⟨a, b, c, rfl⟩ := three_of h3; exact node25_st0
theorem own_st0 {S : Sc} {l : List Ty} {op : Int} {b : Bool} {n : Int} {s ut ui : Str} {kids : List Ex} (hs : ScR S) (hl : l.length ≤ 1000) (ha : arity op l.length) (h6 : 6 ≤ op) :
    AC Try.prog 48 [.agg S.c, .agg (Ex.mk op b n s ut ui kids).c, slc Ty.c l] st0 fun v _ => v = tyP (nodeP S op s l) := by
  rcases ha with ⟨_, h, _⟩ | h | ⟨h, h1⟩ | ⟨h, h2⟩ | ⟨h, h3⟩
  · omega
  · subst h
    cases l with
    | nil => exact own60_st0
    | cons a r => exact own61_st0 hl (by simp)
  · rcases h with h | h | h | h | h <;> subst h
    · obtain ⟨a, rfl⟩ := one_of h1; exact own7_st0 hs
    · obtain ⟨a, rfl⟩ := one_of h1; exact own8_st0
    · obtain ⟨a, rfl⟩ := one_of h1; exact own10_st0
    · exact own11_st0 hl
    · exact own12_st0 hl
  · rcases h with h | ⟨h, h'⟩
    · subst h
      obtain ⟨a, b, rfl⟩ := two_of h2; exact own9_st0
    · have : op = 13 ∨ op = 14 ∨ op = 15 ∨ op = 16 ∨ op = 17 ∨ op = 18 ∨ op = 19 ∨ op = 20 ∨ op = 21 ∨ op = 22 ∨ op = 23 ∨ op = 24 := by omega
      rcases this with h | h | h | h | h | h | h | h | h | h | h | h <;> subst h
      · exact own13_st0 hl
      · exact own14_st0 hl
      · exact own15_st0 hl
      · exact own16_st0 hl
      · exact own17_st0 hl
      · exact own18_st0 hl
      · exact own19_st0 hl
      · obtain ⟨a, b, rfl⟩ := two_of h2; exact own20_st0
      · obtain ⟨a, b, rfl⟩ := two_of h2; exact own21_st0
      · obtain ⟨a, b, rfl⟩ := two_of h2; exact own22_st0
      · exact own23_st0 hl
      · exact own24_st0 hl
  · subst h
    obtain ⟨a, b, c, rfl⟩ := three_of h3; exact own25_st0
mutual
theorem pur_ex (σ : AState) : (e : Ex) → ∀ a ∈ e.c, Pur σ true a a
  | .mk op b n s ut ui kids => by
    intro a ha
    rw [Ex.c_eq] at ha
    simp only [List.mem_cons, List.not_mem_nil, or_false] at ha
    rcases ha with rfl | rfl | rfl | rfl | rfl | rfl | rfl
    · exact .flat _ rfl
    · exact .flat _ rfl
    · exact .flat _ rfl
    · exact .flat _ rfl
    · exact .flat _ rfl
    · exact .flat _ rfl
    · rw [slc_eq, ← Ex.cs_eq]
      exact .psl' (pur_exs σ kids)
theorem pur_exs (σ : AState) : (l : List Ex) → ∀ a ∈ Ex.cs l, Pur σ true a a
  | [] => by intro a ha; cases ha
  | e :: r => by
    intro a ha
    rw [Ex.cs, List.mem_append] at ha
    rcases ha with ha | ha
    · exact pur_ex σ e a ha
    · exact pur_exs σ r a ha
end
theorem Ty.flat (t : Ty) : ∀ a ∈ t.c, a.flat = true := by
  intro a ha
  simp only [Ty.c_eq, List.mem_cons, List.not_mem_nil, or_false] at ha
  rcases ha with rfl | rfl | rfl <;> rfl
theorem pur_row {σ : AState} {m : Nat → Prop} {x : AV} {l : List Ty} (h : RowP m σ x (rowc Ty.c l) l.length 3) : Pur σ true x (slc Ty.c l) :=
  h.pur true rfl fun i hi hi' => flat_row (f := Ty.c) Ty.flat i hi hi'
theorem pur_schema (σ : AState) (S : Sc) : Pur σ true (.agg S.c) (.agg S.c) := .agg _ _ rfl fun i hi hi' => by
  match i, hi with
  | 0, _ => exact slc_pur (fun k a ha => by
      simp only [Kd.c, List.mem_cons, List.not_mem_nil, or_false] at ha
      rcases ha with rfl | rfl | rfl
      · exact .flat _ rfl
      · exact pur_strs σ _
      · exact pur_fls σ _) _
  | 1, _ => exact slc_pur (fun k a ha => by
      simp only [Ac.c, List.mem_cons, List.not_mem_nil, or_false] at ha
      rcases ha with rfl | rfl | rfl
      · exact .flat _ rfl
      · exact pur_strs σ _
      · exact pur_strs σ _) _
theorem pur_nodeL {σ : AState} {S : Sc} {e : Ex} {m : Nat → Prop} {x : AV} {l : List Ty} (h : RowP m σ x (rowc Ty.c l) l.length 3) : PurL σ true [.agg S.c, .agg e.c, x] [.agg S.c, .agg e.c, slc Ty.c l] :=
  .cons (pur_schema σ S) (.cons (.agg _ _ rfl fun i hi _ => pur_ex σ e _ (List.getElem_mem hi)) (.cons (pur_row h) .nil))
theorem node_ac {S : Sc} {l : List Ty} {op : Int} {b : Bool} {n : Int} {s ut ui : Str} {kids : List Ex} {σ : AState} {m : Nat → Prop} {x : AV} (hs : ScR S) (hl : l.length ≤ 1000) (ha : arity op l.length) (h6 : 6 ≤ op) (hx : RowP m σ x (rowc Ty.c l) l.length 3) :
    AC Try.prog 40 [.agg S.c, .agg (Ex.mk op b n s ut ui kids).c, x] σ fun v s' => s' = σ ∧ v = tyP (nodeP S op s l) := AC.pureE (pur_nodeL hx) (node_st0 hs hl ha h6)
theorem own_ac {S : Sc} {l : List Ty} {op : Int} {b : Bool} {n : Int} {s ut ui : Str} {kids : List Ex} {σ : AState} {m : Nat → Prop} {x : AV} (hs : ScR S) (hl : l.length ≤ 1000) (ha : arity op l.length) (h6 : 6 ≤ op) (hx : RowP m σ x (rowc Ty.c l) l.length 3) :
    AC Try.prog 48 [.agg S.c, .agg (Ex.mk op b n s ut ui kids).c, x] σ fun v s' => s' = σ ∧ v = tyP (nodeP S op s l) := AC.pureE (pur_nodeL hx) (own_st0 hs hl ha h6)
end Go.Proofs.Ytcdbpmmomgehfaa.Va
set_option maxRecDepth 100000
set_option maxHeartbeats 4000000
set_option linter.all false
namespace Go.Proofs.Ytcdbpmmomgehfaa.Va
open Go.Proofs
theorem sg07 (a b c d e f g : AV) : seg [a, b, c, d, e, f, g] 0 7 = [a, b, c, d, e, f, g] := Eq.trans rfl rfl
theorem env_fxd (p a r : Str) : FxdL [.str p, .str a, .str r] := .cons (.flat rfl) (.cons (.flat rfl) (.cons (.flat rfl) .nil))
theorem few_ok {op : Int} {n : Nat} (h : arity op n) (h6 : 6 ≤ op) : ¬ (fewB op n = true ∨ 25 < op) := by
  unfold arity at h
  unfold fewB
  rintro (hf | hf)
  · split at hf
    · cases hf
    · split at hf
      · have := of_decide_eq_true hf; omega
      · split at hf <;> (have := of_decide_eq_true hf; omega)
  · omega
theorem ofP_leaf {S : Sc} {p r : Str} {op : Int} {b : Bool} {n : Int} {s ut ui : Str} {kids : List Ex} {l : List Ty} (h : ofPs S p r kids = .ok l) (h6 : op < 6) : ofP S p r (.mk op b n s ut ui kids) = leafP S p r op s ut ui := by
  rw [ofP_eq, h]
  simp only [if_pos h6]
theorem ofP_node {S : Sc} {p r : Str} {op : Int} {b : Bool} {n : Int} {s ut ui : Str} {kids : List Ex} {l : List Ty} (h : ofPs S p r kids = .ok l) (h6 : 6 ≤ op) (ha : arity op kids.length) : ofP S p r (.mk op b n s ut ui kids) = nodeP S op s l := by
  rw [ofP_eq, h]
  simp only [if_neg (by omega : ¬ op < 6), if_neg (few_ok ha h6)]
theorem ofP_bad {S : Sc} {p r : Str} {op : Int} {b : Bool} {n : Int} {s ut ui : Str} {kids : List Ex} {x : Int} (h : ofPs S p r kids = .error x) : ofP S p r (.mk op b n s ut ui kids) = (noTy, x) := by
  rw [ofP_eq, h]
theorem of_step {S : Sc} {p a r : Str} {op : Int} {b : Bool} {n : Int} {s ut ui : Str} {kids : List Ex} {σ : AState} (hs : ScR S) (ha : arity op kids.length) (hl : kids.length ≤ 1000)
    (ih : ∀ e ∈ kids, ∀ σ, AC Try.prog 20 [.agg S.c, .agg [.str p, .str a, .str r], .agg e.c] σ fun v s' => s' = σ ∧ v = tyP (ofP S p r e)) :
    AC Try.prog 20 [.agg S.c, .agg [.str p, .str a, .str r], .agg (Ex.mk op b n s ut ui kids).c] σ fun v s' => s' = σ ∧ v = tyP (ofP S p r (.mk op b n s ut ui kids)) := by
  refine AC.toldE (.cons (.agg (Sc.fxd S)) (.cons (.agg (env_fxd p a r)) (.cons (.agg (Ex.fxd _)) .nil))) ?_
  rw [Ex.c_eq]
  refine ac_wp fn20 cf20 cl20 rfl ?_
  simp only [ac20]
  unfold ab20
  have sg := scSeg S
  have sgE : ∀ a b c : AV, seg [a, b, c] 0 3 = [a, b, c] := fun _ _ _ => rfl
  simp only [wpC_seq, wpC_skip, wpCK_normal]
  refine w_mid (fun ρ s' => ρ.rd 3 = .ptr 0 0 ∧ ρ.rd 4 = .ptr 1 0 ∧ ρ.rd 5 = .ptr 2 0 ∧ ρ.rd 6 = .ptr 3 0 ∧ s'.cells 0 = some [slc Kd.c S.kinds, slc Ac.c S.acts] ∧ s'.cells 1 = some [.str p, .str a, .str r] ∧ s'.cells 2 = some [.int .i64 op, .bool b, .int .i64 n, .str s, .str ut, .str ui, slc Ex.c kids] ∧ s'.cells 3 = some [.int .i64 0, .int .i64 0, .str []] ∧ 4 ≤ s'.n) ?_ ?_
  · simp only [WU, seval, strs_eq, Sc.c_eq]
  rintro ρ s' ⟨h3, h4, h5, h6, c0, c1, c2, c3, hn⟩
  rw [wpC_seq]
  refine w_mid (fun ρ s' => ρ.rd 3 = .ptr 0 0 ∧ ρ.rd 4 = .ptr 1 0 ∧ ρ.rd 5 = .ptr 2 0 ∧ ρ.rd 6 = .ptr 3 0 ∧ s'.cells 0 = some [slc Kd.c S.kinds, slc Ac.c S.acts] ∧ s'.cells 1 = some [.str p, .str a, .str r] ∧ s'.cells 2 = some [.int .i64 op, .bool b, .int .i64 n, .str s, .str ut, .str ui, slc Ex.c kids] ∧ s'.cells 3 = some [.int .i64 0, .int .i64 0, .str []] ∧ 4 ≤ s'.n ∧ ρ.rd 8 = .nils) ?_ ?_
  · simp only [WU, seval, strs_eq, h3, h4, h5, h6, c0, c1, c2, c3, hn]
  clear h3 h4 h5 h6 c0 c1 c2 c3 hn
  rintro ρ s' ⟨h3, h4, h5, h6, c0, c1, c2, c3, hn, h8⟩
  rw [wpC_seq]
  refine w_mid (fun ρ s' => ρ.rd 3 = .ptr 0 0 ∧ ρ.rd 4 = .ptr 1 0 ∧ ρ.rd 5 = .ptr 2 0 ∧ ρ.rd 6 = .ptr 3 0 ∧ s'.cells 0 = some [slc Kd.c S.kinds, slc Ac.c S.acts] ∧ s'.cells 1 = some [.str p, .str a, .str r] ∧ s'.cells 2 = some [.int .i64 op, .bool b, .int .i64 n, .str s, .str ut, .str ui, slc Ex.c kids] ∧ s'.cells 3 = some [.int .i64 0, .int .i64 0, .str []] ∧ 4 ≤ s'.n ∧ ∃ ts x, ρ.rd 8 = x ∧ RowP (fun b => 4 ≤ b) s' x (rowc Ty.c ts) ts.length 3 ∧ ofPs S p r kids = .ok ts) ?_ ?_
  · simp only [WU, seval, strs_eq, h3, h4, h5, h6, c0, c1, c2, c3, hn]
    refine w_for (fun i ρ s' => ρ.rd 16 = .int .i64 i ∧ ρ.rd 15 = .int .i64 kids.length ∧ ρ.rd 14 = slc Ex.c kids ∧ ρ.rd 3 = .ptr 0 0 ∧ ρ.rd 4 = .ptr 1 0 ∧ ρ.rd 5 = .ptr 2 0 ∧ ρ.rd 6 = .ptr 3 0 ∧ s'.cells 0 = some [slc Kd.c S.kinds, slc Ac.c S.acts] ∧ s'.cells 1 = some [.str p, .str a, .str r] ∧ s'.cells 2 = some [.int .i64 op, .bool b, .int .i64 n, .str s, .str ut, .str ui, slc Ex.c kids] ∧ s'.cells 3 = some [.int .i64 0, .int .i64 0, .str []] ∧ 4 ≤ s'.n ∧ ∃ ts x, ρ.rd 8 = x ∧ RowP (fun b => 4 ≤ b) s' x (rowc Ty.c ts) ts.length 3 ∧ ofPs S p r (kids.take i) = .ok ts) kids.length ?_ ?_
    · simp only [WU, seval, strs_eq, h3, h4, h5, h6, c0, c1, c2, c3, hn, h8]
      first | done | exact ⟨rfl, [], .nils, rfl, RowP.nil _ _ _, ofPs_nil _ _ _⟩ | exact ⟨[], .nils, rfl, RowP.nil _ _ _, ofPs_nil _ _ _⟩
    clear h3 h4 h5 h6 c0 c1 c2 c3 hn h8
    rintro i ρ s' hi ⟨h16, h15, h14, h3, h4, h5, h6, c0, c1, c2, c3, hn, ts, x, h8, hrow, hts⟩
    by_cases hlt : i < kids.length
    rotate_left
    · have : i = kids.length := by omega
      subst this
      have hge : ¬ ((kids.length : Nat) : Int) < ((kids.length : Nat) : Int) := by omega
      rw [List.take_length] at hts
      simp only [WU, seval, strs_eq, h16, h15, h14, h3, h4, h5, h6, c0, c1, c2, c3, hn, hge, h8]
      exact ⟨ts, x, rfl, hrow, hts⟩
    have hr := lt_idx hlt
    have hlt' := hr.2
    have hw : IntKind.i64.wrap ((i : Int) + 1) = ((i + 1 : Nat) : Int) := wrap_succ (by omega)
    have hfit := rowc_fit Ex.c_len hlt
    have hall := rowc_seg Ex.c_len hlt
    have hIH := ih _ (List.getElem_mem hlt)
    have hstep := ofPs_step (S := S) (p := p) (r := r) hlt hts
    have herr := ofPs_err (S := S) (p := p) (r := r) hlt hts
    have htl := ofPs_len hts
    rw [List.length_take] at htl
    have hbad : ∀ z, ofPs S p r kids = .error z → ofP S p r (.mk op b n s ut ui kids) = (noTy, z) := fun z h => ofP_bad h
    generalize hK : kids[i] = K at *
    obtain ⟨kop, kb, kn, ks, kut, kui, kk⟩ := K
    generalize hX : ofP S p r (.mk kop kb kn ks kut kui kk) = X at *
    rw [Ex.c_eq] at hall
    simp only [Ex.c_eq, Sc.c_eq, slc_eq, tyP, tyE, Ty.c_eq] at hIH
    rw [slc_eq] at hall
    have n0 : ¬ 0 = s'.n := by omega
    have n1 : ¬ 1 = s'.n := by omega
    by_cases h0 : X.2 = 0
    rotate_left
    · have hbad := hbad _ (herr h0)
      simp only [WU, seval, strs_eq, h16, h15, h14, h3, h4, h5, h6, c0, c1, c2, c3, hn, hlt', hr, hfit, hall, sg, sgE, sg07, n0, n1, storeA, sets, setx, TS]
      refine (hIH _).use ?_
      have n3 : ¬ 3 = s'.n := by omega
      have n3' : ¬ 3 = s'.n + 1 := by omega
      simp only [WU, seval, strs_eq, h3, h4, h5, h6, c0, c1, c2, c3, hn, h0, n3, n3', sgE, storeA, sets, setx, TS]
      rw [hbad]
      rfl
    have hst := hstep h0
    have hSn : ((((s'.push (.cells [.int .i64 0, .bool false, .int .i64 0, .str [], .str [], .str [], .nils])).put s'.n [.int .i64 kop, .bool kb, .int .i64 kn, .str ks, .str kut, .str kui, .psl (rowc Ex.c kk) 0 kk.length]).push (.cells [.int .i64 0, .int .i64 0, .str []])).put (s'.n + 1) [.int .i64 X.1.kind, .int .i64 X.1.of_, .str X.1.name]).n = s'.n + 2 := rfl
    have hSc : ∀ b, b < s'.n → ((((s'.push (.cells [.int .i64 0, .bool false, .int .i64 0, .str [], .str [], .str [], .nils])).put s'.n [.int .i64 kop, .bool kb, .int .i64 kn, .str ks, .str kut, .str kui, .psl (rowc Ex.c kk) 0 kk.length]).push (.cells [.int .i64 0, .int .i64 0, .str []])).put (s'.n + 1) [.int .i64 X.1.kind, .int .i64 X.1.of_, .str X.1.name]).cells b = s'.cells b := fun b hb => by
      rw [put_get, if_neg (by omega), push_get, if_neg (by simp only [put_n, push_n]; omega), put_get, if_neg (by omega), push_get, if_neg (by omega)]
    have hrowB := hrow.keep (s := ((((s'.push (.cells [.int .i64 0, .bool false, .int .i64 0, .str [], .str [], .str [], .nils])).put s'.n [.int .i64 kop, .bool kb, .int .i64 kn, .str ks, .str kut, .str kui, .psl (rowc Ex.c kk) 0 kk.length]).push (.cells [.int .i64 0, .int .i64 0, .str []])).put (s'.n + 1) [.int .i64 X.1.kind, .int .i64 X.1.of_, .str X.1.name])) (by rw [hSn]; omega) (fun b hb _ => hSc b hb)
    obtain ⟨b9, cap9, s9, happ, hrow9, hn9, hk9⟩ := app_lit (bytes := 32) hrowB (fun b hb => by omega) (new := X.1.c) (k := 1) rfl rfl (by omega) (by omega)
    have hold : ∀ b, b < 4 → s9.cells b = s'.cells b := fun b hb => (get_cells (hk9 b (by omega) (by omega))).trans (hSc b (by omega))
    have d0 := (hold 0 (by omega)).trans c0
    have d1 := (hold 1 (by omega)).trans c1
    have d2 := (hold 2 (by omega)).trans c2
    have d3 := (hold 3 (by omega)).trans c3
    have hn9' : 4 ≤ s9.n := by omega
    simp only [Ty.c_eq, push_n, put_n] at happ
    simp only [WU, seval, strs_eq, h16, h15, h14, h3, h4, h5, h6, c0, c1, c2, c3, hn, hlt', hr, hfit, hall, sg, sgE, sg07, n0, n1, storeA, sets, setx, TS]
    refine (hIH _).use ?_
    simp only [WU, seval, strs_eq, h16, h15, h14, h3, h4, h5, h6, c0, c1, c2, c3, hn, h0, h8, sgE, fillA, happ, hw, d0, d1, d2, d3, storeA, sets, setx, TS]
    refine ⟨hlt, hn9', ts ++ [X.1], _, rfl, ?_, hst⟩
    rw [rowc_append, rowc_one, List.length_append]
    exact hrow9
  clear h3 h4 h5 h6 c0 c1 c2 c3 hn
  rintro ρ s' ⟨h3, h4, h5, h6, c0, c1, c2, c3, hn, ts, x, h8, hrow, hts⟩
  have htl := ofPs_len hts
  by_cases hop : op < 6
  · rw [ofP_leaf hts hop]
    have hL : ∀ σ, AC Try.prog 38 [.agg S.c, .agg [.str p, .str a, .str r], .agg (Ex.mk op b n s ut ui kids).c] σ fun v s' => s' = σ ∧ v = tyP (leafP S p r op s ut ui) := fun σ => by rw [← leafT_P]; exact leaf_ac hs.m
    generalize leafP S p r op s ut ui = X at *
    simp only [Ex.c_eq, Sc.c_eq, slc_eq, tyP, tyE, Ty.c_eq] at hL
    simp only [WU, seval, strs_eq, h3, h4, h5, h6, c0, c1, c2, c3, hn, hop, sg, sgE, sg07]
    refine (hL _).use ?_
    simp only [WU, seval, strs_eq, h3, h4, h5, h6, c0, c1, c2, c3, hn, sgE, storeA, sets, setx, TS]
    rfl
  · rw [ofP_node hts (by omega) ha]
    have hN : AC Try.prog 40 [.agg S.c, .agg (Ex.mk op b n s ut ui kids).c, x] s' fun v s'' => s'' = s' ∧ v = tyP (nodeP S op s ts) := node_ac hs (by omega) (by rw [htl]; exact ha) (by omega) hrow
    have hF : ∀ σ, AC Try.prog 39 [.agg (Ex.mk op b n s ut ui kids).c] σ fun v s' => s' = σ ∧ v = .bool (fewB op kids.length) := fun σ => few_ac
    have hfew : fewB op kids.length = false := by
      have := few_ok ha (by omega)
      cases hh : fewB op kids.length with
      | false => rfl
      | true => exact absurd (.inl hh) this
    have h25 : ¬ 25 < op := fun h => few_ok ha (by omega) (.inr h)
    rw [hfew] at hF
    generalize nodeP S op s ts = X at *
    simp only [Ex.c_eq, Sc.c_eq, slc_eq, tyP, tyE, Ty.c_eq] at hN hF
    simp only [WU, seval, strs_eq, h3, h4, h5, h6, c0, c1, c2, c3, hn, hop, sg, sgE, sg07]
    refine (hF _).use ?_
    simp only [WU, seval, strs_eq, h3, h4, h5, h6, c0, c1, c2, c3, hn, h25, h8, sg, sgE, sg07]
    refine hN.use ?_
    simp only [WU, seval, strs_eq, h3, h4, h5, h6, c0, c1, c2, c3, hn, sgE, storeA, sets, setx, TS]
    rfl
mutual
theorem of_ac {S : Sc} {p a r : Str} (hs : ScR S) : (e : Ex) → e.wf → ∀ σ, AC Try.prog 20 [.agg S.c, .agg [.str p, .str a, .str r], .agg e.c] σ fun v s' => s' = σ ∧ v = tyP (ofP S p r e)
  | .mk op b n s ut ui kids, hw, σ => of_step hs ((Ex.wf_eq ..).mp hw).1 ((Ex.wf_eq ..).mp hw).2.1 (of_all hs kids ((Ex.wf_eq ..).mp hw).2.2)
theorem of_all {S : Sc} {p a r : Str} (hs : ScR S) : (l : List Ex) → Ex.wfs l → ∀ e ∈ l, ∀ σ, AC Try.prog 20 [.agg S.c, .agg [.str p, .str a, .str r], .agg e.c] σ fun v s' => s' = σ ∧ v = tyP (ofP S p r e)
  | [], _, e, he, σ => absurd he (by simp)
  | k :: l, hw, e, he, σ => by
    have hw' : k.wf ∧ Ex.wfs l := by rw [Ex.wfs] at hw; exact hw
    rcases List.mem_cons.1 he with h | h
    · rw [h]; exact of_ac hs k hw'.1 σ
    · exact of_all hs l hw'.2 e h σ
end
end Go.Proofs.Ytcdbpmmomgehfaa.Va
set_option maxRecDepth 100000
set_option maxHeartbeats 4000000
set_option linter.all false
namespace Go.Proofs.Ytcdbpmmomgehfaa.Va
open Go.Proofs
theorem ofR_step {S : Sc} {p a r : Str} {op : Int} {b : Bool} {n : Int} {s ut ui : Str} {kids : List Ex} {σ : AState} (hs : ScR S) (ha : arity op kids.length) (hl : kids.length ≤ 1000)
    (ih : ∀ e ∈ kids, ∀ σ, AC Try.prog 36 [.agg S.c, .agg [.str p, .str a, .str r], .agg e.c] σ fun v s' => s' = σ ∧ v = tyP (ofP S p r e)) :
    AC Try.prog 36 [.agg S.c, .agg [.str p, .str a, .str r], .agg (Ex.mk op b n s ut ui kids).c] σ fun v s' => s' = σ ∧ v = tyP (ofP S p r (.mk op b n s ut ui kids)) := by
  refine AC.toldE (.cons (.agg (Sc.fxd S)) (.cons (.agg (env_fxd p a r)) (.cons (.agg (Ex.fxd _)) .nil))) ?_
  rw [Ex.c_eq]
  have sg := scSeg S
  have sgE : ∀ a b c : AV, seg [a, b, c] 0 3 = [a, b, c] := fun _ _ _ => rfl
  by_cases hop : op < 6
  · have ha' : 1 ≤ op ∧ op ≤ 5 ∧ kids.length = 0 := by unfold arity at ha; omega
    have hk : kids = [] := List.eq_nil_of_length_eq_zero ha'.2.2
    have h1 : (1 : Int) ≤ op := ha'.1
    have h5 : op ≤ 5 := ha'.2.1
    rw [ofP_leaf (l := []) (by rw [hk, ofPs_nil]) hop]
    have hL : ∀ σ, AC Try.prog 47 [.agg S.c, .agg [.str p, .str a, .str r], .agg (Ex.mk op b n s ut ui kids).c] σ fun v s' => s' = σ ∧ v = tyP (leafP S p r op s ut ui) := fun σ => leafR_ac hs.m
    generalize leafP S p r op s ut ui = X at *
    simp only [Ex.c_eq, Sc.c_eq, slc_eq, tyP, tyE, Ty.c_eq] at hL
    refine ac_wp fn36 cf36 cl36 rfl ?_
    simp only [ac36]
    unfold ab36
    simp only [WU, seval, strs_eq, Sc.c_eq, h1, h5, sg, sgE, sg07]
    refine (hL _).use ?_
    simp only [WU, seval, strs_eq, sgE, storeA, sets, setx, TS]
    rfl
  refine ac_wp fn36 cf36 cl36 rfl ?_
  simp only [ac36]
  unfold ab36
  simp only [wpC_seq, wpC_skip, wpCK_normal]
  refine w_mid (fun ρ s' => ρ.rd 3 = .ptr 0 0 ∧ ρ.rd 4 = .ptr 1 0 ∧ ρ.rd 5 = .ptr 2 0 ∧ ρ.rd 6 = .ptr 3 0 ∧ s'.cells 0 = some [slc Kd.c S.kinds, slc Ac.c S.acts] ∧ s'.cells 1 = some [.str p, .str a, .str r] ∧ s'.cells 2 = some [.int .i64 op, .bool b, .int .i64 n, .str s, .str ut, .str ui, slc Ex.c kids] ∧ s'.cells 3 = some [.int .i64 0, .int .i64 0, .str []] ∧ 4 ≤ s'.n) ?_ ?_
  · simp only [WU, seval, strs_eq, Sc.c_eq]
  rintro ρ s' ⟨h3, h4, h5, h6, c0, c1, c2, c3, hn⟩
  rw [wpC_seq]
  refine w_mid (fun ρ s' => ρ.rd 3 = .ptr 0 0 ∧ ρ.rd 4 = .ptr 1 0 ∧ ρ.rd 5 = .ptr 2 0 ∧ ρ.rd 6 = .ptr 3 0 ∧ s'.cells 0 = some [slc Kd.c S.kinds, slc Ac.c S.acts] ∧ s'.cells 1 = some [.str p, .str a, .str r] ∧ s'.cells 2 = some [.int .i64 op, .bool b, .int .i64 n, .str s, .str ut, .str ui, slc Ex.c kids] ∧ s'.cells 3 = some [.int .i64 0, .int .i64 0, .str []] ∧ 4 ≤ s'.n) ?_ ?_
  · by_cases h1 : (1 : Int) ≤ op
    · have h5' : ¬ op ≤ 5 := by omega
      simp only [WU, seval, strs_eq, h3, h4, h5, h6, c0, c1, c2, c3, hn, h1, h5']
    · simp only [WU, seval, strs_eq, h3, h4, h5, h6, c0, c1, c2, c3, hn, h1]
  clear h3 h4 h5 h6 c0 c1 c2 c3 hn
  rintro ρ s' ⟨h3, h4, h5, h6, c0, c1, c2, c3, hn⟩
  rw [wpC_seq]
  refine w_mid (fun ρ s' => ρ.rd 3 = .ptr 0 0 ∧ ρ.rd 4 = .ptr 1 0 ∧ ρ.rd 5 = .ptr 2 0 ∧ ρ.rd 6 = .ptr 3 0 ∧ s'.cells 0 = some [slc Kd.c S.kinds, slc Ac.c S.acts] ∧ s'.cells 1 = some [.str p, .str a, .str r] ∧ s'.cells 2 = some [.int .i64 op, .bool b, .int .i64 n, .str s, .str ut, .str ui, slc Ex.c kids] ∧ s'.cells 3 = some [.int .i64 0, .int .i64 0, .str []] ∧ 4 ≤ s'.n ∧ ρ.rd 8 = .nils) ?_ ?_
  · simp only [WU, seval, strs_eq, h3, h4, h5, h6, c0, c1, c2, c3, hn]
  clear h3 h4 h5 h6 c0 c1 c2 c3 hn
  rintro ρ s' ⟨h3, h4, h5, h6, c0, c1, c2, c3, hn, h8⟩
  rw [wpC_seq]
  refine w_mid (fun ρ s' => ρ.rd 3 = .ptr 0 0 ∧ ρ.rd 4 = .ptr 1 0 ∧ ρ.rd 5 = .ptr 2 0 ∧ ρ.rd 6 = .ptr 3 0 ∧ s'.cells 0 = some [slc Kd.c S.kinds, slc Ac.c S.acts] ∧ s'.cells 1 = some [.str p, .str a, .str r] ∧ s'.cells 2 = some [.int .i64 op, .bool b, .int .i64 n, .str s, .str ut, .str ui, slc Ex.c kids] ∧ s'.cells 3 = some [.int .i64 0, .int .i64 0, .str []] ∧ 4 ≤ s'.n ∧ ∃ ts x, ρ.rd 8 = x ∧ RowP (fun b => 4 ≤ b) s' x (rowc Ty.c ts) ts.length 3 ∧ ofPs S p r kids = .ok ts) ?_ ?_
  · simp only [WU, seval, strs_eq, h3, h4, h5, h6, c0, c1, c2, c3, hn]
    refine w_for (fun i ρ s' => ρ.rd 9 = .int .i64 i ∧ ρ.rd 3 = .ptr 0 0 ∧ ρ.rd 4 = .ptr 1 0 ∧ ρ.rd 5 = .ptr 2 0 ∧ ρ.rd 6 = .ptr 3 0 ∧ s'.cells 0 = some [slc Kd.c S.kinds, slc Ac.c S.acts] ∧ s'.cells 1 = some [.str p, .str a, .str r] ∧ s'.cells 2 = some [.int .i64 op, .bool b, .int .i64 n, .str s, .str ut, .str ui, slc Ex.c kids] ∧ s'.cells 3 = some [.int .i64 0, .int .i64 0, .str []] ∧ 4 ≤ s'.n ∧ ∃ ts x, ρ.rd 8 = x ∧ RowP (fun b => 4 ≤ b) s' x (rowc Ty.c ts) ts.length 3 ∧ ofPs S p r (kids.take i) = .ok ts) kids.length ?_ ?_
    · simp only [WU, seval, strs_eq, h3, h4, h5, h6, c0, c1, c2, c3, hn, h8]
      first | done | exact ⟨rfl, [], .nils, rfl, RowP.nil _ _ _, ofPs_nil _ _ _⟩ | exact ⟨[], .nils, rfl, RowP.nil _ _ _, ofPs_nil _ _ _⟩
    clear h3 h4 h5 h6 c0 c1 c2 c3 hn h8
    rintro i ρ s' hi ⟨h9, h3, h4, h5, h6, c0, c1, c2, c3, hn, ts, x, h8, hrow, hts⟩
    by_cases hlt : i < kids.length
    rotate_left
    · have : i = kids.length := by omega
      subst this
      have hge : ¬ ((kids.length : Nat) : Int) < ((kids.length : Nat) : Int) := by omega
      rw [List.take_length] at hts
      simp only [WU, seval, strs_eq, h9, h3, h4, h5, h6, c0, c1, c2, c3, hn, hge, h8]
      exact ⟨ts, x, rfl, hrow, hts⟩
    have hr := lt_idx hlt
    have hlt' := hr.2
    have hw : IntKind.i64.wrap ((i : Int) + 1) = ((i + 1 : Nat) : Int) := wrap_succ (by omega)
    have hfit := rowc_fit Ex.c_len hlt
    have hall := rowc_seg Ex.c_len hlt
    have hIH := ih _ (List.getElem_mem hlt)
    have hstep := ofPs_step (S := S) (p := p) (r := r) hlt hts
    have herr := ofPs_err (S := S) (p := p) (r := r) hlt hts
    have htl := ofPs_len hts
    rw [List.length_take] at htl
    have hbad : ∀ z, ofPs S p r kids = .error z → ofP S p r (.mk op b n s ut ui kids) = (noTy, z) := fun z h => ofP_bad h
    generalize hK : kids[i] = K at *
    obtain ⟨kop, kb, kn, ks, kut, kui, kk⟩ := K
    generalize hX : ofP S p r (.mk kop kb kn ks kut kui kk) = X at *
    rw [Ex.c_eq] at hall
    simp only [Ex.c_eq, Sc.c_eq, slc_eq, tyP, tyE, Ty.c_eq] at hIH
    rw [slc_eq] at hall
    simp only [slc_eq] at c0 c2
    have g11 := slots_get (s := s') (m := 14) [(11, [.int .i64 0, .int .i64 0, .str []])] 11 _ rfl
    have hcell : ∀ b, b < s'.n → (addSlots s'.n 14 s' [(11, [.int .i64 0, .int .i64 0, .str []])]).cells b = s'.cells b := fun b hb => slots_old (m := 14) [(11, [.int .i64 0, .int .i64 0, .str []])] hb
    have hnA : (addSlots s'.n 14 s' [(11, [.int .i64 0, .int .i64 0, .str []])]).n = s'.n + 14 := rfl
    simp only [WU, seval, strs_eq, h9, h3, h4, h5, h6, c0, c1, c2, c3, hn, hlt']
    refine w_dreg follow [(11, [.int .i64 0, .int .i64 0, .str []])] rfl ?_
    generalize addSlots s'.n 14 s' [(11, [.int .i64 0, .int .i64 0, .str []])] = s1 at *
    have k11 := cells_of g11
    have k0 := (hcell 0 (by omega)).trans c0
    have k1 := (hcell 1 (by omega)).trans c1
    have k2 := (hcell 2 (by omega)).trans c2
    have k3 := (hcell 3 (by omega)).trans c3
    have n0 : ¬ 0 = s'.n + 11 := by omega
    have n1 : ¬ 1 = s'.n + 11 := by omega
    have n2 : ¬ 2 = s'.n + 11 := by omega
    have n3 : ¬ 3 = s'.n + 11 := by omega
    simp only [WU, seval, strs_eq, DU, h9, h3, h4, h5, h6, k0, k1, k2, k3, hr, hfit, hall, sg, sgE, sg07]
    refine (hIH _).useD ?_
    simp only [WU, seval, strs_eq, DU, h3, h4, h5, h6, h9, k11, storeA, sets, setx, TS]
    refine ⟨⟨?_, ?_⟩, ?_⟩
    · intro l hl c hc hf
      simp only [List.mem_cons, List.mem_nil_iff, List.not_mem_nil, or_false] at hl hc
      rcases hl with rfl | rfl | rfl | rfl <;> rcases hc with rfl | rfl | rfl <;> dsimp only at hf ⊢ <;> first
        | (exact absurd hf (by decide +kernel))
        | (simp only [WU, seval, strs_eq, h3, h4, h5, h6, h9, k0, k1, k2, hr, hfit, hall, sg, sgE, sg07, n0, n1, n2]; done)
    · intro sl hsl c hc hf
      simp only [List.mem_cons, List.mem_nil_iff, List.not_mem_nil, or_false] at hsl hc
      subst hsl
      rcases hc with rfl | rfl | rfl <;> dsimp only at hf ⊢ <;> first
        | (exact absurd hf (by decide +kernel))
        | (exact ⟨by omega, g11⟩)
    by_cases h0 : X.2 = 0
    rotate_left
    · have hbad := hbad _ (herr h0)
      simp only [WU, seval, strs_eq, h3, h4, h5, h6, h9, k3, h0, n3, sgE, storeA, sets, setx, TS]
      rw [hbad]
      rfl
    have hst := hstep h0
    have hrowB := hrow.keep (s := (s1.put (s'.n + 11) [.int .i64 X.1.kind, .int .i64 X.1.of_, .str X.1.name])) (by rw [put_n, hnA]; omega) (fun b hb _ => by rw [put_get, if_neg (by omega)]; exact hcell b hb)
    obtain ⟨b9, cap9, s9, happ, hrow9, hn9, hk9⟩ := app_lit (bytes := 32) hrowB (fun b hb => by simp only [put_n] at hb; omega) (new := X.1.c) (k := 1) rfl rfl (by omega) (by omega)
    simp only [put_n] at hn9 hk9
    have hold : ∀ b, b < 4 → s9.cells b = s'.cells b := fun b hb => (get_cells (hk9 b (by omega) (by omega))).trans (by rw [put_get, if_neg (by omega)]; exact hcell b (by omega))
    have d0 := (hold 0 (by omega)).trans c0
    have d1 := (hold 1 (by omega)).trans c1
    have d2 := (hold 2 (by omega)).trans c2
    have d3 := (hold 3 (by omega)).trans c3
    have hn9' : 4 ≤ s9.n := by omega
    simp only [Ty.c_eq, push_n, put_n] at happ
    simp only [WU, seval, strs_eq, h3, h4, h5, h6, h9, h0, h8, sgE, fillA, happ, hw, d0, d1, d2, d3, storeA, sets, setx, TS]
    refine ⟨hlt, hn9', ts ++ [X.1], _, rfl, ?_, hst⟩
    rw [rowc_append, rowc_one, List.length_append]
    exact hrow9
  clear h3 h4 h5 h6 c0 c1 c2 c3 hn
  rintro ρ s' ⟨h3, h4, h5, h6, c0, c1, c2, c3, hn, ts, x, h8, hrow, hts⟩
  have htl := ofPs_len hts
  rw [ofP_node hts (by omega) ha]
  have hN : AC Try.prog 48 [.agg S.c, .agg (Ex.mk op b n s ut ui kids).c, x] s' fun v s'' => s'' = s' ∧ v = tyP (nodeP S op s ts) := own_ac hs (by omega) (by rw [htl]; exact ha) (by omega) hrow
  generalize nodeP S op s ts = X at *
  simp only [Ex.c_eq, Sc.c_eq, slc_eq, tyP, tyE, Ty.c_eq] at hN
  simp only [WU, seval, strs_eq, h3, h4, h5, h6, c0, c1, c2, c3, hn, h8, sg, sgE, sg07]
  refine hN.use ?_
  simp only [WU, seval, strs_eq, h3, h4, h5, h6, c0, c1, c2, c3, hn, sgE, storeA, sets, setx, TS]
  rfl
mutual
theorem ofR_ac {S : Sc} {p a r : Str} (hs : ScR S) : (e : Ex) → e.wf → ∀ σ, AC Try.prog 36 [.agg S.c, .agg [.str p, .str a, .str r], .agg e.c] σ fun v s' => s' = σ ∧ v = tyP (ofP S p r e)
  | .mk op b n s ut ui kids, hw, σ => ofR_step hs ((Ex.wf_eq ..).mp hw).1 ((Ex.wf_eq ..).mp hw).2.1 (ofR_all hs kids ((Ex.wf_eq ..).mp hw).2.2)
theorem ofR_all {S : Sc} {p a r : Str} (hs : ScR S) : (l : List Ex) → Ex.wfs l → ∀ e ∈ l, ∀ σ, AC Try.prog 36 [.agg S.c, .agg [.str p, .str a, .str r], .agg e.c] σ fun v s' => s' = σ ∧ v = tyP (ofP S p r e)
  | [], _, e, he, σ => absurd he (by simp)
  | k :: l, hw, e, he, σ => by
    have hw' : k.wf ∧ Ex.wfs l := by rw [Ex.wfs] at hw; exact hw
    rcases List.mem_cons.1 he with h | h
    · rw [h]; exact ofR_ac hs k hw'.1 σ
    · exact ofR_all hs l hw'.2 e h σ
end
end Go.Proofs.Ytcdbpmmomgehfaa.Va
