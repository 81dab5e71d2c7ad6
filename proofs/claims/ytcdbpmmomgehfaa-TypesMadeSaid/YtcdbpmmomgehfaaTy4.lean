/- What the law's maker makes is such as may be (plain). Conditions: none. -/
import Derived.Test.YtcdbpmmomgehfaaTy3
set_option maxRecDepth 100000
set_option maxHeartbeats 4000000
set_option linter.all false
namespace Go.Proofs.Ytcdbpmmomgehfaa.Va
open Go.Proofs
theorem bl_asym : ∀ a b : Str, Op.bytesLess a b = true → (Op.bytesLess b a || b == a) = false := by
  intro a
  induction a with
  | nil =>
    intro b h
    cases b with
    | nil => simp [Op.bytesLess] at h
    | cons y b => simp [Op.bytesLess]
  | cons x a ih =>
    intro b h
    cases b with
    | nil => simp [Op.bytesLess] at h
    | cons y b =>
      simp only [Op.bytesLess, Bool.or_eq_true, decide_eq_true_eq, Bool.and_eq_true, beq_iff_eq] at h
      simp only [Op.bytesLess, Bool.or_eq_false_iff, decide_eq_false_iff_not, Bool.and_eq_false_iff, beq_eq_false_iff_ne, ne_eq, List.cons.injEq, not_and]
      rcases h with h | ⟨rfl, h⟩
      · have hxy : x.toNat < y.toNat := UInt8.lt_iff_toNat_lt.1 h
        refine ⟨⟨fun h' => ?_, .inl fun e => ?_⟩, fun e => ?_⟩
        · have := UInt8.lt_iff_toNat_lt.1 h'; omega
        · subst e; omega
        · subst e; omega
      · have h1 := ih b h
        simp only [Bool.or_eq_false_iff, beq_eq_false_iff_ne, ne_eq] at h1
        refine ⟨⟨fun h' => ?_, .inr h1.1⟩, fun _ => h1.2⟩
        have := UInt8.lt_iff_toNat_lt.1 h'; omega
theorem bl_nil (a : Str) (h : a ≠ []) : (Op.bytesLess a [] || a == []) = false := by
  cases a with
  | nil => exact absurd rfl h
  | cons x a => rfl
theorem ident_ne {n : Str} (h : identS n = true) : n ≠ [] := fun e => by subst e; exact absurd h (by decide)
/- fields -/
def lastF (last : Str) (out : List Fl) : Str := match out.getLast? with | none => last | some g => g.name
theorem fieldsS_snoc {ks : List Kd} {f : Fl} : ∀ (out : List Fl) (last : Str), fieldsS ks last out = 0 → fieldsS ks last (out ++ [f]) = fieldsS ks (lastF last out) [f] := by
  intro out
  induction out with
  | nil => intro last _; rfl
  | cons g out ih =>
    intro last h
    simp only [fieldsS, List.cons_append] at h ⊢
    split
    · rename_i h1; rw [if_pos h1] at h; omega
    · rename_i h1
      rw [if_neg h1] at h
      split
      · rename_i h2; rw [if_pos h2] at h; omega
      · rename_i h2
        rw [if_neg h2] at h
        split
        · rename_i h3; rw [if_pos h3] at h; exact absurd h h3
        · rename_i h3
          rw [if_neg h3] at h
          have e : lastF last (g :: out) = lastF g.name out := by
            simp only [lastF]
            cases out with
            | nil => rfl
            | cons a out => simp [List.getLast?_cons_cons]; cases h : (a :: out).getLast? <;> simp_all
          rw [e]
          exact ih g.name h
theorem fieldsS_one {ks : List Kd} {f : Fl} {last : Str} (h1 : identS f.name = true) (h2 : (Op.bytesLess f.name last || f.name == last) = false) (h3 : kindOfS ks f.ty = 0) : fieldsS ks last [f] = 0 := by
  simp [fieldsS, h1, h2, h3]
theorem okLast_cmp {out : List Fl} {n : Str} (h : okLast out n = true) (hn : n ≠ []) : (Op.bytesLess n (lastF [] out) || n == lastF [] out) = false := by
  unfold okLast at h
  unfold lastF
  cases e : out.getLast? with
  | none => exact bl_nil n hn
  | some g => rw [e] at h; exact bl_asym _ _ h
theorem fldGo_zero {ks : List Kd} {n : Str} : ∀ (r out : List Fl), fieldsS ks [] out = 0 → (∀ f ∈ r, identS f.name = true ∧ kindOfS ks (fixT ks n f.ty) = 0) → fieldsS ks [] (fldGo ks n out r) = 0 := by
  intro r
  induction r with
  | nil => intro out h _; exact h
  | cons f r ih =>
    intro out h hr
    obtain ⟨h1, h2⟩ := hr f (by simp)
    unfold fldGo
    split
    · rename_i hok
      refine ih _ ?_ fun g hg => hr g (by simp [hg])
      rw [fieldsS_snoc out [] h]
      exact fieldsS_one h1 (okLast_cmp hok (ident_ne h1)) h2
    · exact ih _ h fun g hg => hr g (by simp [hg])
theorem fldGo_all {ks : List Kd} {n : Str} {p : Fl → Prop} : ∀ (r out : List Fl), (∀ f ∈ out, p f) → (∀ f ∈ r, p ⟨f.name, fixT ks n f.ty⟩) → ∀ f ∈ fldGo ks n out r, p f := by
  intro r
  induction r with
  | nil => intro out h _; exact h
  | cons f r ih =>
    intro out h hr
    unfold fldGo
    split
    · refine ih _ (fun g hg => ?_) fun g hg => hr g (by simp [hg])
      rcases List.mem_append.1 hg with hg | hg
      · exact h g hg
      · rw [List.mem_singleton.1 hg]; exact hr f (by simp)
    · exact ih _ h fun g hg => hr g (by simp [hg])
theorem fldGo_len {ks : List Kd} {n : Str} : ∀ (r out : List Fl), (fldGo ks n out r).length ≤ out.length + r.length := by
  intro r
  induction r with
  | nil => intro out; simp [fldGo]
  | cons f r ih =>
    intro out
    unfold fldGo
    split
    · have := ih (out ++ [⟨f.name, fixT ks n f.ty⟩]); simp at this ⊢; omega
    · have := ih out; simp; omega
theorem fixT_good {ks : List Kd} {n : Str} {t : Ty} (ht : TyG t) (hn : hasS ks n = true) (hne : n ≠ []) : TyG (fixT ks n t) ∧ kindOfS ks (fixT ks n t) = 0 := by
  have key : ∀ u : Ty, TyG u → (u.name ≠ [] → hasS ks u.name = true) → kindOfS ks u = 0 := by
    intro u hu hh
    have h1 := hu.k
    unfold kindOfS
    rw [if_neg (by omega), if_neg (by have := hu.o; omega), if_neg (by have := hu.o0; omega)]
    by_cases hnm : u.kind = 4 ∨ u.of_ = 4
    · have hnm' : u.kind = 4 ∨ u.kind = 5 ∧ u.of_ = 4 := by have := hu.o0; omega
      have := hh (hu.n hnm)
      simp only [hnm', not_true, false_and, if_false, this, true_and, Bool.true_eq_false]
    · have hnm' : ¬ (u.kind = 4 ∨ u.kind = 5 ∧ u.of_ = 4) := by omega
      simp only [hnm', hu.n0 hnm, not_false_eq_true, true_and, ne_eq, not_true, if_false, false_and]
  unfold fixT
  split
  · rename_i h
    have hu : TyG { t with name := n } := ⟨ht.k, ht.o, ht.o0, fun _ => hne, fun h' => absurd (ht.n0 h') h.1⟩
    exact ⟨hu, key _ hu fun _ => hn⟩
  · rename_i h
    refine ⟨ht, key _ ht fun h' => ?_⟩
    cases e : hasS ks t.name with
    | true => rfl
    | false => exact absurd ⟨h', e⟩ h
theorem kindG_good {ks : List Kd} {k : Kd} (hk : KdG k) (hn : hasS ks k.name = true) (hne : k.name ≠ []) : KdG (kindG ks k) ∧ fieldsS ks [] (kindG ks k).fields = 0 ∧ (kindG ks k).parents.all (hasS ks) = true := by
  refine ⟨⟨hk.nl, Nat.le_trans (thoseS_len _ _) hk.pl, ?_, ?_⟩, ?_, ?_⟩
  · have := fldGo_len (ks := ks) (n := k.name) k.fields []
    simp only [List.length_nil, Nat.zero_add] at this
    exact Nat.le_trans this hk.fl
  · exact fldGo_all _ _ (fun f hf => (by cases hf)) fun f hf => ⟨(hk.f f hf).nm, (hk.f f hf).nl, (fixT_good (hk.f f hf).ty hn hne).1⟩
  · exact fldGo_zero _ _ rfl fun f hf => ⟨(hk.f f hf).nm, (fixT_good (hk.f f hf).ty hn hne).2⟩
  · simp [kindG, thoseS]
theorem kindG_congr {ks ks' : List Kd} {k : Kd} (h : hasS ks = hasS ks') : kindG ks k = kindG ks' k := by
  have h1 : ∀ n t, fixT ks n t = fixT ks' n t := fun n t => by unfold fixT; rw [h]
  have h2 : ∀ (r out : List Fl) n, fldGo ks n out r = fldGo ks' n out r := by
    intro r
    induction r with
    | nil => intro out n; rfl
    | cons f r ih => intro out n; unfold fldGo; rw [h1, ih, ih]
  unfold kindG thoseS
  rw [h, h2]
theorem hasS_names {ks ks' : List Kd} (h : ks.map Kd.name = ks'.map Kd.name) : hasS ks = hasS ks' := by
  funext n
  have : ∀ ks : List Kd, hasS ks n = (ks.map Kd.name).any fun x => decide (x = n) := fun ks => by unfold hasS; rw [List.any_map]; rfl
  rw [this, this, h]
/- kinds -/
def kN (n : Nat) : Str := if n = 0 then [68, 111, 99] else if n = 1 then [71, 114, 111, 117, 112] else if n = 2 then [84, 101, 97, 109] else [85, 115, 101, 114]
def aN (n : Nat) : Str := if n = 0 then [111, 119, 110] else if n = 1 then [114, 101, 97, 100] else [119, 114, 105, 116, 101]
theorem kN_lt {i j : Nat} (h : i < j) (hj : j < 4) : Op.bytesLess (kN i) (kN j) = true := by
  have : ∀ j, j < 4 → ∀ i, i < j → Op.bytesLess (kN i) (kN j) = true := by decide
  exact this j hj i h
theorem kN_ok (n : Nat) : identS (kN n) = true ∧ resS (kN n) = false ∧ kN n ≠ [] := by
  unfold kN; repeat' (first | decide | split)
theorem aN_ok (n : Nat) : identS (aN n) = true ∧ aN n ≠ [] := by
  unfold aN; repeat' (first | decide | split)
theorem aN_lt {i j : Nat} (h : i < j) (hj : j < 3) : Op.bytesLess (aN i) (aN j) = true := by
  have : ∀ j, j < 3 → ∀ i, i < j → Op.bytesLess (aN i) (aN j) = true := by decide
  exact this j hj i h
structure KsG (n : Nat) (K : List Kd) : Prop where
  nm : ∀ k ∈ K, ∃ j, j < n ∧ k.name = kN j
  asc : K.Pairwise fun a b => Op.bytesLess a.name b.name = true
  good : ∀ k ∈ K, KdG k
  len : K.length ≤ n
theorem KsG.nil (n : Nat) : KsG n [] := ⟨fun k h => (by cases h), .nil, fun k h => (by cases h), Nat.zero_le _⟩
theorem KsG.snoc {n : Nat} {K : List Kd} (h : KsG n K) (hn : n < 4) {k : Kd} (hk : k.name = kN n) (hg : KdG k) : KsG (n + 1) (K ++ [k]) := by
  refine ⟨fun a ha => ?_, List.pairwise_append.2 ⟨h.asc, by simp, fun a ha b hb => ?_⟩, fun a ha => ?_, by simp [h.len]⟩
  · rcases List.mem_append.1 ha with ha | ha
    · obtain ⟨j, hj, e⟩ := h.nm a ha; exact ⟨j, by omega, e⟩
    · rw [List.mem_singleton.1 ha]; exact ⟨n, by omega, hk⟩
  · rw [List.mem_singleton.1 hb]
    obtain ⟨j, hj, e⟩ := h.nm a ha
    rw [e, hk]; exact kN_lt hj hn
  · rcases List.mem_append.1 ha with ha | ha
    · exact h.good a ha
    · rw [List.mem_singleton.1 ha]; exact hg
theorem KsG.mono {n : Nat} {K : List Kd} (h : KsG n K) : KsG (n + 1) K :=
  ⟨fun a ha => by obtain ⟨j, hj, e⟩ := h.nm a ha; exact ⟨j, by omega, e⟩, h.asc, h.good, by have := h.len; omega⟩
theorem KsG.last {n : Nat} {K : List Kd} (h : KsG n K) (hn : n < 4) (hne : K.length ≠ 0) : (K[K.length - 1]'(by omega)).name ≠ kN n := by
  obtain ⟨j, hj, e⟩ := h.nm _ (List.getElem_mem (by omega : K.length - 1 < K.length))
  rw [e]
  intro e'
  have := bl_asym _ _ (kN_lt hj hn)
  rw [e'] at this
  simp at this
theorem kindsS_zero {ks : List Kd} : ∀ (l : List Kd) (last : Str), (∀ k ∈ l, ∀ last', (Op.bytesLess k.name last' || k.name == last') = false → kindS ks k last' = 0) → (∀ k ∈ l, (Op.bytesLess k.name last || k.name == last) = false) → l.Pairwise (fun a b => Op.bytesLess a.name b.name = true) → kindsS ks last l = 0 := by
  intro l
  induction l with
  | nil => intro last _ _ _; rfl
  | cons k l ih =>
    intro last h1 h2 h3
    have h4 := List.pairwise_cons.1 h3
    have h5 := h1 k (by simp) last (h2 k (by simp))
    simp only [kindsS, h5, ne_eq, not_true, if_false]
    exact ih k.name (fun a ha => h1 a (by simp [ha])) (fun a ha => bl_asym _ _ (h4.1 a ha)) h4.2
theorem KsG.zero {n : Nat} {K : List Kd} (h : KsG n K) (hn : n ≤ 4) : kindsS (K.map (kindG K)) [] (K.map (kindG K)) = 0 := by
  have hnames : (K.map (kindG K)).map Kd.name = K.map Kd.name := by rw [List.map_map]; rfl
  have hh := hasS_names hnames
  refine kindsS_zero _ _ (fun k hk last' hc => ?_) (fun k hk => ?_) ?_
  · obtain ⟨a, ha, rfl⟩ := List.mem_map.1 hk
    obtain ⟨j, hj, e⟩ := h.nm a ha
    have hok := kN_ok j
    have hself : hasS K a.name = true := by
      unfold hasS; rw [List.any_eq_true]; exact ⟨a, ha, by simp⟩
    obtain ⟨g1, g2, g3⟩ := kindG_good (h.good a ha) hself (by rw [e]; exact hok.2.2)
    have e1 : (kindG K a).name = kN j := e
    have hfs : fieldsS (K.map (kindG K)) [] (kindG K a).fields = 0 := by
      have : ∀ (l : List Fl) last, fieldsS (K.map (kindG K)) last l = fieldsS K last l := by
        intro l
        induction l with
        | nil => intro last; rfl
        | cons f l ih =>
          intro last
          have : kindOfS (K.map (kindG K)) f.ty = kindOfS K f.ty := by unfold kindOfS; rw [hh]
          simp only [fieldsS, this, ih]
      rw [this]; exact g2
    have hn1 := g1.pl
    have hn2 := g1.fl
    rw [kindS, if_neg (by rw [e1, hok.1, hok.2.1]; simp), if_neg (by rw [hc]; simp), if_neg (by omega), if_neg (by rw [hh, g3]; simp)]
    exact hfs
  · obtain ⟨a, ha, rfl⟩ := List.mem_map.1 hk
    obtain ⟨j, hj, e⟩ := h.nm a ha
    exact bl_nil _ (by show a.name ≠ []; rw [e]; exact (kN_ok j).2.2)
  · rw [List.pairwise_map]; exact h.asc
/- actions -/
structure AsG (ks : List Kd) (n : Nat) (A : List Ac) : Prop where
  nm : ∀ a ∈ A, ∃ j, j < n ∧ a.name = aN j
  asc : A.Pairwise fun a b => Op.bytesLess a.name b.name = true
  good : ∀ a ∈ A, AcG a ∧ (a.prins ++ a.ress).all (hasS ks) = true
  len : A.length ≤ n
theorem AsG.nil (ks : List Kd) (n : Nat) : AsG ks n [] := ⟨fun k h => (by cases h), .nil, fun k h => (by cases h), Nat.zero_le _⟩
theorem AsG.snoc {ks : List Kd} {n : Nat} {A : List Ac} (h : AsG ks n A) (hn : n < 3) {a : Ac} (ha : a.name = aN n) (hg : AcG a) (hl : (a.prins ++ a.ress).all (hasS ks) = true) : AsG ks (n + 1) (A ++ [a]) := by
  refine ⟨fun b hb => ?_, List.pairwise_append.2 ⟨h.asc, by simp, fun b hb c hc => ?_⟩, fun b hb => ?_, by simp [h.len]⟩
  · rcases List.mem_append.1 hb with hb | hb
    · obtain ⟨j, hj, e⟩ := h.nm b hb; exact ⟨j, by omega, e⟩
    · rw [List.mem_singleton.1 hb]; exact ⟨n, by omega, ha⟩
  · rw [List.mem_singleton.1 hc]
    obtain ⟨j, hj, e⟩ := h.nm b hb
    rw [e, ha]; exact aN_lt hj hn
  · rcases List.mem_append.1 hb with hb | hb
    · exact h.good b hb
    · rw [List.mem_singleton.1 hb]; exact ⟨hg, hl⟩
theorem AsG.mono {ks : List Kd} {n : Nat} {A : List Ac} (h : AsG ks n A) : AsG ks (n + 1) A :=
  ⟨fun a ha => by obtain ⟨j, hj, e⟩ := h.nm a ha; exact ⟨j, by omega, e⟩, h.asc, h.good, by have := h.len; omega⟩
theorem AsG.last {ks : List Kd} {n : Nat} {A : List Ac} (h : AsG ks n A) (hn : n < 3) (hne : A.length ≠ 0) : (A[A.length - 1]'(by omega)).name ≠ aN n := by
  obtain ⟨j, hj, e⟩ := h.nm _ (List.getElem_mem (by omega : A.length - 1 < A.length))
  rw [e]
  intro e'
  have := bl_asym _ _ (aN_lt hj hn)
  rw [e'] at this
  simp at this
theorem actsS_zero {ks : List Kd} : ∀ (l : List Ac) (last : Str), (∀ a ∈ l, ∀ last', (Op.bytesLess a.name last' || a.name == last') = false → actS ks a last' = 0) → (∀ a ∈ l, (Op.bytesLess a.name last || a.name == last) = false) → l.Pairwise (fun a b => Op.bytesLess a.name b.name = true) → actsS ks last l = 0 := by
  intro l
  induction l with
  | nil => intro last _ _ _; rfl
  | cons k l ih =>
    intro last h1 h2 h3
    have h4 := List.pairwise_cons.1 h3
    have h5 := h1 k (by simp) last (h2 k (by simp))
    simp only [actsS, h5, ne_eq, not_true, if_false]
    exact ih k.name (fun a ha => h1 a (by simp [ha])) (fun a ha => bl_asym _ _ (h4.1 a ha)) h4.2
theorem AsG.zero {ks : List Kd} {n : Nat} {A : List Ac} (h : AsG ks n A) : actsS ks [] A = 0 := by
  refine actsS_zero _ _ (fun a ha last' hc => ?_) (fun a ha => ?_) h.asc
  · obtain ⟨j, hj, e⟩ := h.nm a ha
    obtain ⟨hg, hl⟩ := h.good a ha
    have h1 := hg.pl
    have h2 := hg.rl
    rw [actS, if_neg (by rw [e, (aN_ok j).1]; simp), if_neg (by rw [hc]; simp), if_neg (by omega), if_neg (by omega), if_neg (by rw [hl]; simp)]
  · obtain ⟨j, hj, e⟩ := h.nm a ha
    exact bl_nil _ (by rw [e]; exact (aN_ok j).2)
/- A schema such as may be. -/
structure ScN (s : Sc) : Prop where
  chk : checkS s = 0
  kn : ∀ k ∈ s.kinds, ∃ j, j < 4 ∧ k.name = kN j
  an : ∀ a ∈ s.acts, ∃ j, j < 3 ∧ a.name = aN j
  kl : s.kinds.length ≤ 4
  al : s.acts.length ≤ 3
  k : ∀ k ∈ s.kinds, KdG k
  a : ∀ a ∈ s.acts, AcG a
theorem KdG.ok {k : Kd} (h : KdG k) : k.ok := ⟨by have := h.pl; have : Most = 9223372036854775807 := rfl; omega, by have := h.fl; have : Most = 9223372036854775807 := rfl; omega⟩
theorem KdG.tok {k : Kd} (h : KdG k) : k.tok := ⟨by have := h.nl; have : Most = 9223372036854775807 := rfl; omega, fun f hf => by have := (h.f f hf).nl; have : Most = 9223372036854775807 := rfl; show f.name.length ≤ Most; omega⟩
theorem AcG.ok {a : Ac} (h : AcG a) : a.ok := ⟨by have := h.pl; have : Most = 9223372036854775807 := rfl; omega, by have := h.rl; have : Most = 9223372036854775807 := rfl; omega⟩
theorem AcG.tok {a : Ac} (h : AcG a) : a.tok := by have := h.nl; have : Most = 9223372036854775807 := rfl; show a.name.length ≤ Most; omega
theorem ScG.ok {s : Sc} (h : ScG s) : s.ok := ⟨by have := h.kl; have : Most = 9223372036854775807 := rfl; omega, by have := h.al; have : Most = 9223372036854775807 := rfl; omega, fun k hk => (h.k k hk).ok, fun a ha => (h.a a ha).ok⟩
theorem ScG.tok {s : Sc} (h : ScG s) : s.tok := ⟨fun k hk => (h.k k hk).tok, fun a ha => (h.a a ha).tok⟩
theorem ScN.g {s : Sc} (h : ScN s) : ScG s := ⟨by have := h.kl; omega, by have := h.al; omega, h.k, h.a⟩
theorem scN_of {K : List Kd} {A : List Ac} (hK : KsG 4 K) (hA : AsG K 3 A) : ScN ⟨K.map (kindG K), A⟩ := by
  have hnames : (K.map (kindG K)).map Kd.name = K.map Kd.name := by rw [List.map_map]; rfl
  have hh := hasS_names hnames
  have hA' : AsG (K.map (kindG K)) 3 A := ⟨hA.nm, hA.asc, fun a ha => by rw [hh]; exact hA.good a ha, hA.len⟩
  refine ⟨?_, fun k hk => ?_, hA.nm, by simpa using hK.len, hA.len, fun k hk => ?_, fun a ha => (hA.good a ha).1⟩
  · have h1 := hK.len
    have h2 := hA.len
    rw [checkS, if_neg (by simp; omega), if_neg (by rw [hK.zero (Nat.le_refl _)]; simp)]
    exact hA'.zero
  · obtain ⟨a, ha, rfl⟩ := List.mem_map.1 hk
    exact hK.nm a ha
  · obtain ⟨a, ha, rfl⟩ := List.mem_map.1 hk
    obtain ⟨j, hj, e⟩ := hK.nm a ha
    exact (kindG_good (hK.good a ha) (by unfold hasS; rw [List.any_eq_true]; exact ⟨a, ha, by simp⟩) (by rw [e]; exact (kN_ok j).2.2)).1
end Go.Proofs.Ytcdbpmmomgehfaa.Va
