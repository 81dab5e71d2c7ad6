/- Texts of runes; uids of them. Conditions: none. -/
import Derived.Test.YtcdbpmmomgehfaaTy19
set_option maxRecDepth 100000
set_option maxHeartbeats 4000000
set_option linter.all false
namespace Go.Proofs.Ytcdbpmmomgehfaa.Va
open Go.Proofs
theorem wrapB (n : Int) : IntKind.u8.wrap n = n % 256 := by
  simp [IntKind.wrap, IntKind.bits, IntKind.signed]
theorem byte_of (n : Int) : ∃ u : UInt8, IntKind.u8.wrap n = u.toNat := by
  rw [wrapB]
  refine ⟨UInt8.ofNat (n % 256).toNat, ?_⟩
  have h : 0 ≤ n % 256 ∧ n % 256 < 256 := by omega
  have : (UInt8.ofNat (n % 256).toNat).toNat = (n % 256).toNat := by simp; omega
  rw [this]; omega
def orB (a b : Int) : UInt8 := UInt8.ofNat (IntKind.u8.wrap (BitVec.ofInt 8 a ||| BitVec.ofInt 8 b).toNat).toNat
theorem ei_or8 (a b : Int) : evalInt .or .u8 a b = some (.int .u8 (orB a b).toNat) := by
  have h1 : evalInt .or .u8 a b = some (.int .u8 (IntKind.u8.wrap (BitVec.ofInt 8 a ||| BitVec.ofInt 8 b).toNat)) := rfl
  rw [h1]
  obtain ⟨u, hu⟩ := byte_of (BitVec.ofInt 8 a ||| BitVec.ofInt 8 b).toNat
  unfold orB
  rw [hu]
  simp
def andI (a b : Int) : Int := IntKind.i32.wrap (BitVec.ofInt 32 a &&& BitVec.ofInt 32 b).toNat
theorem ei_and (a b : Int) : evalInt .and .i32 a b = some (.int .i32 (andI a b)) := Eq.trans rfl rfl
def b8 (n : Int) : UInt8 := UInt8.ofNat (IntKind.u8.wrap n).toNat
theorem b8_eq (n : Int) : IntKind.u8.wrap n = (b8 n).toNat := by
  obtain ⟨u, hu⟩ := byte_of n
  unfold b8
  rw [hu]
  simp
theorem es_shr6 (a : Int) : evalShift .shr .i32 a 6 = some (.int .i32 (a.fdiv 64)) := Eq.trans rfl rfl
theorem es_shr12 (a : Int) : evalShift .shr .i32 a 12 = some (.int .i32 (a.fdiv 4096)) := Eq.trans rfl rfl
theorem es_shr18 (a : Int) : evalShift .shr .i32 a 18 = some (.int .i32 (a.fdiv 262144)) := Eq.trans rfl rfl
theorem ofU8s_app (a b : List UInt8) : ofU8s (a ++ b) = ofU8s a ++ ofU8s b := by simp [ofU8s]
theorem u8s_of (l : List UInt8) : u8s (ofU8s l) = some l := by
  induction l with
  | nil => rfl
  | cons a l ih =>
    have : ofU8s (a :: l) = .int .u8 a.toNat :: ofU8s l := rfl
    rw [this]
    simp [u8s, ih]
def putS (r : Int) : Str :=
  if r < 128 then [b8 r]
  else if r < 2048 then [orB 192 (b8 (r.fdiv 64)).toNat, orB 128 (b8 (andI r 63)).toNat]
  else if r < 65536 then [orB 224 (b8 (r.fdiv 4096)).toNat, orB 128 (b8 (andI (r.fdiv 64) 63)).toNat, orB 128 (b8 (andI r 63)).toNat]
  else [orB 240 (b8 (r.fdiv 262144)).toNat, orB 128 (b8 (andI (r.fdiv 4096) 63)).toNat, orB 128 (b8 (andI (r.fdiv 64) 63)).toNat, orB 128 (b8 (andI r 63)).toNat]
theorem putS_len (r : Int) : (putS r).length ≤ 4 ∧ 0 < (putS r).length := by unfold putS; repeat' (first | simp | split)
/- A row that has grown. -/
def Grew (p : Nat → Prop) (σ s : AState) (v : AV) (l : Str) : Prop := σ.n ≤ s.n ∧ (∀ b, b < σ.n → ¬ p b → s.h.get b = σ.h.get b) ∧ RowP p s v (ofU8s l) l.length 1
theorem grew_of {p : Nat → Prop} {σ : AState} {x : AV} {l : List UInt8} (hrow : RowP p σ x (ofU8s l) l.length 1) (hp : ∀ b, σ.n ≤ b → p b) (hl : l.length ≤ 1000000) (us : List UInt8) (h0 : 0 < us.length) (h4 : us.length ≤ 4) :
    ∃ b cap s, appendA (σ.push (.cells (ofU8s us))) 1 1 x (.sl σ.n 0 us.length (some us.length) 1) = some (.sl b 0 (l.length + us.length) cap 1, s) ∧ Grew p σ s (.sl b 0 (l.length + us.length) cap 1) (l ++ us) := by
  obtain ⟨b, cap, s, h1, h2, h3, h4'⟩ := app_lit (bytes := 1) hrow hp (new := ofU8s us) (k := us.length) (by simp [ofU8s, AV.one]) (by simp [ofU8s]) h0 (by omega)
  refine ⟨b, cap, s, h1, Nat.le_of_lt h3, h4', ?_⟩
  rw [ofU8s_app, List.length_append]; exact h2
theorem put_ac {p : Nat → Prop} {σ : AState} {x : AV} {l : List UInt8} {r : Int} (hrow : RowP p σ x (ofU8s l) l.length 1) (hp : ∀ b, σ.n ≤ b → p b) (hl : l.length ≤ 1000000) :
    AC Try.prog 77 [x, .int .i32 r] σ fun v s => Grew p σ s v (l ++ putS r) := by
  obtain ⟨b, cap, s, happ, hG⟩ := grew_of hrow hp hl (putS r) (putS_len r).2 (putS_len r).1
  revert happ hG
  unfold putS
  by_cases h1 : r < 128
  · rw [if_pos h1]
    intro happ hG
    simp only [ofU8s, List.map_cons, List.map_nil, List.length_cons, List.length_nil, Nat.zero_add, Nat.reduceAdd] at happ
    refine ac_wp fn77 cf77 cl77 rfl ?_
    simp only [ac77]
    unfold ab77
    simp only [WU, seval, strs_eq, h1, b8_eq, fillA, happ]
    exact hG
  rw [if_neg h1]
  by_cases h2 : r < 2048
  · rw [if_pos h2]
    intro happ hG
    simp only [ofU8s, List.map_cons, List.map_nil, List.length_cons, List.length_nil, Nat.zero_add, Nat.reduceAdd] at happ
    refine ac_wp fn77 cf77 cl77 rfl ?_
    simp only [ac77]
    unfold ab77
    simp only [WU, seval, strs_eq, h1, h2, b8_eq, ei_or8, ei_and, es_shr6, fillA, happ]
    exact hG
  rw [if_neg h2]
  by_cases h3 : r < 65536
  · rw [if_pos h3]
    intro happ hG
    simp only [ofU8s, List.map_cons, List.map_nil, List.length_cons, List.length_nil, Nat.zero_add, Nat.reduceAdd] at happ
    refine ac_wp fn77 cf77 cl77 rfl ?_
    simp only [ac77]
    unfold ab77
    simp only [WU, seval, strs_eq, h1, h2, h3, b8_eq, ei_or8, ei_and, es_shr6, es_shr12, fillA, happ]
    exact hG
  rw [if_neg h3]
  intro happ hG
  simp only [ofU8s, List.map_cons, List.map_nil, List.length_cons, List.length_nil, Nat.zero_add, Nat.reduceAdd] at happ
  refine ac_wp fn77 cf77 cl77 rfl ?_
  simp only [ac77]
  unfold ab77
  simp only [WU, seval, strs_eq, h1, h2, h3, b8_eq, ei_or8, ei_and, es_shr6, es_shr12, es_shr18, fillA, happ]
  exact hG
def i32s (l : List Int) : List AV := l.map fun n => .int .i32 n
theorem i32s_get {l : List Int} {i : Nat} (h : i < l.length) : (i32s l)[i]? = some (.int .i32 l[i]) := by simp [i32s, h]
def isS (r : Int) : Bool := decide (0 ≤ r) && decide (r ≤ 1114111) && (decide (r < 55296) || decide (57343 < r))
theorem isR_ac {r : Int} {σ : AState} : AC Try.prog 76 [.int .i32 r] σ fun v s => s = σ ∧ v = .bool (isS r) := by
  refine ac_wp fn76 cf76 cl76 rfl ?_
  simp only [ac76]
  unfold ab76
  by_cases h1 : (0 : Int) ≤ r
  · by_cases h2 : r ≤ 1114111
    · by_cases h3 : r < 55296
      · simp only [WU, seval, strs_eq, h1, h2, h3]; exact (by unfold isS; simp [h1, h2, h3])
      · simp only [WU, seval, strs_eq, h1, h2, h3]; exact (by unfold isS; simp [h1, h2, h3])
    · simp only [WU, seval, strs_eq, h1, h2]; exact (by unfold isS; simp [h1, h2])
  · simp only [WU, seval, strs_eq, h1]; exact (by unfold isS; simp [h1])
def ofRS (l : List Int) : Str × Int := if l.all isS = true then (l.flatMap putS, 0) else ([], 11)
def txP (x : Str × Int) : AV := .tup [.str x.1, .int .i64 x.2]
theorem pur0_tx (s : AState) (x : Str × Int) : Pur s false (txP x) (txP x) := .tup _ _ rfl fun i hi _ => by
  match i, hi with
  | 0, _ => exact .flat _ rfl
  | 1, _ => exact .flat _ rfl
theorem flatP_len (l : List Int) : (l.flatMap putS).length ≤ 4 * l.length := by
  induction l with
  | nil => simp
  | cons a l ih =>
    have := (putS_len a).1
    simp only [List.flatMap_cons, List.length_append, List.length_cons]; omega
theorem ofR1_st0 {l : List Int} (hl : l.length ≤ 1000) : AC Try.prog 64 [.psl (i32s l) 0 l.length] st0 fun v _ => v = txP (ofRS l) := by
  refine ac_wp fn64 cf64 cl64 rfl ?_
  simp only [ac64]
  unfold ab64
  simp only [WU, seval, strs_eq]
  refine w_for (fun i ρ s => ρ.rd 5 = .int .i64 i ∧ ρ.rd 0 = .psl (i32s l) 0 l.length ∧ ∃ x, ρ.rd 4 = x ∧ (l.take i).all isS = true ∧ RowP (fun _ => True) s x (ofU8s ((l.take i).flatMap putS)) ((l.take i).flatMap putS).length 1) l.length ?_ ?_
  · simp only [WU, seval, strs_eq]
    first | done | exact ⟨rfl, .nils, rfl, rfl, RowP.nil _ _ _⟩ | exact ⟨.nils, rfl, rfl, RowP.nil _ _ _⟩
  rintro i ρ s hi ⟨h5, h0, x, h4, hal, hrow⟩
  by_cases hlt : i < l.length
  rotate_left
  · have : i = l.length := by omega
    subst this
    have hge : ¬ ((l.length : Nat) : Int) < ((l.length : Nat) : Int) := by omega
    rw [List.take_length] at hal hrow
    have hv : ofRS l = (l.flatMap putS, 0) := by unfold ofRS; rw [if_pos hal]
    rw [hv]
    generalize l.flatMap putS = bs at *
    have hf := hrow.firstA
    rcases hrow with ⟨rfl, hl0, _⟩ | ⟨b, cap, cs, rfl, hr⟩
    · have : bs = [] := List.eq_nil_of_length_eq_zero hl0
      subst this
      simp only [WU, seval, strs_eq, h5, h0, hge, h4]
      rfl
    · simp only [WU, seval, strs_eq, h5, h0, hge, h4, hf, u8s_of]
      rfl
  have hr := lt_idx hlt
  have hlt' := hr.2
  have hg := i32s_get hlt
  have hw : IntKind.i64.wrap ((i : Int) + 1) = ((i + 1 : Nat) : Int) := wrap_succ (by omega)
  have hlen := flatP_len (l.take i)
  rw [List.length_take] at hlen
  have htk : (l.take (i + 1)).flatMap putS = (l.take i).flatMap putS ++ putS l[i] := by
    rw [List.take_add_one, List.flatMap_append, List.getElem?_eq_getElem hlt]; simp
  cases hb : isS l[i] with
  | false =>
    simp only [WU, seval, strs_eq, h5, h0, hlt', hr, hg]
    refine isR_ac.use ?_
    simp only [WU, seval, strs_eq, hb]
    have hv : ofRS l = ([], 11) := by
      unfold ofRS
      rw [if_neg]
      intro h
      have := List.all_eq_true.1 h _ (List.getElem_mem hlt)
      rw [hb] at this; cases this
    rw [hv]; rfl
  | true =>
    have hal' : (l.take (i + 1)).all isS = true := by
      rw [List.take_add_one, List.all_append, hal, List.getElem?_eq_getElem hlt]; simp [hb]
    simp only [WU, seval, strs_eq, h5, h0, hlt', hr, hg]
    refine isR_ac.use ?_
    simp only [WU, seval, strs_eq, hb, h5, h0, h4, hr, hg]
    refine (put_ac hrow (fun _ _ => trivial) (by omega)).mono ?_
    rintro v s2 ⟨hn, hk, hrow'⟩
    simp only [WU, seval, strs_eq, h5, h0, hw]
    exact ⟨hlt, _, rfl, hal', by rw [htk]; exact hrow'⟩
theorem ofR1_ac {l : List Int} {x : AV} {σ : AState} (hl : l.length ≤ 1000) (hx : Pur σ true x (.psl (i32s l) 0 l.length)) : AC Try.prog 64 [x] σ fun v s => s = σ ∧ v = txP (ofRS l) :=
  AC.pure (R := fun v => v = txP (ofRS l)) (.cons hx .nil) ((ofR1_st0 hl).mono fun v s e => ⟨_, by rw [e]; exact pur0_tx s _, rfl⟩)
/- A row of numbers that came in, or the beginning of one. -/
def tblR : List Int := [97, 98, 42, 34, 92, 10, 9, 1, 31, 127, 128, 233, 2047, 2048, 8364, 55295, 57344, 65533, 65535, 65536, 128512, 1114111]
def runeS (x : Int) : Int := tblR.getD (wi x 22).toNat 0
def textS (l : List Int) (n : Nat) : Str := (ofRS ((l.take (min n 40)).map runeS)).1
theorem of1_st0 {l : List Int} {n : Nat} (hn : n ≤ l.length) (hm : n ≤ Most) : AC Try.prog 46 [.psl (ofInts l) 0 n] st0 fun v _ => v = .str (textS l n) := by
  refine ac_wp fn46 cf46 cl46 rfl ?_
  simp only [ac46]
  unfold ab46
  simp only [WU, seval, strs_eq, fillA]
  have hT : ([.int .i32 97, .int .i32 98, .int .i32 42, .int .i32 34, .int .i32 92, .int .i32 10, .int .i32 9, .int .i32 1, .int .i32 31, .int .i32 127, .int .i32 128, .int .i32 233, .int .i32 2047, .int .i32 2048, .int .i32 8364, .int .i32 55295, .int .i32 57344, .int .i32 65533, .int .i32 65535, .int .i32 65536, .int .i32 128512, .int .i32 1114111] : List AV) = i32s tblR := rfl
  rw [hT]
  refine w_for (fun i ρ s => ρ.rd 5 = .int .i64 i ∧ ρ.rd 0 = .psl (ofInts l) 0 n ∧ ρ.rd 3 = .sl 0 0 22 (some 22) 1 ∧ s.cells 0 = some (i32s tblR) ∧ i ≤ 40 ∧ 1 ≤ s.n ∧ i ≤ n ∧ ∃ x, ρ.rd 4 = x ∧ RowP (fun b => 1 ≤ b) s x (i32s ((l.take i).map runeS)) i 1) (n + 1) ?_ ?_
  · simp only [WU, seval, strs_eq]
    first | done | exact ⟨rfl, Nat.zero_le _, .nils, rfl, RowP.nil _ _ _⟩ | exact ⟨Nat.zero_le _, .nils, rfl, RowP.nil _ _ _⟩
  rintro i ρ s hi ⟨h5, h0, h3, c0, h40, hn1, hin, x, h4, hrow⟩
  by_cases hgo : i < n ∧ i < 40
  rotate_left
  · have hll : ((l.take i).map runeS).length = i := by rw [List.length_map, List.length_take]; omega
    have hmn : min n 40 = i := by omega
    have hfin : AC Try.prog 64 [x] s fun v s' => s' = s ∧ v = txP (ofRS ((l.take i).map runeS)) := ofR1_ac (by omega) (by rw [hll]; exact hrow.pur true rfl fun i hi _ => .flat _ (by simp [i32s, AV.flat]))
    have hv : textS l n = (ofRS ((l.take i).map runeS)).1 := by unfold textS; rw [hmn]
    rw [hv]
    generalize ofRS ((l.take i).map runeS) = X at *
    simp only [txP] at hfin
    by_cases hlt : i < n
    · have h1 : ((i : Nat) : Int) < ((n : Nat) : Int) := by omega
      have h2 : ¬ ((i : Nat) : Int) < 40 := by omega
      simp only [WU, seval, strs_eq, h5, h0, h3, h4, h1, h2]
      refine hfin.use ?_
      simp only [WU, seval, strs_eq]
    · have h1 : ¬ ((i : Nat) : Int) < ((n : Nat) : Int) := by omega
      simp only [WU, seval, strs_eq, h5, h0, h3, h4, h1]
      refine hfin.use ?_
      simp only [WU, seval, strs_eq]
  have h1 : ((i : Nat) : Int) < ((n : Nat) : Int) := by omega
  have h2 : ((i : Nat) : Int) < 40 := by omega
  have hr := lt_idx hgo.1
  have hg := ints_get (l := l) (i := i) (by omega)
  have hw : IntKind.i64.wrap ((i : Int) + 1) = ((i + 1 : Nat) : Int) := wrap_succ (by omega)
  have hwr := wi_range l[i] (n := 22) (by decide)
  obtain ⟨k, hk⟩ : ∃ k : Nat, wi l[i] 22 = k := ⟨(wi l[i] 22).toNat, by omega⟩
  have hW : ∀ σ, AC Try.prog 63 [.int .i64 l[i], .int .i64 (22 : Int)] σ fun v s' => s' = σ ∧ v = .int .i64 k := fun σ =>
    (within_ac (P := Try.prog) fn63 cf63 cl63 (x := l[i]) (σ := σ) (n := 22) (by decide) (by decide)).mono fun _ _ h => ⟨h.2, by rw [h.1, hk]⟩
  rw [hk] at hwr
  have hrk : (0 : Int) ≤ (k : Int) ∧ (k : Int) < (22 : Int) := by omega
  have hkl : k < tblR.length := by show k < 22; omega
  have hgk := i32s_get hkl
  have hz : runeS l[i] = tblR[k] := by unfold runeS; rw [hk]; simp [hkl]
  generalize tblR[k] = z at *
  obtain ⟨b9, cap9, s9, happ, hrow9, hn9, hk9⟩ := app_lit (bytes := 4) hrow (fun b hb => by omega) (new := [.int .i32 z]) (k := 1) rfl rfl (by omega) (by omega)
  have d0 := (get_cells (hk9 0 (by omega) (by omega))).trans c0
  have hn9' : 1 ≤ s9.n := by omega
  simp only [WU, seval, strs_eq, h5, h0, h3, h4, h1, h2, hr, hg]
  refine (hW _).use ?_
  simp only [WU, seval, strs_eq, h5, h0, h3, h4, hrk, c0, hgk, fillA, happ, hw, d0]
  refine ⟨by omega, by omega, by omega, by omega, _, rfl, ?_⟩
  have : i32s ((l.take (i + 1)).map runeS) = i32s ((l.take i).map runeS) ++ [.int .i32 z] := by rw [List.take_add_one, List.getElem?_eq_getElem (by omega), List.map_append]; simp [i32s, hz]
  rw [this]; exact hrow9
theorem of1_ac {l : List Int} {n : Nat} {σ : AState} (hn : n ≤ l.length) (hm : n ≤ Most) : AC Try.prog 46 [.psl (ofInts l) 0 n] σ fun v s => s = σ ∧ v = .str (textS l n) :=
  AC.pure (R := fun v => v = .str (textS l n)) (.cons (.psl rfl _ _ _ _ rfl fun i hi _ => .flat _ (by simp [ofInts, AV.flat])) .nil) ((of1_st0 hn hm).mono fun v s e => ⟨_, by rw [e]; exact .flat _ rfl, rfl⟩)
def idS (l : List Int) : Str := textS l (min l.length 8)
theorem id5_ac {l : List Int} {σ : AState} (hm : l.length ≤ Most) : AC Try.prog 35 [ints l] σ fun v s => s = σ ∧ v = .str (idS l) := by
  unfold idS
  by_cases h8 : l.length ≤ 8
  · rw [Nat.min_eq_left h8]
    have h1 : ¬ (8 : Int) < ((l.length : Nat) : Int) := by omega
    refine ac_wp fn35 cf35 cl35 rfl ?_
    simp only [ac35]
    unfold ab35
    simp only [WU, seval, strs_eq, ints_eq, h1]
    refine (of1_ac (Nat.le_refl _) hm).use ?_
    simp only [WU, seval, strs_eq]
  · rw [Nat.min_eq_right (by omega)]
    have h1 : (8 : Int) < ((l.length : Nat) : Int) := by omega
    have h2 : (8 : Int) ≤ ((l.length : Nat) : Int) := by omega
    refine ac_wp fn35 cf35 cl35 rfl ?_
    simp only [ac35]
    unfold ab35
    simp only [WU, seval, strs_eq, ints_eq, h1, h2]
    refine (of1_ac (n := 8) (by omega) (by decide)).use ?_
    simp only [WU, seval, strs_eq]
end Go.Proofs.Ytcdbpmmomgehfaa.Va
