/- The maker of schemas: some schema, of what there is. Conditions: none. -/
import Derived.Test.YtcdbpmmomgehfaaTy1
import Derived.Test.YtcdbpmmomgehfaaVaM
set_option maxRecDepth 100000
set_option maxHeartbeats 4000000
set_option linter.all false
namespace Go.Proofs.Ytcdbpmmomgehfaa.Va
open Go.Proofs
/- What a schema is made of. -/
structure RFd where
  name : Int
  kind : Int
  of_ : Int
  to : Int
structure RKd where
  name : Int
  parents : List Int
  fields : List RFd
structure RAc where
  name : Int
  p : List Int
  r : List Int
def ints (l : List Int) : AV := .psl (ofInts l) 0 l.length
def RFd.c (f : RFd) : List AV := [.int .i64 f.name, .int .i64 f.kind, .int .i64 f.of_, .int .i64 f.to]
def RKd.c (k : RKd) : List AV := [.int .i64 k.name, ints k.parents, slc RFd.c k.fields]
def RAc.c (a : RAc) : List AV := [.int .i64 a.name, ints a.p, ints a.r]
theorem ints_eq (l : List Int) : ints l = .psl (ofInts l) 0 l.length := Eq.trans rfl rfl
theorem ints_get {l : List Int} {i : Nat} (h : i < l.length) : (ofInts l)[i]? = some (.int .i64 l[i]) := by simp [ofInts, h]
theorem RFd.c_len (f : RFd) : f.c.length = 4 := rfl
theorem RKd.c_len (f : RKd) : f.c.length = 3 := rfl
theorem RAc.c_len (f : RAc) : f.c.length = 3 := rfl
structure RkAt (ks : List RKd) (i : Nat) (h : i < ks.length) : Prop where
  g0 : (rowc RKd.c ks)[i * 3]? = some (.int .i64 ks[i].name)
  g1 : (rowc RKd.c ks)[i * 3 + 1]? = some (ints ks[i].parents)
  g2 : (rowc RKd.c ks)[i * 3 + 2]? = some (slc RFd.c ks[i].fields)
theorem rkAt {ks : List RKd} {i : Nat} (h : i < ks.length) : RkAt ks i h := ⟨rowc_get0 RKd.c_len h (by decide), rowc_get RKd.c_len h (by decide), rowc_get RKd.c_len h (by decide)⟩
structure RaAt (ks : List RAc) (i : Nat) (h : i < ks.length) : Prop where
  g0 : (rowc RAc.c ks)[i * 3]? = some (.int .i64 ks[i].name)
  g1 : (rowc RAc.c ks)[i * 3 + 1]? = some (ints ks[i].p)
  g2 : (rowc RAc.c ks)[i * 3 + 2]? = some (ints ks[i].r)
theorem raAt {ks : List RAc} {i : Nat} (h : i < ks.length) : RaAt ks i h := ⟨rowc_get0 RAc.c_len h (by decide), rowc_get RAc.c_len h (by decide), rowc_get RAc.c_len h (by decide)⟩
structure RfAt (fs : List RFd) (i : Nat) (h : i < fs.length) : Prop where
  fit : i * 4 + 4 ≤ (rowc RFd.c fs).length
  all : seg (rowc RFd.c fs) (i * 4) 4 = [.int .i64 fs[i].name, .int .i64 fs[i].kind, .int .i64 fs[i].of_, .int .i64 fs[i].to]
theorem rfAt {fs : List RFd} {i : Nat} (h : i < fs.length) : RfAt fs i h := ⟨rowc_fit RFd.c_len h, rowc_seg RFd.c_len h⟩
/- Of what there is. -/
structure TyG (t : Ty) : Prop where
  k : 1 ≤ t.kind ∧ t.kind ≤ 5
  o : t.kind = 5 → 1 ≤ t.of_ ∧ t.of_ ≤ 4
  o0 : t.kind ≠ 5 → t.of_ = 0
  n : (t.kind = 4 ∨ t.of_ = 4) → t.name ≠ []
  n0 : ¬ (t.kind = 4 ∨ t.of_ = 4) → t.name = []
structure FlG (f : Fl) : Prop where
  nm : identS f.name = true
  nl : f.name.length ≤ 12
  ty : TyG f.ty
structure KdG (k : Kd) : Prop where
  nl : k.name.length ≤ 12
  pl : k.parents.length ≤ 3
  fl : k.fields.length ≤ 4
  f : ∀ f ∈ k.fields, FlG f
structure AcG (a : Ac) : Prop where
  nl : a.name.length ≤ 12
  pl : 1 ≤ a.prins.length ∧ a.prins.length ≤ 4
  rl : 1 ≤ a.ress.length ∧ a.ress.length ≤ 4
structure ScG (s : Sc) : Prop where
  kl : s.kinds.length ≤ 5
  al : s.acts.length ≤ 5
  k : ∀ k ∈ s.kinds, KdG k
  a : ∀ a ∈ s.acts, AcG a
theorem kindN_len (i : Int) : (kindN i).length ≤ 12 := by unfold kindN; split <;> (try split) <;> (try split) <;> decide
theorem kindN_ne (i : Int) : kindN i ≠ [] := by unfold kindN; split <;> (try split) <;> (try split) <;> decide
theorem nameN_len (i : Int) : (nameN i).length ≤ 12 := by unfold nameN; repeat' (first | decide | split)
theorem nameN_ident (i : Int) : identS (nameN i) = true := by unfold nameN; repeat' (first | decide | split)

theorem strs_pur {s : AState} (l : List Str) : Pur s true (strs l) (strs l) := .psl' fun a ha => by
  obtain ⟨x, _, rfl⟩ := List.mem_map.1 ha
  exact .flat _ rfl
theorem Fl.pur {s : AState} (f : Fl) : ∀ a ∈ f.c, Pur s true a a := by
  intro a ha
  simp only [Fl.c_eq, List.mem_cons, List.not_mem_nil, or_false] at ha
  rcases ha with rfl | rfl | rfl | rfl <;> exact .flat _ rfl
theorem Kd.pur {s : AState} (k : Kd) : ∀ a ∈ k.c, Pur s true a a := by
  intro a ha
  simp only [Kd.c_eq, List.mem_cons, List.not_mem_nil, or_false] at ha
  rcases ha with rfl | rfl | rfl
  · exact .flat _ rfl
  · exact strs_pur _
  · exact slc_pur Fl.pur _
theorem Ac.pur {s : AState} (a : Ac) : ∀ x ∈ a.c, Pur s true x x := by
  intro x hx
  simp only [Ac.c_eq, List.mem_cons, List.not_mem_nil, or_false] at hx
  rcases hx with rfl | rfl | rfl
  · exact .flat _ rfl
  · exact strs_pur _
  · exact strs_pur _

theorem schema5_st0 {ks : List RKd} {ac : List RAc} : AC Try.prog 29 [slc RKd.c ks, slc RAc.c ac] st0 fun v s => ∃ a, Pur s true v a ∧ ∃ S, a = .agg (Sc.c S) ∧ ScG S := by
  refine ac_wp fn29 cf29 cl29 rfl ?_
  simp only [ac29]
  unfold ab29
  simp only [wpC_seq, wpC_skip, wpCK_normal]
  refine w_mid (fun ρ s => ρ.rd 0 = slc RKd.c ks ∧ ρ.rd 1 = slc RAc.c ac ∧ ρ.rd 4 = .ptr 0 0 ∧ s.cells 0 = some [.nils, .nils] ∧ s.n = 1) ?_ ?_
  · simp only [WU, seval, strs_eq]
  rintro ρ s ⟨h0, h1, h4, c0, hn⟩
  simp only [wpC_seq, wpC_skip, wpCK_normal]
  refine w_mid (fun ρ s => ρ.rd 0 = slc RKd.c ks ∧ ρ.rd 1 = slc RAc.c ac ∧ ρ.rd 4 = .ptr 0 0 ∧ ρ.rd 5 = .ptr 1 0 ∧ s.cells 0 = some [.nils, .nils] ∧ s.cells 1 = some [.nils, .nils] ∧ s.n = 2) ?_ ?_
  · simp only [WU, seval, strs_eq, h0, h1, h4, c0, hn]
  rintro ρ s ⟨h0, h1, h4, h5, c0, c1, hn⟩
  rw [wpC_seq]
  refine w_mid (fun ρ s => ρ.rd 1 = slc RAc.c ac ∧ ρ.rd 4 = .ptr 0 0 ∧ ρ.rd 5 = .ptr 1 0 ∧ s.cells 0 = some [.nils, .nils] ∧ 2 ≤ s.n ∧ ∃ x K, s.cells 1 = some [x, .nils] ∧ RowP (fun b => 2 ≤ b) s x (rowc Kd.c K) K.length 3 ∧ K.length ≤ 5 ∧ ∀ k ∈ K, KdG k) ?_ ?_
  · simp only [WU, seval, strs_eq, h0, h1, h4, h5, c0, c1]
    refine w_for (fun i ρ s => ρ.rd 6 = .int .i64 i ∧ ρ.rd 0 = slc RKd.c ks ∧ ρ.rd 1 = slc RAc.c ac ∧ ρ.rd 4 = .ptr 0 0 ∧ ρ.rd 5 = .ptr 1 0 ∧ s.cells 0 = some [.nils, .nils] ∧ 2 ≤ s.n ∧ ∃ x K, s.cells 1 = some [x, .nils] ∧ RowP (fun b => 2 ≤ b) s x (rowc Kd.c K) K.length 3 ∧ K.length = i ∧ i ≤ 5 ∧ ∀ k ∈ K, KdG k) ks.length ?_ ?_
    · simp only [WU, seval, strs_eq, h0, h1, h4, h5, c0, c1]
      first | done | exact ⟨rfl, by omega, .nils, [], rfl, RowP.nil _ _ _, rfl, by intro k hk; cases hk⟩ | exact ⟨by omega, .nils, [], rfl, RowP.nil _ _ _, rfl, by intro k hk; cases hk⟩
    clear h0 h1 h4 h5 c0 c1 hn
    rintro i ρ s hi ⟨h6, h0, h1, h4, h5, c0, hn, x, K, c1, hrow, hKl, hi5, hKg⟩
    by_cases hlt' : (i : Int) < ks.length
    rotate_left
    · simp only [WU, seval, strs_eq, h6, h0, h1, h4, h5, c0, c1, hlt']
      exact ⟨hn, x, K, rfl, hrow, by omega, hKg⟩
    by_cases h5' : (i : Int) < 5
    rotate_left
    · simp only [WU, seval, strs_eq, h6, h0, h1, h4, h5, c0, c1, hlt', h5']
      exact ⟨hn, x, K, rfl, hrow, by omega, hKg⟩
    have hlt : i < ks.length := by omega
    have A := rkAt hlt
    have hr := lt_idx hlt
    have hw : IntKind.i64.wrap ((i : Int) + 1) = ((i + 1 : Nat) : Int) := wrap_succ (by omega)
    rw [wpC_seq]
    refine w_mid (fun ρ s1 => s1 = s ∧ ρ.rd 6 = .int .i64 i ∧ ρ.rd 0 = slc RKd.c ks ∧ ρ.rd 1 = slc RAc.c ac ∧ ρ.rd 4 = .ptr 0 0 ∧ ρ.rd 5 = .ptr 1 0) ?_ ?_
    · simp only [WU, seval, strs_eq, h6, h0, h1, h4, h5, hlt', h5']
    clear h6 h0 h1 h4 h5
    rintro ρ s1 ⟨rfl, h6, h0, h1, h4, h5⟩
    rw [wpC_seq, wpC_block, wpC_seq]
    generalize hm0 : s1.n = m0 at *
    refine w_mid (fun ρ s2 => ρ.rd 6 = .int .i64 i ∧ ρ.rd 0 = slc RKd.c ks ∧ ρ.rd 1 = slc RAc.c ac ∧ ρ.rd 4 = .ptr 0 0 ∧ ρ.rd 5 = .ptr 1 0 ∧ ρ.rd 7 = .ptr m0 0 ∧ s2.n = m0 + 1 ∧ (∀ b, b < m0 → s2.h.get b = s1.h.get b) ∧ s2.cells m0 = some [.str (kindN (wi ks[i].name 4)), .nils, .nils]) ?_ ?_
    · simp only [WU, seval, strs_eq, h6, h0, h1, h4, h5, hr, A.g0]
      refine kind5_ac.use ?_
      simp only [WU, seval, strs_eq, h6, h0, h1, h4, h5, hm0, fillA, storeA, sets, setx, TS]
      exact fun b hb => by rw [put_h (by omega), push_h (by omega)]
    clear h6 h0 h1 h4 h5
    rintro ρ s2 ⟨h6, h0, h1, h4, h5, h7, hn2, hk2, cm⟩
    rw [wpC_seq]
    refine w_mid (fun ρ s3 => ρ.rd 6 = .int .i64 i ∧ ρ.rd 0 = slc RKd.c ks ∧ ρ.rd 1 = slc RAc.c ac ∧ ρ.rd 4 = .ptr 0 0 ∧ ρ.rd 5 = .ptr 1 0 ∧ ρ.rd 7 = .ptr m0 0 ∧ m0 < s3.n ∧ (∀ b, b < m0 → s3.h.get b = s1.h.get b) ∧ ∃ ps : List Str, s3.cells m0 = some [.str (kindN (wi ks[i].name 4)), strs ps, .nils] ∧ ps.length ≤ 3) ?_ ?_
    · simp only [WU, seval, strs_eq, h6, h0, h1, h4, h5, h7]
      refine SimA.frz (w_for (fun j ρ s3 => ρ.rd 8 = .int .i64 j ∧ ρ.rd 6 = .int .i64 i ∧ ρ.rd 0 = slc RKd.c ks ∧ ρ.rd 1 = slc RAc.c ac ∧ ρ.rd 4 = .ptr 0 0 ∧ ρ.rd 5 = .ptr 1 0 ∧ ρ.rd 7 = .ptr m0 0 ∧ m0 < s3.n ∧ (∀ b, b < m0 → s3.h.get b = s1.h.get b) ∧
        ∃ (y : AV) (ps : List Str), s3.cells m0 = some [.str (kindN (wi ks[i].name 4)), y, .nils] ∧ RowP (fun b => m0 < b) s3 y (ps.map AV.str) ps.length 1 ∧ ps.length = j ∧ j ≤ 3) ks[i].parents.length ?_ ?_)
      · simp only [WU, seval, strs_eq, h6, h0, h1, h4, h5, h7]
        first | exact ⟨rfl, by omega, hk2, .nils, [], cm, RowP.nil _ _ _, rfl⟩ | exact ⟨by omega, hk2, .nils, [], cm, RowP.nil _ _ _, rfl⟩
      clear h6 h0 h1 h4 h5 h7 hn2 hk2 cm
      rintro j ρ s3 hj ⟨h8, h6, h0, h1, h4, h5, h7, hn3, hk3, y, ps, cm, hrow3, hpl, hj3⟩
      by_cases hlt2 : (j : Int) < ks[i].parents.length
      rotate_left
      · simp only [WU, seval, strs_eq, h8, h6, h0, hr, A.g1, ints_eq, hlt2]
        refine Frz.row hrow3 cm (by omega) (i := 1) rfl fun s hs1 hs2 hs3 => ?_
        simp only [WU, seval, strs_eq, h6, h0, h1, h4, h5, h7]
        exact ⟨by omega, fun b hb => (hs3 b (by omega) (by omega)).trans (hk3 b hb), ps, by simpa [strs_eq] using hs2, by omega⟩
      by_cases hlt3 : (j : Int) < 3
      rotate_left
      · simp only [WU, seval, strs_eq, h8, h6, h0, hr, A.g1, ints_eq, hlt2, hlt3]
        refine Frz.row hrow3 cm (by omega) (i := 1) rfl fun s hs1 hs2 hs3 => ?_
        simp only [WU, seval, strs_eq, h6, h0, h1, h4, h5, h7]
        exact ⟨by omega, fun b hb => (hs3 b (by omega) (by omega)).trans (hk3 b hb), ps, by simpa [strs_eq] using hs2, by omega⟩
      have hltj : j < ks[i].parents.length := by omega
      have hrj := lt_idx hltj
      have hgj := ints_get hltj
      have hwj : IntKind.i64.wrap ((j : Int) + 1) = ((j + 1 : Nat) : Int) := wrap_succ (by omega)
      simp only [WU, seval, strs_eq, h8, h6, h0, hr, A.g1, ints_eq, hlt2, hlt3]
      refine w_dreg follow [] rfl ?_
      have cA : (addSlots s3.n 15 s3 []).cells m0 = some [.str (kindN (wi ks[i].name 4)), y, .nils] := cm
      have hrowA := hrow3.slots 15
      have hnA : m0 < (addSlots s3.n 15 s3 []).n := by simp only [addSlots]; omega
      have hkA : ∀ b, b < m0 → (addSlots s3.n 15 s3 []).h.get b = s1.h.get b := hk3
      generalize addSlots s3.n 15 s3 [] = s4 at *
      obtain ⟨b5, cap5, s5, happ, hrow5, hn5, hk5⟩ := app_lit (bytes := 16) hrowA (fun b hb => by omega) (new := [.str (kindN (wi ks[i].parents[j] 4))]) (k := 1) rfl rfl (by omega) (by omega)
      have c5 : s5.cells m0 = some [.str (kindN (wi ks[i].name 4)), y, .nils] := (get_cells (hk5 m0 hnA (by omega))).trans cA
      have ne4 : ¬ m0 = s4.n := by omega
      simp only [WU, seval, strs_eq, DU, h8, h6, h0, h1, h4, h5, h7, hr, A.g1, ints_eq, hrj, hgj, cA]
      refine kind5_ac.useD ?_
      simp only [WU, seval, strs_eq, DU, h8, h6, h0, h1, h4, h5, h7, hr, hrj, hgj, cA, fillA, happ, c5, ne4, storeA, sets, setx, TS]
      refine ⟨⟨?_, ?_⟩, ?_⟩
      · intro l hl c hc hf
        simp only [List.mem_cons, List.mem_nil_iff, List.not_mem_nil, or_false] at hl hc
        rcases hl with rfl | rfl | rfl <;> rcases hc with rfl | rfl | rfl | rfl | rfl <;> dsimp only at hf ⊢ <;> first
          | (exact absurd hf (by decide +kernel))
          | (simp only [WU, seval, strs_eq, h8, h6, h0, h1, h4, h5, h7, hr, A.g1, ints_eq, hrj, hgj, cA, c5, ne4]; done)
      · intro sl hsl; simp at hsl
      · simp only [WU, seval, strs_eq, h8, h6, h0, h1, h4, h5, h7, hwj]
        refine ⟨hltj, by omega, fun b hb => ?_, _, ps ++ [kindN (wi ks[i].parents[j] 4)], rfl, ?_, by simp; omega, by omega⟩
        · rw [put_h (by omega), hk5 b (by omega) (by omega), hkA b hb]
        · simpa using hrow5.put (b0 := m0) (by omega) _
    clear h6 h0 h1 h4 h5 h7 hn2 hk2 cm
    rintro ρ s3 ⟨h6, h0, h1, h4, h5, h7, hn3, hk3, ps, cm, hps⟩
    generalize hnm : kindN (wi ks[i].name 4) = nm at *
    have hnl : nm.length ≤ 12 := by rw [← hnm]; exact kindN_len _
    rw [wpC_seq]
    refine w_mid (fun ρ s3 => ρ.rd 6 = .int .i64 i ∧ ρ.rd 0 = slc RKd.c ks ∧ ρ.rd 1 = slc RAc.c ac ∧ ρ.rd 4 = .ptr 0 0 ∧ ρ.rd 5 = .ptr 1 0 ∧ ρ.rd 7 = .ptr m0 0 ∧ m0 < s3.n ∧ (∀ b, b < m0 → s3.h.get b = s1.h.get b) ∧ ∃ fs : List Fl, s3.cells m0 = some [.str nm, strs ps, slc Fl.c fs] ∧ fs.length ≤ 4 ∧ ∀ f ∈ fs, FlG f) ?_ ?_
    · simp only [WU, seval, strs_eq, h6, h0, h1, h4, h5, h7]
      refine SimA.frz (w_for (fun j ρ s3 => ρ.rd 9 = .int .i64 j ∧ ρ.rd 6 = .int .i64 i ∧ ρ.rd 0 = slc RKd.c ks ∧ ρ.rd 1 = slc RAc.c ac ∧ ρ.rd 4 = .ptr 0 0 ∧ ρ.rd 5 = .ptr 1 0 ∧ ρ.rd 7 = .ptr m0 0 ∧ m0 < s3.n ∧ (∀ b, b < m0 → s3.h.get b = s1.h.get b) ∧
        ∃ (y : AV) (fs : List Fl), s3.cells m0 = some [.str nm, strs ps, y] ∧ RowP (fun b => m0 < b) s3 y (rowc Fl.c fs) fs.length 4 ∧ fs.length = j ∧ j ≤ 4 ∧ ∀ f ∈ fs, FlG f) ks[i].fields.length ?_ ?_)
      · simp only [WU, seval, strs_eq, h6, h0, h1, h4, h5, h7]
        first | exact ⟨rfl, by omega, hk3, .nils, [], cm, RowP.nil _ _ _, rfl, by intro f hf; cases hf⟩ | exact ⟨by omega, hk3, .nils, [], cm, RowP.nil _ _ _, rfl, by intro f hf; cases hf⟩
      clear h6 h0 h1 h4 h5 h7 hn3 hk3 cm
      rintro j ρ s3 hj ⟨h9, h6, h0, h1, h4, h5, h7, hn3, hk3, y, fs, cm, hrow3, hfl, hj4, hfg⟩
      by_cases hlt2 : (j : Int) < ks[i].fields.length
      rotate_left
      · simp only [WU, seval, strs_eq, h9, h6, h0, hr, A.g2, hlt2]
        refine Frz.row hrow3 cm (by omega) (i := 2) rfl fun s hs1 hs2 hs3 => ?_
        simp only [WU, seval, strs_eq, h6, h0, h1, h4, h5, h7]
        exact ⟨by omega, fun b hb => (hs3 b (by omega) (by omega)).trans (hk3 b hb), fs, by simpa [strs_eq] using hs2, by omega, hfg⟩
      by_cases hlt3 : (j : Int) < 4
      rotate_left
      · simp only [WU, seval, strs_eq, h9, h6, h0, hr, A.g2, hlt2, hlt3]
        refine Frz.row hrow3 cm (by omega) (i := 2) rfl fun s hs1 hs2 hs3 => ?_
        simp only [WU, seval, strs_eq, h6, h0, h1, h4, h5, h7]
        exact ⟨by omega, fun b hb => (hs3 b (by omega) (by omega)).trans (hk3 b hb), fs, by simpa [strs_eq] using hs2, by omega, hfg⟩
      have hltj : j < ks[i].fields.length := by omega
      have hrj := lt_idx hltj
      have B := rfAt hltj
      have hwj : IntKind.i64.wrap ((j : Int) + 1) = ((j + 1 : Nat) : Int) := wrap_succ (by omega)
      rw [wpC_seq]
      refine w_mid (fun ρ s1 => s1 = s3 ∧ ρ.rd 9 = .int .i64 j ∧ ρ.rd 6 = .int .i64 i ∧ ρ.rd 0 = slc RKd.c ks ∧ ρ.rd 1 = slc RAc.c ac ∧ ρ.rd 4 = .ptr 0 0 ∧ ρ.rd 5 = .ptr 1 0 ∧ ρ.rd 7 = .ptr m0 0) ?_ ?_
      · simp only [WU, seval, strs_eq, h9, h6, h0, h1, h4, h5, h7, hr, A.g2, hlt2, hlt3]
      clear h9 h6 h0 h1 h4 h5 h7
      rintro ρ s3' ⟨rfl, h9, h6, h0, h1, h4, h5, h7⟩
      generalize hn1 : s3'.n = n1 at *
      rw [wpC_seq, wpC_block, wpC_seq]
      refine w_mid (fun ρ s4 => ρ.rd 9 = .int .i64 j ∧ ρ.rd 6 = .int .i64 i ∧ ρ.rd 0 = slc RKd.c ks ∧ ρ.rd 1 = slc RAc.c ac ∧ ρ.rd 4 = .ptr 0 0 ∧ ρ.rd 5 = .ptr 1 0 ∧ ρ.rd 7 = .ptr m0 0 ∧ ρ.rd 10 = .ptr n1 0 ∧ s4.n = n1 + 1 ∧ (∀ b, b < n1 → s4.h.get b = s3'.h.get b) ∧ s4.cells n1 = some ks[i].fields[j].c) ?_ ?_
      · simp only [WU, seval, strs_eq, h9, h6, h0, h1, h4, h5, h7, hr, A.g2, hrj, B.fit, B.all, hn1, storeA, sets, setx, TS]
        exact ⟨fun b hb => by rw [put_h (by omega), push_h (by omega)], rfl⟩
      clear h9 h6 h0 h1 h4 h5 h7
      rintro ρ s4 ⟨h9, h6, h0, h1, h4, h5, h7, h10, hn4, hk4, cf⟩
      have hw5 := wi_range ks[i].fields[j].kind (n := 5) (by decide)
      have hwo := wi_range ks[i].fields[j].of_ (n := 4) (by decide)
      have hwk : IntKind.i64.wrap (1 + wi ks[i].fields[j].kind 5) = 1 + wi ks[i].fields[j].kind 5 := wrap64 (by omega) (by omega)
      have hwo' : IntKind.i64.wrap (1 + wi ks[i].fields[j].of_ 4) = 1 + wi ks[i].fields[j].of_ 4 := wrap64 (by omega) (by omega)
      simp only [RFd.c] at cf
      rw [wpC_seq]
      refine w_mid (fun ρ s5 => ρ.rd 9 = .int .i64 j ∧ ρ.rd 6 = .int .i64 i ∧ ρ.rd 0 = slc RKd.c ks ∧ ρ.rd 1 = slc RAc.c ac ∧ ρ.rd 4 = .ptr 0 0 ∧ ρ.rd 5 = .ptr 1 0 ∧ ρ.rd 7 = .ptr m0 0 ∧ ρ.rd 10 = .ptr n1 0 ∧ ρ.rd 11 = .ptr (n1 + 1) 0 ∧ s5.n = n1 + 2 ∧ (∀ b, b < n1 + 1 → s5.h.get b = s4.h.get b) ∧ s5.cells (n1 + 1) = some [.int .i64 (1 + wi ks[i].fields[j].kind 5), .int .i64 0, .str []]) ?_ ?_
      · simp only [WU, seval, strs_eq, h9, h6, h0, h1, h4, h5, h7, h10, cf]
        refine (within5_ac (by decide) (by decide)).use ?_
        simp only [WU, seval, strs_eq, h9, h6, h0, h1, h4, h5, h7, h10, hn4, hwk, fillA, storeA, sets, setx, TS]
        exact fun b hb => by rw [put_h (by omega), push_h (by omega)]
      clear h9 h6 h0 h1 h4 h5 h7 h10
      rintro ρ s5 ⟨h9, h6, h0, h1, h4, h5, h7, h10, h11, hn5, hk5, ct⟩
      have cf5 : s5.cells n1 = some [.int .i64 ks[i].fields[j].name, .int .i64 ks[i].fields[j].kind, .int .i64 ks[i].fields[j].of_, .int .i64 ks[i].fields[j].to] := (get_cells (hk5 n1 (by omega))).trans cf
      generalize hkk : 1 + wi ks[i].fields[j].kind 5 = kk at *
      have hkk' : 1 ≤ kk ∧ kk ≤ 5 := by omega
      rw [wpC_seq]
      refine w_mid (fun ρ s6 => ρ.rd 9 = .int .i64 j ∧ ρ.rd 6 = .int .i64 i ∧ ρ.rd 0 = slc RKd.c ks ∧ ρ.rd 1 = slc RAc.c ac ∧ ρ.rd 4 = .ptr 0 0 ∧ ρ.rd 5 = .ptr 1 0 ∧ ρ.rd 7 = .ptr m0 0 ∧ ρ.rd 10 = .ptr n1 0 ∧ ρ.rd 11 = .ptr (n1 + 1) 0 ∧ s6.n = n1 + 2 ∧ (∀ b, b < n1 + 1 → s6.h.get b = s5.h.get b) ∧ ∃ oo : Int, s6.cells (n1 + 1) = some [.int .i64 kk, .int .i64 oo, .str []] ∧ (kk = 5 → 1 ≤ oo ∧ oo ≤ 4) ∧ (kk ≠ 5 → oo = 0)) ?_ ?_
      · by_cases k5 : kk = 5
        · simp only [WU, seval, strs_eq, h9, h6, h0, h1, h4, h5, h7, h10, h11, ct, k5]
          simp only [WU, seval, strs_eq, cf5]
          refine (within5_ac (by decide) (by decide)).use ?_
          simp only [WU, seval, strs_eq, h9, h6, h0, h1, h4, h5, h7, h10, h11, ct, k5, hwo', storeA, sets, setx, TS]
          exact ⟨hn5, fun b hb => put_h (by omega), _, rfl, fun _ => by omega, fun h => h.elim⟩
        · simp only [WU, seval, strs_eq, h9, h6, h0, h1, h4, h5, h7, h10, h11, ct, k5]
          exact ⟨hn5, fun b hb => trivial, 0, rfl, fun h => h.elim, fun _ => rfl⟩
      clear h9 h6 h0 h1 h4 h5 h7 h10 h11 ct
      rintro ρ s6 ⟨h9, h6, h0, h1, h4, h5, h7, h10, h11, hn6, hk6, oo, ct, ho5, ho0⟩
      have cf6 : s6.cells n1 = some [.int .i64 ks[i].fields[j].name, .int .i64 ks[i].fields[j].kind, .int .i64 ks[i].fields[j].of_, .int .i64 ks[i].fields[j].to] := (get_cells (hk6 n1 (by omega))).trans cf5
      rw [wpC_seq]
      refine w_mid (fun ρ s7 => ρ.rd 9 = .int .i64 j ∧ ρ.rd 6 = .int .i64 i ∧ ρ.rd 0 = slc RKd.c ks ∧ ρ.rd 1 = slc RAc.c ac ∧ ρ.rd 4 = .ptr 0 0 ∧ ρ.rd 5 = .ptr 1 0 ∧ ρ.rd 7 = .ptr m0 0 ∧ ρ.rd 10 = .ptr n1 0 ∧ ρ.rd 11 = .ptr (n1 + 1) 0 ∧ s7.n = n1 + 2 ∧ (∀ b, b < n1 + 1 → s7.h.get b = s6.h.get b) ∧ ∃ t : Ty, TyG t ∧ s7.cells (n1 + 1) = some t.c) ?_ ?_
      · by_cases hnm4 : kk = 4 ∨ oo = 4
        · have hgo : ∀ t, t = kindN (wi ks[i].fields[j].to 4) → TyG ⟨kk, oo, t⟩ := fun t ht => ⟨hkk', ho5, ho0, fun _ => by rw [ht]; exact kindN_ne _, fun h => absurd hnm4 h⟩
          by_cases k4 : kk = 4
          · simp only [WU, seval, strs_eq, h9, h6, h0, h1, h4, h5, h7, h10, h11, ct, cf6, k4]
            refine kind5_ac.use ?_
            simp only [WU, seval, strs_eq, h9, h6, h0, h1, h4, h5, h7, h10, h11, ct, cf6, k4, storeA, sets, setx, TS]
            exact ⟨hn6, fun b hb => put_h (by omega), _, hgo _ rfl, by rw [k4]; rfl⟩
          · have o4 : oo = 4 := by omega
            simp only [WU, seval, strs_eq, h9, h6, h0, h1, h4, h5, h7, h10, h11, ct, cf6, k4, o4]
            refine kind5_ac.use ?_
            simp only [WU, seval, strs_eq, h9, h6, h0, h1, h4, h5, h7, h10, h11, ct, cf6, k4, storeA, sets, setx, TS]
            exact ⟨hn6, fun b hb => put_h (by omega), _, hgo _ rfl, by rw [o4]; rfl⟩
        · have k4 : ¬ kk = 4 := fun h => hnm4 (.inl h)
          have o4 : ¬ oo = 4 := fun h => hnm4 (.inr h)
          simp only [WU, seval, strs_eq, h9, h6, h0, h1, h4, h5, h7, h10, h11, ct, cf6, k4, o4]
          exact ⟨hn6, fun b hb => trivial, ⟨kk, oo, []⟩, ⟨hkk', ho5, ho0, fun h => absurd h hnm4, fun _ => rfl⟩, rfl⟩
      clear h9 h6 h0 h1 h4 h5 h7 h10 h11
      rintro ρ s7 ⟨h9, h6, h0, h1, h4, h5, h7, h10, h11, hn7, hk7, t, htg, ct7⟩
      have hall : ∀ b, b < n1 → s7.h.get b = s3'.h.get b := fun b hb => by rw [hk7 b (by omega), hk6 b (by omega), hk5 b (by omega), hk4 b hb]
      have cm7 : s7.cells m0 = some [.str nm, strs ps, y] := (get_cells (hall m0 hn3)).trans cm
      have cf7 : s7.cells n1 = some [.int .i64 ks[i].fields[j].name, .int .i64 ks[i].fields[j].kind, .int .i64 ks[i].fields[j].of_, .int .i64 ks[i].fields[j].to] := (get_cells (hk7 n1 (by omega))).trans cf6
      have hrow7 : RowP (fun b => m0 < b) s7 y (rowc Fl.c fs) fs.length 4 := hrow3.keep (by omega) fun b hb _ => get_cells (hall b (by omega))
      simp only [WU, seval, strs_eq]
      refine w_dreg follow [] rfl ?_
      have cA : (addSlots s7.n 11 s7 []).cells m0 = some [.str nm, strs ps, y] := cm7
      have cB : (addSlots s7.n 11 s7 []).cells n1 = some [.int .i64 ks[i].fields[j].name, .int .i64 ks[i].fields[j].kind, .int .i64 ks[i].fields[j].of_, .int .i64 ks[i].fields[j].to] := cf7
      have cC : (addSlots s7.n 11 s7 []).cells (n1 + 1) = some [.int .i64 t.kind, .int .i64 t.of_, .str t.name] := ct7
      have hrowA := hrow7.slots 11
      have hnA : n1 + 2 < (addSlots s7.n 11 s7 []).n := by simp only [addSlots]; omega
      have hkA : ∀ b, b < m0 → (addSlots s7.n 11 s7 []).h.get b = s1.h.get b := fun b hb => (hall b (by omega)).trans (hk3 b hb)
      generalize addSlots s7.n 11 s7 [] = s8 at *
      obtain ⟨b9, cap9, s9, happ, hrow9, hn9, hk9⟩ := app_lit (bytes := 48) hrowA (fun b hb => by omega) (new := [.str (nameN (wi ks[i].fields[j].name 7)), .int .i64 t.kind, .int .i64 t.of_, .str t.name]) (k := 1) rfl rfl (by omega) (by omega)
      have c9 : s9.cells m0 = some [.str nm, strs ps, y] := (get_cells (hk9 m0 (by omega) (by omega))).trans cA
      have ne8 : ¬ m0 = s8.n := by omega
      have ne8' : ¬ n1 = s8.n := by omega
      have ne8'' : ¬ n1 + 1 = s8.n := by omega
      have sg3 : seg [AV.int .i64 t.kind, .int .i64 t.of_, .str t.name] 0 3 = [.int .i64 t.kind, .int .i64 t.of_, .str t.name] := rfl
      simp only [WU, seval, strs_eq, DU, h9, h6, h0, h1, h4, h5, h7, h10, h11, cA, cB, cC]
      refine name5_ac.useD ?_
      simp only [WU, seval, strs_eq, DU, h9, h6, h0, h1, h4, h5, h7, h10, h11, cA, cB, cC, sg3, fillA, happ, c9, ne8, ne8', ne8'', storeA, sets, setx, TS]
      refine ⟨⟨?_, ?_⟩, ?_⟩
      · intro l hl c hc hf
        simp only [List.mem_cons, List.mem_nil_iff, List.not_mem_nil, or_false] at hl hc
        rcases hl with rfl | rfl | rfl <;> rcases hc with rfl | rfl | rfl | rfl | rfl <;> dsimp only at hf ⊢ <;> first
          | (exact absurd hf (by decide +kernel))
          | (simp only [WU, seval, strs_eq, h9, h6, h0, h1, h4, h5, h7, h10, h11, cA, cB, cC, sg3, c9, ne8, ne8', ne8'']; done)
      · intro sl hsl; simp at hsl
      · simp only [WU, seval, strs_eq, h9, h6, h0, h1, h4, h5, h7, h10, h11, hwj]
        refine ⟨hltj, by omega, fun b hb => ?_, _, fs ++ [⟨nameN (wi ks[i].fields[j].name 7), t⟩], rfl, ?_, by simp; omega, by omega, fun f hf => ?_⟩
        · rw [put_h (by omega), hk9 b (by omega) (by omega), hkA b hb]
        · rw [rowc_append, rowc_one, List.length_append]
          exact hrow9.put (b0 := m0) (by omega) _
        · rcases List.mem_append.1 hf with hf | hf
          · exact hfg f hf
          · rw [List.mem_singleton.1 hf]
            exact ⟨nameN_ident _, nameN_len _, htg⟩
    clear h6 h0 h1 h4 h5 h7 hn3 hk3 cm
    rintro ρ s3 ⟨h6, h0, h1, h4, h5, h7, hn3, hk3, fs, cm, hfl, hfg⟩
    have c1' : s3.cells 1 = some [x, .nils] := (get_cells (hk3 1 (by omega))).trans c1
    have c0' : s3.cells 0 = some [.nils, .nils] := (get_cells (hk3 0 (by omega))).trans c0
    have hrow3 : RowP (fun b => 2 ≤ b) s3 x (rowc Kd.c K) K.length 3 := hrow.keep (by omega) fun b hb _ => get_cells (hk3 b (by omega))
    have ne3 : ¬ m0 = s3.n := by omega
    have ne1 : ¬ 1 = s3.n := by omega
    obtain ⟨b9, cap9, s9, happ, hrow9, hn9, hk9⟩ := app_lit (bytes := 64) hrow3 (fun b hb => by omega) (new := Kd.c ⟨nm, ps, fs⟩) (k := 1) rfl rfl (by omega) (by omega)
    have c9 : s9.cells 1 = some [x, .nils] := (get_cells (hk9 1 (by omega) (by omega))).trans c1'
    have c90 : s9.cells 0 = some [.nils, .nils] := (get_cells (hk9 0 (by omega) (by omega))).trans c0'
    simp only [Kd.c, strs_eq, slc_eq] at happ
    have sg3 : ∀ a b c : AV, seg [a, b, c] 0 3 = [a, b, c] := fun _ _ _ => rfl
    simp only [WU, seval, strs_eq, h6, h0, h1, h4, h5, h7, c1', cm, strs_eq, sg3, fillA, happ, c9, storeA, sets, setx, TS, hw]
    refine ⟨hlt, c90, by omega, _, K ++ [⟨nm, ps, fs⟩], rfl, ?_, by simp; omega, by omega, fun k hk => ?_⟩
    · rw [rowc_append, rowc_one, List.length_append]
      exact hrow9.put (b0 := 1) (by omega) _
    · rcases List.mem_append.1 hk with hk | hk
      · exact hKg k hk
      · rw [List.mem_singleton.1 hk]
        exact ⟨hnl, hps, hfl, hfg⟩
  clear h0 h1 h4 h5 c0 c1 hn
  rintro ρ s ⟨h1, h4, h5, c0, hn, x, K, c1, hrow, hKl, hKg⟩
  generalize hm0 : s.n = m0 at *
  rw [wpC_seq]
  refine w_mid (fun ρ s => ρ.rd 4 = .ptr 0 0 ∧ ρ.rd 5 = .ptr 1 0 ∧ s.cells 0 = some [.nils, .nils] ∧ m0 ≤ s.n ∧ ∃ y A, s.cells 1 = some [x, y] ∧ RowP (fun b => 2 ≤ b ∧ b < m0) s x (rowc Kd.c K) K.length 3 ∧ RowP (fun b => m0 ≤ b) s y (rowc Ac.c A) A.length 3 ∧ A.length ≤ 5 ∧ ∀ a ∈ A, AcG a) ?_ ?_
  · simp only [WU, seval, strs_eq, h1, h4, h5, c0, c1]
    refine w_for (fun i ρ s => ρ.rd 12 = .int .i64 i ∧ ρ.rd 1 = slc RAc.c ac ∧ ρ.rd 4 = .ptr 0 0 ∧ ρ.rd 5 = .ptr 1 0 ∧ s.cells 0 = some [.nils, .nils] ∧ m0 ≤ s.n ∧ ∃ y A, s.cells 1 = some [x, y] ∧ RowP (fun b => 2 ≤ b ∧ b < m0) s x (rowc Kd.c K) K.length 3 ∧ RowP (fun b => m0 ≤ b) s y (rowc Ac.c A) A.length 3 ∧ A.length = i ∧ i ≤ 5 ∧ ∀ a ∈ A, AcG a) ac.length ?_ ?_
    · simp only [WU, seval, strs_eq, h1, h4, h5, c0, c1]
      first | done | exact ⟨rfl, by omega, .nils, [], rfl, hrow.mono fun b h1 h2 => ⟨h1, by omega⟩, RowP.nil _ _ _, rfl, by intro k hk; cases hk⟩ | exact ⟨by omega, .nils, [], rfl, hrow.mono fun b h1 h2 => ⟨h1, by omega⟩, RowP.nil _ _ _, rfl, by intro k hk; cases hk⟩
    clear h1 h4 h5 c0 c1 hrow hm0
    rintro i ρ s hi ⟨h12, h1, h4, h5, c0, hns, y, A, c1, hrow, hrowy, hAl, hi5, hAg⟩
    by_cases hlt' : (i : Int) < ac.length
    rotate_left
    · simp only [WU, seval, strs_eq, h12, h1, h4, h5, c0, c1, hlt']
      exact ⟨hns, y, A, rfl, hrow, hrowy, by omega, hAg⟩
    by_cases h5' : (i : Int) < 5
    rotate_left
    · simp only [WU, seval, strs_eq, h12, h1, h4, h5, c0, c1, hlt', h5']
      exact ⟨hns, y, A, rfl, hrow, hrowy, by omega, hAg⟩
    have hlt : i < ac.length := by omega
    have B := raAt hlt
    have hr := lt_idx hlt
    have hw : IntKind.i64.wrap ((i : Int) + 1) = ((i + 1 : Nat) : Int) := wrap_succ (by omega)
    rw [wpC_seq]
    refine w_mid (fun ρ s1 => s1 = s ∧ ρ.rd 12 = .int .i64 i ∧ ρ.rd 1 = slc RAc.c ac ∧ ρ.rd 4 = .ptr 0 0 ∧ ρ.rd 5 = .ptr 1 0) ?_ ?_
    · simp only [WU, seval, strs_eq, h12, h1, h4, h5, hlt', h5']
    clear h12 h1 h4 h5
    rintro ρ s1 ⟨rfl, h12, h1, h4, h5⟩
    rw [wpC_seq, wpC_block, wpC_seq]
    generalize hm : s1.n = m at *
    refine w_mid (fun ρ s2 => ρ.rd 12 = .int .i64 i ∧ ρ.rd 1 = slc RAc.c ac ∧ ρ.rd 4 = .ptr 0 0 ∧ ρ.rd 5 = .ptr 1 0 ∧ ρ.rd 13 = .ptr (m + 3) 0 ∧ s2.n = m + 4 ∧ (∀ b, b < m → s2.h.get b = s1.h.get b) ∧ ∃ nm : Str, nm.length ≤ 12 ∧ s2.cells (m + 3) = some [.str nm, .sl (m + 1) 0 1 (some 1) 1, .sl (m + 2) 0 1 (some 1) 1] ∧ s2.cells (m + 1) = some [.str [85, 115, 101, 114]] ∧ s2.cells (m + 2) = some [.str [68, 111, 99]]) ?_ ?_
    · have q0 : (0 : Int) < (3 : Int) := by decide
      have q1 : (1 : Int) < (3 : Int) := by decide
      have q2 : (2 : Int) < (3 : Int) := by decide
      simp only [WU, seval, strs_eq, h12, h1, h4, h5, hr, B.g0, hm]
      refine (within5_ac (by decide) (by decide)).use ?_
      have hwr := wi_range ac[i].name (n := 3) (by decide)
      have e2 : ¬ m = m + 2 := by omega
      have e1 : ¬ m = m + 1 := by omega
      rcases (by omega : wi ac[i].name 3 = 0 ∨ wi ac[i].name 3 = 1 ∨ wi ac[i].name 3 = 2) with h | h | h
      all_goals
        simp only [WU, seval, strs_eq, h, q0, q1, q2, h12, h1, h4, h5, hm, fillA, storeA, sets, setx, TS]
        refine ⟨fun b hb => ?_, _, ?_, rfl, by simp [e1, e2], by simp [e1, e2]⟩
        · rw [put_h (by omega)]
          repeat rw [push_h (by first | omega | (simp only [push_n]; omega))]
        · decide
    clear h12 h1 h4 h5
    rintro ρ s2 ⟨h12, h1, h4, h5, h13, hn2, hk2, nm, hnl, cm, cp, cr⟩
    rw [wpC_seq]
    refine w_mid (fun ρ s3 => ρ.rd 12 = .int .i64 i ∧ ρ.rd 1 = slc RAc.c ac ∧ ρ.rd 4 = .ptr 0 0 ∧ ρ.rd 5 = .ptr 1 0 ∧ ρ.rd 13 = .ptr (m + 3) 0 ∧ m + 3 < s3.n ∧ (∀ b, b < m → s3.h.get b = s1.h.get b) ∧ ∃ ps : List Str, s3.cells (m + 3) = some [.str nm, strs ps, .sl (m + 2) 0 1 (some 1) 1] ∧ s3.cells (m + 2) = some [.str [68, 111, 99]] ∧ 1 ≤ ps.length ∧ ps.length ≤ 4) ?_ ?_
    · simp only [WU, seval, strs_eq, h12, h1, h4, h5, h13]
      refine SimA.frz (w_for (fun j ρ s3 => ρ.rd 14 = .int .i64 j ∧ ρ.rd 12 = .int .i64 i ∧ ρ.rd 1 = slc RAc.c ac ∧ ρ.rd 4 = .ptr 0 0 ∧ ρ.rd 5 = .ptr 1 0 ∧ ρ.rd 13 = .ptr (m + 3) 0 ∧ m + 3 < s3.n ∧ (∀ b, b < m → s3.h.get b = s1.h.get b) ∧
        ∃ (y : AV) (ps : List Str), s3.cells (m + 3) = some [.str nm, y, .sl (m + 2) 0 1 (some 1) 1] ∧ s3.cells (m + 2) = some [.str [68, 111, 99]] ∧ RowP (fun b => b = m + 1 ∨ m + 3 < b) s3 y (ps.map AV.str) ps.length 1 ∧ ps.length = j + 1 ∧ j ≤ 3) ac[i].p.length ?_ ?_)
      · simp only [WU, seval, strs_eq, h12, h1, h4, h5, h13]
        first | exact ⟨rfl, by omega, hk2, _, [[85, 115, 101, 114]], cm, cr, RowP.of (.inl rfl) (by omega) cp rfl, by simp⟩ | exact ⟨by omega, hk2, _, [[85, 115, 101, 114]], cm, cr, RowP.of (.inl rfl) (by omega) cp rfl, by simp⟩
      clear h12 h1 h4 h5 h13 hn2 hk2 cm cp
      rintro j ρ s3 hj ⟨hj0, h12, h1, h4, h5, h13, hn3, hk3, y2, ps, cm, cr, hrow3, hpl, hj3⟩
      by_cases hlt2 : (j : Int) < ac[i].p.length
      rotate_left
      · simp only [WU, seval, strs_eq, hj0, h12, h1, h4, h5, h13, hr, B.g1, ints_eq, hlt2]
        refine Frz.row hrow3 cm (by omega) (i := 1) rfl fun s hs1 hs2 hs3 => ?_
        simp only [WU, seval, strs_eq, h12, h1, h4, h5, h13]
        refine ⟨by omega, fun b hb => (hs3 b (by omega) (by omega)).trans (hk3 b hb), ps, by simpa [strs_eq] using hs2, ?_⟩
        exact ⟨(get_cells (hs3 (m + 2) (by omega) (by omega))).trans cr, by omega, by omega⟩
      by_cases hlt3 : (j : Int) < 3
      rotate_left
      · simp only [WU, seval, strs_eq, hj0, h12, h1, h4, h5, h13, hr, B.g1, ints_eq, hlt2, hlt3]
        refine Frz.row hrow3 cm (by omega) (i := 1) rfl fun s hs1 hs2 hs3 => ?_
        simp only [WU, seval, strs_eq, h12, h1, h4, h5, h13]
        refine ⟨by omega, fun b hb => (hs3 b (by omega) (by omega)).trans (hk3 b hb), ps, by simpa [strs_eq] using hs2, ?_⟩
        exact ⟨(get_cells (hs3 (m + 2) (by omega) (by omega))).trans cr, by omega, by omega⟩
      have hltj : j < ac[i].p.length := by omega
      have hrj := lt_idx hltj
      have hgj := ints_get hltj
      have hwj : IntKind.i64.wrap ((j : Int) + 1) = ((j + 1 : Nat) : Int) := wrap_succ (by omega)
      simp only [WU, seval, strs_eq, hj0, h12, h1, h4, h5, h13, hr, B.g1, ints_eq, hlt2, hlt3]
      refine w_dreg follow [] rfl ?_
      have cA : (addSlots s3.n 15 s3 []).cells (m + 3) = some [.str nm, y2, .sl (m + 2) 0 1 (some 1) 1] := cm
      have cR : (addSlots s3.n 15 s3 []).cells (m + 2) = some [.str [68, 111, 99]] := cr
      have hrowA := hrow3.slots 15
      have hnA : m + 3 < (addSlots s3.n 15 s3 []).n := by simp only [addSlots]; omega
      have hkA : ∀ b, b < m → (addSlots s3.n 15 s3 []).h.get b = s1.h.get b := hk3
      generalize addSlots s3.n 15 s3 [] = s4 at *
      obtain ⟨b5, cap5, s5, happ, hrow5, hn5, hk5⟩ := app_lit (bytes := 16) hrowA (fun b hb => by omega) (new := [.str (kindN (wi ac[i].p[j] 4))]) (k := 1) rfl rfl (by omega) (by omega)
      have c5 := (get_cells (hk5 (m + 3) hnA (by omega))).trans cA
      have cR5 := (get_cells (hk5 (m + 2) (by omega) (by omega))).trans cR
      have ne4 : ¬ m + 3 = s4.n := by omega
      simp only [WU, seval, strs_eq, DU, hj0, h12, h1, h4, h5, h13, hr, B.g1, ints_eq, hrj, hgj, cA]
      refine kind5_ac.useD ?_
      simp only [WU, seval, strs_eq, DU, hj0, h12, h1, h4, h5, h13, hr, hrj, hgj, cA, fillA, happ, c5, ne4, storeA, sets, setx, TS]
      refine ⟨⟨?_, ?_⟩, ?_⟩
      · intro l hl c hc hf
        simp only [List.mem_cons, List.mem_nil_iff, List.not_mem_nil, or_false] at hl hc
        rcases hl with rfl | rfl | rfl <;> rcases hc with rfl | rfl | rfl | rfl | rfl <;> dsimp only at hf ⊢ <;> first
          | (exact absurd hf (by decide +kernel))
          | (simp only [WU, seval, strs_eq, hj0, h12, h1, h4, h5, h13, hr, B.g1, ints_eq, hrj, hgj, cA, c5, ne4]; done)
      · intro sl hsl; simp at hsl
      · have nm23 : ¬ m + 2 = m + 3 := by omega
        simp only [WU, seval, strs_eq, hj0, h12, h1, h4, h5, h13, hwj]
        refine ⟨hltj, by omega, fun b hb => ?_, _, ps ++ [kindN (wi ac[i].p[j] 4)], rfl, (if_neg (by omega)).trans cR5, ?_, by simp; omega, by omega⟩
        · rw [put_h (by omega), hk5 b (by omega) (by omega), hkA b hb]
        · simpa using hrow5.put (b0 := m + 3) (by omega) _
    clear h12 h1 h4 h5 h13 hn2 hk2 cm cp cr
    rintro ρ s2 ⟨h12, h1, h4, h5, h13, hn2, hk2, qs, cm, cp, hq1, hq4⟩
    rw [wpC_seq]
    refine w_mid (fun ρ s3 => ρ.rd 12 = .int .i64 i ∧ ρ.rd 1 = slc RAc.c ac ∧ ρ.rd 4 = .ptr 0 0 ∧ ρ.rd 5 = .ptr 1 0 ∧ ρ.rd 13 = .ptr (m + 3) 0 ∧ m + 3 < s3.n ∧ (∀ b, b < m → s3.h.get b = s1.h.get b) ∧ ∃ ps : List Str, s3.cells (m + 3) = some [.str nm, strs qs, strs ps] ∧ 1 ≤ ps.length ∧ ps.length ≤ 4) ?_ ?_
    · simp only [WU, seval, strs_eq, h12, h1, h4, h5, h13]
      refine SimA.frz (w_for (fun j ρ s3 => ρ.rd 15 = .int .i64 j ∧ ρ.rd 12 = .int .i64 i ∧ ρ.rd 1 = slc RAc.c ac ∧ ρ.rd 4 = .ptr 0 0 ∧ ρ.rd 5 = .ptr 1 0 ∧ ρ.rd 13 = .ptr (m + 3) 0 ∧ m + 3 < s3.n ∧ (∀ b, b < m → s3.h.get b = s1.h.get b) ∧
        ∃ (y : AV) (ps : List Str), s3.cells (m + 3) = some [.str nm, strs qs, y] ∧ RowP (fun b => b = m + 2 ∨ m + 3 < b) s3 y (ps.map AV.str) ps.length 1 ∧ ps.length = j + 1 ∧ j ≤ 3) ac[i].r.length ?_ ?_)
      · simp only [WU, seval, strs_eq, h12, h1, h4, h5, h13]
        first | exact ⟨rfl, by omega, hk2, _, [[68, 111, 99]], cm, RowP.of (.inl rfl) (by omega) cp rfl, by simp⟩ | exact ⟨by omega, hk2, _, [[68, 111, 99]], cm, RowP.of (.inl rfl) (by omega) cp rfl, by simp⟩
      clear h12 h1 h4 h5 h13 hn2 hk2 cm cp
      rintro j ρ s3 hj ⟨hj0, h12, h1, h4, h5, h13, hn3, hk3, y2, ps, cm, hrow3, hpl, hj3⟩
      by_cases hlt2 : (j : Int) < ac[i].r.length
      rotate_left
      · simp only [WU, seval, strs_eq, hj0, h12, h1, h4, h5, h13, hr, B.g2, ints_eq, hlt2]
        refine Frz.row hrow3 cm (by omega) (i := 2) rfl fun s hs1 hs2 hs3 => ?_
        simp only [WU, seval, strs_eq, h12, h1, h4, h5, h13]
        refine ⟨by omega, fun b hb => (hs3 b (by omega) (by omega)).trans (hk3 b hb), ps, by simpa [strs_eq] using hs2, ?_⟩
        omega
      by_cases hlt3 : (j : Int) < 3
      rotate_left
      · simp only [WU, seval, strs_eq, hj0, h12, h1, h4, h5, h13, hr, B.g2, ints_eq, hlt2, hlt3]
        refine Frz.row hrow3 cm (by omega) (i := 2) rfl fun s hs1 hs2 hs3 => ?_
        simp only [WU, seval, strs_eq, h12, h1, h4, h5, h13]
        refine ⟨by omega, fun b hb => (hs3 b (by omega) (by omega)).trans (hk3 b hb), ps, by simpa [strs_eq] using hs2, ?_⟩
        omega
      have hltj : j < ac[i].r.length := by omega
      have hrj := lt_idx hltj
      have hgj := ints_get hltj
      have hwj : IntKind.i64.wrap ((j : Int) + 1) = ((j + 1 : Nat) : Int) := wrap_succ (by omega)
      simp only [WU, seval, strs_eq, hj0, h12, h1, h4, h5, h13, hr, B.g2, ints_eq, hlt2, hlt3]
      refine w_dreg follow [] rfl ?_
      have cA : (addSlots s3.n 15 s3 []).cells (m + 3) = some [.str nm, strs qs, y2] := cm
      skip
      have hrowA := hrow3.slots 15
      have hnA : m + 3 < (addSlots s3.n 15 s3 []).n := by simp only [addSlots]; omega
      have hkA : ∀ b, b < m → (addSlots s3.n 15 s3 []).h.get b = s1.h.get b := hk3
      generalize addSlots s3.n 15 s3 [] = s4 at *
      obtain ⟨b5, cap5, s5, happ, hrow5, hn5, hk5⟩ := app_lit (bytes := 16) hrowA (fun b hb => by omega) (new := [.str (kindN (wi ac[i].r[j] 4))]) (k := 1) rfl rfl (by omega) (by omega)
      have c5 := (get_cells (hk5 (m + 3) hnA (by omega))).trans cA
      skip
      have ne4 : ¬ m + 3 = s4.n := by omega
      simp only [WU, seval, strs_eq, DU, hj0, h12, h1, h4, h5, h13, hr, B.g2, ints_eq, hrj, hgj, cA]
      refine kind5_ac.useD ?_
      simp only [WU, seval, strs_eq, DU, hj0, h12, h1, h4, h5, h13, hr, hrj, hgj, cA, fillA, happ, c5, ne4, storeA, sets, setx, TS]
      refine ⟨⟨?_, ?_⟩, ?_⟩
      · intro l hl c hc hf
        simp only [List.mem_cons, List.mem_nil_iff, List.not_mem_nil, or_false] at hl hc
        rcases hl with rfl | rfl | rfl <;> rcases hc with rfl | rfl | rfl | rfl | rfl <;> dsimp only at hf ⊢ <;> first
          | (exact absurd hf (by decide +kernel))
          | (simp only [WU, seval, strs_eq, hj0, h12, h1, h4, h5, h13, hr, B.g2, ints_eq, hrj, hgj, cA, c5, ne4]; done)
      · intro sl hsl; simp at hsl
      · have nm23 : ¬ m + 2 = m + 3 := by omega
        simp only [WU, seval, strs_eq, hj0, h12, h1, h4, h5, h13, hwj]
        refine ⟨hltj, by omega, fun b hb => ?_, _, ps ++ [kindN (wi ac[i].r[j] 4)], rfl, ?_, by simp; omega, by omega⟩
        · rw [put_h (by omega), hk5 b (by omega) (by omega), hkA b hb]
        · simpa using hrow5.put (b0 := m + 3) (by omega) _
    clear h12 h1 h4 h5 h13 hn2 hk2 cm cp
    rintro ρ s3 ⟨h12, h1, h4, h5, h13, hn3, hk3, rs, cm, hr1, hr4⟩
    have c1' : s3.cells 1 = some [x, y] := (get_cells (hk3 1 (by omega))).trans c1
    have c0' : s3.cells 0 = some [.nils, .nils] := (get_cells (hk3 0 (by omega))).trans c0
    have hrow3 : RowP (fun b => 2 ≤ b ∧ b < m0) s3 x (rowc Kd.c K) K.length 3 := hrow.keep (by omega) fun b hb _ => get_cells (hk3 b (by omega))
    have hrowy3 : RowP (fun b => m0 ≤ b) s3 y (rowc Ac.c A) A.length 3 := hrowy.keep (by omega) fun b hb _ => get_cells (hk3 b (by omega))
    have ne3 : ¬ m + 3 = s3.n := by omega
    have ne1 : ¬ 1 = s3.n := by omega
    obtain ⟨b9, cap9, s9, happ, hrow9, hn9, hk9⟩ := app_lit (bytes := 64) hrowy3 (fun b hb => by omega) (new := Ac.c ⟨nm, qs, rs⟩) (k := 1) rfl rfl (by omega) (by omega)
    have c9 : s9.cells 1 = some [x, y] := (get_cells (hk9 1 (by omega) (by omega))).trans c1'
    have c90 : s9.cells 0 = some [.nils, .nils] := (get_cells (hk9 0 (by omega) (by omega))).trans c0'
    have hrow9' : RowP (fun b => 2 ≤ b ∧ b < m0) s9 x (rowc Kd.c K) K.length 3 := hrow3.keep (by omega) fun b hb hb' => get_cells (hk9 b hb (by omega))
    simp only [Ac.c, strs_eq] at happ
    have sg3 : ∀ a b c : AV, seg [a, b, c] 0 3 = [a, b, c] := fun _ _ _ => rfl
    simp only [WU, seval, strs_eq, h12, h1, h4, h5, h13, c1', cm, strs_eq, sg3, fillA, happ, c9, storeA, sets, setx, TS, hw]
    refine ⟨hlt, c90, by omega, _, A ++ [⟨nm, qs, rs⟩], rfl, hrow9'.put (by omega) _, ?_, by simp; omega, by omega, fun k hk => ?_⟩
    · rw [rowc_append, rowc_one, List.length_append]
      exact hrow9.put (b0 := 1) (by omega) _
    · rcases List.mem_append.1 hk with hk | hk
      · exact hAg k hk
      · rw [List.mem_singleton.1 hk]
        exact ⟨hnl, ⟨hq1, hq4⟩, ⟨hr1, hr4⟩⟩
  rintro ρ s ⟨h4, h5, c0, hns, y, A, c1, hrow, hrowy, hAl, hAg⟩
  have sg2 : ∀ a b : AV, seg [a, b] 0 2 = [a, b] := fun _ _ => rfl
  have hxy : x.one = true ∧ y.one = true := by
    constructor
    · rcases hrow with ⟨rfl, _⟩ | ⟨_, _, _, rfl, _⟩ <;> rfl
    · rcases hrowy with ⟨rfl, _⟩ | ⟨_, _, _, rfl, _⟩ <;> rfl
  simp only [WU, seval, strs_eq, h4, h5, c0, c1, sg2, hxy, storeA, sets, setx, TS]
  refine ⟨.agg [slc Kd.c K, slc Ac.c A], .agg _ _ rfl fun i hi hi' => ?_, ⟨K, A⟩, rfl, hKl, hAl, hKg, hAg⟩
  match i, hi with
  | 0, _ => exact (hrow.put (by omega) _).self (rowc_pur Kd.pur K)
  | 1, _ => exact (hrowy.put (by omega) _).self (rowc_pur Ac.pur A)
theorem ints_fxd (l : List Int) : Fxd (ints l) := .psl fun a ha => by
  obtain ⟨x, _, rfl⟩ := List.mem_map.1 ha
  exact Fxd.flat rfl
theorem RFd.fxd (f : RFd) : FxdL f.c := .cons (.flat rfl) (.cons (.flat rfl) (.cons (.flat rfl) (.cons (.flat rfl) .nil)))
theorem RKd.fxd (k : RKd) : FxdL k.c := .cons (.flat rfl) (.cons (ints_fxd _) (.cons (slc_fxd RFd.fxd _) .nil))
theorem RAc.fxd (a : RAc) : FxdL a.c := .cons (.flat rfl) (.cons (ints_fxd _) (.cons (ints_fxd _) .nil))
theorem schema5_ac {ks : List RKd} {ac : List RAc} {σ : AState} : AC Try.prog 29 [slc RKd.c ks, slc RAc.c ac] σ fun v s => s = σ ∧ ∃ S, v = .agg (Sc.c S) ∧ ScG S :=
  AC.share (.cons (slc_fxd RKd.fxd _) (.cons (slc_fxd RAc.fxd _) .nil)) schema5_st0
end Go.Proofs.Ytcdbpmmomgehfaa.Va
