/- The law TypesFields: the walk. Conditions: none. -/
import Derived.Test.YtcdbpmmomgehfaaTL7
import Derived.Test.YtcdbpmmomgehfaaTy28
set_option maxRecDepth 100000
set_option maxHeartbeats 4000000
set_option linter.all false
namespace Go.Proofs.Ytcdbpmmomgehfaa.Va
open Go.Proofs
theorem fieldX_step {fs : List Fl} {n : Str} {j : Nat} (h : j < fs.length) (hno : (fs.take j).find? (fun k => decide (k.name = n)) = none) (he : fs[j].name = n) : fieldX fs n = some fs[j].ty := by
  unfold fieldX
  rw [findF_take h hno, if_pos he]; rfl
theorem typesFields_ac {ks : List RKd} {ac : List RAc} {n k f : Int} : AC Try.prog 7 [slc RKd.c ks, slc RAc.c ac, .int .i64 n, .int .i64 k, .int .i64 f] st0 fun v _ => v = .bool true := by
  have sgE : ∀ a b c : AV, seg [a, b, c] 0 3 = [a, b, c] := fun _ _ _ => rfl
  refine ac_s fn7 cf7 cl7 rfl ?_
  simp only [ac7]
  unfold ab7
  refine s_mid (fun ρ s => ρ.rd 0 = slc RKd.c ks ∧ ρ.rd 1 = slc RAc.c ac ∧ ρ.rd 2 = .int .i64 n ∧ ρ.rd 3 = .int .i64 k ∧ ρ.rd 4 = .int .i64 f ∧ s = st0) ?_ ?_
  · simp only [WS, seval, stepW, evalA, evalBin, Option.getD, allocA, rowOf, fillA, partsV, setl, AV.len, evalUn, strs_eq]
  rintro ρ s ⟨h0, h1, h2, h3, h4, rfl⟩
  refine s_mid (fun ρ s => ρ.rd 0 = slc RKd.c ks ∧ ρ.rd 1 = slc RAc.c ac ∧ ρ.rd 2 = .int .i64 n ∧ ρ.rd 3 = .int .i64 k ∧ ρ.rd 4 = .int .i64 f ∧ s = st0) ?_ ?_
  · simp only [WS, seval, stepW, evalA, evalBin, Option.getD, allocA, rowOf, fillA, partsV, setl, AV.len, evalUn, strs_eq]
    refine known11_ac.use ?_
    simp only [WS, seval, stepW, evalA, evalBin, Option.getD, allocA, rowOf, fillA, partsV, setl, AV.len, evalUn, strs_eq, h0, h1, h2, h3, h4]
  clear h0 h1 h2 h3 h4
  rintro ρ s ⟨h0, h1, h2, h3, h4, rfl⟩
  refine s_frz (fun ρ s => ρ.rd 2 = .int .i64 n ∧ ρ.rd 3 = .int .i64 k ∧ ρ.rd 4 = .int .i64 f ∧ ∃ b S, ρ.rd 11 = .ptr b 0 ∧ b < s.n ∧ s.cells b = some [slc Kd.c S.kinds, slc Ac.c S.acts] ∧ ScN S) ?_ ?_
  · simp only [WS, seval, stepW, evalA, evalBin, Option.getD, allocA, rowOf, fillA, partsV, setl, AV.len, evalUn, strs_eq, h0, h1]
    refine good_frz fun x y s1 hx hy hk hM => ?_
    simp only [WS, seval, stepW, evalA, evalBin, Option.getD, allocA, rowOf, fillA, partsV, setl, AV.len, evalUn, strs_eq, h2, h3, h4, hx, hy, frzQ_normal, frzQ_exit, frzQ_ret, storeA, sets, setx, TS]
    refine hM _ _ s1.n _ _ (by rw [put_get, if_pos rfl]) (Nat.le_refl _) (by simp only [put_n, push_n]; omega) (fun c hc => by rw [put_get, if_neg (by omega), push_get, if_neg (by omega)]) fun S s2 hS e1 e2 e3 => ?_
    simp only [WS, seval, stepW, evalA, evalBin, Option.getD, allocA, rowOf, fillA, partsV, setl, AV.len, evalUn, strs_eq, h2, h3, h4]
    exact ⟨s1.n, S, rfl, by rw [e1]; exact Nat.lt_succ_self _, by simpa [slc_eq] using e2, hS⟩
  clear h0 h1 h2 h3 h4
  rintro ρ s ⟨h2, h3, h4, b, S, h11, hb, cb, hS⟩
  have hR := hS.r
  have hal := hS.al
  have sg := scSeg S
  have hE : ∀ σ, AC Try.prog 15 [.agg S.c, .int .i64 n] σ fun v s => s = σ ∧ v = .tup [.agg (if hasEnv S = true then envX S n else noEn).c, .bool (hasEnv S)] := fun σ => env_ac hR.m (by omega)
  cases hhas : hasEnv S with
  | false =>
    rw [hhas] at hE
    generalize (if false = true then envX S n else noEn) = X at *
    simp only [Sc.c_eq, slc_eq, En.c_eq] at hE cb
    refine s_wp ?_
    simp only [WS, seval, stepW, evalA, evalBin, Option.getD, allocA, rowOf, fillA, partsV, setl, AV.len, evalUn, strs_eq, h2, h3, h4, h11, cb, sg]
    refine (hE _).use ?_
    simp only [WS, seval, stepW, evalA, evalBin, Option.getD, allocA, rowOf, fillA, partsV, setl, AV.len, evalUn, strs_eq, sgE, storeA, sets, setx, TS]
  | true =>
  have hkpos := hasEnv_kinds hS hhas
  rw [hhas, if_pos rfl] at hE
  generalize envX S n = X at *
  simp only [Sc.c_eq, slc_eq, En.c_eq] at hE cb
  refine s_mid (fun ρ s => ρ.rd 3 = .int .i64 k ∧ ρ.rd 4 = .int .i64 f ∧ ρ.rd 11 = .ptr b 0 ∧ s.cells b = some [.psl (rowc Kd.c S.kinds) 0 S.kinds.length, .psl (rowc Ac.c S.acts) 0 S.acts.length] ∧ b < s.n ∧ ∃ e, ρ.rd 12 = .ptr e 0 ∧ e < s.n ∧ s.cells e = some [.str X.p, .str X.a, .str X.r] ∧ ρ.rd 13 = .bool true) ?_ ?_
  · have nb : ¬ b = s.n := by omega
    simp only [WS, seval, stepW, evalA, evalBin, Option.getD, allocA, rowOf, fillA, partsV, setl, AV.len, evalUn, strs_eq, h2, h3, h4, h11, cb, hb, sg]
    refine (hE _).use ?_
    simp only [WS, seval, stepW, evalA, evalBin, Option.getD, allocA, rowOf, fillA, partsV, setl, AV.len, evalUn, strs_eq, h3, h4, h11, cb, hb, sgE, nb, storeA, sets, setx, TS]
    exact ⟨by omega, s.n, rfl, by omega, by simp⟩
  clear h3 h4 h11 cb hb h2
  rintro ρ s ⟨h3, h4, h11, cb, hb, e, h12, he, ce, h13⟩
  refine s_mid (fun ρ s => ρ.rd 3 = .int .i64 k ∧ ρ.rd 4 = .int .i64 f ∧ ρ.rd 11 = .ptr b 0 ∧ s.cells b = some [.psl (rowc Kd.c S.kinds) 0 S.kinds.length, .psl (rowc Ac.c S.acts) 0 S.acts.length] ∧ b < s.n ∧ ρ.rd 12 = .ptr e 0 ∧ e < s.n ∧ s.cells e = some [.str X.p, .str X.a, .str X.r]) ?_ ?_
  · simp only [WS, seval, stepW, evalA, evalBin, Option.getD, allocA, rowOf, fillA, partsV, setl, AV.len, evalUn, strs_eq, h3, h4, h11, cb, hb, h12, he, ce, h13]
  clear h3 h4 h11 cb hb h12 he ce h13
  rintro ρ s ⟨h3, h4, h11, cb, hb, h12, he, ce⟩
  have hwr := wi_range k (n := S.kinds.length) (by omega)
  obtain ⟨kk, hkk⟩ : ∃ kk : Nat, wi k S.kinds.length = kk := ⟨(wi k S.kinds.length).toNat, by omega⟩
  have hW : ∀ σ, AC Try.prog 21 [.int .i64 k, .int .i64 S.kinds.length] σ fun v s' => s' = σ ∧ v = .int .i64 kk := fun σ => by
    have := within11_ac (n := k) (k := S.kinds.length) (σ := σ) (by omega) (by have := hS.kl; omega)
    rw [hkk] at this; exact this
  rw [hkk] at hwr
  have hkl : kk < S.kinds.length := by omega
  have hr := lt_idx hkl
  have A := kdAt hkl
  have hfit := A.fit
  have hall := A.all
  have hmem := List.getElem_mem hkl
  have hKX := hS.kindX hmem
  have hKG := hS.k _ hmem
  have hKna := hR.na _ hmem
  generalize S.kinds[kk] = K at *
  clear A
  simp only [strs_eq, slc_eq] at hall
  refine s_mid (fun ρ s => ρ.rd 3 = .int .i64 k ∧ ρ.rd 4 = .int .i64 f ∧ ρ.rd 11 = .ptr b 0 ∧ s.cells b = some [.psl (rowc Kd.c S.kinds) 0 S.kinds.length, .psl (rowc Ac.c S.acts) 0 S.acts.length] ∧ b < s.n ∧ ρ.rd 12 = .ptr e 0 ∧ e < s.n ∧ s.cells e = some [.str X.p, .str X.a, .str X.r] ∧ ∃ q, ρ.rd 14 = .ptr q 0 ∧ q < s.n ∧ s.cells q = some [.str K.name, .psl (K.parents.map .str) 0 K.parents.length, .psl (rowc Fl.c K.fields) 0 K.fields.length]) ?_ ?_
  · simp only [WS, seval, stepW, evalA, evalBin, Option.getD, allocA, rowOf, fillA, partsV, setl, AV.len, evalUn, strs_eq]
    refine w_dreg follow [(9, [.str [], .nils, .nils])] rfl ?_
    have g9 := slots_get (s := s) (m := 11) [(9, [.str [], .nils, .nils])] 9 _ rfl
    have db := (slots_old (m := 11) [(9, [.str [], .nils, .nils])] hb).trans cb
    have de := (slots_old (m := 11) [(9, [.str [], .nils, .nils])] he).trans ce
    have hnA : (addSlots s.n 11 s [(9, [.str [], .nils, .nils])]).n = s.n + 11 := rfl
    generalize addSlots s.n 11 s [(9, [.str [], .nils, .nils])] = s1 at *
    have c9 := cells_of g9
    have nb9 : ¬ b = s.n + 9 := by omega
    have ne9 : ¬ e = s.n + 9 := by omega
    simp only [WS, seval, stepW, evalA, evalBin, Option.getD, allocA, rowOf, fillA, partsV, setl, AV.len, evalUn, strs_eq, DS, isSl, AOp.pure, AOp.reader, allocD, AOp.quiet, isSlot, Nat.reduceBEq, h3, h4, h11, h12, db, sg]
    refine (hW _).useD ?_
    simp only [WS, seval, stepW, evalA, evalBin, Option.getD, allocA, rowOf, fillA, partsV, setl, AV.len, evalUn, strs_eq, DS, isSl, AOp.pure, AOp.reader, allocD, AOp.quiet, isSlot, Nat.reduceBEq, h11, db, hr, hfit, hall, c9, storeA, sets, setx, TS]
    refine ⟨⟨?_, ?_⟩, ?_⟩
    · intro l hl c hc hf
      simp only [List.mem_cons, List.mem_nil_iff, List.not_mem_nil, or_false] at hl hc
      rcases hl with rfl | rfl | rfl <;> rcases hc with rfl | rfl | rfl <;> dsimp only at hf ⊢ <;> first
        | (exact absurd hf (by decide +kernel))
        | (simp only [WS, seval, stepW, evalA, evalBin, Option.getD, allocA, rowOf, fillA, partsV, setl, AV.len, evalUn, strs_eq, h11, db, hr, hfit, hall, nb9]; done)
    · intro sl hsl c hc hf
      simp only [List.mem_cons, List.mem_nil_iff, List.not_mem_nil, or_false] at hsl hc
      subst hsl
      rcases hc with rfl | rfl | rfl <;> dsimp only at hf ⊢ <;> first
        | (exact absurd hf (by decide +kernel))
        | (exact ⟨by omega, g9⟩)
    · simp only [WS, seval, stepW, evalA, evalBin, Option.getD, allocA, rowOf, fillA, partsV, setl, AV.len, evalUn, strs_eq, h3, h4, h11, h12, db, de, nb9, ne9]
      exact ⟨by omega, by omega, s.n + 9, rfl, by omega, by simp⟩
  clear h3 h4 h11 cb hb h12 he ce
  rintro ρ s ⟨h3, h4, h11, cb, hb, h12, he, ce, q, h14, hq, cq⟩
  have hwf := wi_range f (n := 7) (by decide)
  obtain ⟨nf, hnf⟩ : ∃ nf : Nat, wi f 7 = nf := ⟨(wi f 7).toNat, by omega⟩
  have hW7 : ∀ σ, AC Try.prog 21 [.int .i64 f, .int .i64 7] σ fun v s' => s' = σ ∧ v = .int .i64 nf := fun σ => by
    have := within11_ac (n := f) (k := 7) (σ := σ) (by omega) (by omega)
    rw [hnf] at this; exact this
  rw [hnf] at hwf
  have hr7 : (0 : Int) ≤ (nf : Int) ∧ (nf : Int) < (7 : Int) := by omega
  have hg7 := name_get (k := nf) (by omega)
  generalize nameN nf = nm at *
  refine s_mid (fun ρ s => ρ.rd 11 = .ptr b 0 ∧ s.cells b = some [.psl (rowc Kd.c S.kinds) 0 S.kinds.length, .psl (rowc Ac.c S.acts) 0 S.acts.length] ∧ b < s.n ∧ ρ.rd 14 = .ptr q 0 ∧ q < s.n ∧ s.cells q = some [.str K.name, .psl (K.parents.map .str) 0 K.parents.length, .psl (rowc Fl.c K.fields) 0 K.fields.length] ∧ ρ.rd 15 = .str nm ∧ ρ.rd 12 = .ptr e 0 ∧ e < s.n ∧ s.cells e = some [.str X.p, .str X.a, .str X.r]) ?_ ?_
  · have nb : ¬ b = s.n := by omega
    have ne : ¬ e = s.n := by omega
    have nq : ¬ q = s.n := by omega
    simp only [WS, seval, stepW, evalA, evalBin, Option.getD, allocA, rowOf, fillA, partsV, setl, AV.len, evalUn, strs_eq, h3, h4, h11, cb, hb, h12, he, ce, h14, cq, fillA]
    refine (hW7 _).use ?_
    simp only [WS, seval, stepW, evalA, evalBin, Option.getD, allocA, rowOf, fillA, partsV, setl, AV.len, evalUn, strs_eq, h3, h4, h11, cb, hb, h12, he, ce, h14, cq, hr7, hg7, push_cells, nb, ne, nq]
    exact ⟨by omega, by omega, by omega⟩
  clear h3 h4 h11 cb hb h12 he ce h14 hq cq
  rintro ρ s ⟨h11, cb, hb, h14, hq, cq, h15, h12, he, ce⟩
  refine s_mid (fun ρ s => ρ.rd 11 = .ptr b 0 ∧ s.cells b = some [.psl (rowc Kd.c S.kinds) 0 S.kinds.length, .psl (rowc Ac.c S.acts) 0 S.acts.length] ∧ b < s.n ∧ ρ.rd 14 = .ptr q 0 ∧ q < s.n ∧ s.cells q = some [.str K.name, .psl (K.parents.map .str) 0 K.parents.length, .psl (rowc Fl.c K.fields) 0 K.fields.length] ∧ ρ.rd 15 = .str nm ∧ ∃ w, ρ.rd 16 = .ptr w 0 ∧ w < s.n ∧ s.cells w = some [.str X.p, .str X.a, .str X.r]) ?_ ?_
  · have nb : ¬ b = s.n := by omega
    have nq : ¬ q = s.n := by omega
    simp only [WS, seval, stepW, evalA, evalBin, Option.getD, allocA, rowOf, fillA, partsV, setl, AV.len, evalUn, strs_eq, h11, cb, hb, h14, hq, cq, h15, h12, ce, nb, nq, storeA, sets, setx, TS]
    exact ⟨by omega, by omega, s.n, rfl, by omega, by simp⟩
  clear h11 cb hb h14 hq cq h15 h12 he ce
  rintro ρ s ⟨h11, cb, hb, h14, hq, cq, h15, w, h16, hw, cw⟩
  refine s_mid (fun ρ s => ρ.rd 11 = .ptr b 0 ∧ s.cells b = some [.psl (rowc Kd.c S.kinds) 0 S.kinds.length, .psl (rowc Ac.c S.acts) 0 S.acts.length] ∧ b < s.n ∧ ρ.rd 14 = .ptr q 0 ∧ q < s.n ∧ s.cells q = some [.str K.name, .psl (K.parents.map .str) 0 K.parents.length, .psl (rowc Fl.c K.fields) 0 K.fields.length] ∧ ρ.rd 15 = .str nm ∧ ρ.rd 16 = .ptr w 0 ∧ w < s.n ∧ s.cells w = some [.str X.p, .str X.a, .str X.r] ∧ ∃ o, ρ.rd 17 = .ptr o 0 ∧ o < s.n ∧ s.cells o = some [.int .i64 4, .bool false, .int .i64 0, .str [], .str K.name, .str [122], .nils]) ?_ ?_
  · have nb : ¬ b = s.n := by omega
    have nq : ¬ q = s.n := by omega
    have nw : ¬ w = s.n := by omega
    simp only [WS, seval, stepW, evalA, evalBin, Option.getD, allocA, rowOf, fillA, partsV, setl, AV.len, evalUn, strs_eq, h11, cb, hb, h14, hq, cq, h15, h16, cw, nb, nq, nw, storeA, sets, setx, TS]
    exact ⟨by omega, by omega, by omega, s.n, rfl, by omega, by simp⟩
  clear h11 cb hb h14 hq cq h15 h16 hw cw
  rintro ρ s ⟨h11, cb, hb, h14, hq, cq, h15, h16, hw, cw, o, h17, ho, co⟩
  have hoE : ofP S X.p X.r (.mk 4 false 0 [] K.name [122] []) = (⟨4, 0, K.name⟩, 0) := by
    rw [ofP_leaf (by rw [ofPs_nil]) (by decide)]
    have : knownS S K.name [122] = true := by unfold knownS; rw [if_neg hKna]; exact hKX.2
    simp [leafP, this]
  have hvE : ofP S X.p X.r (.mk 5 false 0 [97, 99, 116, 105, 111, 110] [] [] []) = (⟨4, 0, actionT⟩, 0) := by
    rw [ofP_leaf (by rw [ofPs_nil]) (by decide)]
    have h1 : ¬ ([97, 99, 116, 105, 111, 110] : Str) = prinS := by decide
    have h2 : ¬ ([97, 99, 116, 105, 111, 110] : Str) = resoS := by decide
    simp [leafP, h1, h2]
  have hO : ∀ (op : Int) (σ : AState) (qq : Nat), (op = 7 ∨ op = 8) → σ.cells qq = some [.int .i64 4, .bool false, .int .i64 0, .str [], .str K.name, .str [122], .nils] → AC Try.prog 20 [.agg S.c, .agg [.str X.p, .str X.a, .str X.r], .agg [.int .i64 op, .bool false, .int .i64 0, .str nm, .str [], .str [], .sl qq 0 1 (some 1) 7]] σ fun v s' => s' = σ ∧ v = tyP (nodeP S op nm [⟨4, 0, K.name⟩]) := fun op σ qq hop hc => by
    have hop' : op = 7 ∨ op = 8 ∨ op = 10 ∨ op = 11 ∨ op = 12 := by omega
    have := of_own (S := S) (p := X.p) (a := X.a) (r := X.r) hR (wf_one (n := 0) (b := false) (s := nm) (u := []) (v := []) hop' (wf_leaf (op := 4) (b := false) (n := 0) (s := []) (u := K.name) (v := [122]) (by decide) (by decide))) (pur_oneE (cap := some 1) hc rfl pur_leafE)
    rw [ofP_one hop' hoE] at this
    exact this
  have hV : ∀ (σ : AState) (qq : Nat), σ.cells qq = some [.int .i64 5, .bool false, .int .i64 0, .str [97, 99, 116, 105, 111, 110], .str [], .str [], .nils] → AC Try.prog 20 [.agg S.c, .agg [.str X.p, .str X.a, .str X.r], .agg [.int .i64 7, .bool false, .int .i64 0, .str nm, .str [], .str [], .sl qq 0 1 (some 1) 7]] σ fun v s' => s' = σ ∧ v = tyP (noTy, 15) := fun σ qq hc => by
    have := of_own (S := S) (p := X.p) (a := X.a) (r := X.r) hR (wf_one (op := 7) (n := 0) (b := false) (s := nm) (u := []) (v := []) (by decide) (wf_leaf (op := 5) (b := false) (n := 0) (s := [97, 99, 116, 105, 111, 110]) (u := []) (v := []) (by decide) (by decide))) (pur_oneE (cap := some 1) hc rfl pur_leafE)
    rw [ofP_one (by decide) hvE, show nodeP S 7 nm [⟨4, 0, actionT⟩] = fieldP S ⟨4, 0, actionT⟩ nm from rfl, fieldP_act hR rfl rfl] at this
    exact this
  have h7 : nodeP S 7 nm [⟨4, 0, K.name⟩] = match fieldX K.fields nm with | some u => (u, 0) | none => (noTy, 15) := by
    have : nodeP S 7 nm [⟨4, 0, K.name⟩] = fieldP S ⟨4, 0, K.name⟩ nm := rfl
    rw [this]
    unfold fieldP
    rw [if_neg (by simp), hKX.1]
    cases fieldX K.fields nm <;> rfl
  have h8 : nodeP S 8 nm [⟨4, 0, K.name⟩] = (⟨1, 0, []⟩, 0) := rfl
  have hO7 := fun σ qq => hO 7 σ qq (.inl rfl)
  have hO8 := fun σ qq => hO 8 σ qq (.inr rfl)
  rw [h8] at hO8
  generalize hTX : nodeP S 7 nm [⟨4, 0, K.name⟩] = T at *
  simp only [Sc.c_eq, slc_eq, tyP, tyE, Ty.c_eq, noTy] at hO7 hO8 hV
  clear hO
  refine s_mid (fun ρ s => ρ.rd 11 = .ptr b 0 ∧ s.cells b = some [.psl (rowc Kd.c S.kinds) 0 S.kinds.length, .psl (rowc Ac.c S.acts) 0 S.acts.length] ∧ b < s.n ∧ ρ.rd 14 = .ptr q 0 ∧ q < s.n ∧ s.cells q = some [.str K.name, .psl (K.parents.map .str) 0 K.parents.length, .psl (rowc Fl.c K.fields) 0 K.fields.length] ∧ ρ.rd 15 = .str nm ∧ ρ.rd 16 = .ptr w 0 ∧ w < s.n ∧ s.cells w = some [.str X.p, .str X.a, .str X.r] ∧ ρ.rd 17 = .ptr o 0 ∧ o < s.n ∧ s.cells o = some [.int .i64 4, .bool false, .int .i64 0, .str [], .str K.name, .str [122], .nils] ∧ ∃ t, ρ.rd 18 = .ptr t 0 ∧ t < s.n ∧ s.cells t = some [.int .i64 T.1.kind, .int .i64 T.1.of_, .str T.1.name] ∧ ρ.rd 19 = .int .i64 T.2) ?_ ?_
  · have nb : ¬ b = s.n := by omega
    have nq : ¬ q = s.n := by omega
    have nw : ¬ w = s.n := by omega
    have no : ¬ o = s.n := by omega
    have nb1 : ¬ b = s.n + 1 := by omega
    have nq1 : ¬ q = s.n + 1 := by omega
    have nw1 : ¬ w = s.n + 1 := by omega
    have no1 : ¬ o = s.n + 1 := by omega
    simp only [WS, seval, stepW, evalA, evalBin, Option.getD, allocA, rowOf, fillA, partsV, setl, AV.len, evalUn, strs_eq, h11, cb, hb, h14, hq, cq, h15, h16, hw, cw, h17, ho, co, sg, sgE, sg07, fillA]
    refine (hO7 _ _ (push_cells _ _)).use ?_
    simp only [WS, seval, stepW, evalA, evalBin, Option.getD, allocA, rowOf, fillA, partsV, setl, AV.len, evalUn, strs_eq, h11, cb, hb, h14, hq, cq, h15, h16, hw, cw, h17, ho, co, nb, nq, nw, no, nb1, nq1, nw1, no1, storeA, sets, setx, TS]
    exact ⟨by omega, by omega, by omega, by omega, s.n + 1, rfl, by omega, by simp⟩
  clear h11 cb hb h14 hq cq h15 h16 hw cw h17 ho co
  rintro ρ s ⟨h11, cb, hb, h14, hq, cq, h15, h16, hw, cw, h17, ho, co, t, h18, ht, ct, h19⟩
  refine s_mid (fun ρ s => ρ.rd 11 = .ptr b 0 ∧ s.cells b = some [.psl (rowc Kd.c S.kinds) 0 S.kinds.length, .psl (rowc Ac.c S.acts) 0 S.acts.length] ∧ b < s.n ∧ ρ.rd 14 = .ptr q 0 ∧ q < s.n ∧ s.cells q = some [.str K.name, .psl (K.parents.map .str) 0 K.parents.length, .psl (rowc Fl.c K.fields) 0 K.fields.length] ∧ ρ.rd 15 = .str nm ∧ ρ.rd 16 = .ptr w 0 ∧ w < s.n ∧ s.cells w = some [.str X.p, .str X.a, .str X.r] ∧ ρ.rd 17 = .ptr o 0 ∧ o < s.n ∧ s.cells o = some [.int .i64 4, .bool false, .int .i64 0, .str [], .str K.name, .str [122], .nils] ∧ ρ.rd 18 = .ptr t 0 ∧ t < s.n ∧ s.cells t = some [.int .i64 T.1.kind, .int .i64 T.1.of_, .str T.1.name] ∧ ρ.rd 19 = .int .i64 T.2 ∧ ∃ hh, ρ.rd 20 = .ptr hh 0 ∧ hh < s.n ∧ s.cells hh = some [.int .i64 1, .int .i64 0, .str []] ∧ ρ.rd 21 = .int .i64 0) ?_ ?_
  · have nb : ¬ b = s.n := by omega
    have nq : ¬ q = s.n := by omega
    have nw : ¬ w = s.n := by omega
    have no : ¬ o = s.n := by omega
    have nt : ¬ t = s.n := by omega
    have nb1 : ¬ b = s.n + 1 := by omega
    have nq1 : ¬ q = s.n + 1 := by omega
    have nw1 : ¬ w = s.n + 1 := by omega
    have no1 : ¬ o = s.n + 1 := by omega
    have nt1 : ¬ t = s.n + 1 := by omega
    simp only [WS, seval, stepW, evalA, evalBin, Option.getD, allocA, rowOf, fillA, partsV, setl, AV.len, evalUn, strs_eq, h11, cb, hb, h14, hq, cq, h15, h16, hw, cw, h17, ho, co, h18, ht, ct, h19, sg, sgE, sg07, fillA]
    refine (hO8 _ _ (push_cells _ _)).use ?_
    simp only [WS, seval, stepW, evalA, evalBin, Option.getD, allocA, rowOf, fillA, partsV, setl, AV.len, evalUn, strs_eq, h11, cb, hb, h14, hq, cq, h15, h16, hw, cw, h17, ho, co, h18, ht, ct, h19, nb, nq, nw, no, nt, nb1, nq1, nw1, no1, nt1, storeA, sets, setx, TS]
    exact ⟨by omega, by omega, by omega, by omega, by omega, s.n + 1, rfl, by omega, by simp⟩
  clear h11 cb hb h14 hq cq h15 h16 hw cw h17 ho co h18 ht ct h19
  rintro ρ s ⟨h11, cb, hb, h14, hq, cq, h15, h16, hw, cw, h17, ho, co, h18, ht, ct, h19, hh, h20, hhn, chh, h21⟩
  refine s_mid (fun ρ s => ρ.rd 14 = .ptr q 0 ∧ s.cells q = some [.str K.name, .psl (K.parents.map .str) 0 K.parents.length, .psl (rowc Fl.c K.fields) 0 K.fields.length] ∧ ρ.rd 15 = .str nm ∧ ρ.rd 18 = .ptr t 0 ∧ s.cells t = some [.int .i64 T.1.kind, .int .i64 T.1.of_, .str T.1.name] ∧ ρ.rd 19 = .int .i64 T.2 ∧ ρ.rd 20 = .ptr hh 0 ∧ s.cells hh = some [.int .i64 1, .int .i64 0, .str []] ∧ ρ.rd 21 = .int .i64 0 ∧ ρ.rd 23 = .int .i64 15) ?_ ?_
  · have nq : ¬ q = s.n := by omega
    have nt : ¬ t = s.n := by omega
    have nh : ¬ hh = s.n := by omega
    have nq1 : ¬ q = s.n + 1 := by omega
    have nt1 : ¬ t = s.n + 1 := by omega
    have nh1 : ¬ hh = s.n + 1 := by omega
    simp only [WS, seval, stepW, evalA, evalBin, Option.getD, allocA, rowOf, fillA, partsV, setl, AV.len, evalUn, strs_eq, h11, cb, hb, h14, hq, cq, h15, h16, hw, cw, h17, ho, co, h18, ht, ct, h19, sg, sgE, sg07, fillA]
    refine (hV _ _ (push_cells _ _)).use ?_
    simp only [WS, seval, stepW, evalA, evalBin, Option.getD, allocA, rowOf, fillA, partsV, setl, AV.len, evalUn, strs_eq, h11, cb, hb, h14, hq, cq, h15, h16, hw, cw, h17, ho, co, h18, ht, ct, h19, h20, h21, chh, nq, nt, nh, nq1, nt1, nh1, storeA, sets, setx, TS]
  clear h11 cb hb h14 hq cq h15 h16 hw cw h17 ho co h18 ht ct h19 h20 hhn chh h21
  rintro ρ s ⟨h14, cq, h15, h18, ct, h19, h20, chh, h21, h23⟩
  refine s_mid (fun ρ s => ρ.rd 14 = .ptr q 0 ∧ s.cells q = some [.str K.name, .psl (K.parents.map .str) 0 K.parents.length, .psl (rowc Fl.c K.fields) 0 K.fields.length] ∧ ρ.rd 15 = .str nm ∧ ρ.rd 18 = .ptr t 0 ∧ s.cells t = some [.int .i64 T.1.kind, .int .i64 T.1.of_, .str T.1.name] ∧ ρ.rd 19 = .int .i64 T.2) ?_ ?_
  · simp only [WS, seval, stepW, evalA, evalBin, Option.getD, allocA, rowOf, fillA, partsV, setl, AV.len, evalUn, strs_eq, h14, cq, h15, h18, ct, h19, h20, chh, h21, h23]
  clear h14 cq h15 h18 ct h19 h20 chh h21 h23
  rintro ρ s ⟨h14, cq, h15, h18, ct, h19⟩
  have hfl := hKG.fl
  refine s_mid (fun ρ s => ρ.rd 19 = .int .i64 15) ?_ ?_
  · simp only [WS, seval, stepW, evalA, evalBin, Option.getD, allocA, rowOf, fillA, partsV, setl, AV.len, evalUn, strs_eq, h14, cq, h15, h18, ct, h19]
    refine w_for (fun j ρ s => ρ.rd 24 = .int .i64 j ∧ ρ.rd 14 = .ptr q 0 ∧ s.cells q = some [.str K.name, .psl (K.parents.map .str) 0 K.parents.length, .psl (rowc Fl.c K.fields) 0 K.fields.length] ∧ ρ.rd 15 = .str nm ∧ ρ.rd 18 = .ptr t 0 ∧ s.cells t = some [.int .i64 T.1.kind, .int .i64 T.1.of_, .str T.1.name] ∧ ρ.rd 19 = .int .i64 T.2 ∧ (K.fields.take j).find? (fun k => decide (k.name = nm)) = none) K.fields.length ?_ ?_
    · simp only [WS, seval, stepW, evalA, evalBin, Option.getD, allocA, rowOf, fillA, partsV, setl, AV.len, evalUn, strs_eq, h14, cq, h15, h18, ct, h19, List.take_zero, List.find?_nil]
      first | done | rfl
    clear h14 cq h15 h18 ct h19
    rintro j ρ s hj ⟨h24, h14, cq, h15, h18, ct, h19, hno⟩
    by_cases hlt : j < K.fields.length
    rotate_left
    · have : j = K.fields.length := by omega
      subst this
      have hge : ¬ ((K.fields.length : Nat) : Int) < ((K.fields.length : Nat) : Int) := by omega
      rw [List.take_length] at hno
      have hT : T = (noTy, 15) := by
        rw [h7]
        unfold fieldX
        rw [hno]; rfl
      rw [hT] at h19
      simp only [WS, seval, stepW, evalA, evalBin, Option.getD, allocA, rowOf, fillA, partsV, setl, AV.len, evalUn, strs_eq, h24, h14, cq, h15, h18, h19, hge]
    have hrj := lt_idx hlt
    have hlt' := hrj.2
    have hwj : IntKind.i64.wrap ((j : Int) + 1) = ((j + 1 : Nat) : Int) := wrap_succ (by omega)
    have A := flAt hlt
    by_cases hn : K.fields[j].name = nm
    · have hT : T = (K.fields[j].ty, 0) := by rw [h7, fieldX_step hlt hno hn]
      have hE := eqTys K.fields[j].ty K.fields[j].ty
      have hd : decide (K.fields[j].ty = K.fields[j].ty) = true := by simp
      rw [hd] at hE
      rw [hT] at ct h19
      simp only [WS, seval, stepW, evalA, evalBin, Option.getD, allocA, rowOf, fillA, partsV, setl, AV.len, evalUn, strs_eq, h24, h14, cq, h15, h18, h19, ct, hlt', hrj, A.g0, hn]
      refine w_dreg0 follow ?_ rfl
      simp only [WS, seval, stepW, evalA, evalBin, Option.getD, allocA, rowOf, fillA, partsV, setl, AV.len, evalUn, strs_eq, h24, h14, cq, h15, h18, h19, ct, sl_cells, hrj, sgE, A.fit1, A.ty, evalEq, hE]
    · have hnx := findF_next hlt hno hn
      simp only [WS, seval, stepW, evalA, evalBin, Option.getD, allocA, rowOf, fillA, partsV, setl, AV.len, evalUn, strs_eq, h24, h14, cq, h15, h18, ct, h19, hlt', hrj, A.g0, hn, hwj]
      exact ⟨hlt, hnx⟩
  clear h14 cq h15 h18 ct h19
  rintro ρ s h19
  refine s_wp ?_
  simp only [WS, seval, stepW, evalA, evalBin, Option.getD, allocA, rowOf, fillA, partsV, setl, AV.len, evalUn, strs_eq, h19]
end Go.Proofs.Ytcdbpmmomgehfaa.Va
