/- Trees such as may be, out of raw ones. Conditions: none. -/
import Derived.Test.YtcdbpmmomgehfaaTE
import Derived.Test.YtcdbpmmomgehfaaTy23
import Derived.Test.YtcdbpmmomgehfaaVaM
set_option maxRecDepth 100000
set_option maxHeartbeats 4000000
set_option linter.all false
namespace Go.Proofs.Ytcdbpmmomgehfaa.Va
open Go.Proofs
def cntX (op : Int) (n : Nat) : Nat := if op = 6 then min n 8 else if op = 7 ∨ op = 8 ∨ op = 10 ∨ op = 11 ∨ op = 12 then 1 else if op = 25 then 3 else 2
def strX (op n : Int) (s : List Int) : Str := if op = 7 ∨ op = 8 then nameN (wi n 7) else if op = 10 then idS s else []
def kidX (kids : List Rw) (i : Nat) : Rw := kids.getD (i % kids.length) (.mk 0 0 [] [])
def treeX : Nat → Rw → Ex
  | 0, r => leafX r
  | d + 1, .mk op n s kids => if d = 0 ∨ kids = [] then leafX (.mk op n s kids) else
      .mk (6 + wi op 20) false 0 (strX (6 + wi op 20) n s) [] [] ((List.range (cntX (6 + wi op 20) kids.length)).map fun i => treeX d (kidX kids i))
theorem cntX_le (op : Int) (n : Nat) : cntX op n ≤ 8 := by unfold cntX; repeat' (first | omega | split)
theorem arity_cnt {op : Int} {n : Nat} (h : 6 ≤ op) (h' : op ≤ 25) : arity op (cntX op n) := by
  unfold arity cntX
  by_cases h6 : op = 6
  · exact .inr (.inl h6)
  by_cases h7 : op = 7 ∨ op = 8 ∨ op = 10 ∨ op = 11 ∨ op = 12
  · rw [if_neg h6, if_pos h7]; exact .inr (.inr (.inl ⟨h7, rfl⟩))
  by_cases h25 : op = 25
  · rw [if_neg h6, if_neg h7, if_pos h25]; exact .inr (.inr (.inr (.inr ⟨h25, rfl⟩)))
  · rw [if_neg h6, if_neg h7, if_neg h25]; exact .inr (.inr (.inr (.inl ⟨by omega, rfl⟩)))
theorem treeX_wf : ∀ (d : Nat) (r : Rw), (treeX d r).wf := by
  intro d
  induction d with
  | zero => intro r; exact leafX_wf r
  | succ d ih =>
    intro r
    obtain ⟨op, n, s, kids⟩ := r
    rw [treeX]
    split
    · exact leafX_wf _
    · have hw := wi_range op (n := 20) (by decide)
      rw [Ex.wf_eq]
      refine ⟨?_, ?_, Ex.wfs_all.2 fun e he => ?_⟩
      · rw [List.length_map, List.length_range]; exact arity_cnt (by omega) (by omega)
      · rw [List.length_map, List.length_range]; have := cntX_le (6 + wi op 20) kids.length; omega
      · obtain ⟨i, _, rfl⟩ := List.mem_map.1 he
        exact ih _
theorem tmod_nat (a b : Nat) : ((a : Nat) : Int).tmod ((b : Nat) : Int) = ((a % b : Nat) : Int) := by
  rw [Int.tmod_eq_emod_of_nonneg (by omega)]; rfl
theorem kidX_ok {kids : List Rw} (h : Rw.oks kids) (h0 : 0 < kids.length) (i : Nat) : (kidX kids i).ok := by
  have hlt : i % kids.length < kids.length := Nat.mod_lt _ h0
  unfold kidX
  rw [List.getD_eq_getElem?_getD, List.getElem?_eq_getElem hlt]
  exact Rw.oks_all.1 h _ (List.getElem_mem hlt)
theorem tree_step {d : Nat} {op n : Int} {s : List Int} {kids : List Rw} (hd : d < 1000) (hs : s.length ≤ Most) (hk : kids.length ≤ Most) (hko : Rw.oks kids)
    (ih : ∀ e : Rw, e.ok → ∀ σ, AC Try.prog 14 [.agg e.c, .int .i64 d] σ fun v s' => s' = σ ∧ v = .agg (treeX d e).c) :
    AC Try.prog 14 [.agg (Rw.mk op n s kids).c, .int .i64 ((d + 1 : Nat) : Int)] st0 fun v s' => ∃ a, Pur s' true v a ∧ a = .agg (treeX (d + 1) (.mk op n s kids)).c := by
  have hmost : Most = 9223372036854775807 := rfl
  by_cases hleaf : d = 0 ∨ kids = []
  · have hv : treeX (d + 1) (.mk op n s kids) = leafX (.mk op n s kids) := by rw [treeX, if_pos hleaf]
    rw [hv]
    have hL : ∀ σ, AC Try.prog 32 [.agg (Rw.mk op n s kids).c] σ fun v s' => s' = σ ∧ v = .agg (leafX (.mk op n s kids)).c := fun σ => leaf5_ac (by rw [Rw.ok_eq]; exact ⟨hs, hk, hko⟩)
    have sg4 : ∀ a b c d : AV, seg [a, b, c, d] 0 4 = [a, b, c, d] := fun _ _ _ _ => rfl
    generalize leafX (.mk op n s kids) = E at *
    obtain ⟨eop, eb, en, es, eut, eui, ek⟩ := E
    simp only [Rw.c_eq, Ex.c_eq, ints_eq, slc_eq] at hL ⊢
    have fin : ∀ s' : AState, Pur s' true (.agg [.int .i64 eop, .bool eb, .int .i64 en, .str es, .str eut, .str eui, .psl (rowc Ex.c ek) 0 ek.length]) (.agg [.int .i64 eop, .bool eb, .int .i64 en, .str es, .str eut, .str eui, .psl (rowc Ex.c ek) 0 ek.length]) := fun s' =>
      .agg _ _ rfl fun i hi hi' => pur_ex s' (.mk eop eb en es eut eui ek) _ (by rw [Ex.c_eq, slc_eq]; exact List.getElem_mem hi)
    rcases hleaf with h | h
    · subst h
      have h1 : ((0 + 1 : Nat) : Int) ≤ 1 := by decide
      refine ac_wp fn14 cf14 cl14 rfl ?_
      simp only [ac14]
      unfold ab14
      simp only [WU, seval, strs_eq, h1, sg4]
      refine (hL _).use ?_
      simp only [WU, seval, strs_eq, sg07, storeA, sets, setx, TS]
      exact ⟨_, fin _, rfl⟩
    · subst h
      have z00 : (([] : List Rw).length : Int) = 0 := rfl
      have z0 : (0 : Int) = 0 := rfl
      by_cases h1 : ((d + 1 : Nat) : Int) ≤ 1
      · refine ac_wp fn14 cf14 cl14 rfl ?_
        simp only [ac14]
        unfold ab14
        simp only [WU, seval, strs_eq, h1, sg4]
        refine (hL _).use ?_
        simp only [WU, seval, strs_eq, sg07, storeA, sets, setx, TS]
        exact ⟨_, fin _, rfl⟩
      · refine ac_wp fn14 cf14 cl14 rfl ?_
        simp only [ac14]
        unfold ab14
        simp only [WU, seval, strs_eq, h1, sg4, z0]
        refine (hL _).use ?_
        simp only [WU, seval, strs_eq, sg07, storeA, sets, setx, TS]
        exact ⟨_, fin _, rfl⟩
  have h0 : 0 < kids.length := by
    cases kids with
    | nil => exact absurd (.inr rfl) hleaf
    | cons a l => simp
  have hd0 : ¬ ((d + 1 : Nat) : Int) ≤ 1 := by omega
  have hk0 : ¬ ((kids.length : Nat) : Int) = 0 := by omega
  have hwr := wi_range op (n := 20) (by decide)
  have hv : treeX (d + 1) (.mk op n s kids) = .mk (6 + wi op 20) false 0 (strX (6 + wi op 20) n s) [] [] ((List.range (cntX (6 + wi op 20) kids.length)).map fun i => treeX d (kidX kids i)) := by rw [treeX, if_neg hleaf]
  rw [hv]
  obtain ⟨OP, hOP⟩ : ∃ OP, OP = 6 + wi op 20 := ⟨_, rfl⟩
  have hop : IntKind.i64.wrap (6 + wi op 20) = OP := by rw [hOP]; exact wrap64 (by omega) (by omega)
  have ho6 : 6 ≤ OP := by omega
  have ho25 : OP ≤ 25 := by omega
  rw [← hOP]
  rw [Rw.c_eq]
  refine ac_wp fn14 cf14 cl14 rfl ?_
  simp only [ac14]
  unfold ab14
  simp only [wpC_seq, wpC_skip, wpCK_normal]
  refine w_mid (fun ρ s' => ρ.rd 1 = .int .i64 ((d + 1 : Nat) : Int) ∧ ρ.rd 2 = .ptr 0 0 ∧ ρ.rd 4 = .ptr 1 0 ∧ s'.cells 0 = some [.int .i64 op, .int .i64 n, ints s, slc Rw.c kids] ∧ s'.cells 1 = some [.int .i64 0, .bool false, .int .i64 0, .str [], .str [], .str [], .nils] ∧ s'.n = 2) ?_ ?_
  · simp only [WU, seval, strs_eq, ints_eq]
  rintro ρ s' ⟨h1, h2, h4, c0, c1, hn⟩
  rw [wpC_seq]
  refine w_mid (fun ρ s' => ρ.rd 1 = .int .i64 ((d + 1 : Nat) : Int) ∧ ρ.rd 2 = .ptr 0 0 ∧ ρ.rd 4 = .ptr 1 0 ∧ s'.cells 0 = some [.int .i64 op, .int .i64 n, ints s, slc Rw.c kids] ∧ s'.cells 1 = some [.int .i64 0, .bool false, .int .i64 0, .str [], .str [], .str [], .nils] ∧ s'.n = 2) ?_ ?_
  · simp only [WU, seval, strs_eq, h1, h2, h4, c0, c1, hd0, hk0, ints_eq]
    exact hn
  clear h1 h2 h4 c0 c1 hn
  rintro ρ s' ⟨h1, h2, h4, c0, c1, hn⟩
  rw [wpC_seq]
  refine w_mid (fun ρ s' => ρ.rd 1 = .int .i64 ((d + 1 : Nat) : Int) ∧ ρ.rd 2 = .ptr 0 0 ∧ ρ.rd 4 = .ptr 1 0 ∧ s'.cells 0 = some [.int .i64 op, .int .i64 n, ints s, slc Rw.c kids] ∧ s'.cells 1 = some [.int .i64 0, .bool false, .int .i64 0, .str [], .str [], .str [], .nils] ∧ s'.n = 3 ∧ ρ.rd 5 = .ptr 2 0 ∧ s'.cells 2 = some [.int .i64 OP, .bool false, .int .i64 0, .str [], .str [], .str [], .nils]) ?_ ?_
  · simp only [WU, seval, strs_eq, h1, h2, h4, c0, c1]
    refine (within5_ac (by decide) (by decide)).use ?_
    simp only [WU, seval, strs_eq, h1, h2, h4, c0, c1, hop, hn, sg07, storeA, sets, setx, TS]
  clear h1 h2 h4 c0 c1 hn
  rintro ρ s' ⟨h1, h2, h4, c0, c1, hn, h5, c2⟩
  rw [wpC_seq]
  refine w_mid (fun ρ s' => ρ.rd 1 = .int .i64 ((d + 1 : Nat) : Int) ∧ ρ.rd 2 = .ptr 0 0 ∧ ρ.rd 4 = .ptr 1 0 ∧ s'.cells 0 = some [.int .i64 op, .int .i64 n, ints s, slc Rw.c kids] ∧ s'.cells 1 = some [.int .i64 0, .bool false, .int .i64 0, .str [], .str [], .str [], .nils] ∧ s'.n = 3 ∧ ρ.rd 5 = .ptr 2 0 ∧ s'.cells 2 = some [.int .i64 OP, .bool false, .int .i64 0, .str [], .str [], .str [], .nils] ∧ ρ.rd 6 = .int .i64 2) ?_ ?_
  · simp only [WU, seval, strs_eq, h1, h2, h4, c0, c1, hn, h5, c2]
  clear h1 h2 h4 c0 c1 hn h5 c2
  rintro ρ s' ⟨h1, h2, h4, c0, c1, hn, h5, c2, h6⟩
  rw [wpC_seq]
  have hN : AC Try.prog 34 [.int .i64 n] s' fun v s'' => s'' = s' ∧ v = .str (nameN (wi n 7)) := name5_ac
  have hI : AC Try.prog 35 [ints s] s' fun v s'' => s'' = s' ∧ v = .str (idS s) := id5_ac hs
  rw [ints_eq] at hI
  refine w_mid (fun ρ s' => ρ.rd 1 = .int .i64 ((d + 1 : Nat) : Int) ∧ ρ.rd 2 = .ptr 0 0 ∧ ρ.rd 4 = .ptr 1 0 ∧ s'.cells 0 = some [.int .i64 op, .int .i64 n, ints s, slc Rw.c kids] ∧ s'.cells 1 = some [.int .i64 0, .bool false, .int .i64 0, .str [], .str [], .str [], .nils] ∧ s'.n = 3 ∧ ρ.rd 5 = .ptr 2 0 ∧ s'.cells 2 = some [.int .i64 OP, .bool false, .int .i64 0, .str (strX OP n s), .str [], .str [], .nils] ∧ ρ.rd 6 = .int .i64 (cntX OP kids.length)) ?_ ?_
  · have hc : OP = 6 ∨ OP = 7 ∨ OP = 8 ∨ OP = 10 ∨ OP = 11 ∨ OP = 12 ∨ OP = 25 ∨ (OP ≠ 6 ∧ OP ≠ 7 ∧ OP ≠ 8 ∧ OP ≠ 10 ∧ OP ≠ 11 ∧ OP ≠ 12 ∧ OP ≠ 25) := by omega
    clear hOP hop hv ih ho6 ho25
    simp only [ints_eq] at c0
    rcases hc with e | e | e | e | e | e | e | ⟨e1, e2, e3, e4, e5, e6, e7⟩
    · subst e
      have hmin : cntX 6 kids.length = min kids.length 8 := rfl
      have hs' : strX 6 n s = [] := rfl
      rw [hmin, hs']
      simp only [WU, seval, strs_eq, h1, h2, h4, c0, c1, hn, h5, c2, h6, minMaxA]
      have hm8 : (if (8 : Int) < ((kids.length : Nat) : Int) then 8 else ((kids.length : Nat) : Int)) = ((min kids.length 8 : Nat) : Int) := by split <;> omega
      exact ⟨rfl, by rw [hm8]⟩
    · subst e
      simp only [WU, seval, strs_eq, h1, h2, h4, c0, c1, hn, h5, c2, h6]
      refine hN.use ?_
      simp only [WU, seval, strs_eq, h1, h2, h4, c0, c1, hn, h5, c2, h6, storeA, sets, setx, TS]
      exact ⟨rfl, rfl, rfl⟩
    · subst e
      simp only [WU, seval, strs_eq, h1, h2, h4, c0, c1, hn, h5, c2, h6]
      refine hN.use ?_
      simp only [WU, seval, strs_eq, h1, h2, h4, c0, c1, hn, h5, c2, h6, storeA, sets, setx, TS]
      exact ⟨rfl, rfl, rfl⟩
    · subst e
      simp only [WU, seval, strs_eq, h1, h2, h4, c0, c1, hn, h5, c2, h6]
      refine hI.use ?_
      simp only [WU, seval, strs_eq, h1, h2, h4, c0, c1, hn, h5, c2, h6, storeA, sets, setx, TS]
      exact ⟨rfl, rfl, rfl⟩
    · subst e
      simp only [WU, seval, strs_eq, h1, h2, h4, c0, c1, hn, h5, c2, h6]
      exact ⟨rfl, rfl, rfl⟩
    · subst e
      simp only [WU, seval, strs_eq, h1, h2, h4, c0, c1, hn, h5, c2, h6]
      exact ⟨rfl, rfl, rfl⟩
    · subst e
      simp only [WU, seval, strs_eq, h1, h2, h4, c0, c1, hn, h5, c2, h6]
      exact ⟨rfl, rfl, rfl⟩
    · simp only [WU, seval, strs_eq, h1, h2, h4, c0, c1, hn, h5, c2, h6, e1, e2, e3, e4, e5, e6, e7]
      have hx : strX OP n s = [] ∧ cntX OP kids.length = 2 := by
        unfold strX cntX
        simp [e1, e2, e3, e4, e5, e6, e7]
      rw [hx.1, hx.2]
      exact ⟨rfl, rfl, rfl⟩
  clear hN hI h1 h2 h4 c0 c1 hn h5 c2 h6
  rintro ρ s' ⟨h1, h2, h4, c0, c1, hn, h5, c2, h6⟩
  rw [wpC_seq]
  have hcl := cntX_le OP kids.length
  generalize strX OP n s = SS at *
  generalize hCN : cntX OP kids.length = CN at *
  generalize hL : (List.range CN).map (fun i => treeX d (kidX kids i)) = L
  have hLl : L.length = CN := by rw [← hL]; simp
  have hLi : ∀ i (h : i < L.length), L[i] = treeX d (kidX kids i) := by
    intro i h
    subst hL
    simp
  refine w_mid (fun ρ s' => ρ.rd 4 = .ptr 1 0 ∧ ρ.rd 5 = .ptr 2 0 ∧ s'.cells 1 = some [.int .i64 0, .bool false, .int .i64 0, .str [], .str [], .str [], .nils] ∧ 3 ≤ s'.n ∧ ∃ x, s'.cells 2 = some [.int .i64 OP, .bool false, .int .i64 0, .str SS, .str [], .str [], x] ∧ RowP (fun b => 3 ≤ b) s' x (rowc Ex.c L) L.length 7) ?_ ?_
  · simp only [WU, seval, strs_eq, h1, h2, h4, c0, c1, hn, h5, c2, h6]
    refine w_for (fun i ρ s' => ρ.rd 7 = .int .i64 i ∧ ρ.rd 6 = .int .i64 CN ∧ ρ.rd 1 = .int .i64 ((d + 1 : Nat) : Int) ∧ ρ.rd 2 = .ptr 0 0 ∧ ρ.rd 4 = .ptr 1 0 ∧ s'.cells 0 = some [.int .i64 op, .int .i64 n, ints s, slc Rw.c kids] ∧ s'.cells 1 = some [.int .i64 0, .bool false, .int .i64 0, .str [], .str [], .str [], .nils] ∧ ρ.rd 5 = .ptr 2 0 ∧ 3 ≤ s'.n ∧ ∃ x, s'.cells 2 = some [.int .i64 OP, .bool false, .int .i64 0, .str SS, .str [], .str [], x] ∧ RowP (fun b => 3 ≤ b) s' x (rowc Ex.c (L.take i)) i 7) CN ?_ ?_
    · simp only [WU, seval, strs_eq, h1, h2, h4, c0, c1, hn, h5, c2, h6]
      first | done | exact ⟨rfl, .nils, rfl, RowP.nil _ _ _⟩ | exact ⟨.nils, rfl, RowP.nil _ _ _⟩
    clear h1 h2 h4 c0 c1 hn h5 c2 h6
    rintro i ρ s' hi ⟨h7, h6, h1, h2, h4, c0, c1, h5, hn, x, c2, hrow⟩
    by_cases hlt : i < CN
    rotate_left
    · have : i = CN := by omega
      subst this
      have hge : ¬ ((i : Nat) : Int) < ((i : Nat) : Int) := by omega
      rw [← hLl, List.take_length] at hrow
      simp only [WU, seval, strs_eq, h7, h6, h1, h2, h4, c0, c1, h5, hge, c2]
      exact ⟨hn, x, rfl, hrow⟩
    have hlt' : ((i : Nat) : Int) < ((CN : Nat) : Int) := by omega
    have hw : IntKind.i64.wrap ((i : Int) + 1) = ((i + 1 : Nat) : Int) := wrap_succ (by omega)
    have hwd : IntKind.i64.wrap (((d + 1 : Nat) : Int) - 1) = ((d : Nat) : Int) := by rw [show (((d + 1 : Nat) : Int) - 1) = ((d : Nat) : Int) by omega]; exact wrap64 (by omega) (by omega)
    have hrem := ei_rem .i64 i kids.length (by omega)
    rw [tmod_nat] at hrem
    have hm : i % kids.length < kids.length := Nat.mod_lt _ h0
    have hr := lt_idx hm
    have hfit := rowc_fit Rw.c_len hm
    have hall := rowc_seg Rw.c_len hm
    have hkid : kidX kids i = kids[i % kids.length] := by unfold kidX; rw [List.getD_eq_getElem?_getD, List.getElem?_eq_getElem hm]; rfl
    have hkok := kidX_ok hko h0 i
    have hIH := ih _ hkok
    have hLi' := hLi i (by omega)
    generalize treeX d (kidX kids i) = E at *
    rw [hkid] at hIH
    generalize kids[i % kids.length] = KK at *
    obtain ⟨kop, kn, ks, kk⟩ := KK
    obtain ⟨eop, eb, en, es, eut, eui, ek⟩ := E
    simp only [Rw.c_eq, Ex.c_eq, ints_eq, slc_eq] at hIH hall
    simp only [ints_eq, slc_eq] at c0
    have hxo : x.one = true := by rcases hrow.form with rfl | ⟨_, _, rfl⟩ <;> rfl
    simp only [WU, seval, strs_eq, h7, h6, hlt']
    refine w_dreg follow [] rfl ?_
    have k0 : (addSlots s'.n 18 s' []).cells 0 = _ := c0
    have k1 : (addSlots s'.n 18 s' []).cells 1 = _ := c1
    have k2 : (addSlots s'.n 18 s' []).cells 2 = _ := c2
    have hrowA := hrow.slots 18
    have hnA : (addSlots s'.n 18 s' []).n = s'.n + 18 := rfl
    generalize addSlots s'.n 18 s' [] = s1 at *
    obtain ⟨b9, cap9, s9, happ, hrow9, hn9, hk9⟩ := app_lit (bytes := 96) hrowA (fun b hb => by omega) (new := (Ex.mk eop eb en es eut eui ek).c) (k := 1) (by rw [Ex.c_eq]; rfl) rfl (by omega) (by omega)
    simp only [Ex.c_eq, slc_eq] at happ
    have hp0 : ∀ k, k < 3 → (s1.push (.cells [.int .i64 eop, .bool eb, .int .i64 en, .str es, .str eut, .str eui, .psl (rowc Ex.c ek) 0 ek.length])).cells k = s1.cells k := fun k hk => by rw [push_get, if_neg (by omega)]
    have p0 := (hp0 0 (by omega)).trans k0
    have p2 := (hp0 2 (by omega)).trans k2
    have q0 := (get_cells (hk9 0 (by omega) (by omega))).trans k0
    have q1 := (get_cells (hk9 1 (by omega) (by omega))).trans k1
    have q2 := (get_cells (hk9 2 (by omega) (by omega))).trans k2
    have sg4 : ∀ a b c d : AV, seg [a, b, c, d] 0 4 = [a, b, c, d] := fun _ _ _ _ => rfl
    simp only [WU, seval, strs_eq, DU, h7, h5, h2, h1, k0, k2, hrem, hr, hfit, hall, hwd]
    refine (hIH _).useD ?_
    simp only [WU, seval, strs_eq, DU, h7, h5, h2, h1, fillA, happ]
    simp only [WU, seval, strs_eq, DU, h5, q2, storeA, sets, setx, TS]
    refine ⟨⟨?_, ?_⟩, ?_⟩
    · intro l hl c hc hf
      simp only [List.mem_cons, List.mem_nil_iff, List.not_mem_nil, or_false] at hl hc
      rcases hl with rfl | rfl | rfl | rfl <;> rcases hc with rfl | rfl | rfl | rfl | rfl <;> dsimp only at hf ⊢ <;> first
        | (exact absurd hf (by decide +kernel))
        | (simp only [WU, seval, strs_eq, h5, h2, k0, k2, p0, p2, q0, q2, hr, hfit, hall]; done)
    · intro sl hsl; simp at hsl
    simp only [WU, seval, strs_eq, h7, h6, h1, h2, h4, h5, q0, q1, hw]
    have hn9' : 3 ≤ s9.n := by omega
    refine ⟨hlt, rfl, hn9', _, rfl, ?_⟩
    have htk : L.take (i + 1) = L.take i ++ [.mk eop eb en es eut eui ek] := by rw [List.take_add_one, List.getElem?_eq_getElem (by omega), hLi']; rfl
    rw [htk, rowc_append, rowc_one]
    exact RowP.put hrow9 (by omega) _
  clear h1 h2 h4 c0 c1 hn h5 c2 h6
  rintro ρ s' ⟨h4, h5, c1, hn, x, c2, hrow⟩
  have hxo : x.one = true := by rcases hrow.form with rfl | ⟨_, _, rfl⟩ <;> rfl
  simp only [WU, seval, strs_eq, h4, h5, c1, c2, sg07, hxo, storeA, sets, setx, TS]
  refine ⟨_, .agg _ (Ex.c (.mk OP false 0 SS [] [] L)) (by rw [Ex.c_eq]; rfl) (fun i hi hi' => ?_), rfl⟩
  have hx : Pur (s'.put 1 [.int .i64 OP, .bool false, .int .i64 0, .str SS, .str [], .str [], x]) true x (slc Ex.c L) := by
    refine (hrow.put (by omega) _).self fun a ha => ?_
    rw [← Ex.cs_eq] at ha
    exact pur_exs _ L a ha
  simp only [Ex.c_eq]
  match i, hi with
  | 0, _ => exact .flat _ rfl
  | 1, _ => exact .flat _ rfl
  | 2, _ => exact .flat _ rfl
  | 3, _ => exact .flat _ rfl
  | 4, _ => exact .flat _ rfl
  | 5, _ => exact .flat _ rfl
  | 6, _ => exact hx
end Go.Proofs.Ytcdbpmmomgehfaa.Va
set_option maxRecDepth 100000
set_option maxHeartbeats 4000000
set_option linter.all false
namespace Go.Proofs.Ytcdbpmmomgehfaa.Va
open Go.Proofs
theorem tree_ac : ∀ (d : Nat), d < 1000 → ∀ e : Rw, e.ok → ∀ σ, AC Try.prog 14 [.agg e.c, .int .i64 d] σ fun v s' => s' = σ ∧ v = .agg (treeX d e).c := by
  intro d
  induction d with
  | zero =>
    intro _ e he σ
    refine AC.share (.cons (.agg (Rw.fxd e)) (.cons (.flat rfl) .nil)) ?_
    have hv : treeX 0 e = leafX e := by rw [treeX]
    rw [hv]
    have hL : ∀ σ, AC Try.prog 32 [.agg e.c] σ fun v s' => s' = σ ∧ v = .agg (leafX e).c := fun σ => leaf5_ac he
    have sg4 : ∀ a b c d : AV, seg [a, b, c, d] 0 4 = [a, b, c, d] := fun _ _ _ _ => rfl
    have h1 : (0 : Int) ≤ 1 := by decide
    generalize leafX e = E at *
    obtain ⟨op, n, s, kids⟩ := e
    obtain ⟨eop, eb, en, es, eut, eui, ek⟩ := E
    simp only [Rw.c_eq, Ex.c_eq, ints_eq, slc_eq] at hL ⊢
    refine ac_wp fn14 cf14 cl14 rfl ?_
    simp only [ac14]
    unfold ab14
    simp only [WU, seval, strs_eq, h1, sg4]
    refine (hL _).use ?_
    simp only [WU, seval, strs_eq, sg07, storeA, sets, setx, TS]
    exact ⟨_, .agg _ _ rfl fun i hi hi' => pur_ex _ (.mk eop eb en es eut eui ek) _ (by rw [Ex.c_eq, slc_eq]; exact List.getElem_mem hi), rfl⟩
  | succ d ih =>
    intro hd e he σ
    refine AC.share (.cons (.agg (Rw.fxd e)) (.cons (.flat rfl) .nil)) ?_
    obtain ⟨op, n, s, kids⟩ := e
    have he' := he
    rw [Rw.ok_eq] at he'
    exact tree_step (by omega) he'.1 he'.2.1 he'.2.2 (ih (by omega))
end Go.Proofs.Ytcdbpmmomgehfaa.Va
