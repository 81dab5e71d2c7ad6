/- Each operation does in the world what it does to abstract values, fifth part: conversions, indexes, cuts, texts. Conditions: none. -/
import Derived.Test.YthojhpjjkfjeiaaVa7
set_option linter.unusedSimpArgs false
set_option linter.unusedVariables false
namespace Go.Proofs.Ythojhpjjkfjeiaa.Va
variable {P : Program}

theorem wrap_small {n : Int} (h0 : 0 ≤ n) (h1 : n < 4611686018427387904) : IntKind.i64.wrap n = n := by
  have h : IntKind.i64.wrap n = if n % 18446744073709551616 ≥ 9223372036854775808 then n % 18446744073709551616 - 18446744073709551616 else n % 18446744073709551616 := by
    simp [IntKind.wrap, IntKind.bits, IntKind.signed]
  rw [h]
  split <;> omega

theorem run_zeros {K : Know} {w : World} {e : TypeId} {z : List AV} {sz c : Nat} (hz : zeroT P e = some z) (hzl : z.length = sz) (hsz : sz ≠ 0) :
    ∃ arr : Array Value, (do let zero ← (if c * sz = 0 then pure #[] else do pure (← zeroValue e).cells : Sem (Array Value)); pure ((Array.range (c * sz)).map (zero[· % zero.size]!)) : Sem (Array Value)).run P w = .ok arr w ∧
      VRL K (rowOf z c) arr.toList := by
  obtain ⟨zv, hrun, hvr⟩ := run_zeroT (K := K) hz w
  have hrow := rowOf_ok hvr (by omega) c
  rw [hzl] at hrow
  by_cases h0 : c * sz = 0
  · refine ⟨#[], by simp [h0, Result.andThen], ?_⟩
    rw [h0] at hrow
    simpa using hrow
  · exact ⟨_, by simp only [h0, if_false, Sem.run_bind, hrun, Result.andThen, Sem.run_pure], hrow⟩

section
variable {dst : Option Tmp} {ty : TypeId} {pos : String} {aft : Array Edge} {gd : Option (Nat × Bool)} {ρ : Env} {σ σ' : AState} {v : AV}

theorem does_unOp {op : UnOp} {t : TypeId} {x : Operand} (h : evalA (comp P ⟨dst, .unOp op t x, ty, pos, aft, gd⟩) ρ σ = some (v, σ')) : Does P ⟨dst, .unOp op t x, ty, pos, aft, gd⟩ ρ σ v σ' := by
  simp only [comp, evalA, Option.map_eq_some_iff, Prod.mk.injEq] at h
  obtain ⟨u, hb, rfl, rfl⟩ := h
  refine .still fun K N w ac hr he => ?_
  have hx := he.ev x
  unfold evalUn at hb
  split at hb
  · rename_i b e
    rw [e] at hx
    injection hb with hb; subst hb
    exact ⟨.bool !b, by simp [execOp, hx.inv_bool, Op.unary], .bool _⟩
  · rename_i k n e
    rw [e] at hx
    injection hb with hb; subst hb
    exact ⟨.int k (k.wrap (0 - n)), by simp only [execOp, hx.inv_int, Op.unary, Op.intArith, Sem.run_bind, Sem.run_pure, Result.andThen_ok], .int _ _⟩
  · rename_i k n e
    rw [e] at hx
    simp only [evalInt, Option.some.injEq] at hb
    subst hb
    exact ⟨.int k _, by simp only [execOp, hx.inv_int, Op.unary, Op.intBits, Sem.run_bind, Sem.run_pure, Result.andThen_ok], .int _ _⟩
  · cases hb

theorem u8s_ok {K : Know} : ∀ (cs : List AV) (vs : List Value) (s : List UInt8), VRL K cs vs → u8s cs = some s → ∃ ns : List Int, vs = ns.map (Value.int .u8) ∧ s = ns.map fun n => UInt8.ofNat n.toNat := by
  intro cs
  induction cs with
  | nil => intro vs s h hs; simp only [u8s, Option.some.injEq] at hs; subst hs; exact ⟨[], h.of_nil, rfl⟩
  | cons a cs ih =>
    intro vs s h hs
    obtain ⟨x, vs', rfl, ha, h'⟩ := h.of_cons
    unfold u8s at hs
    split at hs
    · rename_i e; cases e
    · rename_i n r e
      injection e with e1 e2; subst e1; subst e2
      simp only [Option.map_eq_some_iff] at hs
      obtain ⟨s', h1, rfl⟩ := hs
      obtain ⟨ns, rfl, rfl⟩ := ih vs' s' h' h1
      exact ⟨n :: ns, by rw [ha.inv_int]; rfl, rfl⟩
    · cases hs

theorem foldl_push (ns : List Int) : ∀ (b : ByteArray), (ns.foldl (fun r n => r.push (UInt8.ofNat n.toNat)) b) = ⟨(b.data.toList ++ ns.map fun n => UInt8.ofNat n.toNat).toArray⟩ := by
  induction ns with
  | nil => intro b; simp
  | cons n ns ih => intro b; simp only [List.foldl_cons, ih]; simp [ByteArray.push]

/- Where a slice's elements are read. -/
theorem firstA_ok {K : Know} {w : World} (hr : Rel K σ w) {sz n m : Nat} {x : AV} {xv : Value} {cs : List AV} (h : firstA σ sz n x = some cs) (hx : VR K x xv) (hl : x.len = some m) (hn : n ≤ m) :
    ∃ vs : List Value, (Builtin.firstCells sz n xv).run P w = .ok vs.toArray w ∧ VRL K cs vs := by
  unfold firstA at h
  have nonstr : ∀ (cs' : List AV) (off : Nat), base σ x = some (cs', off) → 0 < n → (∀ b o, x ≠ .ptr b o) → (∀ c o, x ≠ .pptr c o) →
      (bif Nat.ble (off + n * sz) cs'.length then some (seg cs' off (n * sz)) else none) = some cs → ∃ vs : List Value, (Builtin.firstCells sz n xv).run P w = .ok vs.toArray w ∧ VRL K cs vs := by
    intro cs' off hb hpos h1 h2 hc
    obtain ⟨hle, rfl⟩ := ite_some hc
    obtain ⟨blk, bs, c, rfl, hl'⟩ := base_slice hr hx hb h1 h2 hl (by omega)
    obtain ⟨vs, hrun, hvr⟩ := run_loadCells_lies (P := P) hl' (Nat.le_of_ble_eq_true hle)
    exact ⟨vs, by simp [Builtin.firstCells, hrun], hvr⟩
  cases h0 : Nat.beq n 0 with
  | true =>
    rw [h0] at h
    simp only [cond_true, Option.some.injEq] at h
    subst h
    have := Nat.eq_of_beq_eq_true h0
    subst this
    refine ⟨[], ?_, VRL.nil⟩
    cases hx <;> first | (simp [AV.len] at hl; done) | skip
    · rename_i l
      simp [Builtin.firstCells]
    all_goals simp [Builtin.firstCells, loadCells, loadCellsFrom]
  | false =>
    rw [h0] at h
    simp only [cond_false] at h
    have hpos : 0 < n := by
      rcases Nat.eq_zero_or_pos n with e | e
      · subst e; cases h0
      · exact e
    split at h
    · rename_i s
      obtain ⟨hle, rfl⟩ := ite_some h
      have hxs := hx.inv_str
      have hle := Nat.le_of_ble_eq_true hle
      refine ⟨(s.take n).map fun b => .int .u8 b.toNat, ?_, ?_⟩
      · rw [hxs]
        simp only [Builtin.firstCells, Sem.run_pure]
        congr 1
        apply Array.ext'
        simp [ByteArray.data_extract, List.extract_eq_take_drop]
      · exact ⟨by simp [ofU8s], fun i hi hi' => by simp only [ofU8s, List.getElem_map]; exact .int _ _⟩
    · split at h
      · rename_i cs' off hb
        exact nonstr cs' off hb hpos (fun b o e => by subst e; simp [AV.len] at hl) (fun b o e => by subst e; simp [AV.len] at hl) h
      · cases h

theorem allocD_does {o : Oper} {cs : List AV} {f : Nat → AV} (h : allocD (comp P o) ρ = some (cs, f)) :
    ∀ K N w ac, ERel K N ρ ac → ∃ (arr : Array Value) (T : TypeId) (lo hi : Nat) (g : Nat → Value) (w' : World), (execOp ac.eval o).run P w = .ok (.value (g w.heap.size)) w' ∧ w'.heap = w.heap.push (.cells arr T (lo, hi)) ∧
      w'.os = w.os ∧ w'.tape = w.tape ∧ w'.output = w.output ∧ (arr.size ≤ lo ∨ hi = lo) ∧ CR K cs arr 0 ∧ cs.length ≤ arr.size ∧
      ∀ K' id, K.le K' → K'.μ id = some (w.heap.size, 0, arr.size) → VR K' (f id) (g w.heap.size) := by
  by_cases hm : ∃ t l c, o.op = .makeSlice t l c
  · obtain ⟨dst, op, ty, pos, aft, gd⟩ := o
    obtain ⟨t, l, c, hm⟩ := hm
    simp only at hm
    subst hm
    simp only [comp] at h
    split at h
    · rename_i e hel
      split at h
      · rename_i n b z hn hb hz
        split at h
        · simp [allocD, allocA] at h
        · rename_i hcond
          simp only [not_or, Decidable.not_not] at hcond
          simp only [allocD] at h
          split at h
          · rename_i m k el ek
            split at h
            · rename_i hb2
              obtain ⟨h1, h2, h3, h4, h5⟩ := hb2
              simp only [Option.some.injEq, Prod.mk.injEq] at h
              obtain ⟨rfl, rfl⟩ := h
              intro K N w ac he
              have hl := he.ev l; have hc := he.ev c
              rw [el] at hl; rw [ek] at hc
              have hl := hl.inv_int; have hc := hc.inv_int
              obtain ⟨arr, hrun, hvr⟩ := run_zeros (P := P) (K := K) (w := w) (c := k.toNat) hz hcond.2 hcond.1
              have hcr := CR.of_list hvr #[]
              have harr : arr.toList.toArray ++ #[] = arr := by simp
              rw [harr] at hcr
              have hlen : (rowOf z k.toNat).length = arr.size := by simpa using hvr.1
              refine ⟨arr, e, 0, 0, fun id => .slice (some ⟨id, 0, none⟩) m.toNat k.toNat, { w with heap := w.heap.push (.cells arr e (0, 0)) }, ?_, rfl, rfl, rfl, rfl, .inr rfl, hcr, Nat.le_of_eq hlen, fun K' id hK hμ => ?_⟩
              · obtain ⟨i, hi⟩ : ∃ i, P.info? e = some i := by
                  unfold sizeT at hn
                  cases hi : P.info? e with
                  | none => rw [hi] at hn; cases hn
                  | some i => exact ⟨i, rfl⟩
                have hib : i.bytes = b := by simpa [bytesT, hi] using hb
                have hwl := wrap_small h1 (by omega : m < 4611686018427387904)
                have hwc := wrap_small (by omega : 0 ≤ k) h3
                have hbig : ¬ (b * k > (2 : Int) ^ 48) := by omega
                have hc1 : ¬ ((k < 0 || decide (b * k > (2 : Int) ^ 48)) = true) := by simp; omega
                have hc2 : ¬ (m < 0) := by omega
                have hc3 : ¬ (m > k) := by omega
                have hcc : (decide (k < 0) || decide ((b : Int) * k > 2 ^ 48) || decide (m < 0) || decide (m > k)) = false := by simp; omega
                simp only [Sem.run_bind, Sem.run_ite, Sem.run_pure, Result.andThen_ite, Result.andThen_ok] at hrun
                simp only [execOp, Instr.makeSlice, Sem.run_bind, run_underT (elemT_some hel), Result.andThen_ok, hl, hc, asInt, asIntOf, Sem.run_pure, run_infoT hi, hib, hwl, hwc, hcc, Bool.false_eq_true, if_false, run_askRoom, run_sizeT hn, newRow, run_newObj, Sem.run_ite, Result.andThen_ite]
                split at hrun
                · rename_i h0
                  simp only [h0, if_true] at hrun ⊢
                  injection hrun with hrun; subst hrun; rfl
                · rename_i h0
                  simp only [h0, if_false]
                  cases hzr : (zeroValue e).run P w with
                  | halt => rw [hzr] at hrun; cases hrun
                  | ok a w1 =>
                    rw [hzr] at hrun
                    simp only [Result.andThen_ok] at hrun ⊢
                    injection hrun with hrun1 hrun2
                    rw [hrun1, hrun2]
              · have := VR.sl (K := K') id 0 m.toNat k.toNat (some k.toNat) n w.heap.size 0 arr.size hμ (fun c' e => by injection e) (by omega) (by
                  rw [rowOf_length, hcond.2] at hlen; omega)
                simpa using this
            · cases h
          · cases h
      · simp [allocD, allocA] at h
    · simp [allocD, allocA] at h
  · by_cases hs : ∃ s d x, o.op = .convert s d x
    · obtain ⟨dst, op, ty, pos, aft, gd⟩ := o
      obtain ⟨s, d, x, hs⟩ := hs
      simp only at hs
      subst hs
      simp only [comp] at h
      split at h
      · simp [allocD, allocA] at h
      · simp [allocD, allocA] at h
      · rename_i el hs hd
        split at h
        · rename_i hel
          simp only [allocD] at h
          split at h
          · rename_i l e
            simp only [Option.some.injEq, Prod.mk.injEq] at h
            obtain ⟨rfl, rfl⟩ := h
            intro K N w ac he
            have hx := he.ev x
            rw [e] at hx
            have hrun := Lib.run_convert_string_bytes (P := P) w s d el ⟨l.toArray⟩ hs hd hel
            have hnew := Lib.bytesWorld_at_new w el ⟨l.toArray⟩
            have hcs : (ByteArray.mk l.toArray).size = l.length := by simp [ByteArray.size]
            have harr : Lib.bytesCells w el ⟨l.toArray⟩ = (l.map fun b => Value.int .u8 b.toNat).toArray ++ Array.replicate (grownCap w l.length 0 el - l.length) (.int .u8 0) := by
              simp [Lib.bytesCells, hcs]
            have hheap : (Lib.bytesWorld w el ⟨l.toArray⟩).heap = w.heap.push (.cells (Lib.bytesCells w el ⟨l.toArray⟩) el ((Lib.bytesCells w el ⟨l.toArray⟩).size, (Lib.bytesCells w el ⟨l.toArray⟩).size + 1)) := by
              apply Array.ext_getElem?
              intro i
              by_cases hi : i < w.heap.size
              · rw [Lib.bytesWorld_at_old w el _ i hi, Array.getElem?_push, if_neg (by omega)]
              · by_cases hi' : i = w.heap.size
                · subst hi'; rw [hnew]; simp
                · rw [Array.getElem?_eq_none (by rw [Lib.bytesWorld_size]; omega), Array.getElem?_eq_none (by simp; omega)]
            have hvl : VRL K (l.map fun b => AV.int .u8 b.toNat) (l.map fun b => Value.int .u8 b.toNat) := ⟨by simp, fun i hi hi' => by simp only [List.getElem_map]; exact .int _ _⟩
            have hgc : l.length ≤ grownCap w l.length 0 el := by simp only [grownCap, Question.cut]; omega
            refine ⟨_, el, _, _, fun id => .slice (some ⟨id, 0, none⟩) l.length (grownCap w l.length 0 el), _, ?_, hheap, rfl, rfl, rfl, .inl (Nat.le_refl _), by rw [harr]; exact CR.of_list hvl _, by rw [harr]; simp, fun K' id hK hμ => ?_⟩
            · simp only [execOp, hx.inv_str, Sem.run_bind, hrun, Result.andThen_ok, Sem.run_pure, hcs]
            · have := VR.sl (K := K') id 0 l.length (grownCap w l.length 0 el) none 1 w.heap.size 0 (Lib.bytesCells w el ⟨l.toArray⟩).size hμ (fun c' e => by cases e) hgc (by rw [harr]; simp; omega)
              simpa using this
          · cases h
        · simp [allocD, allocA] at h
      · split at h
        · simp [allocD, allocA] at h
        · simp [allocD, allocA] at h
      · split at h
        · split at h
          · simp [allocD, allocA] at h
          · simp [allocD, allocA] at h
        · simp [allocD, allocA] at h
      · simp [allocD, allocA] at h
    have hne : ∀ a b c d e, comp P o ≠ .mkslice a b c d e := by
      intro a b c d e hc
      obtain ⟨dst, op, ty, pos, aft, gd⟩ := o
      cases op
      case makeSlice t l c => exact hm ⟨t, l, c, rfl⟩
      case call c =>
        simp only [comp, compCall] at hc
        repeat' split at hc
        all_goals cases hc
      case makeFunc fn first cap =>
        cases fn <;> simp only [comp] at hc <;> repeat' split at hc
        all_goals cases hc
      case next x b => cases b <;> simp only [comp] at hc <;> cases hc
      all_goals
        simp only [comp] at hc
        repeat' split at hc
        all_goals cases hc
    have hne2 : ∀ a, comp P o ≠ .cvSB a := by
      intro a hc
      obtain ⟨dst, op, ty, pos, aft, gd⟩ := o
      cases op
      case convert s d x => exact hs ⟨s, d, x, rfl⟩
      case call c =>
        simp only [comp, compCall] at hc
        repeat' split at hc
        all_goals cases hc
      case makeFunc fn first cap =>
        cases fn <;> simp only [comp] at hc <;> repeat' split at hc
        all_goals cases hc
      case next x b => cases b <;> simp only [comp] at hc <;> cases hc
      all_goals
        simp only [comp] at hc
        repeat' split at hc
        all_goals cases hc
    have h' : allocA (comp P o) ρ = some (cs, f) := by
      unfold allocD at h
      split at h
      · rename_i e; exact absurd e (hne _ _ _ _ _)
      · rename_i e; exact absurd e (hne2 _)
      · exact h
    intro K N w ac he
    obtain ⟨arr, T, g, h1, h2, h3, h4⟩ := alloc_does h' K N w ac he
    exact ⟨arr, T, 0, 0, g, _, h1, rfl, rfl, rfl, rfl, .inr rfl, h2, Nat.le_of_eq h3, h4⟩

theorem does_allocD {o : Oper} (h : ((allocD (comp P o) ρ).map fun r => (r.2 σ.n, σ.push (.cells r.1))) = some (v, σ')) : Does P o ρ σ v σ' := by
  intro K N w ac hr he
  simp only [Option.map_eq_some_iff] at h
  obtain ⟨⟨cs, f⟩, h1, h2⟩ := h
  simp only [Prod.mk.injEq] at h2
  obtain ⟨rfl, rfl⟩ := h2
  obtain ⟨arr, T, lo, hi, g, w', hrun, q1, q2, q3, q4, q5, hcr, hlen, hval⟩ := allocD_does h1 K N w ac he
  obtain ⟨hle, hrel⟩ := hr.alloc (w' := w') q1 q2 q3 q4 q5 hcr hlen
  exact ⟨_, _, _, .inl hrun, hle, hrel, hval _ _ hle (by simp [Know.bind])⟩

theorem Rel.mark {K : Know} {σ : AState} {w : World} (h : Rel K σ w) {b : Nat} {cs : List AV} (hb : σ.cells b = some cs) {blk bs room : Nat} (hx : K.μ b = some (blk, bs, room)) :
    ∃ T n, w.shape? blk = some (T, n) ∧ Rel K σ (w.freeze ⟨blk, n, none⟩ 1) := by
  have hg := AState.cells_eq hb
  obtain ⟨arr, T, lo, hi', hh, hfz, hsz, hcr, hlen, hfx⟩ := h.cells b cs hg _ hx
  simp only at hh hsz hcr hlen hfx
  have hheap : ∀ k, (w.freeze ⟨blk, arr.size, none⟩ 1).heap[k]? = if k = blk then some (.cells arr T (if lo == hi' then (arr.size, arr.size + 1) else (min lo arr.size, max hi' (arr.size + 1)))) else w.heap[k]? := by
    intro k
    simp only [World.freeze, if_neg (show ¬ (1 = 0) by decide), Array.getElem?_modify]
    by_cases e : k = blk
    · subst e; simp [hh]
    · have : ¬ blk = k := fun e' => e e'.symm
      simp [e, this]
  refine ⟨T, arr.size, by simp [World.shape?, hh], fun b' cs' e x hx' => ?_, fun b' s p e x hx' => ?_, h.apart, fun k o e => ?_, fun b' x hx' => ?_, h.fresh, h.res, ?_, ?_, ?_⟩
  · by_cases hb' : b' = b
    · subst hb'
      rw [hx] at hx'
      injection hx' with hx'; subst hx'
      rw [hg] at e
      injection e with e; injection e with e; subst e
      refine ⟨arr, T, (if lo == hi' then (arr.size, arr.size + 1) else (min lo arr.size, max hi' (arr.size + 1))).1, (if lo == hi' then (arr.size, arr.size + 1) else (min lo arr.size, max hi' (arr.size + 1))).2, by simp [hheap], ?_, hsz, hcr, hlen, hfx⟩
      left
      rcases hfz with hfz | hfz
      · split
        · exact Nat.le_refl _
        · exact Nat.le_min.2 ⟨hfz, Nat.le_refl _⟩
      · subst hfz; simp
    · obtain ⟨arr', T', lo', hi'', hh', rest⟩ := h.cells b' cs' e x hx'
      have hne : x.1 ≠ blk := by
        have := h.apart b' b x (blk, bs, room) hb' (by rw [e]; rfl) (by rw [hg]; rfl) hx' hx
        simpa using this
      exact ⟨arr', T', lo', hi'', by rw [hheap, if_neg hne]; exact hh', rest⟩
  · obtain ⟨hh', rest⟩ := h.iters b' s p e x hx'
    have hne : x.1 ≠ blk := by
      intro e'
      rw [e', hh] at hh'
      cases hh'
    exact ⟨by rw [hheap, if_neg hne]; exact hh', rest⟩
  · have hne : k ≠ blk := by intro e'; subst e'; rw [hfx] at e; cases e
    rw [hheap, if_neg hne]; exact h.fix k o e
  · have := h.old b' x hx'
    simpa [World.freeze] using this
  · simpa [World.freeze] using h.os
  · simpa [World.freeze] using h.tape
  · simpa [World.freeze] using h.output

theorem does_convert {s d : TypeId} {x : Operand} (h : evalA (comp P ⟨dst, .convert s d x, ty, pos, aft, gd⟩) ρ σ = some (v, σ')) : Does P ⟨dst, .convert s d x, ty, pos, aft, gd⟩ ρ σ v σ' := by
  simp only [comp] at h
  split at h
  · rename_i k0 k hs hd
    simp only [evalA] at h
    split at h
    · rename_i k' n e
      simp only [Option.some.injEq, Prod.mk.injEq] at h
      obtain ⟨rfl, rfl⟩ := h
      refine .still fun K N w ac hr he => ?_
      have hx := he.ev x
      rw [e] at hx
      exact ⟨.int k (k.wrap n), by simp [execOp, hx.inv_int, convert, run_underT hs, run_underT hd, Result.andThen, Conv.intToInt], .int _ _⟩
    · cases h
  · rename_i hs hd
    simp only [evalA] at h
    split at h
    · rename_i l e
      simp only [Option.some.injEq, Prod.mk.injEq] at h
      obtain ⟨rfl, rfl⟩ := h
      refine .still fun K N w ac hr he => ?_
      have hx := he.ev x
      rw [e] at hx
      exact ⟨_, by simp [execOp, hx.inv_str, convert, run_underT hs, run_underT hd, Result.andThen], .str l⟩
    · cases h
  · rename_i el hs hd
    split at h
    · rename_i hel
      have hcomp : comp P ⟨dst, .convert s d x, ty, pos, aft, gd⟩ = .cvSB (.of x) := by simp only [comp, hs, hd, hel]
      exact does_allocD (by rw [hcomp]; exact h)
    · simp [evalA] at h
  · rename_i el hs hd
    split at h
    · rename_i hel
      have fin : ∀ (n : Nat) (cs : List AV) (u : List UInt8), ((Opd.of x).ev ρ).len = some n → firstA σ 1 n ((Opd.of x).ev ρ) = some cs → u8s cs = some u → ((∃ b o l c z, (Opd.of x).ev ρ = .sl b o l c z) ∨ ∃ c o l, (Opd.of x).ev ρ = .psl c o l) →
          Does P ⟨dst, .convert s d x, ty, pos, aft, gd⟩ ρ σ (.str u) σ := by
        intro n cs u hl hf hu hsh
        refine .still fun K N w ac hr he => ?_
        have hx := he.ev x
        obtain ⟨vs, hrun, hvr⟩ := firstA_ok (P := P) hr hf hx hl (Nat.le_refl _)
        obtain ⟨ns, rfl, rfl⟩ := u8s_ok cs vs u hvr hu
        obtain ⟨a, c, hav⟩ : ∃ a c, ac.eval x = .slice a n c := by
          rcases hsh with ⟨b, o, l, c, z, e⟩ | ⟨c, o, l, e⟩
          · rw [e] at hx hl; obtain ⟨blk, a, c', hv, _⟩ := hx.inv_slice
            simp only [AV.len, Option.some.injEq] at hl; subst hl; exact ⟨_, _, hv⟩
          · rw [e] at hx hl; obtain ⟨a, c', hv, _⟩ := hx.inv_psl
            simp only [AV.len, Option.some.injEq] at hl; subst hl; exact ⟨_, _, hv⟩
        rw [hav] at hrun
        have hbts : (Conv.bytesToString (.slice a n c)).run P w = .ok (.string (ns.foldl (fun r n => r.push (UInt8.ofNat n.toNat)) ByteArray.empty)) w := by
          cases a with
          | some a => simp only [Builtin.firstCells, Nat.mul_one] at hrun; exact run_bytesToString w a n c ns hrun
          | none =>
            simp only [Builtin.firstCells, Sem.run_pure, Result.ok.injEq, and_true] at hrun
            have : ns = [] := by
              have := congrArg Array.size hrun
              simp at this
              exact List.eq_nil_of_length_eq_zero this.symm
            subst this
            simp [Conv.bytesToString, Sem.run_pure]
        refine ⟨.string ⟨(ns.map fun n => UInt8.ofNat n.toNat).toArray⟩, ?_, .str _⟩
        simp only [execOp, hav, Sem.run_bind, run_convert_bytes_string w s d el a n c hs hel hd, hbts, Result.andThen_ok, Sem.run_pure]
        rw [foldl_push]
        rfl
      simp only [evalA] at h
      split at h
      · rename_i e
        simp only [Option.some.injEq, Prod.mk.injEq] at h
        obtain ⟨rfl, rfl⟩ := h
        refine .still fun K N w ac hr he => ?_
        have hx := he.ev x
        rw [e] at hx
        refine ⟨.string ⟨#[]⟩, ?_, .str []⟩
        simp only [execOp, hx.inv_nils, Sem.run_bind, run_convert_bytes_string w s d el none 0 0 hs hel hd, Conv.bytesToString, Sem.run_pure, Result.andThen_ok]
        rfl
      · rename_i b o l c z n e hl
        split at h
        · rename_i cs hf
          simp only [Option.map_eq_some_iff, Prod.mk.injEq] at h
          obtain ⟨u, hu, rfl, rfl⟩ := h
          exact fin n cs u hl (by rw [e]; exact hf) hu (.inl ⟨_, _, _, _, _, e⟩)
        · cases h
      · rename_i c o l n e hl
        split at h
        · rename_i cs hf
          simp only [Option.map_eq_some_iff, Prod.mk.injEq] at h
          obtain ⟨u, hu, rfl, rfl⟩ := h
          exact fin n cs u hl (by rw [e]; exact hf) hu (.inr ⟨_, _, _, e⟩)
        · cases h
      · cases h
    · simp [evalA] at h
  · rename_i el hs hd
    split at h
    · rename_i hel
      split at h
      · rename_i hsd
        subst hsd
        rw [hs] at hd
        injection hd with hd
        injection hd with hd
        subst hd
        simp only [evalA] at h
        split at h
        · rename_i b off l cap sz e
          simp only [Option.map_eq_some_iff, Prod.mk.injEq] at h
          obtain ⟨cs, hcs, rfl, rfl⟩ := h
          intro K N w ac hr he
          have hx := he.ev x
          rw [e] at hx
          obtain ⟨blk, o, c', hpv, _, _, h3⟩ := hx.inv_slice
          rcases h3 with ⟨bs, room, rfl, hμ, hroom⟩ | ⟨hd0, _⟩
          · obtain ⟨T, n, hsh, hrel⟩ := hr.mark hcs hμ
            refine ⟨_, _, K, .inl ?_, Know.le.refl K, hrel, hx⟩
            simp [execOp, hpv, convert, run_underT hs, run_underT hel, markStringish, hsh, Result.andThen]
          · omega
        · cases h
      · simp [evalA] at h
    · simp [evalA] at h
  · simp [evalA] at h

theorem does_makeSlice {t : TypeId} {l c : Operand} (h : evalA (comp P ⟨dst, .makeSlice t l c, ty, pos, aft, gd⟩) ρ σ = some (v, σ')) : Does P ⟨dst, .makeSlice t l c, ty, pos, aft, gd⟩ ρ σ v σ' := by
  have hc : (∃ a b c' d e, comp P ⟨dst, .makeSlice t l c, ty, pos, aft, gd⟩ = .mkslice a b c' d e) ∨ comp P ⟨dst, .makeSlice t l c, ty, pos, aft, gd⟩ = .bad := by
    simp only [comp]
    split
    · split
      · split
        · exact .inr rfl
        · exact .inl ⟨_, _, _, _, _, rfl⟩
      · exact .inr rfl
    · exact .inr rfl
  rcases hc with ⟨a, b, c', d, e, hc⟩ | hc
  · exact does_allocD (by rw [hc] at h ⊢; exact h)
  · rw [hc] at h; simp [evalA] at h
end
end Go.Proofs.Ythojhpjjkfjeiaa.Va
