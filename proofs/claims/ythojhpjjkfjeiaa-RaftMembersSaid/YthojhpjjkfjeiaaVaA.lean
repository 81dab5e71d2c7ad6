/- Each operation does in the world what it does to abstract values, seventh part: indexes, texts walked through, builtins; all of them together. Conditions: none. -/
import Derived.Test.YthojhpjjkfjeiaaVa9
set_option linter.unusedSimpArgs false
set_option linter.unusedVariables false
namespace Go.Proofs.Ythojhpjjkfjeiaa.Va
variable {P : Program}
section
variable {dst : Option Tmp} {ty : TypeId} {pos : String} {aft : Array Edge} {gd : Option (Nat × Bool)} {ρ : Env} {σ σ' : AState} {v : AV}

theorem does_index {t : TypeId} {x i : Operand} (h : evalA (comp P ⟨dst, .index t x i, ty, pos, aft, gd⟩) ρ σ = some (v, σ')) : Does P ⟨dst, .index t x i, ty, pos, aft, gd⟩ ρ σ v σ' := by
  simp only [comp] at h
  split at h
  · rename_i hu
    simp only [evalA] at h
    split at h
    · rename_i s j ex ej
      split at h
      · rename_i h0
        simp only [Option.map_eq_some_iff, Prod.mk.injEq] at h
        obtain ⟨b, hb, rfl, rfl⟩ := h
        refine .still fun K N w ac hr he => ?_
        have hx := he.ev x
        rw [ex] at hx
        obtain ⟨k, hj⟩ := asIdx_ok (he.ev i) ej
        have hget : (ByteArray.mk s.toArray)[j.toNat]? = some b := by
          obtain ⟨hlt, hb'⟩ := List.getElem?_eq_some_iff.1 hb
          have : j.toNat < (ByteArray.mk s.toArray).size := by simpa [ByteArray.size] using hlt
          have e := getElem?_pos (ByteArray.mk s.toArray) j.toNat this
          rw [e, ← hb']
          simp [ByteArray.getElem_eq_getElem_data]
        exact ⟨.int .u8 b.toNat, by simp [execOp, Instr.index, hj, asIntOf, run_underT hu, hx.inv_str, Result.andThen, h0, hget], .int _ _⟩
      · cases h
    · cases h
  · rename_i len e hu
    split at h
    · rename_i a n ha hn
      simp only [evalA] at h
      split at h
      · rename_i cs j ex ej
        split at h
        · rename_i hb
          have hs : σ = σ' ∧ (bif a then (bif Nat.ble (j.toNat * n + n) cs.length then some (AV.agg (seg cs (j.toNat * n) n)) else none) else cs[j.toNat * n]?) = some v := by
            cases a with
            | true =>
              simp only [cond_true] at h ⊢
              obtain ⟨e1, e2⟩ := ite_some h
              simp only [Prod.mk.injEq] at e2
              rw [e1]; exact ⟨e2.2, by simp [e2.1]⟩
            | false =>
              simp only [cond_false, Option.map_eq_some_iff, Prod.mk.injEq] at h ⊢
              obtain ⟨b, e1, e2, e3⟩ := h
              exact ⟨e3, by rw [e1, e2]⟩
          obtain ⟨rfl, hv⟩ := hs
          refine .still fun K N w ac hr he => ?_
          have hx := he.ev x
          rw [ex] at hx
          obtain ⟨k, hj⟩ := asIdx_ok (he.ev i) ej
          obtain ⟨vs, hpv, hvr⟩ := hx.inv_agg
          obtain ⟨vc, hrun, hvr'⟩ := sim_part (P := P) (w := w) ha hn hvr hv
          exact ⟨vc, by simp [execOp, Instr.index, hj, asIntOf, run_underT hu, hpv, Result.andThen, hb, run_sizeT hn, hrun], hvr'⟩
        · cases h
      · cases h
    · simp [evalA] at h
  · simp [evalA] at h

theorem does_extract {x : Operand} {i : Nat} (h : evalA (comp P ⟨dst, .extract x i, ty, pos, aft, gd⟩) ρ σ = some (v, σ')) : Does P ⟨dst, .extract x i, ty, pos, aft, gd⟩ ρ σ v σ' := by
  simp only [comp, evalA] at h
  split at h
  · rename_i vs ex
    simp only [Option.map_eq_some_iff, Prod.mk.injEq] at h
    obtain ⟨b, hb, rfl, rfl⟩ := h
    refine .still fun K N w ac hr he => ?_
    have hx := he.ev x
    rw [ex] at hx
    obtain ⟨us, hpv, hvr⟩ := hx.inv_tup
    obtain ⟨u, hu, hv⟩ := hvr.get hb
    exact ⟨u, by simp [execOp, Instr.extract, hpv, hu, Result.andThen], hv⟩
  · cases h

theorem does_range {t : TypeId} {x : Operand} (h : evalA (comp P ⟨dst, .range t x, ty, pos, aft, gd⟩) ρ σ = some (v, σ')) : Does P ⟨dst, .range t x, ty, pos, aft, gd⟩ ρ σ v σ' := by
  simp only [comp] at h
  split at h
  · rename_i hu
    simp only [evalA] at h
    split at h
    · rename_i s ex
      simp only [Option.some.injEq, Prod.mk.injEq] at h
      obtain ⟨rfl, rfl⟩ := h
      intro K N w ac hr he
      have hx := he.ev x
      rw [ex] at hx
      have hf := hr.fresh σ.n (Nat.le_refl _)
      have hrel := (hr.grow (.iter s 0)).born (w' := { w with heap := w.heap.push (.stringIter ⟨s.toArray⟩ 0) }) (room := 0) hf (by simp [AState.push]) hr.res_n rfl rfl rfl rfl
        (fun cs e => by simp [AState.push] at e) (fun s' pos e => by simp [AState.push] at e; obtain ⟨rfl, rfl⟩ := e; rfl)
      refine ⟨.pointer (some ⟨w.heap.size, 0, none⟩), _, _, .inl ?_, Know.le_bind hf, hrel, ?_⟩
      · simp [execOp, Instr.range, run_underT hu, hx.inv_str, Result.andThen]
      · exact .ptr σ.n 0 w.heap.size 0 0 (by simp [Know.bind])
    · cases h
  · simp [evalA] at h

theorem does_next {x : Operand} {b : Bool} (h : evalA (comp P ⟨dst, .next x b, ty, pos, aft, gd⟩) ρ σ = some (v, σ')) : Does P ⟨dst, .next x b, ty, pos, aft, gd⟩ ρ σ v σ' := by
  cases b with
  | false => simp [comp, evalA] at h
  | true =>
    simp only [comp, evalA] at h
    split at h
    · rename_i b ex
      split at h
      · rename_i s p hb
        intro K N w ac hr he
        have hx := he.ev x
        rw [ex] at hx
        obtain ⟨blk, bs, room, hpv, hμ⟩ := hx.inv_ptr
        obtain ⟨hh, hfx, hbs⟩ := hr.iters b s p hb _ hμ
        simp only at hh hfx hbs
        subst hbs
        have hsz : (ByteArray.mk s.toArray).size = s.length := by simp [ByteArray.size]
        have hget : (getObj blk).run P w = .ok (.stringIter ⟨s.toArray⟩ p) w := by simp [getObj, Sem.run, hh]
        split at h
        · rename_i hlt
          simp only [Option.some.injEq, Prod.mk.injEq] at h
          obtain ⟨rfl, rfl⟩ := h
          have hblk : blk < w.heap.size := hr.old b _ hμ
          let np := p + (Utf8.decode ⟨s.toArray⟩ p).2
          let w' : World := { w with heap := w.heap.setIfInBounds blk (.stringIter ⟨s.toArray⟩ np) }
          have hset : (setObj blk (.stringIter ⟨s.toArray⟩ np)).run P w = .ok () w' := by simp [setObj, Sem.run, hh, w']
          have hold : ∀ k, w'.heap[k]? = if k = blk then some (.stringIter ⟨s.toArray⟩ np) else w.heap[k]? := by
            intro k
            simp only [w', Array.getElem?_setIfInBounds]
            by_cases e : blk = k
            · subst e; simp [hblk]
            · have : ¬ k = blk := fun e' => e e'.symm
              simp [e, this]
          refine ⟨.tuple #[.bool true, goInt p, .int .i32 (Utf8.decode ⟨s.toArray⟩ p).1], w', K, .inl ?_, Know.le.refl K, ?_, ?_⟩
          · simp only [execOp, Instr.next, Sem.run_bind, hpv, Nat.add_zero, hget, Result.andThen_ok, hsz, if_pos hlt, hset, Sem.run_pure, np]
          · refine ⟨fun b' cs e x hx' => ?_, fun b' s' p' e x hx' => ?_, fun b1 b2 x1 x2 hne h1 h2 hx1 hx2 => ?_, fun k o e => ?_, fun b' x hx' => ?_, hr.fresh, hr.res, hr.os, hr.tape, hr.output⟩
            · simp only [Tr.get_set] at e
              split at e
              · cases e
              · rename_i hb'
                obtain ⟨arr, T, lo, hi, h1, rest⟩ := hr.cells b' cs e x hx'
                have hne : x.1 ≠ blk := by
                  have := hr.apart b' b x (blk, 0, room) hb' (by rw [e]; rfl) (by rw [hb]; rfl) hx' hμ
                  simpa using this
                exact ⟨arr, T, lo, hi, by rw [hold, if_neg hne]; exact h1, rest⟩
            · simp only [Tr.get_set] at e
              split at e
              · rename_i hb'; subst hb'
                rw [hμ] at hx'; injection hx' with hx'; subst hx'
                injection e with e; injection e with e1 e2; subst e1; subst e2
                exact ⟨by rw [hold, if_pos rfl], hfx, rfl⟩
              · rename_i hb'
                obtain ⟨h1, h2, h3⟩ := hr.iters b' s' p' e x hx'
                have hne : x.1 ≠ blk := by
                  have := hr.apart b' b x (blk, 0, room) hb' (by rw [e]; rfl) (by rw [hb]; rfl) hx' hμ
                  simpa using this
                exact ⟨by rw [hold, if_neg hne]; exact h1, h2, h3⟩
            · have old : ∀ b', ((σ.h.set b (some (.iter s np))).get b').isSome → (σ.h.get b').isSome := by
                intro b' hs
                simp only [Tr.get_set] at hs
                split at hs
                · rename_i e; subst e; rw [hb]; rfl
                · exact hs
              exact hr.apart b1 b2 x1 x2 hne (old _ h1) (old _ h2) hx1 hx2
            · have hne : k ≠ blk := fun e' => by subst e'; rw [hfx] at e; cases e
              rw [hold, if_neg hne]; exact hr.fix k o e
            · simp only [w', Array.size_setIfInBounds]; exact hr.old b' x hx'
          · exact .tup _ [_, _, _] rfl fun i hi hi' => by
              match i, hi with
              | 0, _ => exact .bool true
              | 1, _ => exact .int _ _
              | 2, _ => exact .int _ _
        · rename_i hlt
          simp only [Option.some.injEq, Prod.mk.injEq] at h
          obtain ⟨rfl, rfl⟩ := h
          refine ⟨.tuple #[.bool false], w, K, .inl ?_, Know.le.refl K, hr, ?_⟩
          · simp only [execOp, Instr.next, Sem.run_bind, hpv, Nat.add_zero, hget, Result.andThen_ok, hsz, if_neg hlt, Sem.run_pure]
          · exact .tup _ [_] rfl fun i hi hi' => by
              match i, hi with
              | 0, _ => exact .bool false
      · cases h
    · cases h

theorem len_ok {K : Know} {a : AV} {x : Value} (h : VR K a x) {n : Nat} (hl : a.len = some n) : (∃ p c, x = .slice p n c ∧ n ≤ c) ∨ ∃ s : ByteArray, x = .string s ∧ s.size = n := by
  cases h <;> simp only [AV.len, Option.some.injEq] at hl <;> first | (cases hl; done) | skip
  · exact .inr ⟨_, rfl, by simpa [ByteArray.size] using hl⟩
  all_goals (subst hl; exact .inl ⟨_, _, rfl, by first | assumption | omega⟩)

theorem minMax_ok {mx : Bool} {w : World} {K : Know} : ∀ (l : List AV) (vs : List Value) (a : AV) (x : Value) (r : AV), minMaxA mx a l = some r → VR K a x → VRL K l vs →
    ∃ rc, (vs.foldlM (if mx then Builtin.max2 else Builtin.min2) x).run P w = .ok rc w ∧ VR K r rc := by
  intro l
  induction l with
  | nil =>
    intro vs a x r h ha hv
    have := hv.of_nil; subst this
    cases a <;> simp only [minMaxA] at h <;> first | (cases h; done) | skip
    injection h with h; subst h
    exact ⟨x, by simp, ha⟩
  | cons b l ih =>
    intro vs a x r h ha hv
    obtain ⟨y, vs', rfl, hb, hv'⟩ := hv.of_cons
    cases a <;> cases b <;> simp only [minMaxA] at h <;> first | (cases h; done) | skip
    rename_i k p k' q
    rw [ha.inv_int, hb.inv_int]
    cases mx with
    | true =>
      simp only [if_true] at h ⊢
      obtain ⟨rc, hrun, hr⟩ := ih vs' _ (.int k (if q > p then q else p)) r h (.int _ _) hv'
      refine ⟨rc, ?_, hr⟩
      simp only [if_true] at hrun
      simp only [List.foldlM_cons, Sem.run_bind, Builtin.max2, Sem.run_pure, Result.andThen_ok, hrun]
    | false =>
      simp only [Bool.false_eq_true, if_false] at h ⊢
      obtain ⟨rc, hrun, hr⟩ := ih vs' _ (.int k (if q < p then q else p)) r h (.int _ _) hv'
      refine ⟨rc, ?_, hr⟩
      simp only [Bool.false_eq_true, if_false] at hrun
      simp only [List.foldlM_cons, Sem.run_bind, Builtin.min2, Sem.run_pure, Result.andThen_ok, hrun]

theorem drawn_rel {K : Know} {w : World} (h : Rel K σ w) : Rel K σ { w with drawn := w.drawn + 1 } := h.congr rfl rfl rfl rfl

theorem firstA_length {n sz : Nat} {x : AV} {cs : List AV} (h : firstA σ sz n x = some cs) : True := trivial

theorem zeroCells_size (z : Array Value) (n : Nat) : (Builtin.zeroCells z n).size = n * z.size := by simp [Builtin.zeroCells]

section
variable {t u e : TypeId} {ud : TypeDesc} {i : TypeInfo} {sz bytes : Nat}
theorem run_append_in {w : World} (hel : elemT P t = some e) (hu : P.underlying u = some ud) (hud : ∀ k, ud ≠ .int k) (hsz : sizeT P e = some sz) (ty : TypeId) {a : Option Addr} {m c n : Nat} {yv : Value} {news : List Value}
    (hlen : (Builtin.lenOf yv).run P w = .ok n w) (hnew : (Builtin.firstCells sz n yv).run P w = .ok news.toArray w) (hle : m + n ≤ c) :
    (Builtin.append_ #[t, u] ty #[.slice a m c, yv]).run P w = match a with
      | none => .ok (.slice none (m + n) c) w
      | some a => ((storeCells (a.add (m * sz)) news).run P w).andThen fun _ w' => .ok (.slice (some a) (m + n) c) w' := by
  have hz : (match ud with | .int _ => true | _ => false) = false := by cases ud <;> first | rfl | exact absurd rfl (hud _)
  have hz' : (do pure ((← underlying u) matches .int _) : Sem Bool).run P w = .ok false w := by
    simp only [Sem.run_bind, run_underT hu, Result.andThen_ok, Sem.run_pure]
  simp only [Sem.run_bind, run_underT hu, Result.andThen_ok, Sem.run_pure, Result.ok.injEq, and_true] at hz'
  cases a with
  | none => simp [Builtin.append_, run_underT (elemT_some hel), run_underT hu, run_sizeT hsz, Result.andThen, hz', hlen, hle, hnew]
  | some a => simp [Builtin.append_, run_underT (elemT_some hel), run_underT hu, run_sizeT hsz, Result.andThen, hz', hlen, hle, hnew]

theorem run_append_out {w : World} (hel : elemT P t = some e) (hu : P.underlying u = some ud) (hud : ∀ k, ud ≠ .int k) (hsz : sizeT P e = some sz) (hi : P.info? e = some i) {zv : Value} (hzv : i.zero = some zv) (hb : i.bytes ≠ 0) (ty : TypeId)
    {a : Option Addr} {m c n : Nat} {yv : Value} {olds news : List Value} (hlen : (Builtin.lenOf yv).run P w = .ok n w)
    (hold : (Builtin.firstCells sz m (.slice a m c)).run P w.drew = .ok olds.toArray w.drew)
    (hnew : (Builtin.firstCells sz n yv).run P w.drew = .ok news.toArray w.drew)
    (hgt : c < m + n) (hfit : 2 * (m + n) * i.bytes ≤ 281474976710656) :
    (Builtin.append_ #[t, u] ty #[.slice a m c, yv]).run P w =
      .ok (.slice (some ⟨w.heap.size, 0, none⟩) (m + n) (grownCap w (m + n) c e))
        (w.drew.alloc (.cells (olds.toArray ++ news.toArray ++ Builtin.zeroCells zv.cells (grownCap w (m + n) c e - (m + n))) e)) := by
  have hz' : (do pure ((← underlying u) matches .int _) : Sem Bool).run P w = .ok false w := by
    simp only [Sem.run_bind, run_underT hu, Result.andThen_ok, Sem.run_pure]
  simp only [Sem.run_bind, run_underT hu, Result.andThen_ok, Sem.run_pure, Result.ok.injEq, and_true] at hz'
  have hn : ¬ (m + n ≤ c) := by omega
  have h48 : ¬ (281474976710656 < Builtin.nextslicecap (m + n) c * i.bytes) := by
    have h1 := nextslicecap_le hgt
    have := Nat.mul_le_mul_right i.bytes h1
    omega
  simp [Builtin.append_, run_underT (elemT_some hel), run_underT hu, run_sizeT hsz, run_infoT hi, zeroValue, hzv, Result.andThen, hz', hlen, hn, h48, hb, Question.forced, hold, hnew, newRow, grownCap]
  congr 2
  apply Array.ext'
  simp [List.append_assoc]
end

theorem grownCap_ge (w : World) (need old : Nat) (e : TypeId) : need ≤ grownCap w need old e := by simp only [grownCap, Question.cut]; omega

theorem seg_all {cs : List AV} {n : Nat} (h : n = cs.length) : seg cs 0 n = cs := by simp [seg, h]

theorem append_ok {K : Know} {w : World} (hr : Rel K σ w) {sz bytes : Nat} {x y : AV} {xv yv : Value} (h : appendA σ sz bytes x y = some (v, σ')) (hx : VR K x xv) (hy : VR K y yv)
    {t u e : TypeId} {ud : TypeDesc} {z : List AV} (hel : elemT P t = some e) (hu : P.underlying u = some ud) (hud : ∀ k, ud ≠ .int k) (hsz : sizeT P e = some sz) (hby : bytesT P e = some bytes) (hz : zeroT P e = some z) (hzl : z.length = sz)
    (hsz0 : sz ≠ 0) (hb0 : bytes ≠ 0) (ty : TypeId) :
    ∃ vc w' K', (Builtin.append_ #[t, u] ty #[xv, yv]).run P w = .ok vc w' ∧ K.le K' ∧ Rel K' σ' w' ∧ VR K' v vc := by
  unfold appendA at h
  split at h
  case h_2 => cases h
  rename_i m n hm hn
  split at h
  case h_2 => cases h
  rename_i new hnew
  cases hc : (Nat.ble ((2 * (m + n) + 1024) * bytes) 140737488355328 && new.all AV.one && Nat.beq new.length (n * sz)) with
  | false => rw [hc] at h; cases h
  | true =>
    rw [hc] at h
    simp only [cond_true] at h
    simp only [Bool.and_eq_true] at hc
    obtain ⟨⟨hbig, hone⟩, hnl⟩ := hc
    have hbig := Nat.le_of_ble_eq_true hbig
    have hnl := Nat.eq_of_beq_eq_true hnl
    obtain ⟨i, hi⟩ : ∃ i, P.info? e = some i := by
      unfold sizeT at hsz
      cases hi : P.info? e with
      | none => rw [hi] at hsz; cases hsz
      | some i => exact ⟨i, rfl⟩
    obtain ⟨zv, hzv, hzs⟩ : ∃ zv, i.zero = some zv ∧ zv.cells.size = sz := by
      unfold zeroT at hz
      rw [hi] at hz
      simp only [Option.bind_some, Option.map_eq_some_iff] at hz
      obtain ⟨zv, h1, h2⟩ := hz
      exact ⟨zv, h1, by rw [← hzl, ← h2]; simp⟩
    have hib : i.bytes = bytes := by simpa [bytesT, hi] using hby
    have hlenY : (Builtin.lenOf yv).run P w = .ok n w := by
      rcases len_ok hy hn with ⟨p, c, rfl, _⟩ | ⟨s, rfl, hs⟩
      · simp [Builtin.lenOf]
      · simp [Builtin.lenOf, hs]
    have hfit : 2 * (m + n) * i.bytes ≤ 281474976710656 := by
      rw [hib]
      have : 2 * (m + n) * bytes ≤ (2 * (m + n) + 1024) * bytes := Nat.mul_le_mul_right _ (by omega)
      omega
    have hrd : Rel K σ w.drew := hr.congr rfl rfl rfl rfl
    obtain ⟨news, hrunN, hvrN⟩ := firstA_ok (P := P) hr hnew hy hn (Nat.le_refl _)
    obtain ⟨newsd, hrunNd, hvrNd⟩ := firstA_ok (P := P) hrd hnew hy hn (Nat.le_refl _)
    -- a new row
    have out : ∀ (a : Option Addr) (c : Nat) (olds : List AV) (oldv : List Value) (σ1 : AState), xv = .slice a m c → c < m + n → olds.length = m * sz →
        (Builtin.firstCells sz m (.slice a m c)).run P w.drew = .ok oldv.toArray w.drew → VRL K olds oldv → Rel K σ1 w.drew → σ1.n = σ.n →
        ∃ vc w' K', (Builtin.append_ #[t, u] ty #[xv, yv]).run P w = .ok vc w' ∧ K.le K' ∧ Rel K' (σ1.push (.cells (olds ++ new))) w' ∧ VR K' (.sl σ.n 0 (m + n) none sz) vc := by
      intro a c olds oldv σ1 hxv hgt hol hold hvo hr1 hn1
      subst hxv
      have hrun := run_append_out (P := P) hel hu hud hsz hi hzv (by rw [hib]; exact hb0) ty hlenY hold hrunNd hgt hfit
      have hgc := grownCap_ge w (m + n) c e
      have hall := hvo.append hvrNd
      have harr : oldv.toArray ++ newsd.toArray = (oldv ++ newsd).toArray := by simp
      rw [harr] at hrun
      have hsize : ((oldv ++ newsd).toArray ++ Builtin.zeroCells zv.cells (grownCap w (m + n) c e - (m + n))).size = grownCap w (m + n) c e * sz := by
        have h1 := hall.1
        simp only [List.length_append] at h1
        simp only [Array.size_append, List.size_toArray, zeroCells_size, hzs, List.length_append]
        rw [← h1, hol, hnl, ← Nat.add_mul, ← Nat.add_mul]
        congr 1; omega
      obtain ⟨hle, hrel⟩ := hr1.alloc (w' := w.drew.alloc (.cells ((oldv ++ newsd).toArray ++ Builtin.zeroCells zv.cells (grownCap w (m + n) c e - (m + n))) e)) (cs := olds ++ new)
        rfl rfl rfl rfl (.inr rfl) (CR.of_list hall _) (by have := hall.1; simp only [Array.size_append, List.size_toArray]; omega)
      refine ⟨_, _, _, hrun, hle, hrel, ?_⟩
      have := VR.sl (K := K.bind σ1.n (w.drew.heap.size, 0, ((oldv ++ newsd).toArray ++ Builtin.zeroCells zv.cells (grownCap w (m + n) c e - (m + n))).size)) σ.n 0 (m + n) (grownCap w (m + n) c e) none sz w.heap.size 0 _
        (by simp only [Know.bind, hn1, if_true]; rfl) (fun c' e => by cases e) hgc (by rw [hsize]; omega)
      simpa using this
    split at h
    · -- nil
      have hxn := hx.inv_nils
      simp only [AV.len, Option.some.injEq] at hm
      subst hm
      cases h0 : Nat.beq n 0 with
      | true =>
        rw [h0] at h
        have := Nat.eq_of_beq_eq_true h0
        subst this
        simp only [cond_true, Option.some.injEq, Prod.mk.injEq] at h
        obtain ⟨rfl, rfl⟩ := h
        refine ⟨.slice none 0 0, w, K, ?_, Know.le.refl K, hr, .nils⟩
        rw [hxn, run_append_in (P := P) hel hu hud hsz ty hlenY hrunN (by omega)]
      | false =>
        rw [h0] at h
        simp only [cond_false, Option.some.injEq, Prod.mk.injEq] at h
        obtain ⟨rfl, rfl⟩ := h
        have hn0 : n ≠ 0 := fun e => by subst e; cases h0
        have := out none 0 [] [] σ hxn (by omega) (by simp) (by simp [Builtin.firstCells]) VRL.nil hrd rfl
        simpa using this
    · -- what came in
      rename_i cs off l
      cases h0 : Nat.beq n 0 with
      | true =>
        rw [h0] at h
        have := Nat.eq_of_beq_eq_true h0
        subst this
        simp only [cond_true, Option.some.injEq, Prod.mk.injEq] at h
        obtain ⟨rfl, rfl⟩ := h
        obtain ⟨a, c', hpv, hsp, hle, _⟩ := hx.inv_psl
        simp only [AV.len, Option.some.injEq] at hm
        subst hm
        have hnn : news = [] := by
          have := hvrN.1
          simp only [Nat.zero_mul] at hnl
          exact List.eq_nil_of_length_eq_zero (by omega)
        refine ⟨.slice a l c', w, K, ?_, Know.le.refl K, hr, by rw [← hpv]; exact hx⟩
        rw [hpv, run_append_in (P := P) hel hu hud hsz ty hlenY hrunN (by omega), hnn]
        simp [storeCells]
        cases a <;> rfl
      | false => rw [h0] at h; cases h
    · -- a row of its own
      rename_i b off l cap sz'
      split at h
      case h_2 => cases h
      rename_i cs hcs
      simp only [AV.len, Option.some.injEq] at hm
      subst hm
      obtain ⟨blk, o, c', hpv, hle, hcap, h3⟩ := hx.inv_slice
      have hb := AState.cells_eq hcs
      -- the new row, whatever becomes of the old one
      have outS : ∀ (olds : List AV) (σ1 : AState), sz' = sz → off + l * sz ≤ cs.length → olds = seg cs off (l * sz) → c' < l + n → (σ1 = σ ∨ σ1 = σ.kill b) →
          ∃ vc w' K', (Builtin.append_ #[t, u] ty #[xv, yv]).run P w = .ok vc w' ∧ K.le K' ∧ Rel K' (σ1.push (.cells (olds ++ new))) w' ∧ VR K' (.sl σ.n 0 (l + n) none sz) vc := by
        intro olds σ1 hs hl ho hgt hσ
        subst hs; subst ho
        have hf : ∃ oldv : List Value, (Builtin.firstCells sz' l (.slice (some ⟨blk, o, none⟩) l c')).run P w.drew = .ok oldv.toArray w.drew ∧ VRL K (seg cs off (l * sz')) oldv := by
          rcases h3 with ⟨bs, room, rfl, hμ, hroom⟩ | ⟨h0, _⟩
          · obtain ⟨vs, hrun, hvr⟩ := run_loadCells_lies (P := P) (hrd.lies hcs hμ) hl
            exact ⟨vs, by simpa [Builtin.firstCells] using hrun, hvr⟩
          · subst h0
            exact ⟨[], by simp [Builtin.firstCells, loadCells, loadCellsFrom], by simpa [seg] using VRL.nil⟩
        obtain ⟨oldv, hold, hvo⟩ := hf
        refine out (some ⟨blk, o, none⟩) c' _ oldv σ1 hpv hgt (by simp [seg]; omega) hold hvo ?_ ?_
        · rcases hσ with rfl | rfl
          · exact hrd
          · exact hrd.kill b
        · rcases hσ with rfl | rfl <;> rfl
      -- in place
      have inS : ∀ (cap' : Option Nat), sz' = sz → off + l * sz ≤ cs.length → l + n ≤ c' → (∀ c'', cap' = some c'' → c' = c'') →
          ∃ vc w' K', (Builtin.append_ #[t, u] ty #[xv, yv]).run P w = .ok vc w' ∧ K.le K' ∧ Rel K' ((σ.kill b).push (.cells (seg cs off (l * sz) ++ new))) w' ∧ VR K' (.sl σ.n 0 (l + n) cap' sz) vc := by
        intro cap' hs hl hle2 hcap'
        subst hs
        rcases h3 with ⟨bs, room, rfl, hμ, hroom⟩ | ⟨h0, hc0⟩
        · have hmul : (l + n) * sz' ≤ c' * sz' := Nat.mul_le_mul_right _ hle2
          rw [Nat.add_mul] at hmul
          obtain ⟨σ2, w', hst, hrel, hn2, hg⟩ := Rel.stores (P := P) hμ new news 0 (off + l * sz') σ w cs hr hcs (by omega) (by omega) hvrN hone
          simp only [Nat.add_zero] at hg
          have hf := hr.fresh σ.n (Nat.le_refl _)
          have hblt : b < σ.n := by
            rcases Nat.lt_or_ge b σ.n with h' | h'
            · exact h'
            · rw [hr.fresh b h'] at hμ; cases hμ
          have hgetS : ∀ (as cs : List AV) (i j : Nat), i ≤ cs.length → (sets cs i as)[j]? = if i ≤ j ∧ j < i + as.length then as[j - i]? else cs[j]? := by
            intro as
            induction as with
            | nil => intro cs i j _; simp only [sets, List.length_nil]; rw [if_neg (by omega)]
            | cons a as ih =>
              intro cs i j hi
              simp only [sets, List.length_cons]
              rw [ih _ _ _ (by rw [setx_length hi]; omega), setx_get hi]
              by_cases h1 : j = i
              · subst h1; rw [if_neg (by omega), if_pos rfl, if_pos (by omega)]; simp
              · by_cases h2 : i ≤ j ∧ j < i + (as.length + 1)
                · rw [if_pos (by omega), if_pos h2]
                  have : j - i = (j - (i + 1)) + 1 := by omega
                  rw [this]; simp
                · rw [if_neg (by omega), if_neg h1, if_neg h2]
          generalize hcs2 : sets cs (off + l * sz') new = cs2 at hg
          have hcs2len : off + l * sz' + new.length ≤ cs2.length := by
            rcases Nat.eq_zero_or_pos new.length with h0 | h0
            · have : new = [] := List.eq_nil_of_length_eq_zero h0
              subst this; subst hcs2; simpa [sets] using hl
            · have := hgetS new cs (off + l * sz') (off + l * sz' + new.length - 1) hl
              rw [if_pos (by omega), hcs2] at this
              have h2 : new[off + l * sz' + new.length - 1 - (off + l * sz')]? = some (new[off + l * sz' + new.length - 1 - (off + l * sz')]'(by omega)) := List.getElem?_eq_getElem _
              rw [h2] at this
              have := (List.getElem?_eq_some_iff.1 this).1
              omega
          have hg2 : σ2.h.get b = some (.cells cs2) := by rw [hg, if_pos rfl]
          have hcsn : ∀ j, j < (seg cs off (l * sz') ++ new).length → (seg cs off (l * sz') ++ new)[j]? = cs2[off + j]? := by
            intro j hj
            have hsl : (seg cs off (l * sz')).length = l * sz' := by simp [seg]; omega
            rw [← hcs2, hgetS new cs _ _ hl]
            by_cases h1 : j < l * sz'
            · rw [List.getElem?_append_left (by omega), if_neg (by omega)]
              simp only [seg, List.getElem?_take, h1, if_true, List.getElem?_drop]
            · rw [List.getElem?_append_right (by omega), if_pos (by rw [List.length_append] at hj; omega), hsl]
              congr 1; omega
          -- the block under its new number
          have hle' : K.le (K.bind σ.n (blk, bs + off, room)) := Know.le_bind hf
          refine ⟨.slice (some ⟨blk, bs + off, none⟩) (l + n) c', w', K.bind σ.n (blk, bs + off, room), ?_, hle', ?_, ?_⟩
          · rw [hpv, run_append_in (P := P) hel hu hud hsz ty hlenY hrunN hle2]
            simp only [Addr.add_none]
            rw [show bs + off + l * sz' = bs + (off + l * sz') by omega, hst]
            rfl
          · have hμ' : ∀ b' x, (K.bind σ.n (blk, bs + off, room)).μ b' = some x → (b' = σ.n ∧ x = (blk, bs + off, room)) ∨ (b' ≠ σ.n ∧ K.μ b' = some x) := by
              intro b' x e
              simp only [Know.bind] at e
              split at e
              · rename_i hb'; injection e with e; exact .inl ⟨hb', e.symm⟩
              · rename_i hb'; exact .inr ⟨hb', e⟩
            have hget : ∀ b' ob, ((σ.kill b).push (.cells (seg cs off (l * sz') ++ new))).h.get b' = some ob → (b' = σ.n ∧ ob = .cells (seg cs off (l * sz') ++ new)) ∨ (b' ≠ σ.n ∧ b' ≠ b ∧ σ2.h.get b' = some ob) := by
              intro b' ob e
              simp only [AState.push, AState.kill, Tr.get_set] at e
              split at e
              · rename_i hb'; injection e with e; exact .inl ⟨hb', e.symm⟩
              · rename_i hb'
                split at e
                · cases e
                · rename_i hb''; exact .inr ⟨hb', hb'', by rw [hg, if_neg hb'']; exact e⟩
            obtain ⟨arr, T, lo, hi2, hh, hfz, hsz2, hcr, hlen2, hfx⟩ := hrel.cells b _ hg2 _ hμ
            simp only at hh hsz2 hcr hlen2 hfx
            refine ⟨fun b' cs' e x hx' => ?_, fun b' s p e x hx' => ?_, fun b1 b2 x1 x2 hne e1 e2 hx1 hx2 => ?_, fun k ob e => hrel.fix k ob e, fun b' x hx' => ?_, fun b' hb' => ?_, fun b' hb' => ?_, hrel.os, hrel.tape, hrel.output⟩
            · rcases hget b' _ e with ⟨rfl, e'⟩ | ⟨h1, h2, e'⟩
              · injection e' with e'; subst e'
                rcases hμ' _ x hx' with ⟨_, rfl⟩ | ⟨h1, _⟩
                · refine ⟨arr, T, lo, hi2, hh, hfz, hsz2, fun j hj => ?_, ?_, hfx⟩
                  · have hjj := hcsn j hj
                    rw [List.getElem?_eq_getElem hj] at hjj
                    have hj' : off + j < cs2.length := (List.getElem?_eq_some_iff.1 hjj.symm).1
                    obtain ⟨v, e1, r1⟩ := hcr (off + j) hj'
                    refine ⟨v, by rw [← e1]; congr 1; simp only; omega, ?_⟩
                    rw [List.getElem?_eq_getElem hj'] at hjj
                    injection hjj with hjj
                    rw [hjj]; exact r1.mono hle'
                  · have hsl : (seg cs off (l * sz')).length = l * sz' := by simp [seg]; omega
                    simp only [List.length_append, hsl]; omega
                · exact absurd rfl h1
              · rcases hμ' _ x hx' with ⟨h1', _⟩ | ⟨_, hx''⟩
                · exact absurd h1' h1
                · obtain ⟨arr', T', lo', hi', g1, g2, g3, g4, g5, g6⟩ := hrel.cells b' cs' e' x hx''
                  exact ⟨arr', T', lo', hi', g1, g2, g3, g4.mono hle', g5, g6⟩
            · rcases hget b' _ e with ⟨rfl, e'⟩ | ⟨h1, h2, e'⟩
              · cases e'
              · rcases hμ' _ x hx' with ⟨h1', _⟩ | ⟨_, hx''⟩
                · exact absurd h1' h1
                · exact hrel.iters b' s p e' x hx''
            · obtain ⟨o1, ho1⟩ := Option.isSome_iff_exists.1 e1
              obtain ⟨o2, ho2⟩ := Option.isSome_iff_exists.1 e2
              rcases hget b1 _ ho1 with ⟨rfl, _⟩ | ⟨h1, h2, e1'⟩ <;> rcases hget b2 _ ho2 with ⟨rfl, _⟩ | ⟨h1', h2', e2'⟩
              · exact absurd rfl hne
              · rcases hμ' _ x1 hx1 with ⟨_, rfl⟩ | ⟨q, _⟩
                · rcases hμ' _ x2 hx2 with ⟨q, _⟩ | ⟨_, hx2'⟩
                  · exact absurd q h1'
                  · have := hrel.apart b b2 (blk, bs, room) x2 (fun e => h2' e.symm) (by rw [hg2]; rfl) (by rw [e2']; rfl) hμ hx2'
                    simpa using this
                · exact absurd rfl q
              · rcases hμ' _ x2 hx2 with ⟨_, rfl⟩ | ⟨q, _⟩
                · rcases hμ' _ x1 hx1 with ⟨q, _⟩ | ⟨_, hx1'⟩
                  · exact absurd q h1
                  · have := hrel.apart b1 b x1 (blk, bs, room) h2 (by rw [e1']; rfl) (by rw [hg2]; rfl) hx1' hμ
                    simpa using this
                · exact absurd rfl q
              · rcases hμ' _ x1 hx1 with ⟨q, _⟩ | ⟨_, hx1'⟩
                · exact absurd q h1
                · rcases hμ' _ x2 hx2 with ⟨q, _⟩ | ⟨_, hx2'⟩
                  · exact absurd q h1'
                  · exact hrel.apart b1 b2 x1 x2 hne (by rw [e1']; rfl) (by rw [e2']; rfl) hx1' hx2'
            · rcases hμ' _ x hx' with ⟨_, rfl⟩ | ⟨_, hx''⟩
              · have := hrel.old b _ hμ; exact this
              · exact hrel.old b' x hx''
            · have hb2 : b' ≠ σ.n := by simp only [AState.push, AState.kill] at hb'; omega
              simp only [Know.bind, hb2, if_false]
              exact hr.fresh b' (by simp only [AState.push, AState.kill] at hb'; omega)
            · have h1 := hr.res b' hb'
              have hb2 : b' ≠ σ.n := by have := h1.2; omega
              simp only [Know.bind, hb2, if_false]
              exact ⟨h1.1, by have := h1.2; simp only [AState.push, AState.kill]; omega⟩
          · have := VR.sl (K := K.bind σ.n (blk, bs + off, room)) σ.n 0 (l + n) c' cap' sz' blk (bs + off) room (by simp [Know.bind]) hcap' hle2 (by omega)
            simpa using this
        · -- an empty one without room: nothing is added
          have hn0 : n = 0 := by omega
          subst hn0; subst h0; subst hc0
          have hnn : news = [] := by
            have := hvrN.1
            simp only [Nat.zero_mul] at hnl
            exact List.eq_nil_of_length_eq_zero (by omega)
          have hnn2 : new = [] := List.eq_nil_of_length_eq_zero (by omega)
          refine ⟨.slice (some ⟨blk, o, none⟩) 0 0, w, K, ?_, Know.le.refl K, (hr.kill b).grow _, ?_⟩
          · rw [hpv, run_append_in (P := P) hel hu hud hsz ty hlenY hrunN (by omega), hnn]
            simp [storeCells]
          · exact .sl0 σ.n 0 cap' sz' blk o (fun c'' e => hcap' c'' e)
      cases hc1 : Nat.beq sz' sz && Nat.ble (off + l * sz) cs.length with
      | true =>
        rw [hc1] at h
        simp only [cond_true] at h
        simp only [Bool.and_eq_true] at hc1
        have hs := Nat.eq_of_beq_eq_true hc1.1
        have hl := Nat.le_of_ble_eq_true hc1.2
        split at h
        · rename_i c
          have hcc := hcap c rfl
          cases hle3 : Nat.ble (l + n) c with
          | true =>
            rw [hle3] at h
            simp only [cond_true, Option.some.injEq, Prod.mk.injEq] at h
            obtain ⟨rfl, rfl⟩ := h
            exact inS (some c) hs hl (by have := Nat.le_of_ble_eq_true hle3; omega) hcap
          | false =>
            rw [hle3] at h
            simp only [cond_false, Option.some.injEq, Prod.mk.injEq] at h
            obtain ⟨rfl, rfl⟩ := h
            have hgt : c' < l + n := by
              rcases Nat.lt_or_ge c' (l + n) with h' | h'
              · exact h'
              · have := Nat.ble_eq_true_of_le (show l + n ≤ c by omega); rw [this] at hle3; cases hle3
            exact outS _ σ hs hl rfl hgt (.inl rfl)
        · simp only [Option.some.injEq, Prod.mk.injEq] at h
          obtain ⟨rfl, rfl⟩ := h
          by_cases hle3 : l + n ≤ c'
          · exact inS none hs hl hle3 (fun c'' e => by cases e)
          · exact outS _ (σ.kill b) hs hl rfl (by omega) (.inr rfl)
      | false => rw [hc1] at h; cases h
    · cases h
end

theorem run_appendZ {t u e : TypeId} {i : TypeInfo} {sz : Nat} {k : IntKind} {w : World} (hel : elemT P t = some e) (hu : P.underlying u = some (.int k)) (hsz : sizeT P e = some sz) (hi : P.info? e = some i)
    {zv : Value} (hzv : i.zero = some zv) (hb : i.bytes ≠ 0) (ty : TypeId) {n : Nat} (hn0 : 1 ≤ n) (hsz0 : sz ≠ 0) (hn : (n : Int) < 4611686018427387904) (hfit : 2 * n * i.bytes ≤ 140737488355328) :
    (Builtin.append_ #[t, u] ty #[.slice none 0 0, .int .i64 n]).run P w =
      .ok (.slice (some ⟨w.heap.size, 0, none⟩) n (grownCap w n 0 e))
        (w.drew.alloc (.cells (#[] ++ Builtin.zeroCells zv.cells n ++ Builtin.zeroCells zv.cells (grownCap w n 0 e - n)) e)) := by
  have hz' : (do pure ((← underlying u) matches .int _) : Sem Bool).run P w = .ok true w := by
    simp only [Sem.run_bind, run_underT hu, Result.andThen_ok, Sem.run_pure]
  simp only [Sem.run_bind, run_underT hu, Result.andThen_ok, Sem.run_pure, Result.ok.injEq, and_true] at hz'
  have hw := wrap_small (n := n) (by omega) hn
  have hng : ¬ (n = 0) := by omega
  have hneg : ¬ ((n : Int) < 0) := by omega
  have hbig : ¬ (281474976710656 < (n : Int) * i.bytes) := by
    have : (n : Int) * i.bytes = ((n * i.bytes : Nat) : Int) := by simp
    rw [this]
    have : 2 * n * i.bytes = 2 * (n * i.bytes) := Nat.mul_assoc _ _ _
    omega
  have hmax : ¬ (9223372036854775807 < (n : Int)) := by omega
  have hle0 : ¬ ((n : Int) ≤ 0) := by omega
  have hnn : ¬ (n * sz = 0) := by simp only [Nat.mul_eq_zero]; omega
  have h48 : ¬ (281474976710656 < Builtin.nextslicecap n 0 * i.bytes) := by
    have h1 := nextslicecap_le (need := n) (old := 0) (by omega)
    have := Nat.mul_le_mul_right i.bytes h1
    omega
  simp [Builtin.append_, run_underT (elemT_some hel), run_underT hu, run_sizeT hsz, run_infoT hi, zeroValue, hzv, Result.andThen, hz', hw, hng, hneg, hbig, hmax, hle0, hnn, h48, hb, Question.forced, newRow, grownCap, asInt, asIntOf, Builtin.firstCells, hsz0]

theorem appendZ_ok {σ : AState} {K : Know} {w : World} (hr : Rel K σ w) {sz bytes : Nat} {z : List AV} {n : Int} {xv yv : Value} (hx : VR K .nils xv) (hy : VR K (.int .i64 n) yv)
    (h1 : 1 ≤ n) (h2 : n < 4611686018427387904) (h3 : 2 * n * bytes ≤ 140737488355328)
    {t u e : TypeId} {k : IntKind} (hel : elemT P t = some e) (hu : P.underlying u = some (.int k)) (hsz : sizeT P e = some sz) (hby : bytesT P e = some bytes) (hz : zeroT P e = some z) (hzl : z.length = sz)
    (hsz0 : sz ≠ 0) (hb0 : bytes ≠ 0) (ty : TypeId) :
    ∃ vc w' K', (Builtin.append_ #[t, u] ty #[xv, yv]).run P w = .ok vc w' ∧ K.le K' ∧ Rel K' (σ.push (.cells (rowOf z n.toNat))) w' ∧ VR K' (.sl σ.n 0 n.toNat none sz) vc := by
  obtain ⟨i, hi⟩ : ∃ i, P.info? e = some i := by
    unfold sizeT at hsz
    cases hi : P.info? e with
    | none => rw [hi] at hsz; cases hsz
    | some i => exact ⟨i, rfl⟩
  have hib : i.bytes = bytes := by simpa [bytesT, hi] using hby
  obtain ⟨zv, hzv, hzr⟩ : ∃ zv, i.zero = some zv ∧ VRL K z zv.cells.toList := by
    obtain ⟨v, hrun, hvr⟩ := run_zeroT (K := K) hz w
    have h := hrun
    simp only [zeroValue, Sem.run_bind, run_infoT hi] at h
    unfold zeroT at hz
    rw [hi] at hz
    simp only [Option.bind_some, Option.map_eq_some_iff] at hz
    obtain ⟨zv, h1, h2⟩ := hz
    refine ⟨zv, h1, ?_⟩
    simp only [h1, Sem.run_bind, run_infoT hi, Result.andThen, Sem.run_pure, Result.ok.injEq] at h
    first | (obtain ⟨rfl, _⟩ := h; exact hvr) | simpa using hvr
  have hzs : zv.cells.size = sz := by have := hzr.1; simp only [Array.length_toList] at this; omega
  have hxn := hx.inv_nils
  have hyn := hy.inv_int
  subst hxn hyn
  obtain ⟨m, rfl⟩ : ∃ m : Nat, n = m := ⟨n.toNat, by omega⟩
  simp only [Int.toNat_natCast]
  have hfit' : 2 * m * i.bytes ≤ 140737488355328 := by
    rw [hib]
    have : (2 * (m : Int) * bytes) = ((2 * m * bytes : Nat) : Int) := by simp
    omega
  have hrun := run_appendZ (P := P) (w := w) hel hu hsz hi hzv (by omega) ty (n := m) (by omega) hsz0 h2 hfit'
  have hrd : Rel K σ w.drew := hr.congr rfl rfl rfl rfl
  have hgc := grownCap_ge w m 0 e
  have hrow : VRL K (rowOf z m) (Builtin.zeroCells zv.cells m).toList := by
    have := rowOf_ok hzr (by omega) m
    rw [hzl, ← hzs] at this
    exact this
  have hsize : (#[] ++ Builtin.zeroCells zv.cells m ++ Builtin.zeroCells zv.cells (grownCap w m 0 e - m)).size = grownCap w m 0 e * sz := by
    simp only [Array.size_append, Array.size_empty, zeroCells_size, hzs, Nat.zero_add, ← Nat.add_mul]
    congr 1; omega
  have hcr : CR K (rowOf z m) (#[] ++ Builtin.zeroCells zv.cells m ++ Builtin.zeroCells zv.cells (grownCap w m 0 e - m)) 0 := by
    have := CR.of_list hrow (Builtin.zeroCells zv.cells (grownCap w m 0 e - m))
    simpa using this
  obtain ⟨hle, hrel⟩ := hrd.alloc (w' := w.drew.alloc (.cells (#[] ++ Builtin.zeroCells zv.cells m ++ Builtin.zeroCells zv.cells (grownCap w m 0 e - m)) e)) (cs := rowOf z m)
    rfl rfl rfl rfl (.inr rfl) hcr (by rw [hsize, rowOf_length, hzl]; exact Nat.mul_le_mul_right _ hgc)
  refine ⟨_, _, _, hrun, hle, hrel, ?_⟩
  exact VR.sl (K := K.bind σ.n (w.drew.heap.size, 0, (#[] ++ Builtin.zeroCells zv.cells m ++ Builtin.zeroCells zv.cells (grownCap w m 0 e - m)).size)) σ.n 0 m (grownCap w m 0 e) none sz w.heap.size 0 _
    (by simp only [Know.bind, if_true]; rfl) (fun c' e => by cases e) hgc (by rw [hsize]; omega)
end Go.Proofs.Ythojhpjjkfjeiaa.Va
