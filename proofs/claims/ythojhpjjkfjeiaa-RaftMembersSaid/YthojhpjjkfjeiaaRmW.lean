/- RaftMembers, where a computation has said what is to be seen of it. Conditions: none. -/
import Derived.Test.YthojhpjjkfjeiaaMA
set_option maxRecDepth 100000
set_option maxHeartbeats 400000
set_option linter.all false
namespace Go.Proofs.Ythojhpjjkfjeiaa.Va
open Go.Proofs
/- A walk goes on with what is asked of the registers alone. -/
theorem d_env {P : Program} {N : Nat} {a : ACode} {Q : AExit → Env → AState → Prop} {ρ : Env} {σ : AState} (F : Env → Prop) (h : F ρ) (k : ∀ ρ', F ρ' → DSim P N a Q ρ' σ) : DSim P N a Q ρ σ := k ρ h
theorem callD.grpv {P : Program} {f : FuncId} {args : List AV} {a : AV} {σ : AState} {own : Nat → Nat} {bg : Nat} {g : Grp} {bs : Nat → Nat} {K : AV → AState → Prop} (h : callD P f args σ fun v s => v = a ∧ ∃ own' A' Rs', NowG σ own bg own' g A' bs Rs' s) (k : ∀ s own' A' Rs', NowG σ own bg own' g A' bs Rs' s → K a s) : callD P f args σ K :=
  h.mono fun v s e => by
    obtain ⟨rfl, own', A', Rs', n⟩ := e
    exact k s own' A' Rs' n
theorem raftMembers_ac {dat : Int} {l : List Int} {S : Nat → Nat → Grp → List Int → Prop} (H : ∀ c, c ≤ 3 → MemOk c (S c)) : callD Try.prog 4 [.psl (ofInts l) 0 l.length, .int .i64 dat] st0 fun v _ => v = .bool true := by
  generalize st0 = σ0
  obtain ⟨hw0, hw1⟩ := wi_range dat (n := 4) (by decide)
  obtain ⟨c, hc⟩ : ∃ c : Nat, (c : Int) = wi dat 4 := ⟨(wi dat 4).toNat, by omega⟩
  have hc3 : c ≤ 3 := by omega
  have O := H c hc3
  clear H
  generalize S c = S at O
  refine cd_s fn4 cf4 cl4 rfl ?_
  simp only [ac4]
  unfold ab4
  refine z_mid (fun ρ s => s = σ0 ∧ ρ.rd 0 = .psl (ofInts l) 0 l.length ∧ ρ.rd 1 = .int .i64 dat) ?_ ?_
  · simp only [XU, seval]
  rintro ρ s ⟨hs, h0, h1⟩
  rw [hs]
  clear hs
  refine z_mid (fun ρ s => s = σ0 ∧ ρ.rd 0 = .psl (ofInts l) 0 l.length ∧ ρ.rd 1 = .int .i64 dat) ?_ ?_
  · simp only [XU, seval, h0, h1]
    refine known_d.use ?_
    simp only [XU, seval, h0, h1]
  clear h0 h1
  rintro ρ s ⟨hs, h0, h1⟩
  rw [hs]
  clear hs
  refine z_mid (fun ρ s => ρ.rd 0 = .psl (ofInts l) 0 l.length ∧ ρ.rd 1 = .int .i64 dat ∧ ∃ σ bg own' A bs Rs, ρ.rd 5 = .ptr bg 0 ∧ NowG σ (fun _ => 0) bg own' grpM A bs Rs s) ?_ ?_
  · simp only [XU, seval, h0, h1]
    have hN : ∀ σ, callD Try.prog 9 [.int .i64 5, .psl (ofInts [0, 1, 2]) 0 3] σ fun v s => v = .ptr σ.n 0 ∧ ∃ own' A bs Rs, NowG σ (fun _ => 0) σ.n own' grpM A bs Rs s := fun σ => newGroup_ac (N := 5) (by decide) (mem := [0, 1, 2]) (by decide +kernel)
    generalize hσ : σ0.push (ABlk.cells [AV.int IntKind.i64 0, AV.int IntKind.i64 1, AV.int IntKind.i64 2]) = σ1
    have hcb : σ1.cells σ0.n = some [AV.int IntKind.i64 0, AV.int IntKind.i64 1, AV.int IntKind.i64 2] := by rw [← hσ]; exact push_cells _ _
    refine callD.fza (pre := [.int .i64 5]) hcb (Nat.le_refl _) ?_
    generalize σ1.kill σ0.n = σ2
    refine (hN σ2).mono fun v s2 hv => ?_
    have hv1 := hv.1
    have hv2 := hv.2
    clear hv
    rw [hv1]
    simp only [XU, seval, h0, h1]
    obtain ⟨own1, A1, bs, Rs, n1⟩ := hv2
    exact ⟨_, _, _, _, _, _, rfl, n1⟩
  clear h0 h1
  rintro ρ s ⟨h0, h1, σ, bg, own1, A1, bs, Rs1, h5, n0'⟩
  have hsm0 : grpM.Sm := grpNew_sm 5 _
  refine z_mid (fun ρ s => ρ.rd 0 = .psl (ofInts l) 0 l.length ∧ ρ.rd 1 = .int .i64 dat ∧ ρ.rd 5 = .ptr bg 0 ∧ ∃ own' A Rs, NowG σ (fun _ => 0) bg own' (grpM.rounds 100) A bs Rs s) ?_ ?_
  · have hq : evalEq .ptr (.ptr bg 0) .nilp = some false := rfl
    simp only [XU, seval, h0, h1, h5, hq]
    refine (rounds_ac n0'.co hsm0 (N := 100) (by decide) O.r1 O.p1).grp fun s2 own2 A2 Rs2 n2 => ?_
    simp only [XU, seval, h0, h1, h5]
    exact ⟨_, _, _, n0'.call n2⟩
  clear h0 h1 h5 n0'
  rintro ρ s ⟨h0, h1, h5, own1, A1, Rs1, n0⟩
  refine z_frz (fun ρ s => ρ.rd 0 = .psl (ofInts l) 0 l.length ∧ ρ.rd 1 = .int .i64 dat ∧ ρ.rd 5 = .ptr bg 0 ∧ ρ.rd 6 = intsP [0, 1, 2] ∧ ∃ own' A Rs, NowG σ (fun _ => 0) bg own' (grpM.rounds 100) A bs Rs s) ?_ ?_
  · have n1 := n0.loc_.push [.int .i64 0, .int .i64 1, .int .i64 2]
    have hσ := n0.tr.n
    simp only [XU, seval, h0, h1, h5]
    refine Frz.reg (t := 6) (b := s.n) (off := 0) (n := 3) (sz := 1) (cap := some 3) (cs := [.int .i64 0, .int .i64 1, .int .i64 2]) (push_cells _ _) (by simp only [XU, seval]) (Nat.le_refl _) ?_
    simp only [XU, seval, h0, h1, h5]
    exact ⟨rfl, _, _, ⟨_, n1.kill_ hσ (loc_ge (Nat.le_refl _))⟩⟩
  clear h0 h1 h5 n0
  rintro ρ s ⟨h0, h1, h5, h6, own1, A1, Rs1, n0⟩
  have hsm1 := hsm0.rounds 100
  have hS0 := O.s0
  generalize grpM.rounds 100 = g0 at *
  clear hsm0
  refine z_wp ?_
  rw [wpX_seq]
  refine x_mid (fun ρ s => True) ?_ ?_
  rotate_left
  · rintro ρ s _
    simp only [XU, seval]
  simp only [XU, seval, h0, h1, h5, h6]
  obtain ⟨m, hm⟩ : ∃ m, m = min l.length 4 := ⟨_, rfl⟩
  refine x_for (fun i ρ s => ρ.rd 0 = .psl (ofInts l) 0 l.length ∧ ρ.rd 1 = .int .i64 dat ∧ ρ.rd 5 = .ptr bg 0 ∧ ρ.rd 7 = .int .i64 (i : Int) ∧ ∃ now g own' A Rs, ρ.rd 6 = intsP now ∧ NowG σ (fun _ => 0) bg own' g A bs Rs s ∧ g.Sm ∧ S i g now) m ?_ ?_
  · simp only [XU, seval, h0, h1, h5, h6]
    exact ⟨[0, 1, 2], g0, _, _, _, rfl, n0, hsm1, hS0⟩
  clear h0 h1 h5 h6 n0 hsm1 hS0
  rintro i ρ s hi ⟨h0, h1, h5, h7, now, g, own1, A1, Rs1, h6, n0, hsm, hS⟩
  unfold intsP at h6
  by_cases hlt : i < m
  rotate_left
  · by_cases g4 : l.length ≤ 4
    · have hge : ¬ (i : Int) < (l.length : Int) := by omega
      simp only [XU, seval, h0, h1, h5, h6, h7, hge]
    · have hge : (i : Int) < (l.length : Int) := by omega
      have hge2 : ¬ (i : Int) < 4 := by omega
      simp only [XU, seval, h0, h1, h5, h6, h7, hge, hge2]
  have gi1 : (i : Int) < (l.length : Int) := by omega
  have gi2 : (i : Int) < 4 := by omega
  have hi4 : i < 4 := by omega
  have wsi : IntKind.i64.wrap ((i : Int) + 1) = ((i + 1 : Nat) : Int) := wrapSucc (by omega)
  have hxi : (0 : Int) ≤ (i : Int) ∧ (i : Int) < (l.length : Int) := by omega
  have hli : i < l.length := by omega
  have hgi := ints_get hli
  have P := O.sp i g now hi4 hS
  have hM := O.sm i g now hi4 hS
  have hC := O.sc i g now hi4 hS
  have hT := fun x => O.st i g now x hi4 hS
  clear hS O
  rw [wpX_seq]
  refine x_mid (fun ρ s' => s' = s ∧ ρ.rd 0 = .psl (ofInts l) 0 l.length ∧ ρ.rd 1 = .int .i64 dat ∧ ρ.rd 5 = .ptr bg 0 ∧ ρ.rd 7 = .int .i64 (i : Int) ∧ ρ.rd 6 = .psl (ofInts now) 0 now.length) ?_ ?_
  · simp only [XU, seval, h0, h1, h5, h6, h7, gi1, gi2]
  clear h0 h1 h5 h6 h7
  rintro ρ s' ⟨hs, h0, h1, h5, h7, h6⟩
  rw [hs]
  clear hs
  rw [wpX_seq]
  rw [wpX_block]
  rw [wpX_seq]
  refine x_mid (fun ρ s' => s' = s ∧ ρ.rd 0 = .psl (ofInts l) 0 l.length ∧ ρ.rd 1 = .int .i64 dat ∧ ρ.rd 5 = .ptr bg 0 ∧ ρ.rd 7 = .int .i64 (i : Int) ∧ ρ.rd 6 = .psl (ofInts now) 0 now.length ∧ ρ.rd 8 = .int .i64 0) ?_ ?_
  · have hg0 := P.n5
    simp only [XU, seval, h0, h1, h5, h6, h7]
    refine (leader_ac n0.co (k := 0) (by omega) fun i hi => P.ld i (by omega)).use ?_
    simp only [XU, seval, h0, h1, h5, h6, h7]
  clear h0 h1 h5 h6 h7
  rintro ρ s' ⟨hs, h0, h1, h5, h7, h6, h8⟩
  rw [hs]
  clear hs
  rw [wpX_seq]
  refine x_mid (fun ρ s' => s' = s ∧ ρ.rd 0 = .psl (ofInts l) 0 l.length ∧ ρ.rd 1 = .int .i64 dat ∧ ρ.rd 5 = .ptr bg 0 ∧ ρ.rd 7 = .int .i64 (i : Int) ∧ ρ.rd 6 = .psl (ofInts now) 0 now.length ∧ ρ.rd 8 = .int .i64 0) ?_ ?_
  · simp only [XU, seval, h0, h1, h5, h6, h7, h8]
  clear h0 h1 h5 h6 h7 h8
  rintro ρ s' ⟨hs, h0, h1, h5, h7, h6, h8⟩
  rw [hs]
  clear hs
  rw [wpX_seq]
  refine x_mid (fun ρ s => ρ.rd 0 = .psl (ofInts l) 0 l.length ∧ ρ.rd 1 = .int .i64 dat ∧ ρ.rd 5 = .ptr bg 0 ∧ ρ.rd 7 = .int .i64 (i : Int) ∧ ρ.rd 6 = .psl (ofInts now) 0 now.length ∧ ρ.rd 8 = .int .i64 0 ∧ ∃ own' A Rs, NowG σ (fun _ => 0) bg own' (g.rdM c) A bs Rs s) ?_ ?_
  · simp only [XU, seval, h0, h1, h5, h6, h7, h8]
    refine x_for (fun j ρ s => ρ.rd 0 = .psl (ofInts l) 0 l.length ∧ ρ.rd 1 = .int .i64 dat ∧ ρ.rd 5 = .ptr bg 0 ∧ ρ.rd 7 = .int .i64 (i : Int) ∧ ρ.rd 6 = .psl (ofInts now) 0 now.length ∧ ρ.rd 8 = .int .i64 0 ∧ ρ.rd 9 = .int .i64 (j : Int) ∧ ∃ own' A Rs, NowG σ (fun _ => 0) bg own' (g.prM (datM g.made) j) A bs Rs s) c ?_ ?_
    · simp only [XU, seval, h0, h1, h5, h6, h7, h8]
      exact ⟨_, _, _, n0⟩
    clear h0 h1 h5 h6 h7 h8 n0
    rintro j ρ s hj ⟨h0, h1, h5, h7, h6, h8, h9, own2, A2, Rs2, n0⟩
    have hW : ∀ s, callD Try.prog 8 [.int .i64 dat, .int .i64 4] s fun v s' => s' = s ∧ v = .int .i64 (c : Int) := fun s => by
      have := within19_ac (n := dat) (k := 4) (σ := s) (by decide) (by decide)
      rw [← hc] at this
      exact this
    by_cases hlj : j < c
    rotate_left
    · have e : j = c := by omega
      have hge : ¬ (j : Int) < (c : Int) := by omega
      rw [e] at n0
      simp only [XU, seval, h0, h1, h5, h6, h7, h8, h9]
      refine (hW _).use ?_
      simp only [XU, seval, h0, h1, h5, h6, h7, h8, h9, hge]
      exact ⟨_, _, _, n0⟩
    have gj : (j : Int) < (c : Int) := by omega
    have wj : IntKind.i64.wrap ((j : Int) + 1) = ((j + 1 : Nat) : Int) := wrapSucc (by omega)
    have hmd := prM_made g (datM g.made) j
    have hPm := P.md
    have hD := data_ac n0.co (by omega)
    have hde : dataM ((g.prM (datM g.made) j).made + 1) = datM g.made j := by rw [hmd]; rfl
    rw [hde] at hD
    have hPB := P.pb j hlj
    have hPP := P.pp j hlj
    have hSm := (hsm.prM (D := datM g.made) (fun i => by rw [datM_len]; decide) j).dat
    have hnx : g.prM (datM g.made) (j + 1) = (g.prM (datM g.made) j).dat.propG 0 (datM g.made j) := rfl
    have hdt : ({ g.prM (datM g.made) j with made := (g.prM (datM g.made) j).made + 1 } : Grp) = (g.prM (datM g.made) j).dat := rfl
    rw [hdt] at hD
    rw [hnx]
    have hdl : (datM g.made j).length ≤ 700 := by rw [datM_len]; decide
    generalize (g.prM (datM g.made) j).dat = f at *
    generalize datM g.made j = d at *
    simp only [XU, seval, h0, h1, h5, h6, h7, h8, h9]
    refine (hW _).use ?_
    simp only [XU, seval, h0, h1, h5, h6, h7, h8, h9, gj]
    refine hD.mono fun v s2 hv => ?_
    have hv1 := hv.1
    have hv2 := hv.2
    clear hv hD
    rw [hv1]
    apply Exists.elim hv2
    intro own3 n2
    have n3 := n0.call n2
    have hPr := prop_ac n3.co hSm hdl hPB hPP
    generalize ((f.core 0).last + 1) = L at *
    unfold bytesP at *
    simp only [XU, seval, h0, h1, h5, h6, h7, h8, h9]
    refine hPr.mono fun v s3 hv => ?_
    have hv3 := hv.1
    have hv4 := hv.2
    clear hv hPr
    rw [hv3]
    apply ex3 hv4
    intro own4 A4 Rs4 n4
    simp only [XU, seval, h0, h1, h5, h6, h7, h8, h9, wj]
    exact ⟨hlj, _, _, _, n3.call n4⟩
  clear h0 h1 h5 h6 h7 h8 n0
  rintro ρ s ⟨h0, h1, h5, h7, h6, h8, own2, A2, Rs2, n0⟩
  have hsm2 : (g.rdM c).Sm := hsm.prM (D := datM g.made) (fun i => by rw [datM_len]; decide) c
  rw [wpX_seq]
  refine x_mid (fun ρ s => ρ.rd 0 = .psl (ofInts l) 0 l.length ∧ ρ.rd 1 = .int .i64 dat ∧ ρ.rd 5 = .ptr bg 0 ∧ ρ.rd 7 = .int .i64 (i : Int) ∧ ρ.rd 6 = .psl (ofInts now) 0 now.length ∧ ρ.rd 8 = .int .i64 0 ∧ ∃ own' A Rs, NowG σ (fun _ => 0) bg own' ((g.rdM c).rounds 10) A bs Rs s) ?_ ?_
  · simp only [XU, seval, h0, h1, h5, h6, h7, h8]
    refine (rounds_ac n0.co hsm2 (N := 10) (by decide) P.r2 P.p2).grp fun s2 own3 A3 Rs3 n3 => ?_
    simp only [XU, seval, h0, h1, h5, h6, h7, h8]
    exact ⟨_, _, _, n0.call n3⟩
  clear h0 h1 h5 h6 h7 h8 n0
  rintro ρ s ⟨h0, h1, h5, h7, h6, h8, own3, A3, Rs3, n0⟩
  have hsm3 := hsm2.rounds 10
  clear hsm2 hsm P
  generalize (g.rdM c).rounds 10 = q at *
  obtain ⟨hx0, hx1⟩ := wi_range l[i] (n := 5) (by decide)
  obtain ⟨x, hx⟩ : ∃ x : Nat, (x : Int) = wi l[i] 5 := ⟨(wi l[i] 5).toNat, by omega⟩
  have hx5 : x < 5 := by omega
  have hW : ∀ s, callD Try.prog 8 [.int .i64 l[i], .int .i64 5] s fun v s' => s' = s ∧ v = .int .i64 (x : Int) := fun s => by
    have := within19_ac (n := l[i]) (k := 5) (σ := s) (by decide) (by decide)
    rw [← hx] at this
    exact this
  generalize l[i] = li at *
  rw [wpX_seq]
  refine x_mid (fun ρ s' => s' = s ∧ ρ.rd 0 = .psl (ofInts l) 0 l.length ∧ ρ.rd 1 = .int .i64 dat ∧ ρ.rd 5 = .ptr bg 0 ∧ ρ.rd 7 = .int .i64 (i : Int) ∧ ρ.rd 6 = .psl (ofInts now) 0 now.length ∧ ρ.rd 8 = .int .i64 0 ∧ ρ.rd 13 = .int .i64 (x : Int)) ?_ ?_
  · simp only [XU, seval, h0, h1, h5, h6, h7, h8, hxi, hgi]
    refine (hW _).use ?_
    simp only [XU, seval, h0, h1, h5, h6, h7, h8]
  clear h0 h1 h5 h6 h7 h8 hW hx hx0 hx1 hgi
  rintro ρ s' ⟨hs, h0, h1, h5, h7, h6, h8, h13⟩
  rw [hs]
  clear hs
  rw [wpX_seq]
  refine x_mid (fun ρ s' => s' = s ∧ ρ.rd 0 = .psl (ofInts l) 0 l.length ∧ ρ.rd 1 = .int .i64 dat ∧ ρ.rd 5 = .ptr bg 0 ∧ ρ.rd 7 = .int .i64 (i : Int) ∧ ρ.rd 6 = .psl (ofInts now) 0 now.length ∧ ρ.rd 8 = .int .i64 0 ∧ ρ.rd 13 = .int .i64 (x : Int) ∧ ρ.rd 14 = .nils) ?_ ?_
  · simp only [XU, seval, h0, h1, h5, h6, h7, h8, h13]
  clear h0 h1 h5 h6 h7 h8 h13
  rintro ρ s' ⟨hs, h0, h1, h5, h7, h6, h8, h13, h14⟩
  rw [hs]
  clear hs
  rw [wpX_seq]
  refine x_mid (fun ρ s' => s' = s ∧ ρ.rd 0 = .psl (ofInts l) 0 l.length ∧ ρ.rd 1 = .int .i64 dat ∧ ρ.rd 5 = .ptr bg 0 ∧ ρ.rd 7 = .int .i64 (i : Int) ∧ ρ.rd 6 = .psl (ofInts now) 0 now.length ∧ ρ.rd 8 = .int .i64 0 ∧ ρ.rd 13 = .int .i64 (x : Int) ∧ ρ.rd 14 = .nils ∧ ρ.rd 15 = .bool false) ?_ ?_
  · simp only [XU, seval, h0, h1, h5, h6, h7, h8, h13, h14]
  clear h0 h1 h5 h6 h7 h8 h13 h14
  rintro ρ s' ⟨hs, h0, h1, h5, h7, h6, h8, h13, h14, h15⟩
  rw [hs]
  clear hs
  rw [wpX_seq]
  refine x_mid (fun ρ s => ρ.rd 0 = .psl (ofInts l) 0 l.length ∧ ρ.rd 1 = .int .i64 dat ∧ ρ.rd 5 = .ptr bg 0 ∧ ρ.rd 7 = .int .i64 (i : Int) ∧ ρ.rd 6 = .psl (ofInts now) 0 now.length ∧ ρ.rd 8 = .int .i64 0 ∧ ρ.rd 13 = .int .i64 (x : Int) ∧ ρ.rd 15 = .bool (decide ((x : Int) ∈ now)) ∧ ∃ v own' A Rs, ρ.rd 14 = v ∧ (v = intsP (tog now x) ∨ v = .nils ∧ tog now x = []) ∧ NowG σ (fun _ => 0) bg own' q A bs Rs s) ?_ ?_
  · simp only [XU, seval, h0, h1, h5, h6, h7, h8, h13, h14, h15]
    refine DSim.frz ?_
    refine x_for (fun j ρ s => ρ.rd 0 = .psl (ofInts l) 0 l.length ∧ ρ.rd 1 = .int .i64 dat ∧ ρ.rd 5 = .ptr bg 0 ∧ ρ.rd 7 = .int .i64 (i : Int) ∧ ρ.rd 6 = .psl (ofInts now) 0 now.length ∧ ρ.rd 8 = .int .i64 0 ∧ ρ.rd 13 = .int .i64 (x : Int) ∧ ρ.rd 16 = .int .i64 (j : Int) ∧ ρ.rd 15 = .bool (decide (x < j) && decide ((x : Int) ∈ now)) ∧ ∃ v own', ρ.rd 14 = v ∧ ((togN now x j).length = 0 → v = .nils) ∧ NowG σ (fun _ => 0) bg own' q A3 bs Rs3 s ∧ RowP (fun k => σ.n ≤ k ∧ own' k = 1) s v (ofInts (togN now x j)) (togN now x j).length 1) 5 ?_ ?_
    · simp only [XU, seval, h0, h1, h5, h6, h7, h8, h13, h14, h15]
      exact ⟨rfl, _, _, rfl, fun _ => rfl, n0, RowP.nil _ _ _⟩
    clear h0 h1 h5 h6 h7 h8 h13 h14 h15 n0
    rintro j ρ s hj ⟨h0, h1, h5, h7, h6, h8, h13, h16, h15, v, own4, h14, hnil, n0, hrow⟩
    by_cases hlj : j < 5
    rotate_left
    · have e : j = 5 := by omega
      subst e
      have hge : ¬ ((5 : Nat) : Int) < 5 := by omega
      have h15' : (decide (x < 5) && decide ((x : Int) ∈ now)) = decide ((x : Int) ∈ now) := by rw [decide_eq_true hx5]; rfl
      rw [h15'] at h15
      have htg : togN now x 5 = tog now x := rfl
      rw [htg] at hrow hnil
      by_cases hz : (tog now x).length = 0
      · have ex := hnil hz
        rw [ex] at h14
        simp only [XU, seval, h0, h1, h5, h6, h7, h8, h13, h14, h15, h16, hge]
        refine Frz.now ?_
        simp only [XU, seval, h0, h1, h5, h6, h7, h8, h13, h14, h15, h16]
        exact ⟨_, _, _, _, rfl, .inr ⟨rfl, List.eq_nil_of_length_eq_zero hz⟩, n0⟩
      · obtain ⟨bx, cx, csx, hrx⟩ := hrow.some (by omega)
        have ex := hrx.eq
        rw [ex] at h14
        have n1 := n0.killr (b := bx) hrx.own.1 (by have := hrx.own.2; omega)
        have hsg := hrx.seg
        have hft := hrx.fit
        simp only [XU, seval, h0, h1, h5, h6, h7, h8, h13, h14, h15, h16, hge]
        refine Frz.reg (t := 14) (b := bx) (off := 0) (n := (tog now x).length) (sz := 1) (cap := cx) hrx.cells (by simp only [XU, seval, h14]) (by omega) ?_
        rw [← hsg]
        simp only [XU, seval, h0, h1, h5, h6, h7, h8, h13, h14, h15, h16]
        exact ⟨_, _, _, _, rfl, .inl rfl, n1⟩
    have gj : (j : Int) < 5 := by omega
    have wj : IntKind.i64.wrap ((j : Int) + 1) = ((j + 1 : Nat) : Int) := wrapSucc (by omega)
    have hnl := hM.1
    simp only [XU, seval, h0, h1, h5, h6, h7, h8, h13, h14, h15, h16, gj]
    refine x_for (fun p ρ s' => s' = s ∧ ρ.rd 0 = .psl (ofInts l) 0 l.length ∧ ρ.rd 1 = .int .i64 dat ∧ ρ.rd 5 = .ptr bg 0 ∧ ρ.rd 7 = .int .i64 (i : Int) ∧ ρ.rd 6 = .psl (ofInts now) 0 now.length ∧ ρ.rd 8 = .int .i64 0 ∧ ρ.rd 13 = .int .i64 (x : Int) ∧ ρ.rd 16 = .int .i64 (j : Int) ∧ ρ.rd 15 = .bool (decide (x < j) && decide ((x : Int) ∈ now)) ∧ ρ.rd 14 = v ∧ ρ.rd 17 = .bool (decide ((j : Int) ∈ now.take p)) ∧ ρ.rd 18 = .int .i64 (p : Int)) now.length ?_ ?_
    · simp only [XU, seval, h0, h1, h5, h6, h7, h8, h13, h14, h15, h16]
      rfl
    clear h0 h1 h5 h6 h7 h8 h13 h14 h15 h16
    rintro p ρ s' hp ⟨hs, h0, h1, h5, h7, h6, h8, h13, h16, h15, h14, h17, h18⟩
    rw [hs]
    clear hs
    by_cases hlp : p < now.length
    · have gp : (p : Int) < (now.length : Int) := by omega
      have hxp : (0 : Int) ≤ (p : Int) ∧ (p : Int) < (now.length : Int) := lt_idx hlp
      have wp : IntKind.i64.wrap ((p : Int) + 1) = ((p + 1 : Nat) : Int) := wrapSucc (by omega)
      have hgp := ints_get hlp
      have htk : now.take (p + 1) = now.take p ++ [now[p]] := by rw [List.take_add_one, List.getElem?_eq_getElem hlp]; rfl
      have hmem : decide ((j : Int) ∈ now.take (p + 1)) = (decide ((j : Int) ∈ now.take p) || decide (now[p] = (j : Int))) := by
        have hq : ((j : Int) ∈ now.take p ++ [now[p]]) ↔ ((j : Int) ∈ now.take p ∨ now[p] = (j : Int)) := by rw [List.mem_append, List.mem_singleton, eq_comm (a := (j : Int))]
        rw [htk, decide_eq_decide.2 hq]
        exact Bool.decide_or _ _
      rw [hmem]
      generalize decide ((j : Int) ∈ now.take p) = y at *
      generalize now[p] = np at *
      cases y with
      | true =>
        simp only [XU, seval, h0, h1, h5, h6, h7, h8, h13, h14, h15, h16, h17, h18, gp, wp]
        exact ⟨hlp, rfl⟩
      | false =>
        simp only [XU, seval, h0, h1, h5, h6, h7, h8, h13, h14, h15, h16, h17, h18, gp, hxp, hgp, wp]
        exact ⟨hlp, by rw [Bool.false_or]⟩
    have e : p = now.length := by omega
    have hge : ¬ (p : Int) < (now.length : Int) := by omega
    rw [e, List.take_length] at h17
    have hts := togN_succ now x j
    have hln := togN_len now x j
    have q1 : evalEq .bool (.bool true) (.bool true) = some true := rfl
    have q2 : evalEq .bool (.bool true) (.bool false) = some false := rfl
    have q3 : evalEq .bool (.bool false) (.bool true) = some false := rfl
    have q4 : evalEq .bool (.bool false) (.bool false) = some true := rfl
    have hap : ∀ {own' : Nat → Nat} {s9 : AState} {b9 : Nat} {c9 : Option Nat}, togN now x (j + 1) = togN now x j ++ [(j : Int)] → RowP (fun k => σ.n ≤ k ∧ own' k = 1) s9 (.sl b9 0 ((togN now x j).length + 1) c9 1) (ofInts (togN now x j) ++ [.int .i64 (j : Int)]) ((togN now x j).length + 1) 1 → RowP (fun k => σ.n ≤ k ∧ own' k = 1) s9 (.sl b9 0 ((togN now x j).length + 1) c9 1) (ofInts (togN now x (j + 1))) (togN now x (j + 1)).length 1 := by
      intro own' s9 b9 c9 e h
      have e2 : ofInts (togN now x j ++ [(j : Int)]) = ofInts (togN now x j) ++ [.int .i64 (j : Int)] := by unfold ofInts; rw [List.map_append]; rfl
      rw [e, e2, List.length_append]
      exact h
    by_cases hjx : j = x
    · subst hjx
      have hd : decide (j < j) = false := decide_eq_false (Nat.lt_irrefl _)
      have hd' : decide (j < j + 1) = true := decide_eq_true (Nat.lt_succ_self _)
      have hd2 : decide (j = j) = true := decide_eq_true rfl
      rw [hd, Bool.false_and] at h15
      rw [hd2] at hts
      rw [hd', Bool.true_and]
      generalize decide ((j : Int) ∈ now) = y at *
      cases y with
      | true =>
        rw [if_neg (by decide)] at hts
        rw [hts]
        simp only [XU, seval, h0, h1, h5, h6, h7, h8, h13, h14, h15, h16, h17, h18, hge, q1, wj]
        exact ⟨hlj, v, own4, rfl, fun e => hnil e, n0, hrow⟩
      | false =>
        rw [if_pos (by decide)] at hts
        obtain ⟨b9, c9, s9, happ, own9, hrow9, n9⟩ := n0.lapp8 (w := .int .i64 (j : Int)) hrow rfl (by omega)
        simp only [XU, seval, h0, h1, h5, h6, h7, h8, h13, h14, h15, h16, h17, h18, hge, q3, wj, happ]
        exact ⟨hlj, _, own9, rfl, fun e => absurd e (by rw [hts, List.length_append]; exact Nat.succ_ne_zero _), n9, hap hts hrow9⟩
    · have hd : decide (x < j + 1) = decide (x < j) := decide_eq_decide.2 (by omega)
      have hd2 : decide (j = x) = false := decide_eq_false hjx
      have hne : ¬ (j : Int) = (x : Int) := by omega
      rw [hd2] at hts
      rw [hd]
      generalize decide ((j : Int) ∈ now) = y at *
      cases y with
      | true =>
        rw [if_pos (by decide)] at hts
        obtain ⟨b9, c9, s9, happ, own9, hrow9, n9⟩ := n0.lapp8 (w := .int .i64 (j : Int)) hrow rfl (by omega)
        simp only [XU, seval, h0, h1, h5, h6, h7, h8, h13, h14, h15, h16, h17, h18, hge, hne, q2, wj, happ]
        exact ⟨hlj, _, own9, rfl, fun e => absurd e (by rw [hts, List.length_append]; exact Nat.succ_ne_zero _), n9, hap hts hrow9⟩
      | false =>
        rw [if_neg (by decide)] at hts
        rw [hts]
        simp only [XU, seval, h0, h1, h5, h6, h7, h8, h13, h14, h15, h16, h17, h18, hge, hne, q4, wj]
        exact ⟨hlj, v, own4, rfl, fun e => hnil e, n0, hrow⟩
  clear h0 h1 h5 h6 h7 h8 h13 h14 h15 n0
  rintro ρ s ⟨h0, h1, h5, h7, h6, h8, h13, h15, v, own4, A4, Rs4, h14, hv, n0⟩
  rcases (by omega : x = 0 ∨ 1 ≤ x) with hx0 | hx1
  · subst hx0
    have hin : decide (((0 : Nat) : Int) ∈ now) = true := decide_eq_true hM.2.1
    rw [hin] at h15
    rcases hv with ev | ⟨ev, _⟩
    · rw [ev] at h14
      unfold intsP at h14
      by_cases hz : ((tog now 0).length : Int) = 0
      · simp only [XU, seval, h0, h1, h5, h6, h7, h8, h13, h14, h15, hz, wsi]
        exact ⟨hlt, now, q, own4, A4, Rs4, rfl, n0, hsm3, hC⟩
      · simp only [XU, seval, h0, h1, h5, h6, h7, h8, h13, h14, h15, hz, wsi]
        exact ⟨hlt, now, q, own4, A4, Rs4, rfl, n0, hsm3, hC⟩
    · rw [ev] at h14
      simp only [XU, seval, h0, h1, h5, h6, h7, h8, h13, h14, h15, wsi]
      exact ⟨hlt, now, q, own4, A4, Rs4, rfl, n0, hsm3, hC⟩
  obtain ⟨K, hS'⟩ := hT x hx1 hx5
  have hTn := hM.2.2 x hx1 hx5
  have hTl : (tog now x).length ≤ 5 := togN_len now x 5
  have hTr : ∀ y ∈ tog now x, ∃ t : Nat, t < 5 ∧ y = (t : Int) := by
    intro y hy
    obtain ⟨t, ht, e⟩ := List.mem_map.1 hy
    exact ⟨t, List.mem_range.1 ((List.mem_filter.1 ht).1), e.symm⟩
  clear hT hC
  have ev : v = intsP (tog now x) := by
    rcases hv with ev | ⟨_, e⟩
    · exact ev
    · exact absurd e hTn
  rw [ev] at h14
  clear hv ev
  generalize tog now x = T at *
  have hTp : 0 < T.length := List.length_pos_iff.2 hTn
  have hz : ¬ (T.length : Int) = 0 := by omega
  have hxz : ¬ (x : Int) = 0 := by omega
  unfold intsP at h14
  rw [wpX_seq]
  refine x_mid (fun ρ s' => s' = s ∧ ρ.rd 0 = .psl (ofInts l) 0 l.length ∧ ρ.rd 1 = .int .i64 dat ∧ ρ.rd 5 = .ptr bg 0 ∧ ρ.rd 7 = .int .i64 (i : Int) ∧ ρ.rd 6 = .psl (ofInts now) 0 now.length ∧ ρ.rd 8 = .int .i64 0 ∧ ρ.rd 13 = .int .i64 (x : Int) ∧ ρ.rd 14 = .psl (ofInts T) 0 T.length) ?_ ?_
  · generalize decide ((x : Int) ∈ now) = y at *
    cases y with
    | true => simp only [XU, seval, h0, h1, h5, h6, h7, h8, h13, h14, h15, hz, hxz]
    | false => simp only [XU, seval, h0, h1, h5, h6, h7, h8, h13, h14, h15, hz, hxz]
  clear h0 h1 h5 h6 h7 h8 h13 h14 h15
  rintro ρ s' ⟨hs, h0, h1, h5, h7, h6, h8, h13, h14⟩
  rw [hs]
  clear hs
  rw [wpX_seq]
  refine x_mid (fun ρ s => ρ.rd 0 = .psl (ofInts l) 0 l.length ∧ ρ.rd 1 = .int .i64 dat ∧ ρ.rd 5 = .ptr bg 0 ∧ ρ.rd 7 = .int .i64 (i : Int) ∧ ρ.rd 6 = .psl (ofInts now) 0 now.length ∧ ρ.rd 8 = .int .i64 0 ∧ ρ.rd 13 = .int .i64 (x : Int) ∧ ρ.rd 14 = .psl (ofInts T) 0 T.length ∧ ρ.rd 20 = .int .i64 0 ∧ ∃ own' A Rs, NowG σ (fun _ => 0) bg own' (q.chM T) A bs Rs s) ?_ ?_
  · have hn := K.n5
    have cb := n0.co.cb
    obtain ⟨bp, cp, csp, eA, crp, cip, obp, lbp⟩ := n0.co.ptr (i := 0) (by omega)
    have hxq : (0 : Int) < (q.n : Int) := by omega
    have hCh := changeG_ac n0.co (by omega) hsm3 K.ok K.rl (l := T) (by omega)
    rw [K.ch] at hCh
    have hCh2 : callD Try.prog 18 [.ptr (bs 0) 0, .psl (ofInts T) 0 T.length] s fun v s' => v = .tup [.int .i64 (((q.core 0).last + 1 : Nat) : Int), .int .i64 0] ∧ ∃ own' A' Rs', NowG s own4 bg own' (q.chM T) A' bs Rs' s' := hCh
    clear hCh
    generalize q.chM T = q1 at *
    simp only [XU, seval, h0, h1, h5, h6, h7, h8, h13, h14, cb, GS, eA, crp, cip, hxq]
    refine hCh2.mono fun v s2 hv => ?_
    have hv1 := hv.1
    have hv2 := hv.2
    clear hv hCh2
    rw [hv1]
    apply ex3 hv2
    intro own5 A5 Rs5 n5
    simp only [XU, seval, h0, h1, h5, h6, h7, h8, h13, h14]
    exact ⟨_, _, _, n0.call n5⟩
  clear h0 h1 h5 h6 h7 h8 h13 h14 n0
  rintro ρ s ⟨h0, h1, h5, h7, h6, h8, h13, h14, h20, own5, A5, Rs5, n0⟩
  have hsm4 : (q.chM T).Sm := hsm3.chM K.ml
  rw [wpX_seq]
  refine x_mid (fun ρ s => ρ.rd 0 = .psl (ofInts l) 0 l.length ∧ ρ.rd 1 = .int .i64 dat ∧ ρ.rd 5 = .ptr bg 0 ∧ ρ.rd 7 = .int .i64 (i : Int) ∧ ρ.rd 6 = .psl (ofInts now) 0 now.length ∧ ρ.rd 8 = .int .i64 0 ∧ ρ.rd 13 = .int .i64 (x : Int) ∧ ρ.rd 14 = .psl (ofInts T) 0 T.length ∧ ρ.rd 20 = .int .i64 0 ∧ ∃ own' A Rs, NowG σ (fun _ => 0) bg own' (q.chM T) A bs Rs s) ?_ ?_
  · by_cases h1T : T.length = 1
    · have hng : ¬ (1 : Int) < (T.length : Int) := by omega
      simp only [XU, seval, h0, h1, h5, h6, h7, h8, h13, h14, h20, hng]
      exact ⟨_, _, _, n0⟩
    have hng : (1 : Int) < (T.length : Int) := by omega
    have hB : ∀ (l : List Int), l.length ≤ 1000 → ∃ a b : Nat, b ≠ 0 ∧ ∀ {σ' : AState} {own : Nat → Nat} {A : GR} {Rs : Nat → Rws}, GrpAt σ' own bg (q.chM T) A bs Rs → callD Try.prog 18 [.ptr (bs 0) 0, .psl (ofInts l) 0 l.length] σ' fun v s => v = .tup [.int .i64 (a : Int), .int .i64 (b : Int)] ∧ ∃ own' A' Rs', NowG σ' own bg own' (q.chM T) A' bs Rs' s := by
      intro l hl
      obtain ⟨e1, e2⟩ := busy_change (K.by1 (by omega)) l
      refine ⟨(((q.chM T).core 0).change l).1.1, _, e2, fun {σ' own A Rs} h => ?_⟩
      have hG := changeG_ac h (by have := K.n5; exact (by show 0 < q.n; omega)) hsm4 K.ok1 K.rl1 hl
      rw [e1, setc_same (by rw [h.cl]; show 0 < q.n; have := K.n5; omega)] at hG
      exact hG
    have hF : ∀ s, callD Try.prog 10 [.int .i64 5] s fun v s' => s' = s ∧ v = .psl (ofInts (oneTo 5)) 0 (oneTo 5).length := fun s => first_ac (n := 5) (by decide)
    obtain ⟨a1, b1, hb1, hB1⟩ := hB now (by omega)
    obtain ⟨a2, b2, hb2, hB2⟩ := hB (oneTo 5) (by decide)
    clear hB
    have hn : (q.chM T).n = 5 := K.n5
    generalize q.chM T = q1 at *
    generalize oneTo 5 = o5 at *
    have cb := n0.co.cb
    obtain ⟨bp, cp, csp, eA, crp, cip, obp, lbp⟩ := n0.co.ptr (i := 0) (by omega)
    have hxq : (0 : Int) < (q1.n : Int) := by omega
    simp only [XU, seval, h0, h1, h5, h6, h7, h8, h13, h14, h20, hng, cb, GS, eA, crp, cip, hxq]
    refine (hB1 n0.co).grpv fun s2 own6 A6 Rs6 n6 => ?_
    have n7 := n0.call n6
    clear n6 n0 cb eA crp cip obp lbp hB1
    simp only [XU, seval, h0, h1, h5, h6, h7, h8, h13, h14, h20]
    refine d_env (fun ρ => ρ.rd 0 = .psl (ofInts l) 0 l.length ∧ ρ.rd 1 = .int .i64 dat ∧ ρ.rd 5 = .ptr bg 0 ∧ ρ.rd 7 = .int .i64 (i : Int) ∧ ρ.rd 6 = .psl (ofInts now) 0 now.length ∧ ρ.rd 8 = .int .i64 0 ∧ ρ.rd 13 = .int .i64 (x : Int) ∧ ρ.rd 14 = .psl (ofInts T) 0 T.length ∧ ρ.rd 20 = .int .i64 0 ∧ ρ.rd 22 = .int .i64 (b1 : Int)) ?_ ?_
    · simp only [XU, seval, h0, h1, h5, h6, h7, h8, h13, h14, h20]
    clear h0 h1 h5 h6 h7 h8 h13 h14 h20
    rintro ρ ⟨h0, h1, h5, h7, h6, h8, h13, h14, h20, h22⟩
    refine d_dreg follow [] rfl ?_
    have n8 := n7.slots 14 []
    generalize addSlots s2.n 14 s2 [] = s8 at *
    have cb := n8.co.cb
    obtain ⟨bp, cp, csp, eA, crp, cip, obp, lbp⟩ := n8.co.ptr (i := 0) (by omega)
    simp only [XU, seval, DU, h0, h1, h5, h6, h7, h8, h13, h14, h20, cb, GS, eA, crp, cip, hxq]
    refine (hF _).use ?_
    simp only [XU, seval, DU, h0, h1, h5, h6, h7, h8, h13, h14, h20, cb, GS, eA, crp, cip, hxq]
    refine (hB2 n8.co).grpv fun s9 own9 A9 Rs9 n9 => ?_
    have hb1' : ¬ (b1 : Int) = 0 := by omega
    have hb2' : ¬ (b2 : Int) = 0 := by omega
    simp only [XU, seval, DU, h0, h1, h5, h6, h7, h8, h13, h14, h20, h22, hb1', hb2']
    refine ⟨⟨?_, ?_⟩, ?_⟩
    · intro l hl c hc hf
      simp only [List.mem_cons, List.mem_nil_iff, List.not_mem_nil, or_false] at hl hc
      (repeat' (first | (rcases hl with rfl | hl) | (rcases hl with rfl))) <;> (repeat' (first | (rcases hc with rfl | hc) | (rcases hc with rfl))) <;> dsimp only at hf ⊢ <;> first
        | (exact absurd hf (by decide +kernel))
        | (simp only [XU, seval, h5, h8, cb, GS, eA, crp, cip, hxq]; done)
    · intro sl hsl; simp at hsl
    exact ⟨_, _, _, n8.call n9⟩
  clear h0 h1 h5 h6 h7 h8 h13 h14 h20 n0
  rintro ρ s ⟨h0, h1, h5, h7, h6, h8, h13, h14, h20, own6, A6, Rs6, n0⟩
  have hnc : (q.chM T).n = 5 := K.n5
  have hsm5 : ((q.chM T).told 0).Sm := hsm4.told 0
  rw [wpX_seq]
  refine x_mid (fun ρ s => ρ.rd 0 = .psl (ofInts l) 0 l.length ∧ ρ.rd 1 = .int .i64 dat ∧ ρ.rd 5 = .ptr bg 0 ∧ ρ.rd 7 = .int .i64 (i : Int) ∧ ρ.rd 6 = .psl (ofInts now) 0 now.length ∧ ρ.rd 8 = .int .i64 0 ∧ ρ.rd 13 = .int .i64 (x : Int) ∧ ρ.rd 14 = .psl (ofInts T) 0 T.length ∧ ∃ own' A Rs, NowG σ (fun _ => 0) bg own' (((q.chM T).told 0).rounds 100) A bs Rs s) ?_ ?_
  · have hT1 := told_ac n0.co (i := 0) (n := 0) (Grp.toldB_ok hsm4 K.tb K.tp)
    have hT2 : callD Try.prog 19 [.ptr bg 0, .int .i64 0] s fun v s' => v = .bool true ∧ ∃ own' A' Rs', NowG s own6 bg own' ((q.chM T).told 0) A' bs Rs' s' := hT1
    clear hT1
    simp only [XU, seval, h0, h1, h5, h6, h7, h8, h13, h14, h20]
    refine hT2.grpv fun s2 own7 A7 Rs7 n7 => ?_
    have n8 := n0.call n7
    clear hT2 n7 n0
    simp only [XU, seval, h0, h1, h5, h6, h7, h8, h13, h14, h20]
    refine (rounds_ac n8.co hsm5 (N := 100) (by decide) K.r3 K.p3).grpv fun s3 own9 A9 Rs9 n9 => ?_
    simp only [XU, seval, h0, h1, h5, h6, h7, h8, h13, h14, h20]
    exact ⟨_, _, _, n8.call n9⟩
  clear h0 h1 h5 h6 h7 h8 h13 h14 h20 n0
  rintro ρ s ⟨h0, h1, h5, h7, h6, h8, h13, h14, own7, A7, Rs7, n0⟩
  have hsm6 := hsm5.rounds 100
  have hnr : (((q.chM T).told 0).rounds 100).n = 5 := (rounds_n _ _).trans K.n5
  have hld := K.ld
  have hcm := K.cm
  have hmm := K.mm
  have hok := K.ok4
  clear K hsm4 hsm5 hsm3 hnc
  generalize ((q.chM T).told 0).rounds 100 = q2 at *
  clear h6 h8
  rw [wpX_seq]
  refine x_mid (fun ρ s' => s' = s ∧ ρ.rd 0 = .psl (ofInts l) 0 l.length ∧ ρ.rd 1 = .int .i64 dat ∧ ρ.rd 5 = .ptr bg 0 ∧ ρ.rd 7 = .int .i64 (i : Int) ∧ ρ.rd 6 = .psl (ofInts T) 0 T.length) ?_ ?_
  · simp only [XU, seval, h0, h1, h5, h7, h13, h14]
  clear h0 h1 h5 h7 h13 h14
  rintro ρ s' ⟨hs, h0, h1, h5, h7, h6⟩
  rw [hs]
  clear hs
  rw [wpX_seq]
  refine x_mid (fun ρ s' => s' = s ∧ ρ.rd 0 = .psl (ofInts l) 0 l.length ∧ ρ.rd 1 = .int .i64 dat ∧ ρ.rd 5 = .ptr bg 0 ∧ ρ.rd 7 = .int .i64 (i : Int) ∧ ρ.rd 6 = .psl (ofInts T) 0 T.length ∧ ρ.rd 8 = .int .i64 0) ?_ ?_
  · simp only [XU, seval, h0, h1, h5, h6, h7]
    refine (leader_ac n0.co (k := 0) (by omega) fun i hi => hld i (by omega)).use ?_
    simp only [XU, seval, h0, h1, h5, h6, h7]
  clear h0 h1 h5 h6 h7
  rintro ρ s' ⟨hs, h0, h1, h5, h7, h6, h8⟩
  rw [hs]
  clear hs
  rw [wpX_seq]
  refine x_mid (fun ρ s' => s' = s ∧ ρ.rd 0 = .psl (ofInts l) 0 l.length ∧ ρ.rd 1 = .int .i64 dat ∧ ρ.rd 5 = .ptr bg 0 ∧ ρ.rd 7 = .int .i64 (i : Int) ∧ ρ.rd 6 = .psl (ofInts T) 0 T.length ∧ ρ.rd 8 = .int .i64 0) ?_ ?_
  · simp only [XU, seval, h0, h1, h5, h6, h7, h8]
  clear h0 h1 h5 h6 h7 h8
  rintro ρ s' ⟨hs, h0, h1, h5, h7, h6, h8⟩
  rw [hs]
  clear hs
  simp only [XU, seval, h0, h1, h5, h6, h7, h8]
  refine x_for (fun j ρ s => ρ.rd 0 = .psl (ofInts l) 0 l.length ∧ ρ.rd 1 = .int .i64 dat ∧ ρ.rd 5 = .ptr bg 0 ∧ ρ.rd 7 = .int .i64 (i : Int) ∧ ρ.rd 6 = .psl (ofInts T) 0 T.length ∧ ρ.rd 8 = .int .i64 0 ∧ ρ.rd 25 = .int .i64 (j : Int) ∧ ∃ own' A Rs, NowG σ (fun _ => 0) bg own' q2 A bs Rs s) T.length ?_ ?_
  · simp only [XU, seval, h0, h1, h5, h6, h7, h8]
    exact ⟨_, _, _, n0⟩
  clear h0 h1 h5 h6 h7 h8 n0
  rintro j ρ s hj ⟨h0, h1, h5, h7, h6, h8, h25, own8, A8, Rs8, n0⟩
  by_cases hlj : j < T.length
  rotate_left
  · have hge : ¬ (j : Int) < (T.length : Int) := by omega
    simp only [XU, seval, h0, h1, h5, h6, h7, h8, h25, hge, wsi]
    exact ⟨hlt, T, q2, own8, A8, Rs8, rfl, n0, hsm6, hS'⟩
  have gj : (j : Int) < (T.length : Int) := by omega
  have wj : IntKind.i64.wrap ((j : Int) + 1) = ((j + 1 : Nat) : Int) := wrapSucc (by omega)
  have hxj : (0 : Int) ≤ (j : Int) ∧ (j : Int) < (T.length : Int) := lt_idx hlj
  have hgj := ints_get hlj
  obtain ⟨t, ht5, et⟩ := hTr _ (List.getElem_mem hlj)
  rw [et] at hgj
  clear et hTr
  have hcb : ∀ i, i < 5 → ∀ {s : AState} {own : Nat → Nat} {A : GR} {Rs : Nat → Rws}, NowG σ (fun _ => 0) bg own q2 A bs Rs s → callD Try.prog 21 [.ptr (bs i) 0] s fun v s' => s' = s ∧ v = .int .i64 ((q2.core 0).commit : Int) := fun i hi s own A Rs h => by
    have := commit_ac (h.co.cs i (by omega))
    rw [hcm i hi] at this
    exact this
  have hmb : ∀ {s : AState} {own : Nat → Nat} {A : GR} {Rs : Nat → Rws}, NowG σ (fun _ => 0) bg own q2 A bs Rs s → callD Try.prog 20 [.ptr (bs t) 0] s fun v s' => v = .psl (ofInts T) 0 T.length ∧ Keeps s.n s s' := fun {s own A Rs} h => by
    have := members_ac (h.co.cs t (by omega)) (Core.okB_ok (hsm6.c t) (hok t ht5)).1
    rw [hmm t ht5] at this
    exact this
  clear hcm hmm hok hld
  rw [wpX_seq]
  refine x_mid (fun ρ s' => s' = s ∧ ρ.rd 0 = .psl (ofInts l) 0 l.length ∧ ρ.rd 1 = .int .i64 dat ∧ ρ.rd 5 = .ptr bg 0 ∧ ρ.rd 7 = .int .i64 (i : Int) ∧ ρ.rd 6 = .psl (ofInts T) 0 T.length ∧ ρ.rd 8 = .int .i64 0 ∧ ρ.rd 25 = .int .i64 (j : Int)) ?_ ?_
  · simp only [XU, seval, h0, h1, h5, h6, h7, h8, h25, gj]
  clear h0 h1 h5 h6 h7 h8 h25
  rintro ρ s' ⟨hs, h0, h1, h5, h7, h6, h8, h25⟩
  rw [hs]
  clear hs
  rw [wpX_seq]
  rw [wpX_block]
  rw [wpX_seq]
  refine x_mid (fun ρ s => ρ.rd 0 = .psl (ofInts l) 0 l.length ∧ ρ.rd 1 = .int .i64 dat ∧ ρ.rd 5 = .ptr bg 0 ∧ ρ.rd 7 = .int .i64 (i : Int) ∧ ρ.rd 6 = .psl (ofInts T) 0 T.length ∧ ρ.rd 8 = .int .i64 0 ∧ ρ.rd 25 = .int .i64 (j : Int) ∧ ρ.rd 26 = .ptr (bs t) 0 ∧ ∃ own' A Rs, NowG σ (fun _ => 0) bg own' q2 A bs Rs s) ?_ ?_
  · simp only [XU, seval, h0, h1, h5, h6, h7, h8, h25]
    refine d_dreg follow [] rfl ?_
    have n8 := n0.slots 11 []
    generalize addSlots s.n 11 s [] = s8 at *
    have cb := n8.co.cb
    obtain ⟨bp, cp, csp, eA, crp, cip, obp, lbp⟩ := n8.co.ptr (i := t) (by omega)
    have hxq : (0 : Int) ≤ (t : Int) ∧ (t : Int) < (q2.n : Int) := by omega
    simp only [XU, seval, DU, h0, h1, h5, h6, h7, h8, h25, cb, GS, eA, crp, cip, hxq, hxj, hgj]
    refine ⟨⟨?_, ?_⟩, ?_⟩
    · intro l hl c hc hf
      simp only [List.mem_cons, List.mem_nil_iff, List.not_mem_nil, or_false] at hl hc
      (repeat' (first | (rcases hl with rfl | hl) | (rcases hl with rfl))) <;> (repeat' (first | (rcases hc with rfl | hc) | (rcases hc with rfl))) <;> dsimp only at hf ⊢ <;> first
        | (exact absurd hf (by decide +kernel))
        | (simp only [XU, seval, h5, h6, h25, cb, GS, eA, crp, cip, hxq, hxj, hgj]; done)
    · intro sl hsl; simp at hsl
    exact ⟨_, _, _, n8⟩
  clear h0 h1 h5 h6 h7 h8 h25 n0
  rintro ρ s ⟨h0, h1, h5, h7, h6, h8, h25, h26, own9, A9, Rs9, n0⟩
  rw [wpX_seq]
  refine x_mid (fun ρ s => ρ.rd 0 = .psl (ofInts l) 0 l.length ∧ ρ.rd 1 = .int .i64 dat ∧ ρ.rd 5 = .ptr bg 0 ∧ ρ.rd 7 = .int .i64 (i : Int) ∧ ρ.rd 6 = .psl (ofInts T) 0 T.length ∧ ρ.rd 8 = .int .i64 0 ∧ ρ.rd 25 = .int .i64 (j : Int) ∧ ρ.rd 26 = .ptr (bs t) 0 ∧ ρ.rd 27 = .psl (ofInts T) 0 T.length ∧ ∃ own' A Rs, NowG σ (fun _ => 0) bg own' q2 A bs Rs s) ?_ ?_
  · simp only [XU, seval, h0, h1, h5, h6, h7, h8, h25, h26]
    refine (hmb n0).kept fun s2 k2 => ?_
    simp only [XU, seval, h0, h1, h5, h6, h7, h8, h25, h26]
    exact ⟨_, _, _, n0.keeps k2⟩
  clear h0 h1 h5 h6 h7 h8 h25 h26 n0
  rintro ρ s ⟨h0, h1, h5, h7, h6, h8, h25, h26, h27, own9, A9, Rs9, n0⟩
  rw [wpX_seq]
  refine x_mid (fun ρ s => ρ.rd 0 = .psl (ofInts l) 0 l.length ∧ ρ.rd 1 = .int .i64 dat ∧ ρ.rd 5 = .ptr bg 0 ∧ ρ.rd 7 = .int .i64 (i : Int) ∧ ρ.rd 6 = .psl (ofInts T) 0 T.length ∧ ρ.rd 8 = .int .i64 0 ∧ ρ.rd 25 = .int .i64 (j : Int) ∧ ρ.rd 27 = .psl (ofInts T) 0 T.length ∧ ∃ own' A Rs, NowG σ (fun _ => 0) bg own' q2 A bs Rs s) ?_ ?_
  · simp only [XU, seval, h0, h1, h5, h6, h7, h8, h25, h26, h27]
    refine d_dreg follow [] rfl ?_
    have n8 := n0.slots 18 []
    generalize addSlots s.n 18 s [] = s8 at *
    have cb := n8.co.cb
    obtain ⟨bp, cp, csp, eA, crp, cip, obp, lbp⟩ := n8.co.ptr (i := 0) (by omega)
    have hxq : (0 : Int) < (q2.n : Int) := by omega
    simp only [XU, seval, DU, h0, h1, h5, h6, h7, h8, h25, h26, h27, cb, GS, eA, crp, cip, hxq]
    refine (hcb t ht5 n8).use ?_
    simp only [XU, seval, DU, h0, h1, h5, h6, h7, h8, h25, h26, h27, cb, GS, eA, crp, cip, hxq]
    refine (hcb 0 (by decide) n8).use ?_
    simp only [XU, seval, DU, h0, h1, h5, h6, h7, h8, h25, h26, h27, cb, GS, eA, crp, cip, hxq]
    refine ⟨⟨?_, ?_⟩, ?_⟩
    · intro l hl c hc hf
      simp only [List.mem_cons, List.mem_nil_iff, List.not_mem_nil, or_false] at hl hc
      (repeat' (first | (rcases hl with rfl | hl) | (rcases hl with rfl))) <;> (repeat' (first | (rcases hc with rfl | hc) | (rcases hc with rfl))) <;> dsimp only at hf ⊢ <;> first
        | (exact absurd hf (by decide +kernel))
        | (simp only [XU, seval, h5, h8, cb, GS, eA, crp, cip, hxq]; done)
    · intro sl hsl; simp at hsl
    exact ⟨_, _, _, n8⟩
  clear h0 h1 h5 h6 h7 h8 h25 h26 h27 n0
  rintro ρ s ⟨h0, h1, h5, h7, h6, h8, h25, h27, own9, A9, Rs9, n0⟩
  simp only [XU, seval, h0, h1, h5, h6, h7, h8, h25, h27]
  refine x_for (fun p ρ s => ρ.rd 0 = .psl (ofInts l) 0 l.length ∧ ρ.rd 1 = .int .i64 dat ∧ ρ.rd 5 = .ptr bg 0 ∧ ρ.rd 7 = .int .i64 (i : Int) ∧ ρ.rd 6 = .psl (ofInts T) 0 T.length ∧ ρ.rd 8 = .int .i64 0 ∧ ρ.rd 25 = .int .i64 (j : Int) ∧ ρ.rd 27 = .psl (ofInts T) 0 T.length ∧ ρ.rd 28 = .int .i64 (p : Int) ∧ ∃ own' A Rs, NowG σ (fun _ => 0) bg own' q2 A bs Rs s) T.length ?_ ?_
  · simp only [XU, seval, h0, h1, h5, h6, h7, h8, h25, h27]
    exact ⟨_, _, _, n0⟩
  clear h0 h1 h5 h6 h7 h8 h25 h27 n0
  rintro p ρ s hp ⟨h0, h1, h5, h7, h6, h8, h25, h27, h28, own9, A9, Rs9, n0⟩
  by_cases hlp : p < T.length
  rotate_left
  · have hge : ¬ (p : Int) < (T.length : Int) := by omega
    simp only [XU, seval, h0, h1, h5, h6, h7, h8, h25, h27, h28, hge, wj]
    exact ⟨hlj, _, _, _, n0⟩
  have gp : (p : Int) < (T.length : Int) := by omega
  have hxp : (0 : Int) ≤ (p : Int) ∧ (p : Int) < (T.length : Int) := lt_idx hlp
  have wp : IntKind.i64.wrap ((p : Int) + 1) = ((p + 1 : Nat) : Int) := wrapSucc (by omega)
  have hgp := ints_get hlp
  generalize T[p] = tp at *
  simp only [XU, seval, h0, h1, h5, h6, h7, h8, h25, h27, h28, gp]
  refine d_dreg follow [] rfl ?_
  have n8 := n0.slots 9 []
  generalize addSlots s.n 9 s [] = s8 at *
  simp only [XU, seval, DU, h0, h1, h5, h6, h7, h8, h25, h27, h28, hxp, hgp]
  refine ⟨⟨?_, ?_⟩, ?_⟩
  · intro l hl c hc hf
    simp only [List.mem_cons, List.mem_nil_iff, List.not_mem_nil, or_false] at hl hc
    (repeat' (first | (rcases hl with rfl | hl) | (rcases hl with rfl))) <;> (repeat' (first | (rcases hc with rfl | hc) | (rcases hc with rfl))) <;> dsimp only at hf ⊢ <;> first
      | (exact absurd hf (by decide +kernel))
      | (simp only [XU, seval, h6, h27, h28, hxp, hgp]; done)
  · intro sl hsl; simp at hsl
  simp only [XU, seval, h0, h1, h5, h6, h7, h8, h25, h27, h28, wp]
  exact ⟨hlp, _, _, _, n8⟩
end Go.Proofs.Ythojhpjjkfjeiaa.Va
