/- Commands: how they are written and read; there and back it is the same. Conditions: none. -/
import Derived.Test.YthobpdfchhihnaaPk1
set_option maxRecDepth 100000
set_option maxHeartbeats 4000000
set_option linter.all false
namespace Go.Proofs.Ythobpdfchhihnaa.Va
open Go.Proofs
/- A command, as Lean data; how it is written and read. -/
structure Cm where
  client : Int
  seq : Int
  kind : Int
  name : List UInt8
  text : List UInt8
def Cm.zero : Cm := ⟨0, 0, 0, [], []⟩
def wrongS (c : Cm) : Int :=
  bif decide (c.kind < 1) || decide (c.kind > 5) then 3
  else bif (decide (c.client < 1) || decide (c.client > 8)) || decide (c.seq < 1) then 1
  else bif decide ((c.name.length : Int) > 12) || decide ((c.text.length : Int) > 600) then 5 else 0
def cmdS (c : Cm) : List UInt8 := [b8 c.client] ++ numS c.seq ++ [b8 c.kind] ++ (lenS c.name.length ++ c.name) ++ (lenS c.text.length ++ c.text)
def beN (l : List UInt8) : Nat := l.foldl (fun a x => a * 256 + x.toNat) 0
def numV (l : List UInt8) : Int := IntKind.i64.wrap (beN l : Nat)
/- Read: what is read; whether nothing was cut; what is behind. -/
structure Rd where
  l : List UInt8
  ok : Bool
def Rd.take (r : Rd) (n : Nat) : List UInt8 × Rd := match r.ok && Nat.ble n r.l.length with | true => (r.l.take n, ⟨r.l.drop n, true⟩) | false => ([], ⟨r.l, false⟩)
def firstB (l : List UInt8) : Nat := match l with | [] => 0 | x :: _ => x.toNat
/- All of a command's parts, if nothing is cut. -/
def decS (l : List UInt8) : Option (Cm × List UInt8) :=
  match l with
  | a :: s7 :: s6 :: s5 :: s4 :: s3 :: s2 :: s1 :: s0 :: k :: n1 :: n0 :: r =>
    match Nat.ble (n1.toNat * 256 + n0.toNat) r.length with
    | true => match r.drop (n1.toNat * 256 + n0.toNat) with
      | t1 :: t0 :: q => match Nat.ble (t1.toNat * 256 + t0.toNat) q.length with
        | true => some (⟨a.toNat, numV [s7, s6, s5, s4, s3, s2, s1, s0], k.toNat, r.take (n1.toNat * 256 + n0.toNat), q.take (t1.toNat * 256 + t0.toNat)⟩, q.drop (t1.toNat * 256 + t0.toNat))
        | false => none
      | _ => none
    | false => none
  | _ => none
def parseS (l : List UInt8) : Cm × Int :=
  match decS l with
  | none => (.zero, 8)
  | some (c, []) => match wrongS c == 0 with | true => (c, 0) | false => (.zero, wrongS c)
  | some (_, _ :: _) => (.zero, 9)

theorem wrongS_ok {c : Cm} (h : wrongS c = 0) : (1 ≤ c.kind ∧ c.kind ≤ 5) ∧ (1 ≤ c.client ∧ c.client ≤ 8) ∧ 1 ≤ c.seq ∧ c.name.length ≤ 12 ∧ c.text.length ≤ 600 := by
  unfold wrongS at h
  cases h1 : (decide (c.kind < 1) || decide (c.kind > 5)) with
  | true => rw [h1] at h; cases h
  | false =>
    rw [h1] at h
    simp only [cond_false] at h
    cases h2 : ((decide (c.client < 1) || decide (c.client > 8)) || decide (c.seq < 1)) with
    | true => rw [h2] at h; cases h
    | false =>
      rw [h2] at h
      simp only [cond_false] at h
      cases h3 : (decide ((c.name.length : Int) > 12) || decide ((c.text.length : Int) > 600)) with
      | true => rw [h3] at h; cases h
      | false =>
        simp only [Bool.or_eq_false_iff, decide_eq_false_iff_not] at h1 h2 h3
        omega
theorem b8_toNat (n : Int) : ((b8 n).toNat : Int) = n % 256 := by
  rw [b8]
  simp only [UInt8.toNat_ofNat']
  omega
theorem b8_nat {n : Int} (h : 0 ≤ n ∧ n < 256) : ((b8 n).toNat : Int) = n := by rw [b8_toNat]; omega
theorem b8_of (x : UInt8) : b8 (x.toNat : Int) = x := by
  apply UInt8.toNat_inj.1
  have := b8_toNat (x.toNat : Int)
  have := x.toNat_lt
  omega
theorem lenS_val {n : Nat} (h : n < 65536) : (b8 ((n : Int) / 256)).toNat * 256 + (b8 (n : Int)).toNat = n := by
  have h1 := b8_toNat ((n : Int) / 256)
  have h2 := b8_toNat (n : Int)
  omega
theorem lenS_of (x y : UInt8) : lenS ((x.toNat * 256 + y.toNat : Nat) : Int) = [x, y] := by
  have hx := x.toNat_lt
  have hy := y.toNat_lt
  have e1 : ((x.toNat * 256 + y.toNat : Nat) : Int) / 256 = x.toNat := by omega
  have e2 : b8 ((x.toNat * 256 + y.toNat : Nat) : Int) = y := by
    apply UInt8.toNat_inj.1
    have := b8_toNat ((x.toNat * 256 + y.toNat : Nat) : Int)
    omega
  rw [lenS, e1, e2, b8_of]
theorem beN_8 (a b c d e f g h : UInt8) : beN [a, b, c, d, e, f, g, h] = ((((((a.toNat * 256 + b.toNat) * 256 + c.toNat) * 256 + d.toNat) * 256 + e.toNat) * 256 + f.toNat) * 256 + g.toNat) * 256 + h.toNat := by
  simp only [beN, List.foldl_cons, List.foldl_nil, Nat.zero_mul, Nat.zero_add]
theorem nb_toNat (n : Int) (k : Nat) : ((nb n k).toNat : Int) = n / 2 ^ (8 * k) % 256 := b8_toNat _
theorem beN_num {n : Int} (h0 : 0 ≤ n) (h1 : n < 9223372036854775808) : (beN (numS n) : Int) = n := by
  rw [numS, beN_8]
  have a7 := nb_toNat n 7
  have a6 := nb_toNat n 6
  have a5 := nb_toNat n 5
  have a4 := nb_toNat n 4
  have a3 := nb_toNat n 3
  have a2 := nb_toNat n 2
  have a1 := nb_toNat n 1
  have a0 := nb_toNat n 0
  simp only [Nat.reduceMul, Int.reducePow] at a7 a6 a5 a4 a3 a2 a1 a0
  omega
theorem nb_succ (x : Nat) (y : UInt8) (k : Nat) : nb ((x * 256 + y.toNat : Nat) : Int) (k + 1) = nb (x : Int) k := by
  have hy := y.toNat_lt
  have e : ((x * 256 + y.toNat : Nat) : Int) / 256 = x := by omega
  have p : (2 : Int) ^ (8 * (k + 1)) = 256 * 2 ^ (8 * k) := by rw [Nat.mul_add, Int.pow_add, Int.mul_comm]; rfl
  rw [nb, nb, p, ← Int.ediv_ediv_of_nonneg (by decide), e]
theorem nb_zero (x : Nat) (y : UInt8) : nb ((x * 256 + y.toNat : Nat) : Int) 0 = y := by
  have hy := y.toNat_lt
  apply UInt8.toNat_inj.1
  have := nb_toNat ((x * 256 + y.toNat : Nat) : Int) 0
  simp only [Nat.mul_zero, Int.pow_zero, Int.ediv_one] at this
  omega
theorem num_of {a b c d e f g h : UInt8} {n : Int} (hn : n = (beN [a, b, c, d, e, f, g, h] : Int)) : numS n = [a, b, c, d, e, f, g, h] := by
  rw [beN_8] at hn
  subst hn
  have z : nb ((a.toNat : Nat) : Int) 0 = a := by
    have := nb_zero 0 a
    simpa only [Nat.zero_mul, Nat.zero_add] using this
  simp only [numS, nb_succ, nb_zero, z]
theorem wrap64_nat {n : Nat} (h : n < 9223372036854775808) : IntKind.i64.wrap (n : Int) = n := by
  have h1 : IntKind.i64.wrap (n : Int) = if (true && decide ((n : Int) % 2 ^ 64 ≥ 2 ^ (64 - 1))) = true then (n : Int) % 2 ^ 64 - 2 ^ 64 else (n : Int) % 2 ^ 64 := rfl
  rw [h1, if_neg (by simp; omega)]
  omega
theorem wrap64_big {n : Nat} (h : 9223372036854775808 ≤ n) (h' : n < 18446744073709551616) : IntKind.i64.wrap (n : Int) < 0 := by
  have h1 : IntKind.i64.wrap (n : Int) = if (true && decide ((n : Int) % 2 ^ 64 ≥ 2 ^ (64 - 1))) = true then (n : Int) % 2 ^ 64 - 2 ^ 64 else (n : Int) % 2 ^ 64 := rfl
  rw [h1, if_pos (by simp; omega)]
  omega
theorem numV_num {n : Int} (h0 : 0 ≤ n) (h1 : n < 9223372036854775808) : numV (numS n) = n := by
  have := beN_num h0 h1
  rw [numV, wrap64_nat (by omega), this]
/- Written, and read again. -/
theorem dec_cmd {c : Cm} (h : wrongS c = 0) (hs : c.seq < 9223372036854775808) : decS (cmdS c) = some (c, []) := by
  obtain ⟨hk, hc, hq, hn, ht⟩ := wrongS_ok h
  obtain ⟨cl, sq, kd, nm, tx⟩ := c
  simp only at hk hc hq hn ht hs
  have e := numV_num (n := sq) (by omega) hs
  have ln := lenS_val (n := nm.length) (by omega)
  have lt := lenS_val (n := tx.length) (by omega)
  simp only [cmdS, numS, lenS, List.cons_append, List.nil_append, List.append_assoc, List.singleton_append] at e ⊢
  rw [decS]
  simp only [ln]
  have d1 : (nm ++ b8 ((tx.length : Int) / 256) :: b8 (tx.length : Int) :: tx).drop nm.length = b8 ((tx.length : Int) / 256) :: b8 (tx.length : Int) :: tx := List.drop_left
  have t1 : (nm ++ b8 ((tx.length : Int) / 256) :: b8 (tx.length : Int) :: tx).take nm.length = nm := List.take_left
  have bl : Nat.ble nm.length (nm ++ b8 ((tx.length : Int) / 256) :: b8 (tx.length : Int) :: tx).length = true := Nat.ble_eq_true_of_le (by simp)
  have bt : Nat.ble tx.length tx.length = true := Nat.ble_eq_true_of_le (Nat.le_refl _)
  simp only [bl, d1, t1, lt, bt, List.take_length, List.drop_length]
  rw [e, b8_nat (by omega), b8_nat (by omega)]
theorem parse_cmd {c : Cm} (h : wrongS c = 0) (hs : c.seq < 9223372036854775808) : parseS (cmdS c) = (c, 0) := by
  rw [parseS, dec_cmd h hs]
  simp only [h]
  rfl
/- Read, and written again. -/
theorem parse_ok {l : List UInt8} {c : Cm} (h : parseS l = (c, 0)) : decS l = some (c, []) ∧ wrongS c = 0 := by
  unfold parseS at h
  split at h
  · cases h
  · rename_i c' e
    split at h
    · rename_i hw
      cases h
      exact ⟨e, by simpa using hw⟩
    · rename_i hw
      simp only [Prod.mk.injEq] at h
      rw [h.2] at hw
      cases hw
  · cases h
theorem cmd_dec {l : List UInt8} {c : Cm} (h : decS l = some (c, [])) (hw : wrongS c = 0) : cmdS c = l := by
  obtain ⟨hk, hc, hq, hn, ht⟩ := wrongS_ok hw
  unfold decS at h
  split at h
  · rename_i a s7 s6 s5 s4 s3 s2 s1 s0 k n1 n0 r
    split at h
    · rename_i hb
      have hb := Nat.le_of_ble_eq_true hb
      split at h
      · rename_i t1 t0 q hd
        split at h
        · rename_i hb2
          have hb2 := Nat.le_of_ble_eq_true hb2
          simp only [Option.some.injEq, Prod.mk.injEq] at h
          obtain ⟨rfl, hq0⟩ := h
          simp only at hk hc hq hn ht
          have hl : q.length = t1.toNat * 256 + t0.toNat := by have := congrArg List.length hq0; simp at this; omega
          have e1 : (r.take (n1.toNat * 256 + n0.toNat)).length = n1.toNat * 256 + n0.toNat := by simp; omega
          have e2 : q.take (t1.toNat * 256 + t0.toNat) = q := by rw [← hl, List.take_length]
          have hbe : numV [s7, s6, s5, s4, s3, s2, s1, s0] = (beN [s7, s6, s5, s4, s3, s2, s1, s0] : Int) := by
            by_cases hlt : beN [s7, s6, s5, s4, s3, s2, s1, s0] < 9223372036854775808
            · rw [numV, wrap64_nat hlt]
            · have hb : beN [s7, s6, s5, s4, s3, s2, s1, s0] < 18446744073709551616 := by
                rw [beN_8]
                have := s7.toNat_lt
                have := s6.toNat_lt
                have := s5.toNat_lt
                have := s4.toNat_lt
                have := s3.toNat_lt
                have := s2.toNat_lt
                have := s1.toNat_lt
                have := s0.toNat_lt
                omega
              have := wrap64_big (by omega) hb
              rw [numV] at hq
              omega
          simp only [cmdS, b8_of, num_of hbe, e1, e2, hl, lenS_of]
          have e3 : r = r.take (n1.toNat * 256 + n0.toNat) ++ (t1 :: t0 :: q) := by rw [← hd, List.take_append_drop]
          conv => rhs; rw [e3]
          simp
        · cases h
      · cases h
    · cases h
  · cases h
theorem cmd_parse {l : List UInt8} {c : Cm} (h : parseS l = (c, 0)) : cmdS c = l := cmd_dec (parse_ok h).1 (parse_ok h).2
theorem parse_seq {l : List UInt8} {c : Cm} (h : parseS l = (c, 0)) : wrongS c = 0 := (parse_ok h).2
end Go.Proofs.Ythobpdfchhihnaa.Va
