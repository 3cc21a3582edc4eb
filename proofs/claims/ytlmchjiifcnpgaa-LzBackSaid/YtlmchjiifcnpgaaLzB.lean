/- The walks of layer 5's key, alike, plain. No condition but sizes that every memory has. -/
import Derived.Test.YtlmchjiifcnpgaaLzK
import Derived.Test.YtlmchjiifcnpgaaLzBM
namespace Go.Proofs.Ytlmchjiifcnpgaa
open Go.RowKit

open Go.Maps

theorem u32_bits (a b c d : UInt8) : bits .or .u32 (bits .or .u32 (bits .or .u32 ((a.toNat : Int) % 4294967296) ((b.toNat : Int) % 4294967296 * 256 % 4294967296)) ((c.toNat : Int) % 4294967296 * 65536 % 4294967296)) ((d.toNat : Int) % 4294967296 * 16777216 % 4294967296) = ((key4 a b c d : Nat) : Int) := by
  have ha := a.toNat_lt; have hb := b.toNat_lt; have hc := c.toNat_lt; have hd := d.toNat_lt
  have e0 : (a.toNat : Int) % 4294967296 = ((a.toNat : Nat) : Int) := by omega
  have e1 : (b.toNat : Int) % 4294967296 * 256 % 4294967296 = ((2 ^ 8 * b.toNat : Nat) : Int) := by omega
  have e2 : (c.toNat : Int) % 4294967296 * 65536 % 4294967296 = ((2 ^ 16 * c.toNat : Nat) : Int) := by omega
  have e3 : (d.toNat : Int) % 4294967296 * 16777216 % 4294967296 = ((2 ^ 24 * d.toNat : Nat) : Int) := by omega
  rw [e0, e1, e2, e3, u32_or_nat _ _ (by omega) (by omega)]
  rw [Nat.or_comm, ← Nat.two_pow_add_eq_or_of_lt (by omega)]
  rw [u32_or_nat _ _ (by omega) (by omega), Nat.or_comm, ← Nat.two_pow_add_eq_or_of_lt (by omega)]
  rw [u32_or_nat _ _ (by omega) (by omega), Nat.or_comm, ← Nat.two_pow_add_eq_or_of_lt (by omega)]
  congr 1
  unfold key4
  omega

set_option maxRecDepth 100000 in
set_option maxHeartbeats 800000 in
theorem key_calls0 (l : List UInt8) (hl : 4 ≤ l.length) (hr : l.length ≤ 4611686018427387904) (w : World) :
    Calls Try.prog 14 #[.string (B l)] w fun e w' => e = .returned (.int .u32 (key4 l[0] l[1] l[2] l[3])) ∧ ∃ n, w' = w.drewN n := by
  have q0 : (0 : Int) < (l.length : Int) := by omega
  have q1 : (1 : Int) < (l.length : Int) := by omega
  have q2 : (2 : Int) < (l.length : Int) := by omega
  have q3 : (3 : Int) < (l.length : Int) := by omega
  generalize ha : l[0] = a
  generalize hb : l[1] = b
  generalize hc : l[2] = c
  generalize hd : l[3] = d
  go_enter Try.func14, Try.ntmps14
  go_wp2
  go_quiet (fail)
  go_wp2
  go_ret
  exact ⟨congrArg (fun n : Int => Ending.returned (.int .u32 n)) (u32_bits a b c d), _, rfl⟩
theorem key_calls (s : List UInt8) (i : Nat) (hi : i + 4 ≤ s.length) (hr : s.length ≤ 4611686018427387904) (w : World) :
    Calls Try.prog 14 #[.string (B (s.drop i))] w fun e w' => e = .returned (.int .u32 (keyAt s i)) ∧ ∃ n, w' = w.drewN n := by
  have hl : (s.drop i).length = s.length - i := List.length_drop
  refine (key_calls0 (s.drop i) (by omega) (by omega) w).mono fun e w' ⟨he, hw⟩ => ⟨?_, hw⟩
  rw [he]
  unfold keyAt
  rw [getD_lt (by omega), getD_lt (by omega), getD_lt (by omega), getD_lt (by omega)]
  simp

/-- What alike tells: so many bytes are the same, and no more. -/
def AlikeIs (s : List UInt8) (a b : Nat) (w : World) (e : Ending) (w' : World) : Prop :=
  ∃ n : Nat, e = .returned (.int .i64 n) ∧ b + n ≤ s.length ∧ (∀ j, j < n → s.getD (a + j) 0 = s.getD (b + j) 0) ∧ (b + n < s.length → s.getD (a + n) 0 ≠ s.getD (b + n) 0) ∧ ∃ q, w' = w.drewN q
set_option maxRecDepth 100000 in
set_option maxHeartbeats 800000 in
theorem alike_calls (s : List UInt8) (a b : Nat) (hab : a < b) (hb : b ≤ s.length) (hs : s.length ≤ 4611686018427387904) (w : World) :
    Calls Try.prog 15 #[.string (B s), .int .i64 a, .int .i64 b] w (AlikeIs s a b w) := by
  go_enter Try.func15, Try.ntmps15
  go_wp2
  go_loopw [7] (fun n wr => ∃ k q : Nat, n = .int .i64 k ∧ b + k ≤ s.length ∧ Hid (∀ j, j < k → s.getD (a + j) 0 = s.getD (b + j) 0) ∧ wr = w.drewN q) (fun n _ => s.length - (intOf n).toNat)
  case atStart => exact ⟨0, 0, rfl, by omega, fun j hj => absurd hj (by omega), rfl⟩
  case round =>
    obtain ⟨k, q, rfl, hk, hal, rfl⟩ := hrel
    have hw1 : IntKind.i64.wrap ((b : Int) + (k : Int)) = (b : Int) + (k : Int) := IntWalk.i64_in _ (by omega)
    have hw2 : IntKind.i64.wrap ((a : Int) + (k : Int)) = (a : Int) + (k : Int) := IntWalk.i64_in _ (by omega)
    have hn0 : (0 : Int) ≤ (b : Int) + (k : Int) := by omega
    have hn1 : (0 : Int) ≤ (a : Int) + (k : Int) := by omega
    have ht1 : ((b : Int) + (k : Int)).toNat = b + k := by omega
    have ht2 : ((a : Int) + (k : Int)).toNat = a + k := by omega
    by_cases hlt : b + k < s.length
    · have hl1 : (b : Int) + (k : Int) < (s.length : Int) := by omega
      have hl2 : (a : Int) + (k : Int) < (s.length : Int) := by omega
      have hx1 : s[b + k] = s.getD (b + k) 0 := (getD_lt hlt).symm
      have hx2 : s[a + k]'(by omega) = s.getD (a + k) 0 := (getD_lt (by omega)).symm
      have hstep : Hid (s.getD (a + k) 0 = s.getD (b + k) 0 → ∀ j, j < k + 1 → s.getD (a + j) 0 = s.getD (b + j) 0) := by
        intro he j hj
        by_cases h : j < k
        · exact hal.out j h
        · obtain rfl : j = k := by omega
          exact he
      generalize hy : s.getD (b + k) 0 = y at *
      generalize hz : s.getD (a + k) 0 = x at *
      have hy' := Lib.hid hy
      have hz' := Lib.hid hz
      clear hy hz
      by_cases he : x = y
      · subst he
        go_wp2
        go_quiet (fail)
        go_wp2
        go_roundw
        case rel => exact ⟨k + 1, q + nq, by go_num, by omega, hstep.out trivial, rfl⟩
        case measure => simp [intOf]; omega
      · have hxy : ((x.toNat : Int) == (y.toNat : Int)) = false := by
          simp only [beq_eq_false_iff_ne, ne_eq]
          intro h
          exact he (UInt8.toNat_inj.1 (by omega))
        go_wp2
        go_quiet (fail)
        go_wp2
        go_ret
        exact ⟨k, rfl, by omega, hal.out, fun _ => by rw [hy'.out, hz'.out]; exact he, q + nq, World.drewN_drewN _ _ _⟩
    · have hl1 : ¬ (b : Int) + (k : Int) < (s.length : Int) := by omega
      have hl2 : decide ((b : Int) + (k : Int) < (s.length : Int)) = false := by simpa using hl1
      go_wp2
      go_quiet (fail)
      go_wp2
      go_ret
      exact ⟨k, rfl, by omega, hal.out, fun h => absurd h hlt, q + nq, World.drewN_drewN _ _ _⟩

/-- The step that copies bytes as they stand, or nothing. -/
def plainOf (s : List UInt8) : List UInt8 := if s = [] then [] else put (2 * s.length) ++ s
theorem put_callsI (x : Int) (h0 : 0 ≤ x) (h1 : x ≤ 18446744073709551615) (w : World) :
    Calls Try.prog 17 #[.int .u64 x] w fun e w' => e = .returned (.string (B (put x.toNat))) ∧ Below w.heap.size w w' := by
  obtain ⟨n, rfl⟩ := Int.eq_ofNat_of_zero_le h0
  exact put_calls n (by omega) w
set_option maxRecDepth 100000 in
set_option maxHeartbeats 800000 in
theorem plain_calls (s : List UInt8) (hs : s.length ≤ 70368744177664) (w : World) :
    Calls Try.prog 16 #[.string (B s)] w fun e w' => e = .returned (.string (B (plainOf s))) ∧ Below w.heap.size w w' := by
  by_cases h : s = []
  · subst h
    go_enter Try.func16, Try.ntmps16
    go_wp2
    go_ret
    exact ⟨rfl, Below.refl _ _⟩
  · have he : s.isEmpty = false := by simp [h]
    have hp : Hid (plainOf s = put (2 * s.length) ++ s) := by rw [plainOf, if_neg h]; rfl
    have hl := put_length (2 * s.length)
    have hi : (2 * (s.length : Int)).toNat = 2 * s.length := by omega
    go_enter Try.func16, Try.ntmps16
    go_wp2_with (go_at_call 17; go_must (refine (put_callsI (2 * (s.length : Int)) (by omega) (by omega) _).mono ?_); rintro e w1 ⟨rfl, hb1⟩; rw [hi])
    all_goals first | (exfalso; omega) | skip
    go_ret
    exact ⟨by rw [hp.out]; rfl, hb1⟩
end Go.Proofs.Ytlmchjiifcnpgaa
