/- The walk of layer 1's Get. No condition. -/
import Derived.Test.YtlanconcbpdneaaVarint
namespace Go.Proofs.Ytlanconcbpdneaa
open Go.RowKit

theorem and127 (c : UInt8) : bits .and .u8 (c.toNat : Int) 127 = ((c.toNat % 128 : Nat) : Int) := by
  have h : ∀ m : Fin 256, bits .and .u8 ((m.val : Nat) : Int) 127 = ((m.val % 128 : Nat) : Int) := by decide +kernel
  exact h ⟨c.toNat, c.toNat_lt⟩
theorem or_shl (N k : Nat) (c : UInt8) (hN : N < 128 ^ k) (hf : N + 128 ^ k * (c.toNat % 128) ≤ 18446744073709551615) :
    bits .or .u64 (N : Int) (IntKind.u64.wrap (IntKind.u64.wrap (bits .and .u8 (c.toNat : Int) 127) * 2 ^ (7 * k))) = ((N + 128 ^ k * (c.toNat % 128) : Nat) : Int) := by
  have hp : (128 : Nat) ^ k = 2 ^ (7 * k) := by rw [Nat.pow_mul]
  rw [hp] at hN hf ⊢
  rw [and127, IntWalk.u64_in ((c.toNat % 128 : Nat) : Int) (by omega)]
  have h1 : ((c.toNat % 128 : Nat) : Int) * 2 ^ (7 * k) = ((2 ^ (7 * k) * (c.toNat % 128) : Nat) : Int) := by
    rw [Int.natCast_mul, Int.mul_comm]; simp
  rw [h1, IntWalk.u64_in _ (by omega)]
  have h2 := u64_or_nat N (2 ^ (7 * k) * (c.toNat % 128)) (by omega) (by omega)
  rw [h2, Nat.or_comm, ← Nat.two_pow_add_eq_or_of_lt hN, Nat.add_comm]

set_option maxRecDepth 100000 in
set_option maxHeartbeats 800000 in
theorem get_calls (l : List UInt8) (hl : l.length ≤ 4611686018427387904) (w : World) :
    Calls Try.prog 37 #[.string (B l)] w fun e w' => e = .returned (getTriple l (get l)) ∧ ∃ n, w' = w.drewN n := by
  obtain ⟨M, hmin, hM1, hM2, hM3⟩ : ∃ M : Nat, (if (10 : Int) < (l.length : Int) then (10 : Int) else (l.length : Int)) = (M : Int) ∧ M ≤ 10 ∧ M ≤ l.length ∧ Hid (M = 10 ∨ M = l.length) := by
    refine ⟨min l.length 10, ?_, by omega, by omega, ?_⟩
    · split <;> omega
    · show _ ∨ _; omega
  go_enter Try.func37, Try.ntmps37
  go_wp2
  go_loop [5, 11] (fun n i => ∃ k : Nat, i = .int .i64 k ∧ k ≤ M ∧ n = .int .u64 (val7 (l.take k)) ∧ Hid (k ≤ lead l)) (fun _ i => 10 - (intOf i).toNat)
  case atStart => exact ⟨0, rfl, by omega, rfl, Nat.zero_le _⟩
  case round =>
    obtain ⟨k, rfl, h1, rfl, h3⟩ := hrel
    by_cases hk : k < M
    · obtain ⟨c, hc⟩ : ∃ c, l[k] = c := ⟨_, rfl⟩
      have hts := val7_take_succ l k (by omega)
      have hN := val7_lt (l.take k)
      rw [List.length_take, Nat.min_eq_left (by omega)] at hN
      rw [hc] at hts
      by_cases h9 : k = 9
      · subst h9
        by_cases hc1 : 1 < c.toNat
        · have hfin : Hid (get l = none) := by
            by_cases hbig : 128 ≤ c.toNat
            · exact get_ten (lead_next h3.out (by omega) (by rw [hc]; exact hbig))
            · exact get_nine (by omega) (lead_here h3.out (by omega) (by rw [hc]; omega)) (by rw [hc]; exact hc1)
          clear hts hN
          go_wp2
          all_goals first | (exfalso; omega) | skip
          go_ret3
          exact ⟨by rw [hfin.out]; rfl, 0, rfl⟩
        · have hle : Hid (lead l = 9) := lead_here h3.out (by omega) (by rw [hc]; omega)
          have hor0 := or_shl (val7 (l.take 9)) 9 c hN (by omega)
          rw [← hts] at hor0
          have hor : bits .or .u64 (val7 (List.take 9 l) : Int) (IntKind.u64.wrap (IntKind.u64.wrap (bits .and .u8 (c.toNat : Int) 127) * 9223372036854775808)) = ((val7 (List.take 10 l) : Nat) : Int) := by
            rw [show (9223372036854775808 : Int) = 2 ^ (7 * 9) from by decide]
            exact hor0
          clear hor0
          clear hts hN
          by_cases h0 : c.toNat = 0
          · have hfin : Hid (get l = none) := get_zero (by omega) hle.out (by omega) (by rw [hc]; exact h0)
            have h0' : ((c.toNat : Int) == 0) = true := by simp [h0]
            have h0h := Lib.hid h0
            clear h0
            go_wp2
            all_goals first | (exfalso; omega) | skip
            go_ret3
            exact ⟨by rw [hfin.out]; rfl, 0, rfl⟩
          · have hfin : Hid (get l = some (val7 (l.take (9 + 1)), 9 + 1)) := get_yes (by omega) hle.out (by omega) (fun _ => by rw [hc]; omega) (fun _ => by rw [hc]; exact h0)
            have h0' : ((c.toNat : Int) == 0) = false := by simp; omega
            go_wp2
            all_goals first | (exfalso; omega) | skip
            go_quiet (fail)
            go_wp2
            go_ret3
            exact ⟨by rw [hfin.out]; rfl, _, rfl⟩
      · by_cases hd : 128 ≤ c.toNat
        · have hn : Hid (k + 1 ≤ lead l) := lead_next h3.out (by omega) (by rw [hc]; exact hd)
          have hor := or_shl (val7 (l.take k)) k c hN (by
            have : 128 ^ k * (c.toNat % 128) ≤ 128 ^ k * 127 := Nat.mul_le_mul_left _ (by omega)
            have : 128 ^ k ≤ 128 ^ 8 := Nat.pow_le_pow_right (by omega) (by omega)
            omega)
          rw [← hts] at hor
          clear hts hN
          go_wp2
          all_goals first | (exfalso; omega) | skip
          go_round
          case rel => exact ⟨k + 1, by go_num, by omega, rfl, hn⟩
          case measure => simp [intOf]; omega
        · have hle : Hid (lead l = k) := lead_here h3.out (by omega) (by rw [hc]; omega)
          have hor := or_shl (val7 (l.take k)) k c hN (by
            have : 128 ^ k * (c.toNat % 128) ≤ 128 ^ k * 127 := Nat.mul_le_mul_left _ (by omega)
            have : 128 ^ k ≤ 128 ^ 8 := Nat.pow_le_pow_right (by omega) (by omega)
            omega)
          rw [← hts] at hor
          clear hts hN
          by_cases h0 : 0 < k ∧ c.toNat = 0
          · obtain ⟨h0k, h0c⟩ := h0
            have hfin : Hid (get l = none) := get_zero (by omega) hle.out h0k (by rw [hc]; exact h0c)
            have h0' : ((c.toNat : Int) == 0) = true := by simp [h0c]
            have h0h := Lib.hid h0c
            clear h0c
            go_wp2
            all_goals first | (exfalso; omega) | skip
            go_ret3
            exact ⟨by rw [hfin.out]; rfl, 0, rfl⟩
          · have hfin : Hid (get l = some (val7 (l.take (k + 1)), k + 1)) := get_yes (by omega) hle.out (by omega) (fun _ => by omega) (fun h => by rw [hc]; omega)
            by_cases h0k : ¬ 0 < k
            · by_cases h0c : c.toNat = 0
              · have h0' : ((c.toNat : Int) == 0) = true := by simp [h0c]
                have h0h := Lib.hid h0c
                clear h0c h0
                go_wp2
                all_goals first | (exfalso; omega) | skip
                go_quiet (fail)
                go_wp2
                go_ret3
                exact ⟨by rw [hfin.out]; rfl, _, rfl⟩
              · have h0' : ((c.toNat : Int) == 0) = false := by simp; omega
                go_wp2
                all_goals first | (exfalso; omega) | skip
                go_quiet (fail)
                go_wp2
                go_ret3
                exact ⟨by rw [hfin.out]; rfl, _, rfl⟩
            · have h0' : ((c.toNat : Int) == 0) = false := by simp; omega
              go_wp2
              all_goals first | (exfalso; omega) | skip
              go_quiet (fail)
              go_wp2
              go_ret3
              exact ⟨by rw [hfin.out]; rfl, _, rfl⟩
    · have hfin : Hid (get l = none) := by
        have h3' := h3.out
        rcases hM3.out with h | h
        · exact get_ten (by omega)
        · exact get_end (by omega)
      go_wp2
      all_goals first | (exfalso; omega) | skip
      go_ret3
      exact ⟨by rw [hfin.out]; rfl, 0, rfl⟩
end Go.Proofs.Ytlanconcbpdneaa
