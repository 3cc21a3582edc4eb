/- The walks of layer 9 (ref): names; the empty id. No condition. -/
import Derived.Test.YtlpiefopegjgjaaRefP
import Derived.Test.YtlpiefopegjgjaaElem
import Derived.Test.YtlpiefopegjgjaaHex
import Derived.Test.YtlpiefopegjgjaaZero
namespace Go.Proofs.Ytlpiefopegjgjaa
open Go.RowKit
set_option maxRecDepth 100000 in
set_option maxHeartbeats 400000 in
theorem name_calls (s : List UInt8) (hs : s.length ≤ 9223372036854775807) (w : World) :
    Calls Try.prog 21 #[.string (B s)] w fun e w' => e = .returned (.bool (nameOk s)) ∧ w = w' := by
  go_enter Try.func21, Try.ntmps21
  go_wp2
  go_loop [6] (fun i => ∃ k : Nat, i = .int .i64 k ∧ k ≤ s.length ∧ Hid ((s.take k).all nameC = true)) (fun i => s.length - (intOf i).toNat)
  case atStart => exact ⟨0, rfl, by omega, by show _ = _; simp⟩
  case round =>
    obtain ⟨k, rfl, hk, hall⟩ := hrel
    by_cases hlt : k < s.length
    · have hki : (k : Int) < (s.length : Int) := by omega
      obtain ⟨c, hc⟩ : ∃ c, s.getD k 0 = c := ⟨_, rfl⟩
      have hck : ∀ h : k < s.length, s[k]'h = c := fun h => by rw [← hc, getD_at]
      cases hn : nameC c
      · have hbad := Lib.hid (nameOk_bad hlt (by rw [hc]; exact hn))
        have hor : (c.toNat : Int) ≤ 32 ∨ 126 < (c.toNat : Int) := by
          simp only [nameC, Bool.and_eq_false_iff, decide_eq_false_iff_not] at hn
          omega
        clear hc hn hall
        rcases hor with h1 | h1
        · go_wp2
          go_ret
          exact ⟨by rw [hbad.out]; rfl, rfl⟩
        · have h2 : ¬ (c.toNat : Int) ≤ 32 := by omega
          go_wp2
          go_ret
          exact ⟨by rw [hbad.out]; rfl, rfl⟩
      · have hst := Lib.hid (all_take_step hlt hall.out (by rw [hc]; exact hn))
        simp only [nameC, Bool.and_eq_true, decide_eq_true_eq] at hn
        have h1 : ¬ (c.toNat : Int) ≤ 32 := by omega
        have h2 : ¬ 126 < (c.toNat : Int) := by omega
        clear hc hn hall
        go_wp2
        go_round
        case rel => exact ⟨k + 1, by go_num, by omega, hst⟩
        case measure => simp [intOf]; omega
    · have hki : ¬ (k : Int) < (s.length : Int) := by omega
      have hok : Hid (nameOk s = (!s.isEmpty && decide (s.length ≤ 40))) := by
        have := hall.out
        rw [List.take_of_length_le (by omega)] at this
        exact nameOk_all this
      clear hall
      by_cases he : s.isEmpty = true
      · go_wp2
        go_ret
        exact ⟨by rw [hok.out, he]; rfl, rfl⟩
      · have he' : s.isEmpty = false := by simpa using he
        by_cases h40 : s.length ≤ 40
        · have h40i : (s.length : Int) ≤ 40 := by omega
          go_wp2
          go_ret
          exact ⟨by rw [hok.out, he']; simp [h40], rfl⟩
        · have h40i : ¬ (s.length : Int) ≤ 40 := by omega
          go_wp2
          go_ret
          exact ⟨by rw [hok.out, he']; simp [h40], rfl⟩
set_option maxRecDepth 100000 in
set_option maxHeartbeats 400000 in
theorem refName_calls (s : List UInt8) (hs : s.length ≤ 9223372036854775807) (w : World) :
    Calls Try.prog 22 #[.string (B s)] w fun e w' => e = .returned (.bool (nameOk s)) ∧ w = w' := by
  go_enter Try.func22, Try.ntmps22
  by_cases h0 : s.length < 1
  · have h0i : (s.length : Int) < 1 := by omega
    have hno : Hid (nameOk s = false) := by
      obtain rfl : s = [] := List.eq_nil_of_length_eq_zero (by omega)
      rfl
    go_wp2
    go_ret
    exact ⟨by rw [hno.out]; rfl, rfl⟩
  · have h0i : ¬ (s.length : Int) < 1 := by omega
    by_cases h40 : 40 < s.length
    · have h40i : 40 < (s.length : Int) := by omega
      have hno : Hid (nameOk s = false) := by show _ = _; simp [nameOk]; omega
      go_wp2
      go_ret
      exact ⟨by rw [hno.out]; rfl, rfl⟩
    · have h40i : ¬ 40 < (s.length : Int) := by omega
      go_wp2
      go_loop [3] (fun i => ∃ k : Nat, i = .int .i64 k ∧ k ≤ s.length ∧ Hid ((s.take k).all nameC = true)) (fun i => s.length - (intOf i).toNat)
      case atStart => exact ⟨0, rfl, by omega, by show _ = _; simp⟩
      case round =>
        obtain ⟨k, rfl, hk, hall⟩ := hrel
        by_cases hlt : k < s.length
        · have hki : (k : Int) < (s.length : Int) := by omega
          obtain ⟨c, hc⟩ : ∃ c, s.getD k 0 = c := ⟨_, rfl⟩
          have hck : ∀ h : k < s.length, s[k]'h = c := fun h => by rw [← hc, getD_at]
          cases hn : nameC c
          · have hbad := Lib.hid (nameOk_bad hlt (by rw [hc]; exact hn))
            have hor : (c.toNat : Int) < 33 ∨ 126 < (c.toNat : Int) := by
              simp only [nameC, Bool.and_eq_false_iff, decide_eq_false_iff_not] at hn
              omega
            clear hc hn hall
            rcases hor with h1 | h1
            · go_wp2
              go_ret
              exact ⟨by rw [hbad.out]; rfl, rfl⟩
            · have h2 : ¬ (c.toNat : Int) < 33 := by omega
              go_wp2
              go_ret
              exact ⟨by rw [hbad.out]; rfl, rfl⟩
          · have hst := Lib.hid (all_take_step hlt hall.out (by rw [hc]; exact hn))
            simp only [nameC, Bool.and_eq_true, decide_eq_true_eq] at hn
            have h1 : ¬ (c.toNat : Int) < 33 := by omega
            have h2 : ¬ 126 < (c.toNat : Int) := by omega
            clear hc hn hall
            go_wp2
            go_round
            case rel => exact ⟨k + 1, by go_num, by omega, hst⟩
            case measure => simp [intOf]; omega
        · have hki : ¬ (k : Int) < (s.length : Int) := by omega
          have hok : Hid (nameOk s = true) := by
            have := hall.out
            rw [List.take_of_length_le (by omega)] at this
            show _ = _
            rw [nameOk_all this]
            cases s with
            | nil => simp at h0
            | cons x s => simp at h40 ⊢; omega
          clear hall
          go_wp2
          go_ret
          exact ⟨by rw [hok.out]; rfl, rfl⟩
set_option maxRecDepth 100000 in
set_option maxHeartbeats 400000 in
theorem none_calls (l : List UInt8) (hl : l.length = 32) (w : World) :
    Calls Try.prog 27 #[.agg (u8s l)] w fun e w' => e = .returned (.bool (isNone l)) ∧ Below w.heap.size w w' := by
  have heq := fun W => equalIn_zero l hl W
  have hb := Blk.new w 37 (u8s l)
  go_enter Try.func27, Try.ntmps27
  go_wp2_with (first
    | (refine wpList_load_row rfl 37 (.tmp 1) rfl w.heap.size rfl _ _ _ _ hb Try.underlying37 rfl (by rw [u8s_size, hl]; exact sz32) ?_))
  go_ret
  exact ⟨rfl, (Below.refl _ _).alloc (Nat.le_refl _) _⟩
end Go.Proofs.Ytlpiefopegjgjaa
