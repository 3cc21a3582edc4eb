/- What LzSteps of the statements of layer 5 returns: true. No condition but sizes that every memory has. -/
import Derived.Test.YtlmchjiifcnpgaaLzS
namespace Go.Proofs.Ytlmchjiifcnpgaa
open Go.RowKit

/-- The numbers and texts are such as a memory has. -/
def StepsBe (l : List (Int × Int × List UInt8)) : Prop := ∀ (i : Nat) (h : i < l.length), -9223372036854775808 ≤ (l[i]).1 ∧ (l[i]).1 ≤ 9223372036854775807 ∧ -9223372036854775808 ≤ (l[i]).2.1 ∧ (l[i]).2.1 ≤ 9223372036854775807 ∧ (l[i]).2.2.length ≤ 9223372036854775807

theorem StepsAt.below {w w' : World} {A : Option Addr} {l : List (Int × Int × List UInt8)} (h : StepsAt w A l) (hb : Below w.heap.size w w') : StepsAt w' A l := by
  rcases h with h | ⟨b, off, hA, hlt, hc⟩
  · exact .inl h
  · refine .inr ⟨b, off, hA, Nat.lt_of_lt_of_le hlt hb.size, fun i hi => ?_⟩
    obtain ⟨h1, h2, h3⟩ := hc i hi
    exact ⟨(hb.cell (p := ⟨b, _, none⟩) hlt).trans h1, (hb.cell (p := ⟨b, _, none⟩) hlt).trans h2, (hb.cell (p := ⟨b, _, none⟩) hlt).trans h3⟩

set_option maxRecDepth 100000 in
set_option maxHeartbeats 2000000 in
theorem lzSteps_calls (l : List (Int × Int × List UInt8)) (A : Option Addr) (cap : Nat) (most : Int) (w : World) (hat : StepsAt w A l) (hbe : StepsBe l) (hlm : l.length ≤ 9223372036854775807) (h0 : -9223372036854775808 ≤ most) :
    Calls Try.prog 4 #[.slice A l.length cap, .int .i64 most] w fun e w' => e = .returned (.bool true) ∧ Below w.heap.size w w' := by
  by_cases h1 : 30 < l.length
  · go_enter Try.func4, Try.ntmps4
    go_wp2_with (go_at_call 6; go_must (refine (knows05_calls _).mono ?_); rintro e w1 ⟨rfl, hb1⟩)
    all_goals first | (exfalso; omega) | skip
    go_ret
    exact ⟨rfl, hb1⟩
  · by_cases h2 : 20000 < most
    · go_enter Try.func4, Try.ntmps4
      go_wp2_with (go_at_call 6; go_must (refine (knows05_calls _).mono ?_); rintro e w1 ⟨rfl, hb1⟩)
      all_goals first | (exfalso; omega) | skip
      go_ret
      exact ⟨rfl, hb1⟩
    · have hat' := Lib.hid hat
      have hbe' := Lib.hid hbe
      clear hat hbe
      go_enter Try.func4, Try.ntmps4
      go_wp2
      all_goals first | (exfalso; omega) | skip
      go_loop [5] (fun i => ∃ k : Nat, i = .int .i64 k ∧ k ≤ l.length ∧ Hid (∀ (i : Nat) (h : i < l.length), i < k → 0 ≤ (l[i]).1 ∧ 0 ≤ (l[i]).2.1 ∧ (l[i]).2.2.length ≤ 100)) (fun i => l.length - (intOf i).toNat)
      case atStart => exact ⟨0, rfl, by omega, fun i h hi => absurd hi (by omega)⟩
      case round =>
        obtain ⟨k, rfl, hk, hgood⟩ := hrel
        by_cases hlt : k < l.length
        · rcases hat'.out with rfl | ⟨b, off, rfl, hbw, hcell⟩
          · simp at hlt
          · obtain ⟨f1, f2, f3, f4, f5⟩ := hbe'.out k hlt
            obtain ⟨c1, c2, c3⟩ := hcell k hlt
            clear hcell
            have hnext : 0 ≤ (l[k]).1 → 0 ≤ (l[k]).2.1 → (l[k]).2.2.length ≤ 100 → Hid (∀ (i : Nat) (h : i < l.length), i < k + 1 → 0 ≤ (l[i]).1 ∧ 0 ≤ (l[i]).2.1 ∧ (l[i]).2.2.length ≤ 100) := by
              intro a1 a2 a3 i hi hik
              by_cases he : i < k
              · exact hgood.out i hi he
              · obtain rfl : i = k := by omega
                exact ⟨a1, a2, a3⟩
            have hnext' := Lib.hid hnext
            clear hnext
            generalize l[k] = x at *
            obtain ⟨N, F, T⟩ := x
            simp only at f1 f2 f3 f4 f5 c1 c2 c3
            have hki : (k : Int) < (l.length : Int) := by omega
            go_wp2_with (go_at_call 6; go_must (refine (knows05_calls _).mono ?_); rintro e w1 ⟨rfl, hb1⟩)
            all_goals first
              | (exfalso; omega)
              | (go_ret; exact ⟨rfl, hb1⟩)
              | (go_round
                 case rel => exact ⟨k + 1, by go_num, by omega, hnext'.out (by show 0 ≤ N; omega) (by show 0 ≤ F; omega) (by show T.length ≤ 100; omega)⟩
                 case measure => simp [intOf]; omega)
        · obtain rfl : k = l.length := by omega
          have hfit : Hid (StepsFit l) := by
            intro i hi
            obtain ⟨a1, a2, a3⟩ := hgood.out i hi hi
            obtain ⟨b1, b2, b3, b4, b5⟩ := hbe'.out i hi
            exact ⟨a1, b2, a2, b4, a3⟩
          go_wp2_with fail
          all_goals first | (exfalso; omega) | skip
          refine (steps_calls l A cap w (by omega) hat'.out hfit.out).mono ?_
          rintro e w1 ⟨m, rfl, hm, hb1⟩
          generalize hu : unp m most = x
          have hU := Lib.hid hu
          clear hu
          go_wp2_with (first
            | (go_at_call 7; go_must (refine (unpack_calls m most (by omega) (by omega) (by omega) _).mono ?_); rintro e w2 ⟨rfl, hb2⟩; rw [hU.out, unpVal]; have hb12 := bthen hb1 hb1.size hb2)
            | (go_at_call 8; go_must (refine (refUnpack_calls m most (by omega) (by omega) (by omega) _).mono ?_); rintro e w3 ⟨rfl, hb3⟩; rw [hU.out, unpVal]; have hb13 := bthen hb12 hb12.size hb3)
            | (go_at_call 6; go_must (refine (knows05_calls _).mono ?_); rintro e w4 ⟨rfl, hb4⟩; have hb14 := bthen hb13 hb13.size hb4))
          all_goals first | (exfalso; omega) | skip
          go_ret
          exact ⟨rfl, hb14⟩
end Go.Proofs.Ytlmchjiifcnpgaa
