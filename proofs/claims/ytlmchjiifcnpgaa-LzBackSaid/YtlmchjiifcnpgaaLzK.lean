/- What knows and LzUnpacks of the statements of layer 5 return: true. No condition but sizes that every memory has. -/
import Derived.Test.YtlmchjiifcnpgaaLzR
namespace Go.Proofs.Ytlmchjiifcnpgaa
open Go.RowKit

theorem kn (l : List UInt8) (most : Int) (t : List UInt8) (k : Nat) (hl : l.length ≤ 70368744177664) (h0 : -9223372036854775808 ≤ most) (h1 : most ≤ 70368744170000) (h : unp l most = (t, k)) (w : World) :
    Calls Try.prog 7 #[.string ⟨l.toArray⟩, .int .i64 most] w fun e w' => e = .returned (.tuple #[.string (B t), .int .i64 k]) ∧ Below w.heap.size w w' :=
  (unpack_calls l most hl h0 h1 w).mono fun e w' ⟨he, hb⟩ => ⟨by rw [he, h]; rfl, hb⟩

set_option maxRecDepth 100000 in
set_option maxHeartbeats 800000 in
theorem knows05_calls (w : World) :
    Calls Try.prog 6 #[] w fun e w' => e = .returned (.bool true) ∧ Below w.heap.size w w' := by
  go_enter Try.func6, Try.ntmps6
  go_wp2_with fail
  refine (kn [1, 2, 97, 11, 1] 9 [97, 97, 97, 97, 97, 97] 0 (by decide) (by omega) (by omega) (by decide +kernel) _).mono ?_
  rintro e w1 ⟨rfl, hb1⟩
  go_wp2_with fail
  refine (kn [] 9 [] 2 (by decide) (by omega) (by omega) (by decide +kernel) _).mono ?_
  rintro e w2 ⟨rfl, hb2⟩
  go_wp2_with fail
  refine (kn [0, 97] 0 [] 3 (by decide) (by omega) (by omega) (by decide +kernel) _).mono ?_
  rintro e w3 ⟨rfl, hb3⟩
  have hb12 := bthen hb1 hb1.size hb2
  have hb13 := bthen hb12 hb12.size hb3
  clear hb1 hb2 hb3 hb12
  go_wp2_with fail
  go_ret
  exact ⟨rfl, hb13⟩

set_option maxRecDepth 100000 in
set_option maxHeartbeats 800000 in
theorem lzUnpacks_calls (l : List UInt8) (most : Int) (hl : l.length ≤ 9223372036854775807) (h0 : -9223372036854775808 ≤ most) (w : World) :
    Calls Try.prog 3 #[.string (B l), .int .i64 most] w fun e w' => e = .returned (.bool true) ∧ Below w.heap.size w w' := by
  by_cases h1 : 400 < l.length
  · go_enter Try.func3, Try.ntmps3
    go_wp2_with (go_at_call 6; go_must (refine (knows05_calls _).mono ?_); rintro e w1 ⟨rfl, hb1⟩)
    all_goals first | (exfalso; omega) | skip
    go_ret
    exact ⟨rfl, hb1⟩
  · by_cases h2 : 20000 < most
    · go_enter Try.func3, Try.ntmps3
      go_wp2_with (go_at_call 6; go_must (refine (knows05_calls _).mono ?_); rintro e w1 ⟨rfl, hb1⟩)
      all_goals first | (exfalso; omega) | skip
      go_ret
      exact ⟨rfl, hb1⟩
    · generalize hu : unp l most = x
      have hU := Lib.hid hu
      clear hu
      go_enter Try.func3, Try.ntmps3
      go_wp2_with (first
        | (go_at_call 7; go_must (refine (unpack_calls l most (by omega) (by omega) (by omega) _).mono ?_); rintro e w1 ⟨rfl, hb1⟩; rw [hU.out, unpVal])
        | (go_at_call 8; go_must (refine (refUnpack_calls l most (by omega) (by omega) (by omega) _).mono ?_); rintro e w2 ⟨rfl, hb2⟩; rw [hU.out, unpVal]; have hb12 := bthen hb1 hb1.size hb2)
        | (go_at_call 6; go_must (refine (knows05_calls _).mono ?_); rintro e w3 ⟨rfl, hb3⟩; have hb13 := bthen hb12 hb12.size hb3))
      all_goals first | (exfalso; omega) | skip
      go_ret
      exact ⟨rfl, hb13⟩
end Go.Proofs.Ytlmchjiifcnpgaa
