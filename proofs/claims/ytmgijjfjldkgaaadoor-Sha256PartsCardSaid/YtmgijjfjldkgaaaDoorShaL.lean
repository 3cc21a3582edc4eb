/- The walks of the statements Sha256Tells and Sha256Parts (layer 2). Condition: the table of constants is as the program laid it. -/
import Derived.Test.YtmgijjfjldkgaaaDoorShaK
namespace Go.Proofs.YtmgijjfjldkgaaaDoor
open Go.RowKit

set_option maxRecDepth 100000 in
set_option maxHeartbeats 1000000 in
theorem tells_calls (l : List UInt8) (hl : l.length ≤ 9223372036854775807) (w : World) (hK : TabK w) :
    Calls Tryd.prog 3 #[.string (B l)] w fun e w' => e = .returned (.bool true) ∧ Below w.heap.size w w' := by
  go_enter Tryd.func3, Tryd.ntmps3
  by_cases h4 : l.length ≤ 400
  · have h4i : ¬ (400 : Int) < (l.length : Int) := by omega
    have hfl : [l].flatten = l := by simp
    have hsum := fun v W hk hv => Lib.hid (sum_calls [l] v W hk hv (by rw [hfl]; omega))
    rw [hfl] at hsum
    clear hfl
    have heq := fun W => run_eql_id W (shaOf l) (shaOf l) (shaOf_length l) (shaOf_length l)
    have hsv : ∀ W : World, Strs (W.alloc (.cells #[.string (B l)] 9)) (.slice (some ⟨W.heap.size, 0, none⟩) 1 1) [l] := by
      intro W
      refine .inr ⟨W.heap.size, 0, 1, rfl, ?_, by simp, by simp, by simp⟩
      intro j x hj
      cases j with
      | zero => simp at hj; subst hj; rw [World.cell?_alloc_new]; rfl
      | succ j => simp at hj
    go_wp2_with (first
      | (go_at_call 6; go_must (refine (knows_calls _ hK).mono ?_); rintro e w1 ⟨rfl, hb1⟩)
      | (go_at_call 7; go_must (refine ((hsum _ _ ((hK.below hb1).below ((Below.refl _ _).alloc (Nat.le_refl _) _)) (hsv _)).out).mono ?_); rintro e w2 ⟨rfl, hb2⟩)
      | (go_at_call 8; go_must (refine (refSum_calls l _ (by omega)).mono ?_); rintro e w3 ⟨rfl, hb3⟩))
    go_ret
    refine ⟨rfl, ?_⟩
    have c1 := ((Below.refl w.heap.size w).trans hb1)
    have c2 := c1.alloc c1.size (.cells #[.string (B l)] 9)
    have c3 := bthen c2 c2.size hb2
    exact bthen c3 c3.size hb3
  · have h4i : (400 : Int) < (l.length : Int) := by omega
    go_wp2_with (first
      | (go_at_call 6; go_must (refine (knows_calls _ hK).mono ?_); rintro e w1 ⟨rfl, hb1⟩))
    go_ret
    exact ⟨rfl, hb1⟩
end Go.Proofs.YtmgijjfjldkgaaaDoor
