/- The walk of layer 9's law: knows. No condition. -/
import Derived.Test.YtlpiefopegjgjaaRefKn
namespace Go.Proofs.Ytlpiefopegjgjaa
open Go.RowKit
set_option maxRecDepth 100000 in
set_option maxHeartbeats 4000000 in
theorem knows_calls (w : World) :
    Calls Try.prog 9 #[] w fun e w' => e = .returned (.bool true) ∧ Below w.heap.size w w' := by
  have hU1 : Hid (Calls Try.prog 10 #[.slice none 0 0, .slice (some ⟨w.heap.size, 0, none⟩) 1 1, .bool true] (w.alloc (.cells (updC U1).toArray 39))
      fun e w' => ∃ v1 v2, e = .returned (.tuple #[v1, v2, .int .i64 0]) ∧ OwnRefs w' (w.heap.size + 1) v1 [R1] ∧ OwnNs w' (w.heap.size + 1) 28 v2 [0] ∧ Below (w.heap.size + 1) (w.alloc (.cells (updC U1).toArray 39)) w') := by
    have := update_calls [] (fun x hx => by simp at hx) (by simp) (.slice none 0 0) [U1] (fun x hx => by simp at hx; subst hx; exact U1_ok) (by simp) (.slice (some ⟨w.heap.size, 0, none⟩) 1 1) true (w.alloc (.cells (updC U1).toArray 39)) SliceAt.nil (upds_blk (Blk.new _ _ _))
    rw [know1.1, know1.2.1, know1.2.2, size_alloc'] at this
    exact this
  have hU : ∀ W : World, Hid (Calls Try.prog 10 #[.slice (some ⟨W.heap.size, 0, none⟩) 1 1, .slice (some ⟨W.heap.size + 1, 0, none⟩) 1 1, .bool false] ((W.alloc (.cells (refC R1).toArray 54)).alloc (.cells (updC U2).toArray 39))
      fun e w' => ∃ v1 v2, e = .returned (.tuple #[v1, v2, .int .i64 0]) ∧ OwnRefs w' (W.heap.size + 1 + 1) v1 (resU [R1] [U2] false) ∧ OwnNs w' (W.heap.size + 1 + 1) 28 v2 [10] ∧
        Below (W.heap.size + 1 + 1) ((W.alloc (.cells (refC R1).toArray 54)).alloc (.cells (updC U2).toArray 39)) w') := by
    intro W
    have h1 : Blk ((W.alloc (.cells (refC R1).toArray 54)).alloc (.cells (updC U2).toArray 39)) W.heap.size 54 (refC R1).toArray := (Blk.new _ _ _).alloc _
    have h2 := blk_at2 W (.cells (refC R1).toArray 54) 39 (updC U2).toArray
    have := update_calls [R1] (fun x hx => by simp at hx; subst hx; exact R1_ok) (by simp) _ [U2] (fun x hx => by simp at hx; subst hx; exact U2_ok) (by simp) _ false _ (refs_blk h1) (upds_blk h2)
    rw [know2.1, know2.2, size_alloc', size_alloc'] at this
    exact this
  have hRR := fun W => run_equalIn_ref R1 R1 R1_ok R1_ok W
  rw [decide_eq_true (rfl : R1 = R1)] at hRR
  have hb01 : Below w.heap.size w (w.alloc (.cells (updC U1).toArray 39)) := (Below.refl _ _).alloc (Nat.le_refl _) _
  go_enter Try.func9, Try.ntmps9
  go_wp2_with (first
    | ((with_reducible refine lit_build1 built1 ?_ ?_); rfl)
    | ((with_reducible refine lit_build1 built2 ?_ ?_); rfl)
    | ((with_reducible refine lit_build1 built3 ?_ ?_); rfl)
    | ((with_reducible refine lit_build2 builtU1 ?_ ?_ ?_); rfl; rfl)
    | ((with_reducible refine lit_build3 builtU2 ?_ ?_ ?_ ?_); rfl; rfl; rfl)
    | ((with_reducible refine lit_build2 builtR1 ?_ ?_ ?_); rfl; rfl)
    | ((with_reducible refine lit_slice_upd (.tmp 9) U1 U1_ok ?_ ?_); rfl)
    | ((with_reducible refine lit_slice_ref (.tmp 17) R1 R1_ok ?_ ?_); rfl)
    | ((with_reducible refine lit_slice_upd (.tmp 21) U2 U2_ok ?_ ?_); rfl)
    | (go_at_call 10; (with_reducible refine hU1.out.mono ?_); rintro e w2 ⟨v1, v2, rfl, ho1, hn1, hb1⟩
       obtain ⟨g1, cap1, rfl, hg1, hr1⟩ := own_one_ref R1_ok ho1
       obtain ⟨g2, cap2, rfl, hg2, hc2⟩ := own_one_nat hn1
       have hU2 := hU w2
       have hb2 : Below w.heap.size w w2 := hb01.trans (hb1.mono (by omega))
       have hb3 : Below w2.heap.size w2 ((w2.alloc (.cells (refC R1).toArray 54)).alloc (.cells (updC U2).toArray 39)) := ((Below.refl _ _).alloc (Nat.le_refl _) _).alloc (by rw [size_alloc']; omega) _
       clear hU1 hU ho1 hn1 hb1 hb01)
    | (go_at_call 10; (with_reducible refine hU2.out.mono ?_); rintro e w3 ⟨v3, v4, rfl, ho3, hn3, hb4⟩
       obtain ⟨g4, cap4, rfl, hg4, hc4⟩ := own_one_nat hn3
       have hb5 := hb3.trans (hb4.mono (by omega))
       have hr5 := rangeAt_below hr1 hg1 hb5
       have hc5 := (hb5.cell (p := ⟨g2, 0, none⟩) hg2).trans hc2
       have hb6 := bthen hb2 hb2.size hb5
       clear hU2 ho3 hn3 hb4 hb3 hr1 hc2 hb5 hb2)
    | ((with_reducible refine lit_load_ref (.tmp 41) g1 0 R1 R1_ok hr5 ?_ ?_); rfl))
  go_ret
  exact ⟨rfl, hb6⟩
end Go.Proofs.Ytlpiefopegjgjaa
