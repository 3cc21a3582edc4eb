/- The walk of layer 4's law: knows. No condition. -/
import Derived.Test.YtlanconcbpdneaaObjK
namespace Go.Proofs.Ytlanconcbpdneaa
open Go.RowKit
theorem zeroObj (W : World) : (zeroValue 28).run Try.prog W = .ok (.agg zObj) W := by
  have h : (Try.prog.info? 28).map (·.zero) = some (some (.agg zObj)) := by kernel_rfl
  obtain ⟨i, h1, h2⟩ := Option.map_eq_some_iff.1 h
  simp [zeroValue, typeInfo, h1, h2]
theorem sizedObj : (Try.prog.info? 28).map (·.size) = some zObj.size := by rw [zObj_size]; exact szObj
set_option maxRecDepth 100000 in
set_option maxHeartbeats 2000000 in
theorem decode_bad (c : UInt8) (s : Txt) (hs : s.length ≤ 4095) (ht : ∀ W, Calls Try.prog 19 #[.string (B s)] W fun e w' => e = .returned (.tuple #[.string (B []), .string (B []), .int .i64 2]) ∧ Below W.heap.size W w') (w : World) :
    Calls Try.prog 8 #[.string (B (c :: s))] w fun e w' => e = .returned (.tuple #[.agg zObj, .int .i64 2]) ∧ Below w.heap.size w w' := by
  have hzv := zeroObj
  obtain ⟨W0, hW0⟩ : ∃ W0, w.alloc (.cells zObj 28) = W0 := ⟨_, rfl⟩
  have hz0 : Blk W0 w.heap.size 28 zObj := by rw [← hW0]; exact Blk.new _ _ _
  have b0 : Below w.heap.size w W0 := by rw [← hW0]; exact (Below.refl _ _).alloc (Nat.le_refl _) _
  have hex : (B (c :: s)).extract 1 (s.length + 1) = B s := by
    rw [extract_B]
    simp
  have i1 : ¬ (4096 : Int) < ((s.length : Int) + 1) := by omega
  have ht := Lib.hid (ht W0)
  have hrb := fun W => run_build (P := Try.prog) W _ _ _ built_zObj
  have hone := zObj_one
  have hsz := sizedObj
  go_enter Try.func8, Try.ntmps8
  go_wp2_with (first
    | ((with_reducible refine ht.out.mono ?_); rintro e w1 ⟨rfl, hb1⟩
       have hz1 := hz0.below hb1 hz0.lt)
    | (refine wpList_store_row rfl 28 (.tmp 2) (.tmp 31) rfl w.heap.size zObj rfl rfl _ _ hz1 hsz rfl hone ?_))
  refine bodyPost_ret (results_row_tmp rfl _ _ w.heap.size _ _ _ _ rfl (setRow_heap _ _ _ _ _ _ hz1) Try.underlying28 rfl hsz) rfl ⟨rfl, below_setRow (bthen b0 b0.size hb1) (Nat.le_refl _) _⟩
theorem take_hi (W : World) : Calls Try.prog 19 #[.string (B [3, 104, 105])] W fun e w' => e = .returned (.tuple #[.string (B []), .string (B []), .int .i64 2]) ∧ Below W.heap.size W w' :=
  take_bad [3, 104, 105] (by decide) (fun n k h => by
    have h1 : get [3, 104, 105] = some (3, 1) := by decide
    rw [h1] at h
    injection h with h
    injection h with h2 h3
    subst h2; subst h3
    decide) (by decide) W
set_option maxRecDepth 100000 in
set_option maxHeartbeats 2000000 in
theorem knows_calls (w : World) : Calls Try.prog 6 #[] w fun e w' => e = .returned (.bool true) ∧ Below w.heap.size w w' := by
  have hen := encode_calls hiObj hiSmall none none 0 0 w (hiV w)
  rw [hiEnc] at hen
  have hen : Calls Try.prog 7 #[.agg (objC hiObj (.slice none 0 0) (.slice none 0 0)).toArray] w fun e w' => e = .returned (.tuple #[.string ⟨#[1, 2, 104, 105]⟩, .int .i64 0]) ∧ Below w.heap.size w w' := hen
  have hen := Lib.hid hen
  have hde : ∀ W, Calls Try.prog 8 #[.string ⟨#[1, 3, 104, 105]⟩] W fun e w' => e = .returned (.tuple #[.agg zObj, .int .i64 2]) ∧ Below W.heap.size W w' := fun W => decode_bad 1 [3, 104, 105] (by decide) take_hi W
  have hde := fun W => Lib.hid (hde W)
  have n1 : ∀ W, Calls Try.prog 14 #[.string ⟨#[97, 47, 98]⟩] W fun e w' => e = .returned (.bool false) ∧ w' = W := fun W => name_calls [97, 47, 98] W
  have n2 : ∀ W, Calls Try.prog 14 #[.string ⟨#[]⟩] W fun e w' => e = .returned (.bool false) ∧ w' = W := fun W => name_calls [] W
  have n3 : ∀ W, Calls Try.prog 14 #[.string ⟨#[97]⟩] W fun e w' => e = .returned (.bool true) ∧ w' = W := fun W => name_calls [97] W
  have hbd := built_hi
  have hzv := zeroObj
  have hone := zObj_one
  have hz72 := zObj_size
  generalize (objC hiObj (.slice none 0 0) (.slice none 0 0)).toArray = cs at *
  go_enter Try.func6, Try.ntmps6
  go_wp2_with (first
    | ((with_reducible refine lit_build2 hbd ?_ ?_ ?_); rfl; rfl)
    | ((with_reducible refine hen.out.mono ?_); rintro e w1 ⟨rfl, hb1⟩
       have hde := hde w1
       clear hen)
    | ((with_reducible refine hde.out.mono ?_); rintro e w2 ⟨rfl, hb2⟩
       have bel2 := bthen hb1 hb1.size hb2
       clear hde)
    | ((with_reducible refine lit_new 28 (.tmp 3) (.tmp 12) zObj 72 szObj hz72 hone _ ?_ ?_ ?_ ?_)
       · exact hz72
       · rfl
       · rfl
       intro W3 hb3 hbl3
       have bel3 := bthen bel2 bel2.size hbl3
       have n1 := n1 W3
       have n2 := n2 W3
       have n3 := n3 W3)
    | ((with_reducible refine n1.mono ?_); rintro e w4 ⟨rfl, rfl⟩)
    | ((with_reducible refine n2.mono ?_); rintro e w4 ⟨rfl, rfl⟩)
    | ((with_reducible refine n3.mono ?_); rintro e w4 ⟨rfl, rfl⟩))
  go_ret
  exact ⟨rfl, bel3⟩
end Go.Proofs.Ytlanconcbpdneaa
