/- The walks of layer 2's reference: turn, k. No condition. -/
import Derived.Test.YtmgijjfjldkgaaaDoorShaS
namespace Go.Proofs.YtmgijjfjldkgaaaDoor
open Go.RowKit

set_option maxRecDepth 100000 in
set_option maxHeartbeats 400000 in
theorem turn_calls (x n : Nat) (hx : x < 4294967296) (h0 : 1 ≤ n) (h1 : n ≤ 31) (w : World) :
    Calls Tryd.prog 30 #[.int .u32 x, .int .u64 n] w fun e w' => e = .returned (.int .u32 (rotr x n)) ∧ w = w' := by
  have hn0 : 0 ≤ (n : Int) := by omega
  have hn1 : (n : Int) ≤ 31 := by omega
  go_enter Tryd.func30, Tryd.ntmps30
  go_wp2
  go_ret
  refine ⟨congrArg (fun n : Int => Ending.returned (.int .u32 n)) ?_, rfl⟩
  have e : ((rotr x n : Nat) : Int) = (x : Int) / 2 ^ n + (x : Int) * 2 ^ (32 - n) % 4294967296 := by simp [rotr]
  have := rotr_lt hx h0 h1
  rw [← e]
  omega
set_option maxRecDepth 100000 in
set_option maxHeartbeats 400000 in
theorem k_calls (w : World) :
    Calls Tryd.prog 18 #[] w fun e w' => e = .returned (.agg (u32s K256)) ∧ Below w.heap.size w w' := by
  have hi' : (Tryd.prog.info? 45).map (·.size) = some (u32s K256).size := by rw [u32s_size, K256_length]; exact sz64
  have hall' := u32s_one K256
  have hold' : (u32s (List.replicate 64 0)).size = (u32s K256).size := by rw [u32s_size, u32s_size, K256_length, List.length_replicate]
  have hv0 := Blk.new w 45 (u32s (List.replicate 64 0))
  go_enter Tryd.func18, Tryd.ntmps18
  go_wp2_with (first
    | (refine wpList_store_row rfl 45 (.tmp 0) (.tmp 1) rfl w.heap.size (u32s K256) rfl rfl _ _ hv0 hi' hold' hall' ?_))
  exact bodyPost_ret (results_cell_row rfl _ _ w.heap.size _ _ _ _ rfl (setRow_heap _ _ _ _ _ _ hv0) Tryd.underlying45 rfl hi') rfl ⟨rfl, below_setRow ((Below.refl _ _).alloc (Nat.le_refl _) _) (Nat.le_refl _) _⟩
end Go.Proofs.YtmgijjfjldkgaaaDoor
