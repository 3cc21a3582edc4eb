/- The walks of layer 1 (varint) and of its reference: Put and Get, each once. No condition. -/
import Derived.Test.YtlanconcbpdneaaBase
import Derived.Test.YtlanconcbpdneaaVarintP
namespace Go.Proofs.Ytlanconcbpdneaa
open Go.RowKit

/-- What the reference's Get returns. -/
def getPair : Option (Nat × Nat) → Value
  | some (n, k) => .tuple #[.int .u64 n, .int .i64 k]
  | none => .tuple #[.int .u64 0, .int .i64 0]

/-- What Get returns. -/
def getTriple (l : List UInt8) : Option (Nat × Nat) → Value
  | some (n, k) => .tuple #[.int .u64 n, .string (B (l.drop k)), .int .i64 0]
  | none => .tuple #[.int .u64 0, .string (B []), .int .i64 2]

theorem or128 (k : Nat) : bits .or .u8 ((k : Int) % 256) 128 = 128 + (k : Int) % 128 := by
  have h : ∀ m : Fin 256, bits .or .u8 ((m.val : Nat) : Int) 128 = 128 + ((m.val : Nat) : Int) % 128 := by decide +kernel
  have := h ⟨k % 256, by omega⟩
  simp only at this
  rw [show ((k % 256 : Nat) : Int) = (k : Int) % 256 from by omega] at this
  rw [this]
  omega

set_option maxRecDepth 100000 in
set_option maxHeartbeats 400000 in
theorem refPut_calls (n : Nat) (hn : n ≤ 18446744073709551615) (w : World) :
    Calls Try.prog 43 #[.int .u64 n] w fun e w' => e = .returned (.string (B (put n))) ∧ Below w.heap.size w w' := by
  have hc := fun (wx : World) (x : Int) => Try.str_of_one wx x
  go_enter Try.func43, Try.ntmps43
  go_wp2
  go_loopw [0, 3] (fun m s wr => ∃ (f k : Nat) (acc : List UInt8), m = .int .u64 k ∧ s = .string (B acc) ∧ Hid (acc ++ putF f k = put n) ∧ acc.length ≤ 9 ∧ acc.length + f ≤ 9 ∧ Hid (Fits f k) ∧ Below w.heap.size w wr) (fun m _ _ => (intOf m).toNat)
  case atStart => exact ⟨9, n, [], rfl, rfl, rfl, by simp, by simp, Lib.hid (Fits.of64 hn), Below.refl _ _⟩
  case round =>
    obtain ⟨f, k, acc, rfl, rfl, h1, h3, h4, h2, hb⟩ := hrel
    have hle := h2.out.le (by omega)
    go_wp2
    · have hk : 128 ≤ k := by omega
      obtain ⟨f, rfl⟩ := h2.out.pos hk
      go_roundw
      case rel => exact ⟨f, k / 128, acc ++ [UInt8.ofNat (128 + k % 128)], by go_num, by rw [ofNat_add_u8]; rfl, Lib.hid (by rw [← h1.out, putF_big f k hk]; simp), by simp; omega, by simp; omega, Lib.hid h2.out.next, hb.alloc hb.size _⟩
      case measure => simp [intOf]; omega
    · have hk : k < 128 := by omega
      go_ret
      refine ⟨?_, hb.alloc hb.size _⟩
      rw [← h1.out, putF_small f k hk]
      rfl

set_option maxRecDepth 100000 in
set_option maxHeartbeats 400000 in
theorem put_calls (n : Nat) (hn : n ≤ 18446744073709551615) (w : World) :
    Calls Try.prog 32 #[.int .u64 n] w fun e w' => e = .returned (.string (B (put n))) ∧ Below w.heap.size w w' := by
  go_enter Try.func32, Try.ntmps32
  go_wp2
  go_loopw [0, 3] (fun m v wr => ∃ (f k : Nat) (acc : List UInt8), m = .int .u64 k ∧ OwnB wr w.heap.size 5 v acc ∧ Hid (acc ++ putF f k = put n) ∧ acc.length ≤ 9 ∧ acc.length + f ≤ 9 ∧ Hid (Fits f k) ∧ Below w.heap.size w wr) (fun m _ _ => (intOf m).toNat)
  case atStart => exact ⟨9, n, [], rfl, OwnB.nil _ _ _, rfl, by simp, by simp, Lib.hid (Fits.of64 hn), Below.refl _ _⟩
  case round =>
    obtain ⟨f, k, acc, rfl, hown, h1, h3, h4, h2, hb⟩ := hrel
    have hor := or128 k
    have hle := h2.out.le (by omega)
    go_wp2_with (at_builtin; go_must (refine wpList_append_byte rfl _ _ _ rfl _ Try.bytesTy w.heap.size _ _ rfl (hown.alloc _) wr.heap.size _ rfl (cell_new1 _ _ _) (by omega) (by omega) (by omega) w (hb.alloc hb.size _) (by simp; have := hb.size; omega) ?_); intro v1 w1 hown1 hb1 _; have hcv := Try.str_of_own w1 hown1)
    · have hk : 128 ≤ k := by omega
      obtain ⟨f, rfl⟩ := h2.out.pos hk
      rw [show (128 + (k : Int) % 128).toNat = 128 + k % 128 from by omega] at hown1
      go_roundw
      case rel => exact ⟨f, k / 128, _, by go_num, hown1, Lib.hid (by rw [← h1.out, putF_big f k hk]; simp), by simp; omega, by simp; omega, Lib.hid h2.out.next, hb1⟩
      case measure => simp [intOf]; omega
    · have hk : k < 128 := by omega
      go_ret
      refine ⟨?_, hb1⟩
      rw [← h1.out, putF_small f k hk]
      rfl

end Go.Proofs.Ytlanconcbpdneaa
