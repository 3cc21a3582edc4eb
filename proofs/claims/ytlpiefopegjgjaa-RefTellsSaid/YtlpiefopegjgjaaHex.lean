/- The walks of figures: Hex, on the program's side and on the document's. No condition. -/
import Derived.Test.YtlpiefopegjgjaaId
import Derived.Test.YtlpiefopegjgjaaOwn
import Derived.Test.YtlpiefopegjgjaaHexP
import Derived.Deep.RegionHeld3
namespace Go.Proofs.Ytlpiefopegjgjaa
open Go.RowKit

theorem index_id (w : World) (l : List UInt8) (k : Nat) (c : UInt8) (hl : l.length = 32) (hk : k < 32) (hc : l.getD k 0 = c) :
    (Instr.index 37 (.agg (u8s l)) (.int .i64 k)).run Try.prog w = .ok (.int .u8 (c.toNat : Nat)) w := by
  have hx : (u8s l)[k]? = some (.int .u8 (c.toNat : Nat)) := by rw [u8s_get l k (by omega), hc]
  obtain ⟨i, hi⟩ := Option.isSome_iff_exists.1 (show (Try.prog.info? 5).isSome = true by kernel_rfl)
  have hu : Try.prog.underlying 37 = some (.array 32 5) := Try.underlying37
  have h0 : (0 : Int) ≤ (k : Int) ∧ (k : Int) < ((32 : Nat) : Int) := by omega
  have ha : (isAgg 5).run Try.prog w = .ok false w := by kernel_rfl
  have hz : (sizeOf 5).run Try.prog w = .ok 1 w := by kernel_rfl
  simp only [Instr.index, asIntOf, Sem.run_bind, Sem.run_pure, Result.andThen_ok, run_underlying hu]
  rw [if_pos h0]
  simp only [Sem.run_bind, Sem.run_pure, Result.andThen_ok, hz, part, ha, Int.toNat_natCast, Nat.mul_one, hx]
  rfl
theorem digits_get (n : Nat) (hn : n < 16) (h : n < (⟨#[48, 49, 50, 51, 52, 53, 54, 55, 56, 57, 97, 98, 99, 100, 101, 102]⟩ : ByteArray).size) :
    (⟨#[48, 49, 50, 51, 52, 53, 54, 55, 56, 57, 97, 98, 99, 100, 101, 102]⟩ : ByteArray)[n]'h = figC n := by
  have : ∀ m : Fin 16, (⟨#[48, 49, 50, 51, 52, 53, 54, 55, 56, 57, 97, 98, 99, 100, 101, 102]⟩ : ByteArray)[m.val]'(m.isLt) = figC m.val := by decide +kernel
  exact this ⟨n, hn⟩
theorem and15 (c : UInt8) : bits .and .u8 (c.toNat : Int) 15 = ((c.toNat % 16 : Nat) : Int) := by
  refine u8_all (p := fun c => bits .and .u8 (c.toNat : Int) 15 = ((c.toNat % 16 : Nat) : Int)) ?_ c
  decide +kernel
set_option maxRecDepth 100000 in
set_option maxHeartbeats 1000000 in
theorem hex_calls (l : List UInt8) (hl : l.length = 32) (w : World) :
    Calls Try.prog 29 #[.agg (u8s l)] w fun e w' => e = .returned (.string (B (hexOf l))) ∧ Below w.heap.size w w' := by
  go_enter Try.func29, Try.ntmps29
  have hi' : (Try.prog.info? 37).map (·.size) = some (u8s l).size := by rw [u8s_size, hl]; exact sz32
  have hb0 := Blk.new w 37 (u8s l)
  go_wp2_with (first
    | (refine wpList_load_row rfl 37 (.tmp 1) rfl w.heap.size rfl _ _ _ _ hb0 Try.underlying37 rfl hi' ?_))
  go_loopw [7, 3] (fun i v wr => ∃ k : Nat, i = .int .i64 k ∧ k ≤ 32 ∧ OwnB wr w.heap.size 5 v (hexOf (l.take k)) ∧ Below w.heap.size w wr) (fun i _ _ => 32 - (intOf i).toNat)
  case atStart => exact ⟨0, rfl, by omega, OwnB.nil _ _ _, (Below.refl _ _).alloc (Nat.le_refl _) _⟩
  case round =>
    obtain ⟨k, rfl, hk, hown, hbel⟩ := hrel
    have hsz := hbel.size
    by_cases hlt : k < 32
    · have hki : (k : Int) < 32 := by omega
      obtain ⟨c, hc⟩ : ∃ c, l.getD k 0 = c := ⟨_, rfl⟩
      have hix := fun W => index_id W l k c hl hlt hc
      have htk := Lib.hid (hexOf_take l k (by omega))
      have hch := Lib.hid hc
      clear hc
      have hcl := c.toNat_lt
      go_wp2
      have hlen : (hexOf (l.take k)).length = 2 * k := by rw [hexOf_length, List.length_take]; omega
      have hlenh := Lib.hid hlen
      clear hlen
      generalize hexOf (l.take k) = xs at *
      obtain ⟨n1, hn1, hv1⟩ : ∃ n1 : Nat, (c.toNat : Int) / 16 = (n1 : Int) ∧ n1 = c.toNat / 16 := ⟨_, by omega, rfl⟩
      obtain ⟨n2, hn2, hv2⟩ : ∃ n2 : Nat, bits .and .u8 (c.toNat : Int) 15 = (n2 : Int) ∧ n2 = c.toNat % 16 := ⟨_, and15 c, rfl⟩
      have m1 : (n1 : Int) < 16 := by omega
      have m2 : (n2 : Int) < 16 := by omega
      have hd1 := digits_get n1 (by omega)
      have hd2 := digits_get n2 (by omega)
      have hv1h := Lib.hid hv1
      have hv2h := Lib.hid hv2
      clear hv1 hv2
      have hnew : Blk (wr.alloc (.cells #[.int .u8 ((figC n1).toNat : Nat), .int .u8 ((figC n2).toNat : Nat)] 5)) wr.heap.size 5 #[.int .u8 ((figC n1).toNat : Nat), .int .u8 ((figC n2).toNat : Nat)] := Blk.new _ _ _
      have hone : ∀ u ∈ (#[.int .u8 ((figC n1).toNat : Nat), .int .u8 ((figC n2).toNat : Nat)] : Array Value).toList, u.oneCell' = true := by
        intro u hu
        simp at hu
        rcases hu with rfl | rfl <;> rfl
      have hxl : xs.length ≤ 64 := by have := hlenh.out; omega
      have hown2 := (hown.alloc (.cells #[.int .u8 ((figC n1).toNat : Nat), .int .u8 ((figC n2).toNat : Nat)] 5)).drew
      have hbel2 := (hbel.alloc hsz (.cells #[.int .u8 ((figC n1).toNat : Nat), .int .u8 ((figC n2).toNat : Nat)] 5)).drew
      have hba : w.heap.size ≤ (wr.alloc (.cells #[.int .u8 ((figC n1).toNat : Nat), .int .u8 ((figC n2).toNat : Nat)] 5)).drew.heap.size := hbel2.size
      go_region_law (first
        | (refine step_append_blk rfl (.tmp 10) (.tmp 17) _ rfl 5 _ 1 1 Try.bytesTy w.heap.size _ xs.length (xs.map u8v) rfl hown2 wr.heap.size 2 2 5 _ rfl hnew.drew rfl hone (by omega) (by omega) w hbel2 hba ?_; intro v' w' hown' hbel' hg'))
      all_goals
        have hown3 : OwnB w' w.heap.size 5 v' (hexOf (l.take (k + 1))) := by
          rw [htk.out, hch.out, ← hv1h.out, ← hv2h.out]
          simpa [OwnB, u8v] using hown'
        clear hg' hown' hba hbel2 hown2 hone hnew hd1 hd2 hn1 hn2 hix
        go_wp2
        go_roundw
        case rel => exact ⟨k + 1, by go_num, by omega, hown3, hbel'⟩
        case measure => simp [intOf]; omega
    · have hk32 : k = 32 := by omega
      have hki : ¬ (k : Int) < 32 := by omega
      have hown1 : OwnB wr w.heap.size 5 u3 (hexOf l) := by
        rw [hk32, List.take_of_length_le (by omega)] at hown
        exact hown
      clear hk32 hown
      have hstr := Try.str_of_own wr hown1
      go_wp2
      go_ret
      exact ⟨rfl, hbel⟩
set_option maxRecDepth 100000 in
set_option maxHeartbeats 1000000 in
theorem digit_calls (n : Nat) (hn : n < 16) (w : World) :
    Calls Try.prog 39 #[.int .i64 n] w fun e w' => e = .returned (.string (B [figC n])) ∧ Below w.heap.size w w' := by
  have hst1 := Try.str_of_one
  by_cases h10 : n < 10
  · have hni : (n : Int) < 10 := by omega
    have hf : Hid (UInt8.ofNat (48 + n) = figC n) := by show _ = _; rw [figC, if_pos h10]
    go_enter Try.func39, Try.ntmps39
    go_wp2
    go_ret
    refine ⟨?_, (Below.refl _ _).alloc (Nat.le_refl _) _⟩
    rw [← hf.out]
    rfl
  · have hni : ¬ (n : Int) < 10 := by omega
    have hv : (87 + (n : Int)) % 256 = ((87 + n : Nat) : Int) := by omega
    have hf : Hid (87 + UInt8.ofNat n = figC n) := by show _ = _; rw [figC, if_neg h10]; simp
    go_enter Try.func39, Try.ntmps39
    go_wp2
    go_ret
    refine ⟨?_, (Below.refl _ _).alloc (Nat.le_refl _) _⟩
    rw [← hf.out]
    rfl
/-- What is kept while figures are made. -/
structure HexKeep (w : World) (l : List UInt8) (w' : World) : Prop where
  blk : Blk w' w.heap.size 37 (u8s l)
  bel : Below w.heap.size w w'
theorem digit_keeps (n : Nat) (hn : n < 16) (l : List UInt8) (k : Nat) (c : UInt8) (w w0 : World) (h : w0.cell? ⟨w.heap.size, k, none⟩ = some (.int .u8 (c.toNat : Nat)) ∧ HexKeep w l w0) :
    Calls Try.prog 39 #[.int .i64 n] w0 fun e w' => e = .returned (.string (B [figC n])) ∧ (w'.cell? ⟨w.heap.size, k, none⟩ = some (.int .u8 (c.toNat : Nat)) ∧ HexKeep w l w') :=
  (digit_calls n hn w0).mono fun _ _ ⟨he, hb⟩ => ⟨he, (hb.cell (p := ⟨w.heap.size, k, none⟩) h.2.blk.lt).trans h.1, h.2.blk.below hb h.2.blk.lt, bthen h.2.bel h.2.bel.size hb⟩
set_option maxRecDepth 100000 in
set_option maxHeartbeats 1000000 in
theorem refHex_calls (l : List UInt8) (hl : l.length = 32) (w : World) :
    Calls Try.prog 31 #[.agg (u8s l)] w fun e w' => e = .returned (.string (B (hexOf l))) ∧ Below w.heap.size w w' := by
  go_enter Try.func31, Try.ntmps31
  have hb0 := Blk.new w 37 (u8s l)
  go_wp2
  go_loopw [4, 3] (fun i v wr => ∃ k : Nat, i = .int .i64 k ∧ k ≤ 32 ∧ v = .string (B (hexOf (l.take k))) ∧ Blk wr w.heap.size 37 (u8s l) ∧ Below w.heap.size w wr) (fun i _ _ => 32 - (intOf i).toNat)
  case atStart => exact ⟨0, rfl, by omega, rfl, hb0, (Below.refl _ _).alloc (Nat.le_refl _) _⟩
  case round =>
    clear hb0
    obtain ⟨k, rfl, hk, rfl, hb, hbel⟩ := hrel
    have hsz := hb.lt
    by_cases hlt : k < 32
    · have hki : (k : Int) < 32 := by omega
      have hcell : wr.cell? ⟨w.heap.size, k, none⟩ = some (.int .u8 ((l.getD k 0).toNat : Nat)) := by rw [hb.cell, u8s_get l k (by omega)]
      obtain ⟨c, hc⟩ : ∃ c, l.getD k 0 = c := ⟨_, rfl⟩
      rw [hc] at hcell
      have htk := Lib.hid (hexOf_take l k (by omega))
      have hch := Lib.hid hc
      clear hc
      have hcl := c.toNat_lt
      have hlen : (hexOf (l.take k)).length = 2 * k := by rw [hexOf_length, List.length_take]; omega
      have hlenh := Lib.hid hlen
      clear hlen
      have hxl : (hexOf (l.take k)).length ≤ 64 := by have := hlenh.out; omega
      generalize hexOf (l.take k) = xs at *
      obtain ⟨n1, hn1, hv1⟩ : ∃ n1 : Nat, (c.toNat : Int) / 16 = (n1 : Int) ∧ n1 = c.toNat / 16 := ⟨_, by omega, rfl⟩
      obtain ⟨n2, hn2, hv2⟩ : ∃ n2 : Nat, (c.toNat : Int) % 16 = (n2 : Int) ∧ n2 = c.toNat % 16 := ⟨_, by omega, rfl⟩
      have m1 : n1 < 16 := by omega
      have m2 : n2 < 16 := by omega
      have hv1h := Lib.hid hv1
      have hv2h := Lib.hid hv2
      clear hv1 hv2
      go_wp2
      have hkp : HexKeep w l wr := ⟨hb, hbel⟩
      have hcelld : wr.drew.cell? ⟨w.heap.size, k, none⟩ = some (.int .u8 (c.toNat : Nat)) := hcell
      have hkpd : HexKeep w l wr.drew := ⟨hb, hbel.drew⟩
      have hn1l : (n1 : Int) < 16 := by omega
      have hn2l : (n2 : Int) < 16 := by omega
      have hw1 : IntKind.i64.wrap (c.toNat : Int) = (c.toNat : Int) := IntWalk.i64_in _ (by omega)
      have hw2 : (c.toNat : Int).tdiv 16 = (n1 : Int) := by rw [Int.tdiv_eq_ediv_of_nonneg (by omega)]; exact hn1
      have hw3 : IntKind.i64.wrap (n1 : Int) = (n1 : Int) := IntWalk.i64_in _ (by omega)
      have hw4 : (c.toNat : Int).tmod 16 = (n2 : Int) := by rw [Int.tmod_eq_emod_of_nonneg (by omega)]; exact hn2
      have hq1 : ¬ 9223372036854775807 < xs.length + 1 := by omega
      have hq2 : ¬ 9223372036854775807 < xs.length + 1 + 1 := by omega
      clear hb hbel hn1 hn2
      go_region_held3 (fun w' => w'.cell? ⟨w.heap.size, k, none⟩ = some (.int .u8 (c.toNat : Nat)) ∧ HexKeep w l w') (first | exact ⟨hcell, hkp⟩ | exact ⟨hcelld, hkpd⟩ | assumption | go_keep)
        (first
        | (go_at_call 39; (with_reducible refine (digit_keeps n1 m1 l k c w _ (by assumption)).mono ?_); rintro e w1 ⟨rfl, hS1⟩)
        | (go_at_call 39; (with_reducible refine (digit_keeps n2 m2 l k c w _ (by assumption)).mono ?_); rintro e w1 ⟨rfl, hS1⟩))
      all_goals
        have hkf := hS1.2
        have hx : Hid (xs ++ [figC n1, figC n2] = hexOf (l.take (k + 1))) := by
          show _ = _
          rw [htk.out, hch.out, ← hv1h.out, ← hv2h.out]
        clear hw1 hw2 hw3 hw4 hq1 hq2 hcell hcelld
        go_wp2
        go_roundw
        case rel => exact ⟨k + 1, by go_num, by omega, by rw [← hx.out], hkf.blk, hkf.bel⟩
        case measure => simp [intOf]; omega
    · have hk32 : k = 32 := by omega
      have hki : ¬ (k : Int) < 32 := by omega
      have hx : hexOf (l.take k) = hexOf l := by rw [hk32, List.take_of_length_le (by omega)]
      rw [hx]
      clear hk32 hx
      go_wp2
      go_ret
      exact ⟨rfl, hbel⟩
end Go.Proofs.Ytlpiefopegjgjaa
