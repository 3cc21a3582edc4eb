/- The walks of layer 4: one, bytes, kind, Text on both sides, alone. No condition. -/
import Derived.Test.YtlanconcbpdneaaObjN
import Derived.Test.YtlanconcbpdneaaVarint
namespace Go.Proofs.Ytlanconcbpdneaa
open Go.RowKit
theorem byteK_wrap (n : Int) : UInt8.ofNat (n % 256).toNat = byteK n := rfl
set_option maxRecDepth 100000 in
set_option maxHeartbeats 1000000 in
theorem one_calls (n : Int) (w : World) : Calls Try.prog 25 #[.int .i64 n] w fun e w' => e = .returned (.string (B [byteK n])) ∧ Below w.heap.size w w' := by
  have hc := fun (wx : World) (x : Int) => Try.str_of_one wx x
  go_enter Try.func25, Try.ntmps25
  go_wp2
  go_ret
  exact ⟨rfl, (Below.refl _ _).alloc (Nat.le_refl _) _⟩
theorem str_of_blk (w : World) {t : TypeId} {g : Nat} {l : List UInt8} (h : Blk w g t (u8s l)) :
    (convert 46 9 (.slice (some ⟨g, 0, none⟩) l.length l.length)).run Try.prog w = .ok (.string (B l)) w := by
  rw [run_convert_bytes_arg w 46 5 Try.underlying46 Try.underlying5 g 0 l.length l.length (l.map fun c => (c.toNat : Int)) (by simp) (fun i hi => by
    rw [Nat.zero_add, h.cell, u8s_get l i hi]
    simp [List.getD, List.getElem?_map, List.getElem?_eq_getElem hi]) 9 Try.underlying9]
  have hl : (l.map fun c => (c.toNat : Int)).map (fun n => UInt8.ofNat n.toNat) = l := by
    rw [List.map_map]
    exact (List.map_congr_left (g := id) (fun c _ => by simp)).trans (List.map_id l)
  rw [strOfNums, hl]
  rfl
set_option maxRecDepth 100000 in
set_option maxHeartbeats 1000000 in
theorem bytes_calls (l : Txt) (hl : l.length = 32) (w : World) : Calls Try.prog 44 #[.agg (u8s l)] w fun e w' => e = .returned (.string (B l)) ∧ Below w.heap.size w w' := by
  have hc := str_of_blk (w.alloc (.cells (u8s l) 24)) (Blk.new w _ (u8s l))
  rw [hl] at hc
  go_enter Try.func44, Try.ntmps44
  go_wp2
  go_ret
  exact ⟨rfl, (Below.refl _ _).alloc (Nat.le_refl _) _⟩
set_option maxRecDepth 100000 in
set_option maxHeartbeats 1000000 in
theorem kind_calls (n : Int) (w : World) : Calls Try.prog 31 #[.int .i64 n] w fun e w' => e = .returned (.bool (kindB n)) ∧ w' = w := by
  obtain ⟨b, hb⟩ : ∃ b, Hid (b = kindB n) := ⟨_, Lib.hid rfl⟩
  rw [← hb.out]
  have hb2 := hb.out
  unfold kindB at hb2
  by_cases h1 : 1 ≤ n
  · by_cases h4 : n ≤ 4
    · have hf : Hid (b = true) := by show b = true; rw [hb2]; simp [h1, h4]
      clear hb hb2
      go_enter Try.func31, Try.ntmps31
      go_wp2
      go_ret
      exact ⟨by rw [hf.out]; simp [h4], rfl⟩
    · have hf : Hid (b = false) := by show b = false; rw [hb2]; simp [h4]
      clear hb hb2
      go_enter Try.func31, Try.ntmps31
      go_wp2
      go_ret
      exact ⟨by rw [hf.out]; simp [h4], rfl⟩
  · have hf : Hid (b = false) := by show b = false; rw [hb2]; simp [h1]
    clear hb hb2
    go_enter Try.func31, Try.ntmps31
    go_wp2
    go_ret
    exact ⟨by rw [hf.out]; simp [h1], rfl⟩
set_option maxRecDepth 100000 in
set_option maxHeartbeats 1000000 in
theorem text_calls (s : Txt) (hs : s.length ≤ 1000000000) (w : World) : Calls Try.prog 17 #[.string (B s)] w fun e w' => e = .returned (.string (B (textE s))) ∧ Below w.heap.size w w' := by
  have hp := Lib.hid (put_calls s.length (by omega) w)
  have hpl := put_length s.length
  have hte : Hid (textE s = put s.length ++ s) := Lib.hid rfl
  generalize put s.length = P at *
  have hn : ¬ 9223372036854775807 < P.length + s.length := by omega
  go_enter Try.func17, Try.ntmps17
  go_wp2_with (first
    | ((with_reducible refine hp.out.mono ?_); rintro e w1 ⟨rfl, hb1⟩))
  go_ret
  exact ⟨by rw [hte.out]; rfl, hb1⟩
set_option maxRecDepth 100000 in
set_option maxHeartbeats 1000000 in
theorem refText_calls (s : Txt) (hs : s.length ≤ 1000000000) (w : World) : Calls Try.prog 26 #[.string (B s)] w fun e w' => e = .returned (.string (B (textE s))) ∧ Below w.heap.size w w' := by
  have hp := Lib.hid (refPut_calls s.length (by omega) w)
  have hpl := put_length s.length
  have hte : Hid (textE s = put s.length ++ s) := Lib.hid rfl
  generalize put s.length = P at *
  have hn : ¬ 9223372036854775807 < P.length + s.length := by omega
  go_enter Try.func26, Try.ntmps26
  go_wp2_with (first
    | ((with_reducible refine hp.out.mono ?_); rintro e w1 ⟨rfl, hb1⟩))
  go_ret
  exact ⟨by rw [hte.out]; rfl, hb1⟩
end Go.Proofs.Ytlanconcbpdneaa
