/- What the document's examples of layer 2 (sha256) come to. Condition: the table of constants is as the program laid it. -/
import Derived.Test.YtmgijjfjldkgaaaDoorLess
import Derived.Test.YtmgijjfjldkgaaaDoorShaV
namespace Go.Proofs.YtmgijjfjldkgaaaDoor
open Go.RowKit
attribute [local go_sem ↓] ldvI_eq
attribute [local go_sem] run_ldvI

theorem less_knows (w : World) :
    Calls Tryd.prog 13 #[.agg #[.int .u8 1, .int .u8 0, .int .u8 0, .int .u8 0, .int .u8 0, .int .u8 0, .int .u8 0, .int .u8 0, .int .u8 0, .int .u8 0, .int .u8 0, .int .u8 0, .int .u8 0, .int .u8 0, .int .u8 0, .int .u8 0, .int .u8 0, .int .u8 0, .int .u8 0, .int .u8 0, .int .u8 0, .int .u8 0, .int .u8 0, .int .u8 0, .int .u8 0, .int .u8 0, .int .u8 0, .int .u8 0, .int .u8 0, .int .u8 0, .int .u8 0, .int .u8 0], .agg #[.int .u8 2, .int .u8 0, .int .u8 0, .int .u8 0, .int .u8 0, .int .u8 0, .int .u8 0, .int .u8 0, .int .u8 0, .int .u8 0, .int .u8 0, .int .u8 0, .int .u8 0, .int .u8 0, .int .u8 0, .int .u8 0, .int .u8 0, .int .u8 0, .int .u8 0, .int .u8 0, .int .u8 0, .int .u8 0, .int .u8 0, .int .u8 0, .int .u8 0, .int .u8 0, .int .u8 0, .int .u8 0, .int .u8 0, .int .u8 0, .int .u8 0, .int .u8 0]] w fun e w' => e = .returned (.bool true) ∧ Below w.heap.size w w' := by
  have h := less_calls (1 :: List.replicate 31 0) (2 :: List.replicate 31 0) (by simp) (by simp) w
  rw [show u8s (1 :: List.replicate 31 0) = #[.int .u8 1, .int .u8 0, .int .u8 0, .int .u8 0, .int .u8 0, .int .u8 0, .int .u8 0, .int .u8 0, .int .u8 0, .int .u8 0, .int .u8 0, .int .u8 0, .int .u8 0, .int .u8 0, .int .u8 0, .int .u8 0, .int .u8 0, .int .u8 0, .int .u8 0, .int .u8 0, .int .u8 0, .int .u8 0, .int .u8 0, .int .u8 0, .int .u8 0, .int .u8 0, .int .u8 0, .int .u8 0, .int .u8 0, .int .u8 0, .int .u8 0, .int .u8 0] from by kernel_rfl, show u8s (2 :: List.replicate 31 0) = #[.int .u8 2, .int .u8 0, .int .u8 0, .int .u8 0, .int .u8 0, .int .u8 0, .int .u8 0, .int .u8 0, .int .u8 0, .int .u8 0, .int .u8 0, .int .u8 0, .int .u8 0, .int .u8 0, .int .u8 0, .int .u8 0, .int .u8 0, .int .u8 0, .int .u8 0, .int .u8 0, .int .u8 0, .int .u8 0, .int .u8 0, .int .u8 0, .int .u8 0, .int .u8 0, .int .u8 0, .int .u8 0, .int .u8 0, .int .u8 0, .int .u8 0, .int .u8 0] from by kernel_rfl] at h
  rwa [show Op.bytesLess (1 :: List.replicate 31 0) (2 :: List.replicate 31 0) = true from by decide +kernel] at h
theorem abc_form : ∃ r, r.length = 28 ∧ shaOf [97, 98, 99] = 186 :: 120 :: 22 :: 191 :: r := by
  refine ⟨(shaOf [97, 98, 99]).drop 4, by rw [List.length_drop, shaOf_length], ?_⟩
  have := List.take_append_drop 4 (shaOf [97, 98, 99])
  rw [sha_abc] at this
  exact this.symm
theorem hex_abc (r : List UInt8) : (hexOf (186 :: 120 :: 22 :: 191 :: r)).take 8 = [98, 97, 55, 56, 49, 54, 98, 102] := by
  have e : hexOf (186 :: 120 :: 22 :: 191 :: r) = [98, 97, 55, 56, 49, 54, 98, 102] ++ hexOf r := rfl
  rw [e]
  rfl
theorem sum_abc (v : Value) (w : World) (hK : TabK w) (hv : Strs w v [[97, 98, 99]]) : ∃ r, r.length = 28 ∧
    Calls Tryd.prog 7 #[v] w fun e w' => e = .returned (.agg (u8s (186 :: 120 :: 22 :: 191 :: r))) ∧ Below w.heap.size w w' := by
  obtain ⟨r, hr, he⟩ := abc_form
  have := sum_calls [[97, 98, 99]] v w hK hv (by simp)
  rw [show [[97, 98, 99]].flatten = ([97, 98, 99] : List UInt8) from rfl, he] at this
  exact ⟨r, hr, this⟩
set_option maxRecDepth 100000 in
set_option maxHeartbeats 1000000 in
theorem knows_calls (w : World) (hK : TabK w) :
    Calls Tryd.prog 6 #[] w fun e w' => e = .returned (.bool true) ∧ Below w.heap.size w w' := by
  have hsv : Strs (w.alloc (.cells #[.string (B [97, 98, 99])] 9)) (.slice (some ⟨w.heap.size, 0, none⟩) 1 1) [[97, 98, 99]] := by
    refine .inr ⟨w.heap.size, 0, 1, rfl, ?_, by simp, by simp, by simp⟩
    intro j l hj
    cases j with
    | zero => simp at hj; subst hj; rw [World.cell?_alloc_new]; rfl
    | succ j => simp at hj
  have hKa : TabK (w.alloc (.cells #[.string (B [97, 98, 99])] 9)) := hK.below ((Below.refl _ _).alloc (Nat.le_refl _) _)
  obtain ⟨r, hr, hsum⟩ := sum_abc _ _ hKa hsv
  have hsumh := Lib.hid hsum
  clear hsum
  have hb0 : Below w.heap.size w (w.alloc (.cells #[.string (B [97, 98, 99])] 9)) := (Below.refl _ _).alloc (Nat.le_refl _) _
  have hlen : (186 :: 120 :: 22 :: 191 :: r).length = 32 := by simp [hr]
  have hi' : (Tryd.prog.info? 24).map (·.size) = some (u8s (186 :: 120 :: 22 :: 191 :: r)).size := by rw [u8s_size, hlen]; exact sz32
  have hall := u8s_one (186 :: 120 :: 22 :: 191 :: r)
  have hold : (u8s (List.replicate 32 0)).size = (u8s (186 :: 120 :: 22 :: 191 :: r)).size := by rw [u8s_size, u8s_size, hlen, List.length_replicate]
  go_enter Tryd.func6, Tryd.ntmps6
  have hless := fun W => Lib.hid (less_knows W)
  have hhex := fun W => Lib.hid (hex_calls _ hlen W)
  have h8 := hex_abc r
  have hlx : (hexOf (186 :: 120 :: 22 :: 191 :: r)).length = 64 := by rw [hexOf_length, hlen]
  go_wp2_with (first
    | (refine wpList_store_row rfl 24 (.tmp 1) (.tmp 3) rfl w1.heap.size (u8s (186 :: 120 :: 22 :: 191 :: r)) rfl rfl _ _ (Blk.new w1 24 (u8s (List.replicate 32 0))) hi' hold hall ?_
       change wpList _ _ _ _ _ (World.setRow (w1.alloc (.cells (u8s (List.replicate 32 0)) 24)) w1.heap.size (u8s (186 :: 120 :: 22 :: 191 :: r)))
       have hq := setRow_heap _ _ _ (u8s (186 :: 120 :: 22 :: 191 :: r)) _ _ (Blk.new w1 24 (u8s (List.replicate 32 0)))
       have hbz : Below w.heap.size w (World.setRow (w1.alloc (.cells (u8s (List.replicate 32 0)) 24)) w1.heap.size (u8s (186 :: 120 :: 22 :: 191 :: r))) :=
         below_setRow ((bthen hb0 (by simp) hb1).alloc (by have := (bthen hb0 (by simp) hb1).size; omega) _) (by have := (bthen hb0 (by simp) hb1).size; omega) _
       generalize World.setRow (w1.alloc (.cells (u8s (List.replicate 32 0)) 24)) w1.heap.size (u8s (186 :: 120 :: 22 :: 191 :: r)) = wz at *
       generalize w1.heap.size = g at *
       have q0 : wz.cell? ⟨g, 0, none⟩ = some (.int .u8 186) := Blk.cell hq 0
       have q1 : wz.cell? ⟨g, 1, none⟩ = some (.int .u8 120) := Blk.cell hq 1
       have q2 : wz.cell? ⟨g, 2, none⟩ = some (.int .u8 22) := Blk.cell hq 2
       have q3 : wz.cell? ⟨g, 3, none⟩ = some (.int .u8 191) := Blk.cell hq 3
       have hH : HasRow wz g 24 32 := hasRow_id hq hlen
       have hO : RowOf wz g = u8s (186 :: 120 :: 22 :: 191 :: r) := rowOf_blk hq)
    | (go_at_call 7; go_must (refine (hsumh.out).mono ?_); rintro e w1 ⟨rfl, hb1⟩)
    | (go_at_call 11; go_must (refine ((hhex _).out).mono ?_); rintro e w2 ⟨rfl, hb2⟩)
    | (go_at_call 13; go_must (refine ((hless _).out).mono ?_); rintro e w3 ⟨rfl, hb3⟩))
  go_ret
  have c2 := bthen hbz hbz.size hb2
  exact ⟨rfl, bthen c2 c2.size hb3⟩
end Go.Proofs.YtmgijjfjldkgaaaDoor
