/- The walks of strings.Builder's WriteString at this program. No condition. -/
import Derived.Test.YtlanconcbpdneaaBase
import Derived.Lib.Builder
import Derived.Shelf.Strings.Builder1
namespace Go.Proofs.Ytlanconcbpdneaa
open Go.RowKit
theorem bldSize : (Try.prog.info? 67).map (·.size) = some 2 := by kernel_rfl
set_option maxRecDepth 100000 in
set_option maxHeartbeats 1000000 in
theorem copyCheck_used (b : Nat) (w : World) (h0 : w.cell? ⟨b, 0, none⟩ = some (.pointer (some ⟨b, 0, none⟩))) :
    Calls Try.prog 46 #[.pointer (some ⟨b, 0, none⟩)] w fun e w' => e = .returned (.tuple #[]) ∧ w' = w := by
  obtain ⟨j, hj, _⟩ := Option.map_eq_some_iff.1 bldSize
  go_enter Try.func46, Try.ntmps46
  go_wp2
  rw [Lib.run_neq_ptr_same w _ Try.underlying65 hj]
  go_wp2
  go_end0
  exact ⟨rfl, rfl⟩
theorem bldLies : liesAt Try.prog Try.prog.depth 67 (2 / Try.prog.cellsOf 67) 0 67 1 = true := by kernel_rfl
set_option maxRecDepth 100000 in
set_option maxHeartbeats 1000000 in
theorem copyCheck_fresh (b : Nat) (w : World) (h0 : w.cell? ⟨b, 0, none⟩ = some (.pointer none)) (hsh : w.shape? b = some (67, 2)) (hfz : w.frozen? ⟨b, 0, none⟩ = false) :
    Calls Try.prog 46 #[.pointer (some ⟨b, 0, none⟩)] w fun e w' => e = .returned (.tuple #[]) ∧ w' = w.setCell ⟨b, 0, none⟩ (.pointer (some ⟨b, 0, none⟩)) := by
  obtain ⟨j, hj, hjs⟩ := Option.map_eq_some_iff.1 bldSize
  go_enter Try.func46, Try.ntmps46
  go_wp2
  rw [Lib.run_to_unsafe w ⟨b, 0, none⟩ Try.underlying65 Try.underlying83 hj (by rw [hjs]; decide) hsh (Nat.zero_lt_succ 1)]
  simp only [Result.andThen]
  rw [Oper.upon_value]
  go_wp2
  rw [run_callFunc_extern Try.func48 (by kernel_rfl) (by kernel_rfl) (by kernel_rfl) (e := Extern.AbiNoEscape.same) (by kernel_rfl)]
  rw [Lib.run_noEscape]
  simp only [Result.andThen]
  rw [Oper.upon_value]
  go_wp2
  rw [Lib.run_from_unsafe w ⟨b, 0, none⟩ Try.underlying83 Try.underlying65 hj hsh bldLies]
  simp only [Result.andThen]
  rw [Oper.upon_value]
  go_wp2
  go_end0
  exact ⟨rfl, rfl⟩
theorem copyCheck_calls (B0 b : Nat) (bs : List Value) (w : World) (h : Lib.IsBuilder 67 5 B0 b bs w) :
    Calls Try.prog 46 #[.pointer (some ⟨b, 0, none⟩)] w fun e w' => e = .returned (.tuple #[]) ∧ Lib.BuilderAt 67 5 B0 b (.pointer (some ⟨b, 0, none⟩)) bs w' ∧ Below B0 w w' ∧ ∀ k, k ≠ b → w'.heap[k]? = w.heap[k]? := by
  rcases h with h | h
  · exact (copyCheck_fresh b w h.cell0 h.shape h.frozen0).mono fun e w' ⟨he, hw⟩ => by
      subst hw
      exact ⟨he, h.used _, (Below.refl B0 w).setCell (p := ⟨b, 0, none⟩) h.1 _, fun k hk => Below.heap_setCell w ⟨b, 0, none⟩ _ k hk⟩
  · exact (copyCheck_used b w h.cell0).mono fun e w' ⟨he, hw⟩ => by
      subst hw
      exact ⟨he, h, Below.refl B0 _, fun _ _ => rfl⟩
theorem grown_setCell (w : World) (p : Addr) (v : Value) : w.grownBy (w.setCell p v) (some p.block) :=
  ⟨rfl, rfl, rfl, by simp, fun k _ hk => Below.heap_setCell w p v k (fun e => hk (by rw [e]))⟩
set_option maxRecDepth 100000 in
set_option maxHeartbeats 1000000 in
theorem writeString_calls (B0 b : Nat) (l t : List UInt8) (w : World) (h : Lib.IsBuilder 67 5 B0 b (l.map u8v) w) (hlen : l.length + t.length ≤ 70368744177664) (hBw : B0 ≤ w.heap.size) :
    Calls Try.prog 34 #[.pointer (some ⟨b, 0, none⟩), .string (B t)] w fun e w' => e = .returned (.tuple #[.int .i64 t.length, .nilIface]) ∧ Lib.IsBuilder 67 5 B0 b ((l ++ t).map u8v) w' ∧ Below B0 w w' ∧ ∀ k T cs, Blk w k T cs → 5 ≠ T → k ≠ b → Blk w' k T cs := by
  have hcc := Lib.hid (copyCheck_calls B0 b (l.map u8v) w h)
  have hne5 : (5 : TypeId) ≠ 67 := by decide
  clear h
  go_enter Try.func34, Try.ntmps34
  go_wp2_with (first
    | (go_at_call 46; go_must (refine hcc.out.mono ?_); rintro e w1 ⟨rfl, h1, hb1, hfar1⟩
       obtain ⟨hB, v, hbk', hown', hne⟩ := h1
       have hbk : Blk w1 b 67 #[.pointer (some ⟨b, 0, none⟩), v] := hbk'
       have hown : OwnB w1 B0 5 v l := by unfold OwnB; rw [List.length_map] at hown'; exact hown'
       have c1 : w1.cell? ⟨b, 1, none⟩ = some v := hbk.cell 1
       have hbs1 := Nat.le_trans hBw hb1.size
       have hfar1 : ∀ k T cs, Blk w k T cs → k ≠ b → Blk w1 k T cs := fun k T cs h hk => (hfar1 k hk).trans h
       have hfar1 := Lib.hid hfar1
       clear hbk' hown' hcc)
    | (at_builtin
       refine wpList_append_bytes rfl (.tmp 12) (.tmp 13) _ _ rfl 5 Try.bytesTy Try.underlying9 B0 v l rfl hown t rfl hlen w hb1 hbs1 ?_
       intro v2 w2 hown2 hb2 hg2
       have hbk2 := hbk.grown hg2 (own_blk_ne hown hbk hne5)
       have c2 : w2.cell? ⟨b, 1, none⟩ = some v := hbk2.cell 1
       have f2 : w2.frozen? ⟨b, 1, none⟩ = false := hbk2.frozen 1
       have hvb := own_blk_ne hown2 hbk2 hne5
       obtain ⟨A2, cap2, hv2⟩ := OwnB.form' hown2
       subst hv2
       have hfar2 : Hid (∀ k T cs, Blk w1 k T cs → 5 ≠ T → Blk w2 k T cs) := fun k T cs h hT => h.grown hg2 (own_blk_ne hown h hT)
       clear hg2 c1))
  go_ret2
  have hbk3 : Blk (w2.setCell ⟨b, 1, none⟩ (.slice A2 (l ++ t).length cap2)) b 67 #[.pointer (some ⟨b, 0, none⟩), .slice A2 (l ++ t).length cap2] := hbk2.set_ 1 _
  have hown3 : OwnB (w2.setCell ⟨b, 1, none⟩ (.slice A2 (l ++ t).length cap2)) B0 5 (.slice A2 (l ++ t).length cap2) (l ++ t) :=
    OwnB.kept hown2 (grown_setCell w2 ⟨b, 1, none⟩ _) (.inr fun e => hvb e.symm)
  have hb3 : Below B0 w (w2.setCell ⟨b, 1, none⟩ (.slice A2 (l ++ t).length cap2)) := hb2.setCell (p := ⟨b, 1, none⟩) hB _
  rw [List.length_append] at hbk3 hown3 hb3 hvb
  refine ⟨rfl, .inr ⟨hB, _, hbk3, ?_, fun e => hvb e.symm⟩, hb3, fun k T cs h hT hk => (hfar2.out k T cs (hfar1.out k T cs h hk) hT).far (p := ⟨b, 1, none⟩) hk _⟩
  rw [List.length_map, List.length_append]
  unfold OwnB at hown3
  rw [List.length_append] at hown3
  exact hown3
theorem byteCells_u8v (l : List UInt8) : Lib.byteCells l = l.map u8v := rfl
/-- A builder just made. -/
theorem bld_new (w : World) : Lib.IsBuilder 67 5 w.heap.size w.heap.size [] (w.alloc (.cells #[.pointer none, .slice none 0 0] 67)) :=
  .inl ⟨Nat.le_refl _, .slice none 0 0, Blk.new w _ _, World.ownsRow_nil _ _ _ _, by simp [Value.ownBlock]⟩
end Go.Proofs.Ytlanconcbpdneaa
