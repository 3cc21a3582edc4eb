/- The walks of layer 10 (caps): Known, Choose, on both sides. No condition. -/
import Derived.Test.YtakodjmembpdjaaDoorCapF
import Derived.Test.YtakodjmembpdjaaDoorStrDf
import Derived.Test.YtakodjmembpdjaaDoorLitB
namespace Go.Proofs.YtakodjmembpdjaaDoor
open Go.RowKit
theorem own_low {w : World} {base base' n size : Nat} {e : TypeId} {v : Value} {xs : List Value} (h : w.ownsRow base e size v n xs) (hb : base' ≤ base) : w.ownsRow base' e size v n xs := by
  refine ⟨h.1, ?_⟩
  rcases h.2 with h1 | ⟨g, cap, cur, h1, h2, h3⟩
  · exact .inl h1
  · exact .inr ⟨g, cap, cur, h1, Nat.le_trans hb h2, h3⟩
theorem blk_two (w : World) (o : Obj) (t : TypeId) (cs : Array Value) : Blk ((w.alloc o).alloc (.cells cs t)) (w.heap.size + 1) t cs := by
  have := Blk.new (w.alloc o) t cs
  rwa [show (w.alloc o).heap.size = w.heap.size + 1 from by simp] at this
theorem own_known (w : World) {base : Nat} (hb : base ≤ w.heap.size) : OwnStrs (w.alloc (.cells #[.string (B [97, 116, 111, 109, 105, 99]), .string (B [98, 97, 110, 100]), .string (B [100, 101, 101, 112, 101, 110]), .string (B [111, 102, 115]), .string (B [116, 104, 105, 110])] 9)) base (.slice (some ⟨w.heap.size, 0, none⟩) 5 5) knownW :=
  World.ownsRow_lit (size := 1) w #[.string (B [97, 116, 111, 109, 105, 99]), .string (B [98, 97, 110, 100]), .string (B [100, 101, 101, 112, 101, 110]), .string (B [111, 102, 115]), .string (B [116, 104, 105, 110])] 5 hb (by simp [maxLen]) rfl
set_option maxRecDepth 100000 in
set_option maxHeartbeats 1000000 in
theorem known_calls (w : World) : Calls Tryd.prog 18 #[] w fun e w' => e = .returned (.slice (some ⟨w.heap.size, 0, none⟩) 5 5) ∧ OwnStrs w' w.heap.size (.slice (some ⟨w.heap.size, 0, none⟩) 5 5) knownW ∧ Below w.heap.size w w' := by
  go_enter Tryd.func18, Tryd.ntmps18
  go_wp2
  go_ret
  exact ⟨rfl, own_known w (Nat.le_refl _), (Below.refl _ _).alloc (Nat.le_refl _) _⟩
set_option maxRecDepth 100000 in
set_option maxHeartbeats 1000000 in
theorem choose1_calls (o l : List Txt) (v1 v2 : Value) (x : Txt) (b1 b2 : Nat) (w : World) (h1 : Strs w v1 o) (h2 : Strs w v2 l) (c1 : w.cell? ⟨b1, 0, none⟩ = some v1) (c2 : w.cell? ⟨b2, 0, none⟩ = some v2) (hb2 : b2 < w.heap.size) :
    Calls Tryd.prog 20 #[.string (B x), .pointer (some ⟨b1, 0, none⟩), .pointer (some ⟨b2, 0, none⟩)] w fun e w' => e = .returned (.bool (!(hasW o x && hasW l x))) ∧ Below w.heap.size w w' := by
  have hh1 := Lib.hid (has_calls o v1 x w h1)
  have hh2 := fun W hb => Lib.hid (has_calls l v2 x W (h2.below (w' := W) hb))
  cases he : hasW o x with
  | false =>
    rw [he] at hh1
    clear hh2 he h1 h2
    go_enter Tryd.func20, Tryd.ntmps20
    go_wp2_with (go_at_call 16; (with_reducible refine hh1.out.mono ?_); rintro e w1 ⟨rfl, hbl1⟩)
    go_ret
    exact ⟨rfl, hbl1⟩
  | true =>
    rw [he] at hh1
    generalize hasW l x = r at *
    clear he h1 h2
    go_enter Tryd.func20, Tryd.ntmps20
    go_wp2_with (first
      | (go_at_call 16; (with_reducible refine hh1.out.mono ?_); rintro e w1 ⟨rfl, hbl1⟩
         have hh3 := hh2 w1 hbl1
         have c3 := (hbl1.cell (p := ⟨b2, 0, none⟩) hb2).trans c2
         clear hh1 hh2)
      | (go_at_call 16; (with_reducible refine hh3.out.mono ?_); rintro e w2 ⟨rfl, hbl2⟩))
    go_ret
    exact ⟨by cases r <;> rfl, bthen hbl1 hbl1.size hbl2⟩
theorem choose1_func (a : Array Value) (W : World) : (callFunc 20 a).run Tryd.prog W = .ok (.enter 20 a) W := by kernel_rfl
set_option maxRecDepth 100000 in
set_option maxHeartbeats 1000000 in
theorem choose_calls (o l : List Txt) (v1 v2 : Value) (w : World) (h1 : Strs w v1 o) (h2 : Strs w v2 l) :
    Calls Tryd.prog 7 #[v1, v2] w fun e w' => ∃ v', e = .returned v' ∧ OwnStrs w' w.heap.size v' (chooseW o l) ∧ Below w.heap.size w w' := by
  have h1' := h1
  have h2' := h2
  obtain ⟨A1, k1, rfl, _⟩ := h1'
  obtain ⟨A2, k2, rfl, _⟩ := h2'
  obtain ⟨W0, hW0⟩ : ∃ W0, (w.alloc (.cells #[.slice A1 o.length k1] 22)).alloc (.cells #[.slice A2 l.length k2] 22) = W0 := ⟨_, rfl⟩
  have hb0 : Below w.heap.size w W0 := by rw [← hW0]; exact ((Below.refl _ _).alloc (Nat.le_refl _) _).alloc (by simp) _
  have d1 : W0.cell? ⟨w.heap.size, 0, none⟩ = some (.slice A1 o.length k1) := by rw [← hW0, ((Blk.new w 22 #[.slice A1 o.length k1]).alloc _).cell]; rfl
  have d2 : W0.cell? ⟨w.heap.size + 1, 0, none⟩ = some (.slice A2 l.length k2) := by rw [← hW0, (blk_two w _ _ _).cell]; rfl
  have hz0 : W0.heap.size = w.heap.size + 2 := by rw [← hW0]; simp
  have hkn := Lib.hid (known_calls W0)
  have hcl := fun (W : World) (x : Txt) (hb : Below W0.heap.size W0 W) => choose1_calls o l _ _ x w.heap.size (w.heap.size + 1) W (h1.below (bthen hb0 hb0.size hb)) (h2.below (bthen hb0 hb0.size hb)) ((hb.cell (p := ⟨w.heap.size, 0, none⟩) (by show w.heap.size < _; omega)).trans d1) ((hb.cell (p := ⟨w.heap.size + 1, 0, none⟩) (by show w.heap.size + 1 < _; omega)).trans d2) (by have := hb.size; omega)
  have hfl : knownW.filter (fun y => !(fun x => !(hasW o x && hasW l x)) y) = chooseW o l := by unfold chooseW; simp
  generalize chooseW o l = R at hfl ⊢
  generalize knownW = K at hfl hkn
  replace hfl := Lib.hid hfl
  clear d1 d2 h1 h2
  replace hz0 := Lib.hid hz0
  go_enter Tryd.func7, Tryd.ntmps7
  go_wp2_with (first
    | (go_at_call 18; (with_reducible refine hkn.out.mono ?_); rintro e w1 ⟨rfl, hown1, hb1⟩
       have hdf := Lib.hid (deleteFunc_calls K _ w1 W0.heap.size hb1.size hown1 20 choose1_func (.pointer (some ⟨w.heap.size, 0, none⟩)) (.pointer (some ⟨w.heap.size + 1, 0, none⟩)) (fun x => !(hasW o x && hasW l x)) (fun W x _ hb => hcl W x (hb1.trans hb)))
       clear hkn hcl hW0 hown1)
    | (go_at_call 19; (with_reducible refine hdf.out.mono ?_); rintro e w2 ⟨v', rfl, hown2, hb2⟩))
  go_ret
  rw [hfl.out] at hown2
  have := hz0.out
  exact ⟨v', rfl, own_low hown2 (by omega), hb0.trans ((hb1.trans hb2).mono (by omega))⟩
end Go.Proofs.YtakodjmembpdjaaDoor
