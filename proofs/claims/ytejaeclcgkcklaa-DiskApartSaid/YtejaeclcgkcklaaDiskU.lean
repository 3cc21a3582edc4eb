/- The walks of layer 21 (disk): Put, Drop, Fail, Restart, Down. No condition. -/
import Derived.Test.YtejaeclcgkcklaaDiskS
namespace Go.Proofs.Ytejaeclcgkcklaa
open Go.RowKit
theorem cutS_l (s : DiskL) : (cutS s).l = s.l := by unfold cutS; (repeat' split) <;> rfl
theorem cutS_part (s : DiskL) : (cutS s).part = s.part := by unfold cutS; (repeat' split) <;> rfl
theorem DiskOk.cut {s : DiskL} (h : DiskOk s) : DiskOk (cutS s) := by
  have := h.fuse
  unfold cutS
  split
  · exact ⟨h.ok, h.sorted, h.fuse, h.part, h.few⟩
  split
  · exact ⟨h.ok, h.sorted, ⟨by show _ ≤ s.fuse - 1; omega, by show s.fuse - 1 ≤ _; omega⟩, h.part, h.few⟩
  · exact h
theorem write_down {s : DiskL} (h : s.down = true) (n d : List UInt8) (g : Bool) : writeS s n d g = s ∧ writeC s = 11 := by simp [writeS, writeC, h]
theorem write_fine {s : DiskL} (h : s.down = false) (hf : s.fuse ≠ 0) (n d : List UInt8) (g : Bool) : writeS s n d g = { cutS s with l := editL (cutS s).l n d g } ∧ writeC s = 0 := by
  rw [cutS_l]
  unfold writeS writeC cutS
  simp only [h, hf, Bool.false_eq_true, if_false]
  refine ⟨?_, trivial⟩
  split <;> simp [h]
theorem write_part {s : DiskL} (h : s.down = false) (hf : s.fuse = 0) (hp : 0 < s.part) (n d : List UInt8) (g : Bool) : writeS s n d g = { cutS s with l := editL (cutS s).l n (cutD s d) g } ∧ writeC s = 11 := by
  rw [cutS_l]
  simp [writeS, writeC, cutS, h, hf, hp]
theorem write_none {s : DiskL} (h : s.down = false) (hf : s.fuse = 0) (hp : ¬ 0 < s.part) (n d : List UInt8) (g : Bool) : writeS s n d g = cutS s ∧ writeC s = 11 := by
  simp [writeS, writeC, cutS, h, hf, hp]
section
variable {w : World} {base p : Nat} {vl : Value} {s : DiskL}
theorem DiskAt.set_fuse (h : DiskAt w base p vl s) (x : Int) (hx : -1 ≤ x ∧ x ≤ 9223372036854775807) : DiskAt (w.setCell ⟨p, 1, none⟩ (.int .i64 x)) base p vl { s with fuse := x } :=
  ⟨h.blk.set_ 1 _, (Far.refl [some p] w |>.set_ (p := ⟨p, 1, none⟩) (.inl (by simp)) _).own h.own (fun k hk e => h.ne (by simp at e; rw [hk, e])), ⟨h.ok.ok, h.ok.sorted, hx, h.ok.part, h.ok.few⟩⟩
theorem DiskAt.set_part (h : DiskAt w base p vl s) (x : Int) (hx : I64 x) : DiskAt (w.setCell ⟨p, 2, none⟩ (.int .i64 x)) base p vl { s with part := x } :=
  ⟨h.blk.set_ 2 _, (Far.refl [some p] w |>.set_ (p := ⟨p, 2, none⟩) (.inl (by simp)) _).own h.own (fun k hk e => h.ne (by simp at e; rw [hk, e])), ⟨h.ok.ok, h.ok.sorted, h.ok.fuse, hx, h.ok.few⟩⟩
theorem DiskAt.set_down (h : DiskAt w base p vl s) (x : Bool) : DiskAt (w.setCell ⟨p, 3, none⟩ (.bool x)) base p vl { s with down := x } :=
  ⟨h.blk.set_ 3 _, (Far.refl [some p] w |>.set_ (p := ⟨p, 3, none⟩) (.inl (by simp)) _).own h.own (fun k hk e => h.ne (by simp at e; rw [hk, e])), ⟨h.ok.ok, h.ok.sorted, h.ok.fuse, h.ok.part, h.ok.few⟩⟩
theorem far_set (w : World) (p o : Nat) (v : Value) (T : List (Option Nat)) : Far (some p :: T) w (w.setCell ⟨p, o, none⟩ v) := (Far.refl _ w).set_ (p := ⟨p, o, none⟩) (.inl (by simp)) v
set_option maxRecDepth 100000 in
set_option maxHeartbeats 1000000 in
theorem diskCut_calls (h : DiskAt w base p vl s) (hdn : s.down = false) :
    Calls Try.prog 22 #[.pointer (some ⟨p, 0, none⟩)] w fun e w' => e = .returned (.bool (decide (s.fuse = 0))) ∧ DiskAt w' base p vl (cutS s) ∧ Far [some p, vl.ownBlock] w w' := by
  have c1 := h.c1
  have c3 := h.c3
  have f1 := h.fr 1
  have f3 := h.fr 3
  have hfu := h.ok.fuse
  have hD := Lib.hid h
  rw [hdn] at c3
  clear h
  by_cases h0 : s.fuse = 0
  · have hc : cutS s = { s with down := true } := by unfold cutS; rw [if_pos h0]
    rw [hc, decide_eq_true h0]
    rw [h0] at c1
    clear hc
    go_enter Try.func22, Try.ntmps22
    go_wp2
    go_ret
    exact ⟨rfl, hD.out.set_down true, far_set _ _ _ _ _⟩
  by_cases h1 : 0 < s.fuse
  · have hc : cutS s = { s with fuse := s.fuse - 1 } := by unfold cutS; rw [if_neg h0, if_pos h1]
    rw [hc, decide_eq_false h0]
    clear hc
    generalize s.fuse = x at *
    go_enter Try.func22, Try.ntmps22
    go_wp2
    go_ret
    exact ⟨rfl, hD.out.set_fuse (x - 1) (by omega), far_set _ _ _ _ _⟩
  · have hc : cutS s = s := by unfold cutS; rw [if_neg h0, if_neg h1]
    rw [hc, decide_eq_false h0]
    clear hc
    generalize s.fuse = x at *
    go_enter Try.func22, Try.ntmps22
    go_wp2
    go_ret
    exact ⟨rfl, hD.out, Far.refl _ _⟩
set_option maxRecDepth 100000 in
set_option maxHeartbeats 1000000 in
theorem diskPut_calls (hB : base ≤ w.heap.size) (h : DiskAt w base p vl s) (n d : List UInt8) (hn : n.length ≤ 9223372036854775807) (hd : d.length ≤ 1000000) (hf : s.l.length < 500000) :
    Calls Try.prog 14 #[.pointer (some ⟨p, 0, none⟩), .string (B n), .string (B d)] w fun e w' => e = .returned (.int .i64 (writeC s)) ∧
      ∃ vl', DiskAt w' base p vl' (writeS s n d false) ∧ Far [some p, vl.ownBlock] w w' ∧ Newer w vl vl' := by
  have c3 := h.c3
  have hD := Lib.hid h
  have hpt := h.ok.part
  have hfu := h.ok.fuse
  cases hdn : s.down with
  | true =>
    obtain ⟨e1, e2⟩ := write_down hdn n d false
    rw [e1, e2]
    rw [hdn] at c3
    clear h e1 e2 hdn
    go_enter Try.func14, Try.ntmps14
    go_wp2
    go_ret
    exact ⟨rfl, _, hD.out, Far.refl _ _, Newer.refl _ _⟩
  | false =>
    have hcut := Lib.hid (diskCut_calls h hdn)
    rw [hdn] at c3
    by_cases h0 : s.fuse = 0
    · rw [decide_eq_true h0] at hcut
      by_cases h1 : 0 < s.part
      · obtain ⟨e1, e2⟩ := write_part hdn h0 h1 n d false
        rw [e1, e2]
        have hcl := cutD_len s d
        obtain ⟨k, hk⟩ : ∃ k : Nat, s.part = (k : Int) := ⟨s.part.toNat, by omega⟩
        have hcd : cutD s d = d.take (min k d.length) := by unfold cutD; rw [hk]; rfl
        have hk0 : 0 < k := by omega
        have c2 := fun W (hD1 : DiskAt W base p vl (cutS s)) => hD1.c2
        rw [cutS_part, hk] at c2
        rw [hcd] at hcl ⊢
        clear h e1 e2 hdn h0 hcd h1 hpt
        by_cases hkd : k ≤ d.length
        · rw [Nat.min_eq_left hkd] at hcl ⊢
          clear hcl
          go_enter Try.func14, Try.ntmps14
          go_wp2_with (first
            | (go_at_call 22; go_must (refine hcut.out.mono ?_); rintro e w1 ⟨rfl, hD1, hF1⟩
               have c2 := c2 _ hD1
               have hst := Lib.hid (diskSet_calls (Nat.le_trans hB hF1.size) hD1 n (d.take k) hn (by first | omega | (simp; omega)) (by rw [cutS_l]; exact hf)))
            | (go_at_call 23; go_must (refine hst.out.mono ?_); rintro e w2 ⟨rfl, v2, hD2, hF2, hN2⟩))
          go_ret
          exact ⟨rfl, v2, hD2, hF1.trans hF2, (Newer.refl _ _).then_ hN2 hF1.size⟩
        · rw [Nat.min_eq_right (Nat.le_of_not_le hkd), List.take_length] at hcl ⊢
          clear hcl
          go_enter Try.func14, Try.ntmps14
          go_wp2_with (first
            | (go_at_call 22; go_must (refine hcut.out.mono ?_); rintro e w1 ⟨rfl, hD1, hF1⟩
               have c2 := c2 _ hD1
               have hst := Lib.hid (diskSet_calls (Nat.le_trans hB hF1.size) hD1 n d hn (by first | omega | (simp; omega)) (by rw [cutS_l]; exact hf)))
            | (go_at_call 23; go_must (refine hst.out.mono ?_); rintro e w2 ⟨rfl, v2, hD2, hF2, hN2⟩))
          go_ret
          exact ⟨rfl, v2, hD2, hF1.trans hF2, (Newer.refl _ _).then_ hN2 hF1.size⟩
      · obtain ⟨e1, e2⟩ := write_none hdn h0 h1 n d false
        rw [e1, e2]
        clear h e1 e2 hdn h0
        go_enter Try.func14, Try.ntmps14
        go_wp2_with (go_at_call 22; go_must (refine hcut.out.mono ?_); rintro e w1 ⟨rfl, hD1, hF1⟩
                     have c2 := hD1.c2
                     rw [cutS_part] at c2)
        go_ret
        exact ⟨rfl, _, hD1, hF1, Newer.refl _ _⟩
    · rw [decide_eq_false h0] at hcut
      obtain ⟨e1, e2⟩ := write_fine hdn h0 n d false
      rw [e1, e2]
      clear h e1 e2 hdn h0
      go_enter Try.func14, Try.ntmps14
      go_wp2_with (first
        | (go_at_call 22; go_must (refine hcut.out.mono ?_); rintro e w1 ⟨rfl, hD1, hF1⟩
           have hst := Lib.hid (diskSet_calls (Nat.le_trans hB hF1.size) hD1 n d hn (by omega) (by rw [cutS_l]; exact hf)))
        | (go_at_call 23; go_must (refine hst.out.mono ?_); rintro e w2 ⟨rfl, v2, hD2, hF2, hN2⟩))
      go_ret
      exact ⟨rfl, v2, hD2, hF1.trans hF2, (Newer.refl _ _).then_ hN2 hF1.size⟩
set_option maxRecDepth 100000 in
set_option maxHeartbeats 1000000 in
theorem diskDrop_calls (h : DiskAt w base p vl s) (n : List UInt8) :
    Calls Try.prog 18 #[.pointer (some ⟨p, 0, none⟩), .string (B n)] w fun e w' => e = .returned (.int .i64 (writeC s)) ∧
      ∃ vl', DiskAt w' base p vl' (writeS s n [] true) ∧ Far [some p, vl.ownBlock] w w' ∧ Newer w vl vl' := by
  have c3 := h.c3
  have hD := Lib.hid h
  have hpt := h.ok.part
  have hfu := h.ok.fuse
  cases hdn : s.down with
  | true =>
    obtain ⟨e1, e2⟩ := write_down hdn n [] true
    rw [e1, e2]
    rw [hdn] at c3
    clear h e1 e2 hdn
    go_enter Try.func18, Try.ntmps18
    go_wp2
    go_ret
    exact ⟨rfl, _, hD.out, Far.refl _ _, Newer.refl _ _⟩
  | false =>
    have hcut := Lib.hid (diskCut_calls h hdn)
    rw [hdn] at c3
    by_cases h0 : s.fuse = 0
    · rw [decide_eq_true h0] at hcut
      by_cases h1 : 0 < s.part
      · obtain ⟨e1, e2⟩ := write_part hdn h0 h1 n [] true
        rw [e1, e2]
        have c2 := fun W (hD1 : DiskAt W base p vl (cutS s)) => hD1.c2
        rw [cutS_part] at c2
        clear h e1 e2 hdn h0
        go_enter Try.func18, Try.ntmps18
        go_wp2_with (first
          | (go_at_call 22; go_must (refine hcut.out.mono ?_); rintro e w1 ⟨rfl, hD1, hF1⟩
             have c2 := c2 _ hD1
             have hst := Lib.hid (diskGone_calls hD1 n))
          | (go_at_call 25; go_must (refine hst.out.mono ?_); rintro e w2 ⟨rfl, v2, hD2, hF2, hN2⟩))
        go_ret
        exact ⟨rfl, v2, hD2, hF1.trans hF2, (Newer.refl _ _).then_ hN2 hF1.size⟩
      · obtain ⟨e1, e2⟩ := write_none hdn h0 h1 n [] true
        rw [e1, e2]
        clear h e1 e2 hdn h0
        go_enter Try.func18, Try.ntmps18
        go_wp2_with (go_at_call 22; go_must (refine hcut.out.mono ?_); rintro e w1 ⟨rfl, hD1, hF1⟩
                     have c2 := hD1.c2
                     rw [cutS_part] at c2)
        go_ret
        exact ⟨rfl, _, hD1, hF1, Newer.refl _ _⟩
    · rw [decide_eq_false h0] at hcut
      obtain ⟨e1, e2⟩ := write_fine hdn h0 n [] true
      rw [e1, e2]
      clear h e1 e2 hdn h0
      go_enter Try.func18, Try.ntmps18
      go_wp2_with (first
        | (go_at_call 22; go_must (refine hcut.out.mono ?_); rintro e w1 ⟨rfl, hD1, hF1⟩
           have hst := Lib.hid (diskGone_calls hD1 n))
        | (go_at_call 25; go_must (refine hst.out.mono ?_); rintro e w2 ⟨rfl, v2, hD2, hF2, hN2⟩))
      go_ret
      exact ⟨rfl, v2, hD2, hF1.trans hF2, (Newer.refl _ _).then_ hN2 hF1.size⟩
set_option maxRecDepth 100000 in
set_option maxHeartbeats 1000000 in
theorem diskFail_calls (h : DiskAt w base p vl s) (n part : Int) (hn : I64 n) (hp : I64 part) :
    Calls Try.prog 13 #[.pointer (some ⟨p, 0, none⟩), .int .i64 n, .int .i64 part] w fun e w' => e = .returned (.tuple #[]) ∧ DiskAt w' base p vl (failS s n part) ∧ Far [some p, vl.ownBlock] w w' := by
  have hn2 := hn.2
  have hn1 := hn.1
  have hx : -1 ≤ (if n < -1 then (-1 : Int) else n) ∧ (if n < -1 then (-1 : Int) else n) ≤ 9223372036854775807 := by split <;> omega
  have h1 := h.set_fuse (if n < -1 then -1 else n) hx
  have h2 := h1.set_part part hp
  have hF : Far [some p, vl.ownBlock] w ((w.setCell ⟨p, 1, none⟩ (.int .i64 (if n < -1 then -1 else n))).setCell ⟨p, 2, none⟩ (.int .i64 part)) := (far_set w p 1 _ [vl.ownBlock]).trans (far_set _ p 2 _ [vl.ownBlock])
  have c1 := h.c1
  have c2 := h.c2
  have f1 := h.fr 1
  have f2 := h.fr 2
  have c2' := h1.c2
  have f2' := h1.fr 2
  have hD : Hid (DiskAt ((w.setCell ⟨p, 1, none⟩ (.int .i64 (if n < -1 then -1 else n))).setCell ⟨p, 2, none⟩ (.int .i64 part)) base p vl (failS s n part)) := h2
  clear h h1 h2 hx hn hp
  by_cases hlt : n < -1
  · simp only [if_pos hlt] at hD hF c2' f2'
    go_enter Try.func13, Try.ntmps13
    go_wp2
    go_end0
    exact ⟨rfl, hD.out, hF⟩
  · simp only [if_neg hlt] at hD hF c2' f2'
    go_enter Try.func13, Try.ntmps13
    go_wp2
    go_end0
    exact ⟨rfl, hD.out, hF⟩
set_option maxRecDepth 100000 in
set_option maxHeartbeats 1000000 in
theorem diskRestart_calls (h : DiskAt w base p vl s) :
    Calls Try.prog 12 #[.pointer (some ⟨p, 0, none⟩)] w fun e w' => e = .returned (.tuple #[]) ∧ DiskAt w' base p vl (upS s) ∧ Far [some p, vl.ownBlock] w w' := by
  have h1 := h.set_fuse (-1) (by omega)
  have h2 := h1.set_down false
  have hF : Far [some p, vl.ownBlock] w ((w.setCell ⟨p, 1, none⟩ (.int .i64 (-1))).setCell ⟨p, 3, none⟩ (.bool false)) := (far_set w p 1 _ [vl.ownBlock]).trans (far_set _ p 3 _ [vl.ownBlock])
  have c1 := h.c1
  have f1 := h.fr 1
  have c3 := h1.c3
  have f3 := h1.fr 3
  have hD : Hid (DiskAt ((w.setCell ⟨p, 1, none⟩ (.int .i64 (-1))).setCell ⟨p, 3, none⟩ (.bool false)) base p vl (upS s)) := h2
  clear h h1 h2
  go_enter Try.func12, Try.ntmps12
  go_wp2
  go_end0
  exact ⟨rfl, hD.out, hF⟩
set_option maxRecDepth 100000 in
set_option maxHeartbeats 1000000 in
theorem diskDown_calls (h : DiskAt w base p vl s) :
    Calls Try.prog 17 #[.pointer (some ⟨p, 0, none⟩)] w fun e w' => e = .returned (.bool s.down) ∧ Below w.heap.size w w' := by
  have c3 := h.c3
  clear h
  go_enter Try.func17, Try.ntmps17
  go_wp2
  go_ret
  exact ⟨rfl, Below.refl _ _⟩
end
end Go.Proofs.Ytejaeclcgkcklaa
