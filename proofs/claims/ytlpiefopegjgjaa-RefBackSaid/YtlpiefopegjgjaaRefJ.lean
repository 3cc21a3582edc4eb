/- The walks of layer 9 (ref): Find, on both sides. No condition. -/
import Derived.Test.YtlpiefopegjgjaaRefI
import Derived.Test.YtlpiefopegjgjaaUnhex0
namespace Go.Proofs.Ytlpiefopegjgjaa
open Go.RowKit
attribute [local go_sem ↓] ldvI_eq
theorem find_cases (l : List RefL) (name : List UInt8) :
    (∃ k x, l[k]? = some x ∧ k < l.length ∧ idxOf (fun r => r.name == name) l = (k : Int) ∧ findL l name = some x.id) ∨ (idxOf (fun r => r.name == name) l = -1 ∧ findL l name = none) := by
  cases h : l.findIdx? (fun r => r.name == name) with
  | some k =>
    obtain ⟨hk, hp, hn⟩ := List.findIdx?_eq_some_iff_getElem.1 h
    refine .inl ⟨k, l[k], List.getElem?_eq_getElem hk, hk, by simp [idxOf, h], ?_⟩
    have : l.find? (fun r => r.name == name) = some l[k] := by
      rw [List.find?_eq_some_iff_getElem]
      exact ⟨hp, k, hk, rfl, fun j hj => by simpa using hn j hj⟩
    simp [findL, this]
  | none =>
    refine .inr ⟨by simp [idxOf, h], ?_⟩
    have : l.find? (fun r => r.name == name) = none := by
      rw [List.find?_eq_none]
      intro x hx
      have := List.findIdx?_eq_none_iff.1 h x hx
      simpa using this
    simp [findL, this]
set_option maxRecDepth 100000 in
set_option maxHeartbeats 400000 in
theorem find_calls (l : List RefL) (hok : RefsOk l) (v : Value) (name : List UInt8) (w : World) (hv : Refs w v l) :
    Calls Try.prog 19 #[v, .string (B name)] w fun e w' => e = .returned (.tuple #[.agg (u8s (findOr l name)), .bool (findL l name).isSome]) ∧ Below w.heap.size w w' := by
  have hlen := hv.len
  have hb0 : Below w.heap.size w (w.alloc (.cells (u8s (List.replicate 32 0)) 37)) := (Below.refl _ _).alloc (Nat.le_refl _) _
  have hz0 : Blk (w.alloc (.cells (u8s (List.replicate 32 0)) 37)) w.heap.size 37 (u8s (List.replicate 32 0)) := Blk.new _ _ _
  have hpl := Lib.hid (place_calls l hok v name (w.alloc (.cells (u8s (List.replicate 32 0)) 37)) (hv.below hb0))
  have hi0 := sized32 zeros32
  have hall0 := u8s_one (List.replicate 32 0)
  rcases find_cases l name with ⟨k, x, hx, hk, hi, hf⟩ | ⟨hi, hf⟩
  · rw [hi] at hpl
    have hxok : RefOk x := hok x (List.mem_of_getElem? hx)
    obtain ⟨A, cap, rfl, hcap1, hcap2, hat⟩ := hv
    obtain ⟨gs, os, rfl, hgs, hcell⟩ := hat (by omega)
    have hfo : Hid (findOr l name = x.id) := by show _ = _; rw [findOr, hf]; rfl
    have hfs : Hid ((findL l name).isSome = true) := by show _ = _; rw [hf]; rfl
    have hr0 := hcell k x hx
    have hki : (k : Int) < (l.length : Int) := by omega
    have hid := sized32 hxok.1
    have hone := u8s_one x.id
    have hsame := same32 zeros32 hxok.1
    clear hx hi hf hcell hat
    go_enter Try.func19, Try.ntmps19
    go_wp2_with (first
      | (go_at_call 35; go_must (refine hpl.out.mono ?_); rintro e w1 ⟨rfl, hb1⟩
         have hz1 := hz0.below hb1 hz0.lt
         have hr1 := run_ldvI_mid (range_id (rangeAt_below (rangeAt_below hr0 hgs hb0) (Nat.lt_of_lt_of_le hgs hb0.size) hb1)) hxok.1)
      | (refine wpList_store_row rfl 37 (.tmp 4) (.tmp 17) rfl w.heap.size (u8s x.id) rfl rfl _ _ hz1 hid hsame hone ?_))
    refine bodyPost_ret (results_row_tmp rfl _ _ w.heap.size _ _ _ _ rfl (setRow_heap _ _ _ _ _ _ hz1) Try.underlying37 rfl hid) rfl ⟨?_, below_setRow (bthen hb0 hb0.size hb1) (Nat.le_refl _) _⟩
    rw [hfo.out, hfs.out]
    rfl
  · rw [hi] at hpl
    have hfo : Hid (findOr l name = List.replicate 32 0) := by show _ = _; rw [findOr, hf]; rfl
    have hfs : Hid ((findL l name).isSome = false) := by show _ = _; rw [hf]; rfl
    clear hi hf hv
    go_enter Try.func19, Try.ntmps19
    go_wp2_with (first
      | (go_at_call 35; go_must (refine hpl.out.mono ?_); rintro e w1 ⟨rfl, hb1⟩
         have hz1 := hz0.below hb1 hz0.lt)
      | (refine wpList_store_row rfl 37 (.tmp 4) (.tmp 12) rfl w.heap.size (u8s (List.replicate 32 0)) rfl rfl _ _ hz1 hi0 rfl hall0 ?_))
    refine bodyPost_ret (results_row_tmp rfl _ _ w.heap.size _ _ _ _ rfl (setRow_heap _ _ _ _ _ _ hz1) Try.underlying37 rfl hi0) rfl ⟨?_, below_setRow (bthen hb0 hb0.size hb1) (Nat.le_refl _) _⟩
    rw [hfo.out, hfs.out]
    rfl
theorem findL_found {l : List RefL} {name : List UInt8} {k : Nat} {x : RefL} (hn : (l.take k).all (fun y => !(y.name == name)) = true) (hx : l[k]? = some x) (hp : (x.name == name) = true) : findL l name = some x.id := by
  obtain ⟨hk, he⟩ := List.getElem?_eq_some_iff.1 hx
  have : l.find? (fun r => r.name == name) = some x := by
    rw [List.find?_eq_some_iff_getElem]
    refine ⟨hp, k, hk, he, fun j hj => ?_⟩
    have hm : l[j] ∈ l.take k := by
      rw [List.mem_take_iff_getElem]
      exact ⟨j, by omega, rfl⟩
    exact List.all_eq_true.1 hn _ hm
  simp [findL, this]
theorem findL_none {l : List RefL} {name : List UInt8} (hn : l.all (fun y => !(y.name == name)) = true) : findL l name = none := by
  have : l.find? (fun r => r.name == name) = none := by
    rw [List.find?_eq_none]
    intro x hx
    have := List.all_eq_true.1 hn x hx
    simpa using this
  simp [findL, this]
set_option maxRecDepth 100000 in
set_option maxHeartbeats 400000 in
theorem refFind_calls (l : List RefL) (hok : RefsOk l) (v : Value) (name : List UInt8) (w : World) (hv : Refs w v l) :
    Calls Try.prog 20 #[v, .string (B name)] w fun e w' => e = .returned (.tuple #[.agg (u8s (findOr l name)), .bool (findL l name).isSome]) ∧ Below w.heap.size w w' := by
  have hlen := hv.len
  have hb0 : Below w.heap.size w (w.alloc (.cells (u8s (List.replicate 32 0)) 37)) := (Below.refl _ _).alloc (Nat.le_refl _) _
  have hz0 : Blk (w.alloc (.cells (u8s (List.replicate 32 0)) 37)) w.heap.size 37 (u8s (List.replicate 32 0)) := Blk.new _ _ _
  have hi0 := sized32 zeros32
  have hall0 := u8s_one (List.replicate 32 0)
  obtain ⟨A, cap, rfl, hcap1, hcap2, hat⟩ := hv
  go_enter Try.func20, Try.ntmps20
  go_wp2
  go_loopw [6] (fun i wr => ∃ k : Nat, i = .int .i64 k ∧ k ≤ l.length ∧ Hid ((l.take k).all (fun y => !(y.name == name)) = true) ∧ Blk wr w.heap.size 37 (u8s (List.replicate 32 0)) ∧ Below w.heap.size w wr) (fun i _ => l.length - (intOf i).toNat)
  case atStart => exact ⟨0, rfl, by omega, by show _ = _; simp, hz0, hb0⟩
  case round =>
    clear hz0 hb0
    obtain ⟨k, rfl, hk, hall, hz1, hbel⟩ := hrel
    by_cases hlt : k < l.length
    · have hki : (k : Int) < (l.length : Int) := by omega
      obtain ⟨gs, os, rfl, hgs, hcell⟩ := hat (by omega)
      obtain ⟨x, hx⟩ : ∃ x, l[k]? = some x := ⟨_, List.getElem?_eq_getElem hlt⟩
      have hxok : RefOk x := hok x (List.mem_of_getElem? hx)
      have hx0 := rangeAt_below (hcell k x hx) hgs hbel
      have c0 := range_name hx0
      have c1 := run_ldvI_mid (range_id hx0) hxok.1
      have hxh := Lib.hid hx
      clear hx hat hcell
      cases hp : (x.name == name)
      · have hst := Lib.hid (none_step hall.out hxh.out hp)
        go_wp2
        go_roundw
        case rel => exact ⟨k + 1, by go_num, by omega, hst, hz1, hbel⟩
        case measure => simp [intOf]; omega
      · have hf := findL_found hall.out hxh.out hp
        have hfo : Hid (findOr l name = x.id) := by show _ = _; rw [findOr, hf]; rfl
        have hfs : Hid ((findL l name).isSome = true) := by show _ = _; rw [hf]; rfl
        have hid := sized32 hxok.1
        have hone := u8s_one x.id
        have hsame := same32 zeros32 hxok.1
        clear hf
        go_wp2_with (first
          | (refine wpList_store_row rfl 37 (.tmp 4) (.tmp 24) rfl w.heap.size (u8s x.id) rfl rfl _ _ hz1 hid hsame hone ?_))
        refine bodyPost_ret (results_row_tmp rfl _ _ w.heap.size _ _ _ _ rfl (setRow_heap _ _ _ _ _ _ hz1) Try.underlying37 rfl hid) rfl ⟨?_, below_setRow hbel (Nat.le_refl _) _⟩
        rw [hfo.out, hfs.out]
        rfl
    · have hki : ¬ (k : Int) < (l.length : Int) := by omega
      have hf : findL l name = none := by
        have := hall.out
        rw [List.take_of_length_le (by omega)] at this
        exact findL_none this
      have hfo : Hid (findOr l name = List.replicate 32 0) := by show _ = _; rw [findOr, hf]; rfl
      have hfs : Hid ((findL l name).isSome = false) := by show _ = _; rw [hf]; rfl
      clear hf hat
      go_wp2_with (first
        | (refine wpList_store_row rfl 37 (.tmp 4) (.tmp 25) rfl w.heap.size (u8s (List.replicate 32 0)) rfl rfl _ _ hz1 hi0 rfl hall0 ?_))
      refine bodyPost_ret (results_row_tmp rfl _ _ w.heap.size _ _ _ _ rfl (setRow_heap _ _ _ _ _ _ hz1) Try.underlying37 rfl hi0) rfl ⟨?_, below_setRow hbel (Nat.le_refl _) _⟩
      rw [hfo.out, hfs.out]
      rfl
end Go.Proofs.Ytlpiefopegjgjaa
