/- The walks of layer 10 (caps): words; whether a word is one of some. No condition. -/
import Derived.Test.YtakodjmembpdjaaDoorCapP
import Derived.Test.YtakodjmembpdjaaDoorShelf
namespace Go.Proofs.YtakodjmembpdjaaDoor
open Go.RowKit
set_option maxRecDepth 100000 in
set_option maxHeartbeats 1000000 in
theorem strange_calls (n : Nat) (w : World) : Calls Tryd.prog 28 #[.int .i32 n] w fun e w' => e = .returned (.bool (strangeN n)) ∧ Below w.heap.size w w' := by
  obtain ⟨r, hr⟩ : ∃ r, Hid (strangeN n = r) := ⟨_, Lib.hid rfl⟩
  rw [hr.out]
  have hx := hr.out
  unfold strangeN at hx
  by_cases h1 : n = 45
  · subst h1
    replace hx := Lib.hid hx
    clear hr
    go_enter Tryd.func28, Tryd.ntmps28
    go_wp2
    go_ret
    exact ⟨by rw [← hx.out]; rfl, Below.refl _ _⟩
  · have i1 : ¬ ((n : Int) = 45) := by omega
    have e1 : (n == 45) = false := by simpa using h1
    rw [e1] at hx
    by_cases h2 : n < 48
    · have i2 : (n : Int) < 48 := by omega
      have i4 : (n : Int) < 97 := by omega
      rw [decide_eq_true h2, decide_eq_true (show n < 97 by omega)] at hx
      replace hx := Lib.hid hx
      clear hr
      go_enter Tryd.func28, Tryd.ntmps28
      go_wp2
      go_ret
      exact ⟨by rw [← hx.out]; rfl, Below.refl _ _⟩
    · have i2 : ¬ (n : Int) < 48 := by omega
      rw [decide_eq_false h2] at hx
      by_cases h3 : 57 < n
      · have i3 : (57 : Int) < (n : Int) := by omega
        rw [decide_eq_true h3] at hx
        by_cases h4 : n < 97
        · have i4 : (n : Int) < 97 := by omega
          rw [decide_eq_true h4] at hx
          replace hx := Lib.hid hx
          clear hr
          go_enter Tryd.func28, Tryd.ntmps28
          go_wp2
          go_ret
          exact ⟨by rw [← hx.out]; rfl, Below.refl _ _⟩
        · have i4 : ¬ (n : Int) < 97 := by omega
          rw [decide_eq_false h4] at hx
          by_cases h5 : 122 < n
          · have i5 : (122 : Int) < (n : Int) := by omega
            rw [decide_eq_true h5] at hx
            replace hx := Lib.hid hx
            clear hr
            go_enter Tryd.func28, Tryd.ntmps28
            go_wp2
            go_ret
            exact ⟨by rw [← hx.out]; rfl, Below.refl _ _⟩
          · have i5 : ¬ (122 : Int) < (n : Int) := by omega
            rw [decide_eq_false h5] at hx
            replace hx := Lib.hid hx
            clear hr
            go_enter Tryd.func28, Tryd.ntmps28
            go_wp2
            go_ret
            exact ⟨by rw [← hx.out]; rfl, Below.refl _ _⟩
      · have i3 : ¬ (57 : Int) < (n : Int) := by omega
        rw [decide_eq_false h3] at hx
        replace hx := Lib.hid hx
        clear hr
        go_enter Tryd.func28, Tryd.ntmps28
        go_wp2
        go_ret
        exact ⟨by rw [← hx.out]; rfl, Below.refl _ _⟩
theorem strange_func (a : Array Value) (W : World) : (callFunc 28 a).run Tryd.prog W = .ok (.enter 28 a) W := by kernel_rfl
theorem strange_grows (w : World) : PredGrows Tryd.prog 28 #[] strangeN w := fun W x _ _ => strange_calls x W
set_option maxRecDepth 100000 in
set_option maxHeartbeats 1000000 in
theorem word_calls (s : Txt) (w : World) : Calls Tryd.prog 21 #[.string (B s)] w fun e w' => e = .returned (.bool (wordB s)) ∧ Below w.heap.size w w' := by
  have hif := Lib.hid (Tryd.strings_IndexFunc_grows 28 #[] strange_func strangeN (B s) w (strange_grows w))
  have hiff : Lib.idxFunc strangeN true (B s) = -1 ↔ s.all goodB = true := by
    have := idx_words (B s) (B s).size 0 (by omega)
    rw [List.drop_zero] at this
    exact this
  have hrange := Lib.idxFunc_range strangeN true (B s)
  generalize Lib.idxFunc strangeN true (B s) = r at *
  obtain ⟨b, hb⟩ : ∃ b, Hid (b = wordB s) := ⟨_, Lib.hid rfl⟩
  rw [← hb.out]
  have hx := hb.out
  unfold wordB at hx
  cases hs : s with
  | nil =>
    subst hs
    replace hx := Lib.hid hx
    clear hif hb hiff hrange
    go_enter Tryd.func21, Tryd.ntmps21
    go_wp2
    go_ret
    exact ⟨by rw [hx.out]; rfl, Below.refl _ _⟩
  | cons c t =>
    rw [← hs]
    have hne : (s == []) = false := by rw [hs]; rfl
    have hl1 : 1 ≤ s.length := by rw [hs]; simp
    rw [decide_eq_true hl1] at hx
    clear hs
    by_cases h20 : s.length ≤ 20
    · have i20 : (s.length : Int) ≤ 20 := by omega
      rw [decide_eq_true h20] at hx
      by_cases hr : r = -1
      · subst hr
        rw [hiff.1 rfl] at hx
        replace hx := Lib.hid hx
        clear hb hiff hrange
        go_enter Tryd.func21, Tryd.ntmps21
        go_wp2_with (go_at_call 27; go_must (refine hif.out.mono ?_); rintro e w1 ⟨rfl, hb1⟩)
        go_ret
        exact ⟨by rw [hx.out]; rfl, hb1⟩
      · have hall : s.all goodB = false := by
          cases h : s.all goodB
          · rfl
          · exact absurd (hiff.2 h) hr
        have hr0 : ¬ r < 0 := by rcases hrange with h | h <;> omega
        rw [hall] at hx
        replace hx := Lib.hid hx
        clear hb hiff hrange hr hall
        go_enter Tryd.func21, Tryd.ntmps21
        go_wp2_with (go_at_call 27; go_must (refine hif.out.mono ?_); rintro e w1 ⟨rfl, hb1⟩)
        go_ret
        exact ⟨by rw [hx.out, decide_eq_false (show ¬ r < 0 by omega)]; rfl, hb1⟩
    · have i20 : ¬ (s.length : Int) ≤ 20 := by omega
      rw [decide_eq_false h20] at hx
      replace hx := Lib.hid hx
      clear hif hb hiff hrange
      go_enter Tryd.func21, Tryd.ntmps21
      go_wp2
      go_ret
      exact ⟨by rw [hx.out]; rfl, Below.refl _ _⟩
set_option maxRecDepth 100000 in
set_option maxHeartbeats 2000000 in
theorem refWord_calls (s : Txt) (hs : s.length ≤ 9223372036854775807) (w : World) : Calls Tryd.prog 22 #[.string (B s)] w fun e w' => e = .returned (.bool (wordB s)) ∧ Below w.heap.size w w' := by
  obtain ⟨b, hb⟩ : ∃ b, Hid (b = wordB s) := ⟨_, Lib.hid rfl⟩
  rw [← hb.out]
  go_enter Tryd.func22, Tryd.ntmps22
  go_wp2
  go_loopw [3] (fun vi wr => ∃ k : Nat, vi = .int .i64 k ∧ k ≤ s.length ∧ Hid ((s.take k).all goodB = true) ∧ Below w.heap.size w wr) (fun vi _ => s.length - (intOf vi).toNat)
  case atStart => exact ⟨0, rfl, by omega, rfl, Below.refl _ _⟩
  case round =>
    obtain ⟨k, rfl, hk, hall, hbel⟩ := hrel
    by_cases hlt : k < s.length
    · have hki : (k : Int) < (s.length : Int) := by omega
      obtain ⟨c, hc⟩ : ∃ c, s[k] = c := ⟨_, rfl⟩
      have hck : s[k]? = some c := by rw [List.getElem?_eq_getElem hlt, hc]
      have hnext : goodB c = true → Hid ((s.take (k + 1)).all goodB = true) := fun hg => by
        show _ = _
        rw [List.take_add_one, List.all_append, hall.out, hck]
        simp [hg]
      have hbad : goodB c = false → Hid (b = false) := fun hg => by
        show _ = _
        rw [hb.out]
        unfold wordB
        rw [Bool.and_eq_false_iff]
        refine .inr (List.all_eq_false.2 ⟨c, List.mem_of_getElem? hck, by rw [hg]; simp⟩)
      have hg0 : goodB c = ((c.toNat == 45) || (decide (48 ≤ c.toNat) && decide (c.toNat ≤ 57)) || (decide (97 ≤ c.toNat) && decide (c.toNat ≤ 122))) := by
        unfold goodB
        have h45 : (c == 45) = (c.toNat == 45) := by
          rw [Bool.eq_iff_iff, beq_iff_eq, beq_iff_eq]
          exact ⟨fun h => by rw [h]; rfl, fun h => UInt8.toNat_inj.1 h⟩
        rw [h45]
        simp only [UInt8.le_iff_toNat_le]
        rfl
      rw [hg0] at hnext hbad
      clear hg0 hck
      obtain ⟨n, hn⟩ : ∃ n, c.toNat = n := ⟨_, rfl⟩
      rw [hn] at hnext hbad
      by_cases g1 : n = 45
      · have i1 : (n : Int) = 45 := by omega
        have hx := hnext (by simp [g1])
        clear hnext hbad
        subst g1
        go_wp2
        go_roundw
        case rel => exact ⟨k + 1, by go_num, by omega, hx, hbel⟩
        case measure => simp [intOf]; omega
      · have i1 : ¬ (n : Int) = 45 := by omega
        by_cases g2 : 48 ≤ n
        · have i2 : (48 : Int) ≤ (n : Int) := by omega
          by_cases g3 : n ≤ 57
          · have i3 : (n : Int) ≤ 57 := by omega
            have hx := hnext (by simp [g2, g3])
            clear hnext hbad
            go_wp2
            go_roundw
            case rel => exact ⟨k + 1, by go_num, by omega, hx, hbel⟩
            case measure => simp [intOf]; omega
          · have i3 : ¬ (n : Int) ≤ 57 := by omega
            by_cases g4 : 97 ≤ n
            · have i4 : (97 : Int) ≤ (n : Int) := by omega
              by_cases g5 : n ≤ 122
              · have i5 : (n : Int) ≤ 122 := by omega
                have hx := hnext (by simp [g4, g5])
                clear hnext hbad
                go_wp2
                go_roundw
                case rel => exact ⟨k + 1, by go_num, by omega, hx, hbel⟩
                case measure => simp [intOf]; omega
              · have i5 : ¬ (n : Int) ≤ 122 := by omega
                have hx := hbad (by simp [g1, g3, g5])
                clear hnext hbad
                go_wp2
                go_ret
                exact ⟨by rw [hx.out]; rfl, hbel⟩
            · have i4 : ¬ (97 : Int) ≤ (n : Int) := by omega
              have hx := hbad (by simp [g1, g3, g4])
              clear hnext hbad
              go_wp2
              go_ret
              exact ⟨by rw [hx.out]; rfl, hbel⟩
        · have i2 : ¬ (48 : Int) ≤ (n : Int) := by omega
          have i4 : ¬ (97 : Int) ≤ (n : Int) := by omega
          have hx := hbad (by simp [g1, g2]; omega)
          clear hnext hbad
          go_wp2
          go_ret
          exact ⟨by rw [hx.out]; rfl, hbel⟩
    · obtain rfl : k = s.length := by omega
      have hki : ¬ (s.length : Int) < (s.length : Int) := by omega
      have hx : Hid (b = (decide (1 ≤ s.length) && decide (s.length ≤ 20))) := by
        have := hall.out
        rw [List.take_length] at this
        show _ = _
        rw [hb.out]
        unfold wordB
        rw [this, Bool.and_true]
      by_cases h1 : 1 ≤ s.length
      · have i1 : (1 : Int) ≤ (s.length : Int) := by omega
        by_cases h20 : s.length ≤ 20
        · have i2 : (s.length : Int) ≤ 20 := by omega
          go_wp2
          go_ret
          exact ⟨by rw [hx.out, decide_eq_true h1, decide_eq_true h20]; rfl, hbel⟩
        · have i2 : ¬ (s.length : Int) ≤ 20 := by omega
          go_wp2
          go_ret
          exact ⟨by rw [hx.out, decide_eq_true h1, decide_eq_false h20]; rfl, hbel⟩
      · have i1 : ¬ (1 : Int) ≤ (s.length : Int) := by omega
        go_wp2
        go_ret
        exact ⟨by rw [hx.out, decide_eq_false h1]; rfl, hbel⟩
/- Whether a word is one of some. -/
def ixW (l : List Txt) (x : Txt) : Int := match l.findIdx? (· == x) with | some i => (i : Int) | none => -1
theorem ixW_none {l : List Txt} {x : Txt} (h : l.all (fun y => !(y == x)) = true) : ixW l x = -1 ∧ hasW l x = false := by
  have h1 : l.findIdx? (· == x) = none := by
    rw [List.findIdx?_eq_none_iff]
    intro y hy
    simpa using List.all_eq_true.1 h y hy
  refine ⟨by simp [ixW, h1], ?_⟩
  unfold hasW
  rw [List.any_eq_false]
  intro y hy
  simpa using List.all_eq_true.1 h y hy
theorem ixW_some {l : List Txt} {x y : Txt} {k : Nat} (hn : (l.take k).all (fun y => !(y == x)) = true) (hy : l[k]? = some y) (he : (y == x) = true) : ixW l x = (k : Int) ∧ hasW l x = true := by
  obtain ⟨hk, e⟩ := List.getElem?_eq_some_iff.1 hy
  have h1 : l.findIdx? (· == x) = some k := by
    rw [List.findIdx?_eq_some_iff_getElem]
    refine ⟨hk, by rw [e]; exact he, fun j hj => ?_⟩
    have hm : l[j] ∈ l.take k := by
      rw [List.mem_take_iff_getElem]
      exact ⟨j, by omega, rfl⟩
    simpa using List.all_eq_true.1 hn _ hm
  refine ⟨by simp [ixW, h1], ?_⟩
  unfold hasW
  exact List.any_eq_true.2 ⟨y, List.mem_of_getElem? hy, he⟩
theorem none_stepW {l : List Txt} {x y : Txt} {k : Nat} (hn : (l.take k).all (fun y => !(y == x)) = true) (hy : l[k]? = some y) (he : (y == x) = false) : (l.take (k + 1)).all (fun y => !(y == x)) = true := by
  rw [List.take_add_one, List.all_append, hn, hy]
  simp [he]
set_option maxRecDepth 100000 in
set_option maxHeartbeats 1000000 in
theorem index_calls (l : List Txt) (v : Value) (x : Txt) (w : World) (hv : Strs w v l) : Calls Tryd.prog 33 #[v, .string (B x)] w fun e w' => e = .returned (.int .i64 (ixW l x)) ∧ Below w.heap.size w w' := by
  have hlen := hv.len
  obtain ⟨A, cap, rfl, hc1, hc2, hat⟩ := hv
  have hat := Lib.hid hat
  obtain ⟨r, hr⟩ : ∃ r, Hid (r = ixW l x) := ⟨_, Lib.hid rfl⟩
  rw [← hr.out]
  go_enter Tryd.func33, Tryd.ntmps33
  go_wp2
  go_loopw [8] (fun vi wr => ∃ k : Nat, vi = .int .i64 k ∧ k ≤ l.length ∧ Hid ((l.take k).all (fun y => !(y == x)) = true) ∧ Below w.heap.size w wr) (fun vi _ => l.length - (intOf vi).toNat)
  case atStart => exact ⟨0, rfl, by omega, rfl, Below.refl _ _⟩
  case round =>
    obtain ⟨k, rfl, hk, hall, hbel⟩ := hrel
    by_cases hlt : k < l.length
    · have hki : (k : Int) < (l.length : Int) := by omega
      obtain ⟨y, hy⟩ : ∃ y, l[k]? = some y := ⟨_, List.getElem?_eq_getElem hlt⟩
      obtain ⟨g, o, rfl, hg, hcell⟩ := hat.out (by omega)
      have hx0 := rangeAt_below (hcell k y hy) hg hbel
      rw [Nat.mul_one] at hx0
      have cn : wr.cell? ⟨g, o + k, none⟩ = some (.string (B y)) := hx0 0 _ rfl
      clear hcell hx0
      cases he : (y == x) with
      | true =>
        have he2 : (x == y) = true := by simp at he ⊢; exact he.symm
        have hx := Lib.hid (ixW_some hall.out hy he).1
        clear hy
        go_wp2
        go_ret
        exact ⟨by rw [hr.out, hx.out]; rfl, hbel⟩
      | false =>
        have he2 : (x == y) = false := by simp at he ⊢; exact fun e => he e.symm
        have hx := Lib.hid (none_stepW hall.out hy he)
        clear hy
        go_wp2
        go_roundw
        case rel => exact ⟨k + 1, by go_num, by omega, hx, hbel⟩
        case measure => simp [intOf]; omega
    · obtain rfl : k = l.length := by omega
      have hx : Hid (r = -1) := by
        have := hall.out
        rw [List.take_length] at this
        show _ = _
        rw [hr.out]
        exact (ixW_none this).1
      have hki : ¬ (l.length : Int) < (l.length : Int) := by omega
      go_wp2
      go_ret
      exact ⟨by rw [hx.out]; rfl, hbel⟩
theorem ixW_has (l : List Txt) (x : Txt) : decide (0 ≤ ixW l x) = hasW l x := by
  cases h : l.findIdx? (· == x) with
  | none =>
    have h1 : l.all (fun y => !(y == x)) = true := by
      rw [List.all_eq_true]
      intro y hy
      simpa using List.findIdx?_eq_none_iff.1 h y hy
    obtain ⟨e1, e2⟩ := ixW_none h1
    rw [e1, e2]; rfl
  | some k =>
    obtain ⟨hk, he, hn⟩ := List.findIdx?_eq_some_iff_getElem.1 h
    have e1 : ixW l x = (k : Int) := by simp [ixW, h]
    have e2 : hasW l x = true := List.any_eq_true.2 ⟨l[k], List.getElem_mem _, he⟩
    rw [e1, e2]
    simp
set_option maxRecDepth 100000 in
set_option maxHeartbeats 1000000 in
theorem contains_calls (l : List Txt) (v : Value) (x : Txt) (w : World) (hv : Strs w v l) : Calls Tryd.prog 25 #[v, .string (B x)] w fun e w' => e = .returned (.bool (hasW l x)) ∧ Below w.heap.size w w' := by
  have hi := Lib.hid (index_calls l v x w hv)
  have he := Lib.hid (ixW_has l x)
  generalize ixW l x = r at *
  rw [← he.out]
  go_enter Tryd.func25, Tryd.ntmps25
  go_wp2_with (go_at_call 33; go_must (refine hi.out.mono ?_); rintro e w1 ⟨rfl, hb1⟩)
  go_ret
  exact ⟨rfl, hb1⟩
set_option maxRecDepth 100000 in
set_option maxHeartbeats 1000000 in
theorem has_calls (l : List Txt) (v : Value) (x : Txt) (w : World) (hv : Strs w v l) : Calls Tryd.prog 16 #[v, .string (B x)] w fun e w' => e = .returned (.bool (hasW l x)) ∧ Below w.heap.size w w' := by
  have hi := Lib.hid (contains_calls l v x w hv)
  go_enter Tryd.func16, Tryd.ntmps16
  go_wp2_with (go_at_call 25; go_must (refine hi.out.mono ?_); rintro e w1 ⟨rfl, hb1⟩)
  go_ret
  exact ⟨rfl, hb1⟩
set_option maxRecDepth 100000 in
set_option maxHeartbeats 1000000 in
theorem refHas_calls (l : List Txt) (v : Value) (x : Txt) (w : World) (hv : Strs w v l) : Calls Tryd.prog 17 #[v, .string (B x)] w fun e w' => e = .returned (.bool (hasW l x)) ∧ Below w.heap.size w w' := by
  have hlen := hv.len
  obtain ⟨A, cap, rfl, hc1, hc2, hat⟩ := hv
  have hat := Lib.hid hat
  obtain ⟨r, hr⟩ : ∃ r, Hid (r = hasW l x) := ⟨_, Lib.hid rfl⟩
  rw [← hr.out]
  go_enter Tryd.func17, Tryd.ntmps17
  go_wp2
  go_loopw [5] (fun vi wr => ∃ k : Nat, vi = .int .i64 k ∧ k ≤ l.length ∧ Hid ((l.take k).all (fun y => !(y == x)) = true) ∧ Below w.heap.size w wr) (fun vi _ => l.length - (intOf vi).toNat)
  case atStart => exact ⟨0, rfl, by omega, rfl, Below.refl _ _⟩
  case round =>
    obtain ⟨k, rfl, hk, hall, hbel⟩ := hrel
    by_cases hlt : k < l.length
    · have hki : (k : Int) < (l.length : Int) := by omega
      obtain ⟨y, hy⟩ : ∃ y, l[k]? = some y := ⟨_, List.getElem?_eq_getElem hlt⟩
      obtain ⟨g, o, rfl, hg, hcell⟩ := hat.out (by omega)
      have hx0 := rangeAt_below (hcell k y hy) hg hbel
      rw [Nat.mul_one] at hx0
      have cn : wr.cell? ⟨g, o + k, none⟩ = some (.string (B y)) := hx0 0 _ rfl
      clear hcell hx0
      cases he : (y == x) with
      | true =>
        have hx := Lib.hid (ixW_some hall.out hy he).2
        clear hy
        go_wp2
        go_ret
        exact ⟨by rw [hr.out, hx.out]; rfl, hbel⟩
      | false =>
        have hx := Lib.hid (none_stepW hall.out hy he)
        clear hy
        go_wp2
        go_roundw
        case rel => exact ⟨k + 1, by go_num, by omega, hx, hbel⟩
        case measure => simp [intOf]; omega
    · obtain rfl : k = l.length := by omega
      have hx : Hid (r = false) := by
        have := hall.out
        rw [List.take_length] at this
        show _ = _
        rw [hr.out]
        exact (ixW_none this).2
      have hki : ¬ (l.length : Int) < (l.length : Int) := by omega
      go_wp2
      go_ret
      exact ⟨by rw [hx.out]; rfl, hbel⟩
end Go.Proofs.YtakodjmembpdjaaDoor
