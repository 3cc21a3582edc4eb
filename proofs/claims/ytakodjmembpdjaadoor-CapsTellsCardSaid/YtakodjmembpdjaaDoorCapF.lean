/- The walks of layer 10 (caps): Fine, on both sides; Same. No condition. -/
import Derived.Test.YtakodjmembpdjaaDoorCapW
namespace Go.Proofs.YtakodjmembpdjaaDoor
open Go.RowKit
theorem fineW_bad {l : List Txt} {i : Nat} (hi : i < l.length) (h : fineAtW l i = false) : fineW l = false := by
  unfold fineW
  rw [Bool.and_eq_false_iff]
  exact .inl (List.all_eq_false.2 ⟨i, by simpa using hi, by rw [h]; simp⟩)
theorem fineW_all {l : List Txt} (h : (List.range l.length).all (fineAtW l) = true) : fineW l = decide (l.length ≤ 20) := by unfold fineW; rw [h, Bool.true_and]
theorem range_step {α : Type} {l : List α} {p : Nat → Bool} {k : Nat} (h : (List.range k).all p = true) (hk : p k = true) : (List.range (k + 1)).all p = true := by
  rw [List.range_succ, List.all_append, h]; simp [hk]
theorem fineAtW_word {l : List Txt} {k : Nat} {x : Txt} (hx : l[k]? = some x) (h : wordB x = false) : fineAtW l k = false := by unfold fineAtW; rw [hx]; simp only [h]; rfl
theorem fineAtW_zero {l : List Txt} {x : Txt} (hx : l[0]? = some x) (h : wordB x = true) : fineAtW l 0 = true := by unfold fineAtW; rw [hx]; simp only [h]; rfl
theorem fineAtW_succ {l : List Txt} {k : Nat} {x p : Txt} (hx : l[k + 1]? = some x) (hp : l[k]? = some p) (h : wordB x = true) : fineAtW l (k + 1) = Op.bytesLess p x := by unfold fineAtW; rw [hx]; simp only [h, hp, Bool.true_and]
/-- How two texts stand. -/
theorem two_ways (p x : Txt) : (Op.bytesLess p x = true ∧ Op.bytesLess x p = false ∧ (p == x) = false ∧ (x == p) = false) ∨ (Op.bytesLess p x = false ∧ Op.bytesLess x p = true ∧ (p == x) = false ∧ (x == p) = false) ∨ (Op.bytesLess p x = false ∧ Op.bytesLess x p = false ∧ (p == x) = true ∧ (x == p) = true) := by
  cases h : Op.bytesLess p x with
  | true =>
    have h1 := less_ne h
    exact .inl ⟨rfl, less_asymm h, h1, by rw [beq_eq_false_iff_ne] at h1 ⊢; exact fun e => h1 e.symm⟩
  | false =>
    by_cases e : p = x
    · subst e
      exact .inr (.inr ⟨rfl, h, by simp, by simp⟩)
    · have h2 := less_total h e
      have h1 := less_ne h2
      exact .inr (.inl ⟨rfl, h2, by rw [beq_eq_false_iff_ne]; exact e, h1⟩)
set_option maxRecDepth 100000 in
set_option maxHeartbeats 2000000 in
theorem fine_calls (l : List Txt) (v : Value) (w : World) (hv : Strs w v l) : Calls Tryd.prog 10 #[v] w fun e w' => e = .returned (.bool (fineW l)) ∧ Below w.heap.size w w' := by
  have hlen := hv.len
  obtain ⟨A, cap, rfl, hc1, hc2, hat⟩ := hv
  have hat := Lib.hid hat
  obtain ⟨r, hr⟩ : ∃ r, Hid (r = fineW l) := ⟨_, Lib.hid rfl⟩
  rw [← hr.out]
  go_enter Tryd.func10, Tryd.ntmps10
  go_wp2
  go_loopw [7] (fun vi wr => ∃ k : Nat, vi = .int .i64 k ∧ k ≤ l.length ∧ Hid ((List.range k).all (fineAtW l) = true) ∧ Below w.heap.size w wr) (fun vi _ => l.length - (intOf vi).toNat)
  case atStart => exact ⟨0, rfl, by omega, rfl, Below.refl _ _⟩
  case round =>
    obtain ⟨k, rfl, hk, hall, hbel⟩ := hrel
    by_cases hlt : k < l.length
    · have hki : (k : Int) < (l.length : Int) := by omega
      obtain ⟨x, hx⟩ : ∃ x, l[k]? = some x := ⟨_, List.getElem?_eq_getElem hlt⟩
      obtain ⟨g, o, rfl, hg, hcell⟩ := hat.out (by omega)
      have hx0 := rangeAt_below (hcell k x hx) hg hbel
      rw [Nat.mul_one] at hx0
      have cn : wr.cell? ⟨g, o + k, none⟩ = some (.string (B x)) := hx0 0 _ rfl
      have hsz := hbel.size
      have hwd := Lib.hid (word_calls x wr)
      clear hx0
      cases hw : wordB x with
      | false =>
        have hbad := Lib.hid (fineW_bad hlt (fineAtW_word hx hw))
        rw [hw] at hwd
        clear hcell hx
        go_wp2_with (go_at_call 21; go_must (refine hwd.out.mono ?_); rintro e w1 ⟨rfl, hb1⟩)
        go_ret
        exact ⟨by rw [hr.out, hbad.out]; rfl, bthen hbel hsz hb1⟩
      | true =>
        rw [hw] at hwd
        cases k with
        | zero =>
          have cn0 := cn
          rw [Nat.add_zero] at cn0
          have hst := Lib.hid (range_step (l := l) hall.out (fineAtW_zero hx hw))
          clear hcell hx hw
          go_wp2_with (go_at_call 21; go_must (refine hwd.out.mono ?_); rintro e w1 ⟨rfl, hb1⟩)
          go_roundw
          case rel => exact ⟨1, by go_num, by omega, hst, bthen hbel hsz hb1⟩
          case measure => simp [intOf]; omega
        | succ j =>
          obtain ⟨p, hp⟩ : ∃ p, l[j]? = some p := ⟨_, List.getElem?_eq_getElem (by omega)⟩
          have hp0 := hcell j p hp
          rw [Nat.mul_one] at hp0
          have hfa := fineAtW_succ hx hp hw
          have hj0 : (0 : Int) < ((j + 1 : Nat) : Int) := by omega
          have hj1 : ((j + 1 : Nat) : Int) - 1 = (j : Int) := by omega
          have hjl : (j : Int) < (l.length : Int) := by omega
          clear hcell hx hp hw
          rcases two_ways p x with ⟨t1, t2, t3, t4⟩ | ⟨t1, t2, t3, t4⟩ | ⟨t1, t2, t3, t4⟩
          · have hst := Lib.hid (range_step (l := l) hall.out (hfa.trans t1))
            clear hfa
            go_wp2_with (go_at_call 21; go_must (refine hwd.out.mono ?_); rintro e w1 ⟨rfl, hb1⟩
                         have cp : w1.cell? ⟨g, o + j, none⟩ = some (.string (B p)) := rangeAt_below hp0 hg (bthen hbel hsz hb1) 0 _ rfl)
            go_roundw
            case rel => exact ⟨j + 1 + 1, by go_num, by omega, hst, bthen hbel hsz hb1⟩
            case measure => simp [intOf]; omega
          all_goals
            have hbad := Lib.hid (fineW_bad hlt (hfa.trans t1))
            clear hfa
            go_wp2_with (go_at_call 21; go_must (refine hwd.out.mono ?_); rintro e w1 ⟨rfl, hb1⟩
                         have cp : w1.cell? ⟨g, o + j, none⟩ = some (.string (B p)) := rangeAt_below hp0 hg (bthen hbel hsz hb1) 0 _ rfl)
            go_ret
            exact ⟨by rw [hr.out, hbad.out]; rfl, bthen hbel hsz hb1⟩
    · obtain rfl : k = l.length := by omega
      have hx := Lib.hid (fineW_all hall.out)
      have hki : ¬ (l.length : Int) < (l.length : Int) := by omega
      by_cases h20 : l.length ≤ 20
      · have i20 : (l.length : Int) ≤ 20 := by omega
        go_wp2
        go_ret
        exact ⟨by rw [hr.out, hx.out, decide_eq_true h20]; rfl, hbel⟩
      · have i20 : ¬ (l.length : Int) ≤ 20 := by omega
        go_wp2
        go_ret
        exact ⟨by rw [hr.out, hx.out, decide_eq_false h20]; rfl, hbel⟩
def ShortW (l : List Txt) : Prop := ∀ x ∈ l, x.length ≤ 9223372036854775807
set_option maxRecDepth 100000 in
set_option maxHeartbeats 2000000 in
theorem refFine_calls (l : List Txt) (hsh : ShortW l) (v : Value) (w : World) (hv : Strs w v l) : Calls Tryd.prog 11 #[v] w fun e w' => e = .returned (.bool (fineW l)) ∧ Below w.heap.size w w' := by
  have hlen := hv.len
  obtain ⟨A, cap, rfl, hc1, hc2, hat⟩ := hv
  have hat := Lib.hid hat
  obtain ⟨r, hr⟩ : ∃ r, Hid (r = fineW l) := ⟨_, Lib.hid rfl⟩
  rw [← hr.out]
  go_enter Tryd.func11, Tryd.ntmps11
  go_wp2
  go_loopw [3] (fun vi wr => ∃ k : Nat, vi = .int .i64 k ∧ k ≤ l.length ∧ Hid ((List.range k).all (fineAtW l) = true) ∧ Below w.heap.size w wr) (fun vi _ => l.length - (intOf vi).toNat)
  case atStart => exact ⟨0, rfl, by omega, rfl, Below.refl _ _⟩
  case round =>
    obtain ⟨k, rfl, hk, hall, hbel⟩ := hrel
    by_cases hlt : k < l.length
    · have hki : (k : Int) < (l.length : Int) := by omega
      obtain ⟨x, hx⟩ : ∃ x, l[k]? = some x := ⟨_, List.getElem?_eq_getElem hlt⟩
      obtain ⟨g, o, rfl, hg, hcell⟩ := hat.out (by omega)
      have hx0 := hcell k x hx
      rw [Nat.mul_one] at hx0
      have cn : wr.cell? ⟨g, o + k, none⟩ = some (.string (B x)) := rangeAt_below hx0 hg hbel 0 _ rfl
      have hsz := hbel.size
      have hwd := Lib.hid (refWord_calls x (hsh x (List.mem_of_getElem? hx)) wr)
      cases hw : wordB x with
      | false =>
        have hbad := Lib.hid (fineW_bad hlt (fineAtW_word hx hw))
        rw [hw] at hwd
        clear hcell hx
        go_wp2_with (go_at_call 22; go_must (refine hwd.out.mono ?_); rintro e w1 ⟨rfl, hb1⟩)
        go_ret
        exact ⟨by rw [hr.out, hbad.out]; rfl, bthen hbel hsz hb1⟩
      | true =>
        rw [hw] at hwd
        cases k with
        | zero =>
          have cn0 := cn
          rw [Nat.add_zero] at cn0
          have hst := Lib.hid (range_step (l := l) hall.out (fineAtW_zero hx hw))
          clear hcell hx hw hx0
          go_wp2_with (go_at_call 22; go_must (refine hwd.out.mono ?_); rintro e w1 ⟨rfl, hb1⟩)
          have hbel2 := bthen hbel hsz hb1
          clear cn cn0 hwd hb1
          go_quiet (fail)
          go_wp2
          go_roundw
          case rel => exact ⟨1, by go_num, by omega, hst, bdrewN hbel2 nq⟩
          case measure => simp [intOf]; omega
        | succ j =>
          obtain ⟨p, hp⟩ : ∃ p, l[j]? = some p := ⟨_, List.getElem?_eq_getElem (by omega)⟩
          have hp0 := hcell j p hp
          rw [Nat.mul_one] at hp0
          have hfa := fineAtW_succ hx hp hw
          have hj0 : (0 : Int) < ((j + 1 : Nat) : Int) := by omega
          have hj1 : ((j + 1 : Nat) : Int) - 1 = (j : Int) := by omega
          have hjl : (j : Int) < (l.length : Int) := by omega
          clear hcell hx hp hw
          rcases two_ways p x with ⟨t1, t2, t3, t4⟩ | ⟨t1, t2, t3, t4⟩ | ⟨t1, t2, t3, t4⟩
          · have hst := Lib.hid (range_step (l := l) hall.out (hfa.trans t1))
            clear hfa
            go_wp2_with (go_at_call 22; go_must (refine hwd.out.mono ?_); rintro e w1 ⟨rfl, hb1⟩
                         have hbel2 := bthen hbel hsz hb1
                         have cp : w1.cell? ⟨g, o + j, none⟩ = some (.string (B p)) := rangeAt_below hp0 hg hbel2 0 _ rfl
                         have cx : w1.cell? ⟨g, o + (j + 1), none⟩ = some (.string (B x)) := rangeAt_below hx0 hg hbel2 0 _ rfl)
            clear cn hwd hb1
            go_quiet (fail)
            go_wp2
            go_roundw
            case rel => exact ⟨j + 1 + 1, by go_num, by omega, hst, bdrewN hbel2 nq⟩
            case measure => simp [intOf]; omega
          all_goals
            have hbad := Lib.hid (fineW_bad hlt (hfa.trans t1))
            clear hfa
            go_wp2_with (go_at_call 22; go_must (refine hwd.out.mono ?_); rintro e w1 ⟨rfl, hb1⟩
                         have hbel2 := bthen hbel hsz hb1
                         have cp : w1.cell? ⟨g, o + j, none⟩ = some (.string (B p)) := rangeAt_below hp0 hg hbel2 0 _ rfl
                         have cx : w1.cell? ⟨g, o + (j + 1), none⟩ = some (.string (B x)) := rangeAt_below hx0 hg hbel2 0 _ rfl)
            clear cn hwd hb1
            go_quiet (fail)
            go_wp2
            go_ret
            exact ⟨by rw [hr.out, hbad.out]; rfl, bdrewN hbel2 nq⟩
    · obtain rfl : k = l.length := by omega
      have hx := Lib.hid (fineW_all hall.out)
      have hki : ¬ (l.length : Int) < (l.length : Int) := by omega
      by_cases h20 : l.length ≤ 20
      · have i20 : (l.length : Int) ≤ 20 := by omega
        go_wp2
        go_ret
        exact ⟨by rw [hr.out, hx.out, decide_eq_true h20]; rfl, hbel⟩
      · have i20 : ¬ (l.length : Int) ≤ 20 := by omega
        go_wp2
        go_ret
        exact ⟨by rw [hr.out, hx.out, decide_eq_false h20]; rfl, hbel⟩
set_option maxRecDepth 100000 in
set_option maxHeartbeats 2000000 in
theorem same_calls (l : List Txt) (v1 v2 : Value) (w : World) (h1 : Strs w v1 l) (h2 : Strs w v2 l) : Calls Tryd.prog 8 #[v1, v2] w fun e w' => e = .returned (.bool true) ∧ Below w.heap.size w w' := by
  have hlen := h1.len
  obtain ⟨A1, cap1, rfl, hc1, hc2, hat1⟩ := h1
  obtain ⟨A2, cap2, rfl, hd1, hd2, hat2⟩ := h2
  have hat1 := Lib.hid hat1
  have hat2 := Lib.hid hat2
  go_enter Tryd.func8, Tryd.ntmps8
  go_wp2
  go_loopw [5] (fun vi wr => ∃ k : Nat, vi = .int .i64 k ∧ k ≤ l.length ∧ Below w.heap.size w wr) (fun vi _ => l.length - (intOf vi).toNat)
  case atStart => exact ⟨0, rfl, by omega, Below.refl _ _⟩
  case round =>
    obtain ⟨k, rfl, hk, hbel⟩ := hrel
    by_cases hlt : k < l.length
    · have hki : (k : Int) < (l.length : Int) := by omega
      obtain ⟨x, hx⟩ : ∃ x, l[k]? = some x := ⟨_, List.getElem?_eq_getElem hlt⟩
      obtain ⟨g1, o1, rfl, hg1, hcell1⟩ := hat1.out (by omega)
      obtain ⟨g2, o2, rfl, hg2, hcell2⟩ := hat2.out (by omega)
      have hx1 := hcell1 k x hx
      have hx2 := hcell2 k x hx
      rw [Nat.mul_one] at hx1 hx2
      have c1 : wr.cell? ⟨g1, o1 + k, none⟩ = some (.string (B x)) := rangeAt_below hx1 hg1 hbel 0 _ rfl
      have c2 : wr.cell? ⟨g2, o2 + k, none⟩ = some (.string (B x)) := rangeAt_below hx2 hg2 hbel 0 _ rfl
      clear hcell1 hcell2 hx hx1 hx2 hat1 hat2
      go_wp2
      go_quiet (fail)
      go_wp2
      go_roundw
      case rel => exact ⟨k + 1, by go_num, by omega, bdrewN hbel nq⟩
      case measure => simp [intOf]; omega
    · have hki : ¬ (k : Int) < (l.length : Int) := by omega
      go_wp2
      go_ret
      exact ⟨rfl, hbel⟩
end Go.Proofs.YtakodjmembpdjaaDoor
