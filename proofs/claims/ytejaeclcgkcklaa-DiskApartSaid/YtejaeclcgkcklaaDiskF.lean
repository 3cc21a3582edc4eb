/- The walks of layer 21's law: few, knows. No condition. -/
import Derived.Test.YtejaeclcgkcklaaDiskM
namespace Go.Proofs.Ytejaeclcgkcklaa
open Go.RowKit
abbrev Acts (w : World) (v : Value) (l : List ActL) : Prop := SliceAt w 5 actC v l
def shortA (x : ActL) : Bool := decide (x.name.length ≤ 20) && decide (x.data.length ≤ 100)
def fewA (l : List ActL) : Bool := (l.take 60).all shortA && decide (l.length ≤ 60)
theorem fewA_len {l : List ActL} (h : fewA l = true) : l.length ≤ 60 := by unfold fewA at h; rw [Bool.and_eq_true, decide_eq_true_eq] at h; exact h.2
theorem fewA_data {l : List ActL} (h : fewA l = true) : ∀ x ∈ l, x.data.length ≤ 100 := fun x hx => by
  have h1 := fewA_len h
  unfold fewA at h
  rw [Bool.and_eq_true, List.take_of_length_le h1, List.all_eq_true] at h
  have := h.1 x hx
  unfold shortA at this
  rw [Bool.and_eq_true, decide_eq_true_eq, decide_eq_true_eq] at this
  exact this.2
set_option maxRecDepth 100000 in
set_option maxHeartbeats 1000000 in
theorem few_calls (l : List ActL) (v : Value) (w : World) (hv : Acts w v l) :
    Calls Try.prog 5 #[v] w fun e w' => e = .returned (.bool (fewA l)) ∧ Below w.heap.size w w' := by
  have hlen := hv.len
  obtain ⟨A, cap, rfl, hc1, hc2, hat⟩ := hv
  have hat := Lib.hid hat
  obtain ⟨r, hr⟩ : ∃ r, Hid (r = fewA l) := ⟨_, Lib.hid rfl⟩
  rw [← hr.out]
  go_enter Try.func5, Try.ntmps5
  go_wp2
  go_loopw [3] (fun vi wr => ∃ k : Nat, vi = .int .i64 k ∧ k ≤ l.length ∧ k ≤ 60 ∧ Hid ((l.take k).all shortA = true) ∧ Below w.heap.size w wr) (fun vi _ => l.length - (intOf vi).toNat)
  case atStart => exact ⟨0, rfl, by omega, by omega, rfl, Below.refl _ _⟩
  case round =>
    obtain ⟨k, rfl, hk, hk60, hall, hbel⟩ := hrel
    by_cases hlt : k < l.length
    · have hki : (k : Int) < (l.length : Int) := by omega
      by_cases h60 : k < 60
      · have h60i : (k : Int) < 60 := by omega
        obtain ⟨y, hy⟩ : ∃ y, l[k]? = some y := ⟨_, List.getElem?_eq_getElem hlt⟩
        obtain ⟨g, o, rfl, hg, hcell⟩ := hat.out (by omega)
        have hx0 := rangeAt_below (hcell k y hy) hg hbel
        have n1 : wr.cell? ⟨g, o + k * 5 + 1, none⟩ = some (.string (B y.name)) := hx0 1 _ rfl
        have n2 : wr.cell? ⟨g, o + k * 5 + 2, none⟩ = some (.string (B y.data)) := hx0 2 _ rfl
        have hbad : shortA y = false → Hid (r = false) := fun hs => by
          show _ = _
          rw [hr.out]
          unfold fewA
          rw [Bool.and_eq_false_iff]
          refine .inl (List.all_eq_false.2 ⟨y, ?_, by rw [hs]; simp⟩)
          exact List.mem_of_getElem? (i := k) (by rw [List.getElem?_take, if_pos h60]; exact hy)
        have hgood : shortA y = true → Hid ((l.take (k + 1)).all shortA = true) := fun hs => by
          show _ = _
          rw [List.take_add_one, List.all_append, hall.out, hy]
          simp [hs]
        clear hx0 hcell hy
        unfold shortA at hbad hgood
        by_cases hn : y.name.length ≤ 20
        · have hni : ¬ (20 : Int) < (y.name.length : Int) := by omega
          by_cases hd : y.data.length ≤ 100
          · have hdi : ¬ (100 : Int) < (y.data.length : Int) := by omega
            have hx := hgood (by simp [hn, hd])
            clear hbad hgood
            go_wp2
            go_roundw
            case rel => exact ⟨k + 1, by go_num, by omega, by omega, hx, hbel⟩
            case measure => simp [intOf]; omega
          · have hdi : (100 : Int) < (y.data.length : Int) := by omega
            have hx := hbad (by simp [hd])
            clear hbad hgood
            go_wp2
            go_ret
            exact ⟨by rw [hx.out]; rfl, hbel⟩
        · have hni : (20 : Int) < (y.name.length : Int) := by omega
          have hx := hbad (by simp [hn])
          clear hbad hgood
          go_wp2
          go_ret
          exact ⟨by rw [hx.out]; rfl, hbel⟩
      · have h60i : ¬ (k : Int) < 60 := by omega
        have hx : Hid (r = false) := by
          show _ = _
          rw [hr.out]
          unfold fewA
          rw [Bool.and_eq_false_iff]
          exact .inr (decide_eq_false (by omega))
        have hn60 : ¬ (l.length : Int) ≤ 60 := by omega
        go_wp2
        go_ret
        exact ⟨by rw [hx.out]; rfl, hbel⟩
    · obtain rfl : k = l.length := by omega
      have hki : ¬ (l.length : Int) < (l.length : Int) := by omega
      have hx : Hid (r = true) := by
        have := hall.out
        show _ = _
        rw [hr.out]
        unfold fewA
        rw [List.take_length] at this
        rw [List.take_of_length_le hk60, this, decide_eq_true hk60]
        rfl
      have hn60 : (l.length : Int) ≤ 60 := by omega
      go_wp2
      go_ret
      exact ⟨by rw [hx.out]; rfl, hbel⟩
theorem DiskAt.far_below {w w' : World} {base p : Nat} {vl : Value} {s : DiskL} (h : DiskAt w base p vl s) (hF : Far [some p, vl.ownBlock] w w') (hp : base ≤ p) (hB : base ≤ w.heap.size) : Below base w w' :=
  hF.below hB fun k hk => by
    rcases List.mem_cons.1 hk with e | hk
    · injection e with e; omega
    · rw [List.mem_singleton] at hk
      exact (World.ownsRow.lt h.own k hk.symm).1
def sK1 : DiskL := failS newS 0 2
def sK2 : DiskL := writeS sK1 [97] [120, 121, 122] false
def sK3 : DiskL := upS sK2
def sK4 : DiskL := writeS sK3 [98] [] false
set_option maxRecDepth 100000 in
set_option maxHeartbeats 2000000 in
theorem knows_calls (w : World) : Calls Try.prog 7 #[] w fun e w' => e = .returned (.bool true) ∧ Below w.heap.size w w' := by
  have i0 : I64 0 := ⟨by omega, by omega⟩
  have i2 : I64 2 := ⟨by omega, by omega⟩
  have hn := diskNew_calls w
  have e1 : writeC sK1 = 11 := by decide
  have e2 : sK2.down = true := by decide
  have e3 : getR sK3 [97] = ([120, 121], true) := by decide
  have e4 : writeC sK3 = 0 := by decide
  have e5 : (namesR sK4).length = 2 := by decide
  have l1 : sK1.l.length < 500000 := by decide
  have l3 : sK3.l.length < 500000 := by decide
  go_enter Try.func7, Try.ntmps7
  go_wp2_with (first
    | (go_at_call 6; go_must (refine hn.mono ?_); rintro e w1 ⟨rfl, hD1, hb1⟩
       have hB : w.heap.size ≤ w.heap.size := Nat.le_refl _
       have hF := Lib.hid (diskFail_calls hD1 0 2 i0 i2))
    | (go_at_call 13; go_must (refine hF.out.mono ?_); rintro e w2 ⟨rfl, hD2, hF2⟩
       have hP := Lib.hid (diskPut_calls (s := sK1) (Nat.le_trans hb1.size hF2.size) hD2 [97] [120, 121, 122] (by simp) (by simp) l1)
       clear hF)
    | (go_at_call 14; refine hP.out.mono ?_; rintro e w3a ⟨rfl, v3a, hD3a, hF3a, hN3a⟩
       have hW := Lib.hid (diskDown_calls (s := sK2) hD3a)
       clear hP)
    | (go_at_call 17; go_must (refine hW.out.mono ?_); rintro e w4 ⟨rfl, hb4⟩
       have hR := Lib.hid (diskRestart_calls (hD3a.below hb4)))
    | (go_at_call 12; go_must (refine hR.out.mono ?_); rintro e w5 ⟨rfl, hD5, hF5⟩
       have hG := Lib.hid (diskGet_calls (s := sK3) hD5 [97]))
    | (go_at_call 16; go_must (refine hG.out.mono ?_); rintro e w6 ⟨rfl, hb6⟩
       have hP := Lib.hid (diskPut_calls (s := sK3) (Nat.le_trans (Nat.le_trans (Nat.le_trans (Nat.le_trans (Nat.le_trans hb1.size hF2.size) hF3a.size) hb4.size) hF5.size) hb6.size) (hD5.below hb6) [98] [] (by simp) (by simp) l3))
    | (go_at_call 14; go_must (refine hP.out.mono ?_); rintro e w3 ⟨rfl, v3, hD3, hF3, hN3⟩
       have hQ := Lib.hid (diskNames_calls (s := sK4) hD3)
       clear hP)
    | (go_at_call 15; go_must (refine hQ.out.mono ?_); rintro e w8 ⟨v8, rfl, hown8, hb8⟩
       obtain ⟨A8, c8, rfl⟩ := own_form' hown8
       rw [e5] at *))
  go_ret
  have p1 := hb1.size
  have p2 := hF2.size
  have p3 := hF3a.size
  have p4 := hb4.size
  have p5 := hF5.size
  have p6 := hb6.size
  have p7 := hF3.size
  have q2 := hb1.trans (hD1.far_below hF2 (Nat.le_refl _) (by omega))
  have q3 := q2.trans (hD2.far_below hF3a (Nat.le_refl _) (by omega))
  have q4 := bthen q3 (by omega) hb4
  have q5 := q4.trans ((hD3a.below hb4).far_below hF5 (Nat.le_refl _) (by omega))
  have q6 := bthen q5 (by omega) hb6
  have q7 := q6.trans ((hD5.below hb6).far_below hF3 (Nat.le_refl _) (by omega))
  exact ⟨rfl, bthen q7 (by omega) hb8⟩
end Go.Proofs.Ytejaeclcgkcklaa
