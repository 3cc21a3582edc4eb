/- The walks of layer 10: caps.Get, knapsackref10.Get. Condition of caps.Get: internal/bytealg.MaxLen holds an int. -/
import Derived.Test.YtakodjmembpdjaaDoorCapE
namespace Go.Proofs.YtakodjmembpdjaaDoor
open Go.RowKit
/-- internal/bytealg.MaxLen holds an int. -/
def MaxK (w : World) : Prop := ∃ m : Int, w.cell? ⟨0, 0, none⟩ = some (.int .i64 m)
theorem MaxK.lt {w : World} (h : MaxK w) : 0 < w.heap.size := by
  obtain ⟨m, h⟩ := h
  exact World.block_lt_of_cell? w ⟨0, 0, none⟩ h
theorem MaxK.below {w w' : World} (h : MaxK w) (hb : Below w.heap.size w w') : MaxK w' := by
  have hl := h.lt
  obtain ⟨m, h⟩ := h
  exact ⟨m, (hb.cell (p := ⟨0, 0, none⟩) hl).trans h⟩
theorem splitB_B : ∀ (k : Nat) (s : Txt), Lib.splitB ⟨#[32]⟩ 0 k (B s) = (Lib.splitK [32] 0 k s).map B
  | 0, s => rfl
  | k + 1, s => by
    have e1 : Lib.indexB (B s) ⟨#[32]⟩ = Lib.index s [32] := by
      show Lib.index (B s).data.toList [32] = _
      simp [B]
    unfold Lib.splitB Lib.splitK
    rw [e1]
    by_cases h : (Lib.index s [32] == -1) = true
    · rw [if_pos h, if_pos h]; rfl
    · rw [if_neg h, if_neg h, List.map_cons, extract_B_to]
      congr 1
      have : (B s).size = s.length := size_B s
      rw [this]
      show Lib.splitB ⟨#[32]⟩ 0 k ((B s).extract ((Lib.index s [32]).toNat + 1) s.length) = _
      rw [extract_B_from]
      exact splitB_B k _
theorem split_calls (s : Txt) (w : World) (hs : s.length < 4294967281) (hm : MaxK w) :
    Calls Tryd.prog 24 #[.string (B s), .string ⟨#[32]⟩] w fun e w' => ∃ v', e = .returned v' ∧ OwnStrs w' w.heap.size v' (splitW s) ∧ Below w.heap.size w w' := by
  obtain ⟨m, hm⟩ := hm
  refine (Tryd.strings_Split (B s) ⟨#[32]⟩ m w (by rw [size_B]; exact hs) hm (by decide)).mono ?_
  rintro e w' ⟨he, hw⟩
  obtain ⟨h1, h2⟩ := split_count s.length s (Nat.le_refl _)
  have e1 : Lib.countB (B s) ⟨#[32]⟩ = Lib.count s [32] := by
    show Lib.count (B s).data.toList [32] = _
    simp [B]
  rw [e1] at he hw
  rw [splitB_B, h1] at hw
  have hr : ((((splitW s).map B).map Value.string).toArray).toList = rowsOf strC (splitW s) := by
    rw [List.toList_toArray]
    unfold rowsOf strC
    rw [List.map_map]
    induction splitW s with
    | nil => rfl
    | cons a l ih => simpa using ih
  have hle : Lib.count s [32] + 1 ≤ maxLen := by
    have h3 : Lib.count s [32] ≤ s.length := by
      have := Lib.countB_le ⟨#[32]⟩ (by decide) (B s).size (B s) (Nat.le_refl _)
      rw [e1, size_B] at this
      exact this
    simp [maxLen]; omega
  refine ⟨_, he, ?_, ?_⟩
  · have := World.ownsRow_lit (size := 1) w (((splitW s).map B).map Value.string).toArray (Lib.count s [32] + 1) (base := w.heap.size) (e := 9) (Nat.le_refl _) hle (by simp [h2])
    unfold OwnStrs
    rw [hw, h2, ← hr]
    exact this
  · rw [hw]; exact (Below.refl _ _).alloc (Nat.le_refl _) _
def codeG (s : Txt) : Int := if (getW s).isSome then 0 else 2
theorem getW_nil : getW [] = some [] := rfl
theorem getW_fine {s : Txt} (h0 : s ≠ []) (h : fineW (splitW s) = true) : getW s = some (splitW s) := by unfold getW; rw [if_neg h0, if_pos h]
theorem getW_not {s : Txt} (h0 : s ≠ []) (h : fineW (splitW s) = false) : getW s = none := by unfold getW; rw [if_neg h0, if_neg (by rw [h]; simp)]
theorem own_none {base : Nat} (w : World) : OwnStrs w base (.slice none 0 0) [] := World.ownsRow_nil w base 9 1
set_option maxRecDepth 100000 in
set_option maxHeartbeats 2000000 in
theorem get_calls (s : Txt) (w : World) (hs : s.length < 4294967281) (hm : MaxK w) : Calls Tryd.prog 14 #[.string (B s)] w fun e w' => ∃ v', e = .returned (.tuple #[v', .int .i64 (codeG s)]) ∧ OwnStrs w' w.heap.size v' ((getW s).getD []) ∧ Below w.heap.size w w' := by
  obtain ⟨c, hc⟩ : ∃ c, Hid (c = codeG s) := ⟨_, Lib.hid rfl⟩
  rw [← hc.out]
  obtain ⟨r, hr⟩ : ∃ r, Hid (r = (getW s).getD []) := ⟨_, Lib.hid rfl⟩
  rw [← hr.out]
  by_cases h0 : s = []
  · subst h0
    have hc0 : Hid (c = 0) := hc
    have hr0 : r = [] := hr.out
    subst hr0
    go_enter Tryd.func14, Tryd.ntmps14
    go_wp2
    go_ret2
    exact ⟨_, by rw [hc0.out]; rfl, own_none _, Below.refl _ _⟩
  · have hb0 : List.isEmpty s = false := by
      cases s with
      | nil => exact absurd rfl h0
      | cons _ _ => rfl
    have hsp := Lib.hid (split_calls s w hs hm)
    have hfi := fun W v hv => Lib.hid (fine_calls (splitW s) v W hv)
    cases hf : fineW (splitW s) with
    | false =>
      have hg := getW_not h0 hf
      have hc0 : Hid (c = 2) := by show c = 2; rw [hc.out, codeG, hg]; rfl
      have hr0 : r = [] := by rw [hr.out, hg]; rfl
      subst hr0
      rw [hf] at hfi
      clear hf hg hc hr h0 hm
      generalize splitW s = l at *
      go_enter Tryd.func14, Tryd.ntmps14
      go_wp2_with (first
        | ((with_reducible refine hsp.out.mono ?_); rintro e w1 ⟨v', rfl, hown, hb1⟩
           obtain ⟨A1, k1, rfl⟩ := own_form' hown
           have hf1 := hfi w1 _ hown.strs
           clear hsp hfi)
        | ((with_reducible refine hf1.out.mono ?_); rintro e w2 ⟨rfl, hb2⟩))
      go_ret2
      exact ⟨_, by rw [hc0.out]; rfl, own_none _, bthen hb1 hb1.size hb2⟩
    | true =>
      have hg := getW_fine h0 hf
      have hc0 : Hid (c = 0) := by show c = 0; rw [hc.out, codeG, hg]; rfl
      have hr0 : Hid (r = splitW s) := by show r = splitW s; rw [hr.out, hg]; rfl
      rw [hf] at hfi
      clear hf hg hc hr h0 hm
      generalize splitW s = l at *
      go_enter Tryd.func14, Tryd.ntmps14
      go_wp2_with (first
        | ((with_reducible refine hsp.out.mono ?_); rintro e w1 ⟨v', rfl, hown, hb1⟩
           obtain ⟨A1, k1, rfl⟩ := own_form' hown
           have hf1 := hfi w1 _ hown.strs
           clear hsp hfi)
        | ((with_reducible refine hf1.out.mono ?_); rintro e w2 ⟨rfl, hb2⟩))
      go_ret2
      exact ⟨_, by rw [hc0.out]; rfl, by rw [hr0.out]; exact own_below hown hb2, bthen hb1 hb1.size hb2⟩
theorem split_len (s : Txt) : (splitW s).length ≤ s.length + 1 := by
  obtain ⟨h1, h2⟩ := split_count s.length s (Nat.le_refl _)
  have h3 := Lib.countB_le ⟨#[32]⟩ (by decide) (B s).size (B s) (Nat.le_refl _)
  have e1 : Lib.countB (B s) ⟨#[32]⟩ = Lib.count s [32] := by
    show Lib.count (B s).data.toList [32] = _
    simp [B]
  rw [e1, size_B] at h3
  omega
theorem split_short : ∀ (s : Txt), ∀ x ∈ splitW s, x.length ≤ s.length := by
  intro s
  induction s with
  | nil => intro x hx; simp [splitW] at hx; subst hx; simp
  | cons c s ih =>
    intro x hx
    unfold splitW at hx
    split at hx
    · simp only [List.mem_cons] at hx
      rcases hx with rfl | hx
      · simp
      · have := ih x hx; simp; omega
    · revert hx
      cases hsp : splitW s with
      | nil => intro hx; simp at hx; subst hx; simp
      | cons a l =>
        intro hx
        rw [hsp] at ih
        simp only [List.mem_cons] at hx
        rcases hx with rfl | hx
        · have := ih a (by simp); simp; omega
        · have := ih x (by simp [hx]); simp; omega
end Go.Proofs.YtakodjmembpdjaaDoor
