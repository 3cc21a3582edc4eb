/- One cell of one element is written. No condition; no program. -/
import Derived.Test.YtakodjmembpdjaaDoorFar
namespace Go.Proofs.YtakodjmembpdjaaDoor
open Go.RowKit
section
variable {α : Type} {w : World} {g : Nat} {e : TypeId} {k : Nat} {enc : α → List Value} {cap : Nat} {s : List α}
theorem Row.idx_lt (h : Row w g e k enc cap s) {i : Nat} (hi : i < s.length) {j : Nat} (hj : j < k) : i * k + j < cap * k := by
  have h1 := h.le
  have h2 : (i + 1) * k ≤ cap * k := Nat.mul_le_mul_right _ (by omega)
  rw [Nat.succ_mul] at h2
  omega
theorem Row.cell_some (h : Row w g e k enc cap s) {i : Nat} (hi : i < s.length) {j : Nat} (hj : j < k) : (w.cell? ⟨g, i * k + j, none⟩).isSome = true := by
  obtain ⟨cur, hc, hs⟩ := h.blk
  have := h.idx_lt hi hj
  rw [hc.cell, Array.getElem?_eq_getElem (by omega)]
  rfl
theorem Row.frozen (h : Row w g e k enc cap s) (o : Nat) : w.frozen? ⟨g, o, none⟩ = false := by
  obtain ⟨cur, hc, hs⟩ := h.blk
  exact hc.frozen o
theorem Row.field (hk : ∀ x ∈ s, (enc x).length = k) (h : Row w g e k enc cap s) {i : Nat} {y x : α} (hy : s[i]? = some y) {j : Nat} (hj : j < k) {v : Value} (hx : enc x = (enc y).set j v) : Row (w.setCell ⟨g, i * k + j, none⟩ v) g e k enc cap (s.set i x) := by
  obtain ⟨cur, hc, hs⟩ := h.blk
  have hi : i < s.length := (List.getElem?_eq_some_iff.1 hy).1
  have hlt := h.idx_lt hi hj
  have hc' := hc.set_ (i * k + j) v
  refine ⟨⟨_, hc', by rw [Array.size_setIfInBounds, hs]⟩, fun q z hz m u hu => ?_, by rw [List.length_set]; exact h.le, h.top⟩
  rw [hc'.cell, Array.getElem?_setIfInBounds]
  rw [List.getElem?_set] at hz
  by_cases hq : i = q
  · subst hq
    rw [if_pos rfl, if_pos hi] at hz
    injection hz with hz
    subst hz
    rw [hx, List.getElem?_set] at hu
    by_cases hm : j = m
    · subst hm
      rw [if_pos rfl] at hu
      split at hu
      · injection hu with hu
        subst hu
        rw [if_pos rfl, if_pos (by omega)]
      · cases hu
    · rw [if_neg hm] at hu
      rw [if_neg (by omega)]
      have := h.at_ i y hy m u hu
      rwa [hc.cell] at this
  · rw [if_neg hq] at hz
    have hm : m < k := by
      have := (List.getElem?_eq_some_iff.1 hu).1
      rw [hk z (List.mem_of_getElem? hz)] at this
      exact this
    have hne : ¬ (i * k + j = q * k + m) := by
      intro he
      apply hq
      have h1 : (i * k + j) / k = i := by rw [Nat.mul_comm, Nat.mul_add_div (by omega), Nat.div_eq_of_lt hj, Nat.add_zero]
      have h2 : (q * k + m) / k = q := by rw [Nat.mul_comm, Nat.mul_add_div (by omega), Nat.div_eq_of_lt hm, Nat.add_zero]
      rw [← h1, he, h2]
    rw [if_neg hne]
    have := h.at_ q z hz m u hu
    rwa [hc.cell] at this
theorem Row.far {g' : Nat} (h : Row w g e k enc cap s) (hne : g ≠ g') (o : Nat) (v : Value) : Row (w.setCell ⟨g', o, none⟩ v) g e k enc cap s := by
  obtain ⟨cur, hb, hs⟩ := h.blk
  exact ⟨⟨cur, hb.far (p := ⟨g', o, none⟩) hne v, hs⟩, fun j y hy => World.rangeAt_setCells_apart (h.at_ j y hy) _ _ [v] (.inl hne), h.le, h.top⟩
end
end Go.Proofs.YtakodjmembpdjaaDoor
