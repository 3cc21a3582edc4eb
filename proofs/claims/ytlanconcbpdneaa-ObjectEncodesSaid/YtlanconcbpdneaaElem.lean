/- Slices whose elements have several cells: read, out of whatever memory. No condition; no program. -/
import Derived.Test.YtlanconcbpdneaaOwn
import Derived.Test.YtlanconcbpdneaaQuiet
namespace Go.Proofs.Ytlanconcbpdneaa
open Go.RowKit
section
variable {α : Type}
/-- The slice value v reads as l, each element's k cells by enc. -/
def SliceAt (w : World) (k : Nat) (enc : α → List Value) (v : Value) (l : List α) : Prop :=
  ∃ A cap, v = .slice A l.length cap ∧ l.length ≤ cap ∧ cap ≤ 9223372036854775807 ∧
    (0 < l.length → ∃ g o, A = some ⟨g, o, none⟩ ∧ g < w.heap.size ∧ ∀ i x, l[i]? = some x → w.rangeAt g (o + i * k) (enc x))
variable {w w' : World} {k : Nat} {enc : α → List Value} {v : Value} {l : List α}
theorem SliceAt.below (h : SliceAt w k enc v l) (hb : Below w.heap.size w w') : SliceAt w' k enc v l := by
  obtain ⟨A, cap, h1, h2, h3, h4⟩ := h
  refine ⟨A, cap, h1, h2, h3, fun h0 => ?_⟩
  obtain ⟨g, o, e, hg, hc⟩ := h4 h0
  exact ⟨g, o, e, Nat.lt_of_lt_of_le hg hb.size, fun i x hx j u hu => (hb.cell (p := ⟨g, o + i * k + j, none⟩) hg).trans (hc i x hx j u hu)⟩
theorem SliceAt.len (h : SliceAt w k enc v l) : l.length ≤ 9223372036854775807 := by
  obtain ⟨A, cap, h1, h2, h3, h4⟩ := h
  omega
theorem SliceAt.nil : SliceAt w k enc (.slice none 0 0) ([] : List α) := ⟨none, 0, rfl, by simp, by omega, fun h => absurd h (by simp)⟩
/-- What is known of one element. -/
theorem SliceAt.at_ (h : SliceAt w k enc v l) {i : Nat} (hi : i < l.length) :
    ∃ g o cap, v = .slice (some ⟨g, o, none⟩) l.length cap ∧ g < w.heap.size ∧ w.rangeAt g (o + i * k) (enc l[i]) := by
  obtain ⟨A, cap, h1, h2, h3, h4⟩ := h
  obtain ⟨g, o, rfl, hg, hc⟩ := h4 (by omega)
  exact ⟨g, o, cap, h1, hg, hc i _ (List.getElem?_eq_getElem hi)⟩
theorem rangeAt_below {g o : Nat} {cs : List Value} (h : w.rangeAt g o cs) (hg : g < w.heap.size) (hb : Below w.heap.size w w') : w'.rangeAt g o cs :=
  fun j u hu => (hb.cell (p := ⟨g, o + j, none⟩) hg).trans (h j u hu)
/-- The cells of a list of elements. -/
def rowsOf (enc : α → List Value) (l : List α) : List Value := l.flatMap enc
theorem rowsOf_length (hk : ∀ x ∈ l, (enc x).length = k) : (rowsOf enc l).length = l.length * k := by
  induction l with
  | nil => simp [rowsOf]
  | cons x l ih =>
    have := ih (fun y hy => hk y (by simp [hy]))
    simp only [rowsOf, List.flatMap_cons, List.length_append, List.length_cons] at *
    rw [this, hk x (by simp), Nat.succ_mul]
    omega
theorem rowsOf_append (a b : List α) : rowsOf enc (a ++ b) = rowsOf enc a ++ rowsOf enc b := by simp [rowsOf]
theorem rowsOf_one (x : α) : rowsOf enc [x] = enc x := by simp [rowsOf]
theorem rowsOf_get (hk : ∀ x ∈ l, (enc x).length = k) {i : Nat} {x : α} (hx : l[i]? = some x) {j : Nat} {u : Value} (hu : (enc x)[j]? = some u) : (rowsOf enc l)[i * k + j]? = some u := by
  induction l generalizing i with
  | nil => simp at hx
  | cons y l ih =>
    have hy := hk y (by simp)
    have hj : j < k := by
      have := (List.getElem?_eq_some_iff.1 hu).1
      rw [hk x (List.mem_of_getElem? hx)] at this
      exact this
    cases i with
    | zero =>
      simp only [List.getElem?_cons_zero, Option.some.injEq] at hx
      subst hx
      rw [Nat.zero_mul, Nat.zero_add]
      simp only [rowsOf, List.flatMap_cons]
      rw [List.getElem?_append_left (by omega)]
      exact hu
    | succ i =>
      simp only [List.getElem?_cons_succ] at hx
      have := ih (fun z hz => hk z (by simp [hz])) hx
      simp only [rowsOf, List.flatMap_cons] at *
      rw [List.getElem?_append_right (by rw [hy, Nat.succ_mul]; omega), hy, show (i + 1) * k + j - k = i * k + j from by rw [Nat.succ_mul]; omega]
      exact this
/-- A slice of the call's own reads so. -/
theorem SliceAt.of_own {base : Nat} {e : TypeId} (hk : ∀ x ∈ l, (enc x).length = k) (h : w.ownsRow base e k v l.length (rowsOf enc l)) : SliceAt w k enc v l := by
  rcases own_form h with ⟨rfl, h0, _⟩ | ⟨g, cap, rfl, h1, h2, h3⟩
  · obtain rfl := List.eq_nil_of_length_eq_zero h0
    exact SliceAt.nil
  · have hcap : cap ≤ 9223372036854775807 := by
      rcases h.2 with ⟨hv, _⟩ | ⟨g', cap', cur, hv, _, _, _, hm, _⟩
      · cases hv
      · injection hv with _ _ hv
        subst hv
        simpa [maxLen] using hm
    refine ⟨_, cap, rfl, h3, hcap, fun _ => ⟨g, 0, rfl, h2, fun i x hx j u hu => ?_⟩⟩
    have hrow := rowsOf_get hk hx hu
    have hlt : i * k + j < (rowsOf enc l).length := (List.getElem?_eq_some_iff.1 hrow).1
    rw [rowsOf_length hk] at hlt
    have hc := World.ownsRow.cellAt h (i * k + j) hlt
    rw [Nat.zero_add]
    rw [hrow] at hc
    exact hc
end
end Go.Proofs.Ytlanconcbpdneaa
