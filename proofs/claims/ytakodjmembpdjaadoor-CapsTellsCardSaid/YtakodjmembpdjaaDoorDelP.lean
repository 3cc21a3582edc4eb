/- Lemmas for slices.IndexFunc, slices.DeleteFunc: lists. No condition; no program. -/
import Derived.Test.YtakodjmembpdjaaDoorFar
namespace Go.Proofs.YtakodjmembpdjaaDoor
open Go.RowKit
/-- The place of the first one of some; -1: there is none. -/
def idxOf {α : Type} (p : α → Bool) (l : List α) : Int := match l.findIdx? p with | some i => (i : Int) | none => -1
theorem idxOf_found {α : Type} {p : α → Bool} {l : List α} {k : Nat} {x : α} (hn : (l.take k).all (fun y => !p y) = true) (hx : l[k]? = some x) (hp : p x = true) : idxOf p l = (k : Int) := by
  have : l.findIdx? p = some k := by
    rw [List.findIdx?_eq_some_iff_getElem]
    obtain ⟨hk, he⟩ := List.getElem?_eq_some_iff.1 hx
    refine ⟨hk, by rw [he]; exact hp, fun j hj => ?_⟩
    have hm : l[j] ∈ l.take k := by
      rw [List.mem_take_iff_getElem]
      exact ⟨j, by omega, rfl⟩
    have := List.all_eq_true.1 hn _ hm
    simpa using this
  simp [idxOf, this]
theorem idxOf_none {α : Type} {p : α → Bool} {l : List α} (hn : l.all (fun y => !p y) = true) : idxOf p l = -1 := by
  have : l.findIdx? p = none := by
    rw [List.findIdx?_eq_none_iff]
    intro x hx
    have := List.all_eq_true.1 hn x hx
    simpa using this
  simp [idxOf, this]
theorem none_step {α : Type} {p : α → Bool} {l : List α} {k : Nat} {x : α} (hn : (l.take k).all (fun y => !p y) = true) (hx : l[k]? = some x) (hp : p x = false) : (l.take (k + 1)).all (fun y => !p y) = true := by
  rw [List.take_add_one, List.all_append, hn, hx]
  simp [hp]
theorem idx_cases {α : Type} (p : α → Bool) (l : List α) :
    (∃ k x, l[k]? = some x ∧ k < l.length ∧ idxOf p l = (k : Int) ∧ p x = true ∧ (l.take k).all (fun y => !p y) = true) ∨ (idxOf p l = -1 ∧ l.all (fun y => !p y) = true) := by
  cases h : l.findIdx? p with
  | some k =>
    obtain ⟨hk, hp, hn⟩ := List.findIdx?_eq_some_iff_getElem.1 h
    refine .inl ⟨k, l[k], List.getElem?_eq_getElem hk, hk, by simp [idxOf, h], hp, ?_⟩
    rw [List.all_eq_true]
    intro y hy
    obtain ⟨j, hj, rfl⟩ := List.mem_take_iff_getElem.1 hy
    have := hn j (by omega)
    simpa using this
  | none =>
    refine .inr ⟨by simp [idxOf, h], ?_⟩
    rw [List.all_eq_true]
    intro y hy
    have := List.findIdx?_eq_none_iff.1 h y hy
    simpa using this
/-- What is kept of the first j elements. -/
def keptOf {α : Type} (p : α → Bool) (l : List α) (j : Nat) : List α := (l.take j).filter (fun y => !p y)
theorem kept_le {α : Type} (p : α → Bool) (l : List α) (j : Nat) : (keptOf p l j).length ≤ j :=
  Nat.le_trans (List.length_filter_le _ _) (by simp; omega)
theorem kept_keep {α : Type} {p : α → Bool} {l : List α} {j : Nat} {x : α} (hx : l[j]? = some x) (hp : p x = false) : keptOf p l (j + 1) = keptOf p l j ++ [x] := by
  simp [keptOf, List.take_add_one, hx, hp]
theorem kept_drop {α : Type} {p : α → Bool} {l : List α} {j : Nat} {x : α} (hx : l[j]? = some x) (hp : p x = true) : keptOf p l (j + 1) = keptOf p l j := by
  simp [keptOf, List.take_add_one, hx, hp]
theorem kept_all {α : Type} {p : α → Bool} {l : List α} {j : Nat} (h : (l.take j).all (fun y => !p y) = true) : keptOf p l j = l.take j := by
  rw [keptOf, List.filter_eq_self]
  exact fun y hy => List.all_eq_true.1 h y hy
theorem kept_end {α : Type} {p : α → Bool} {l : List α} {j : Nat} (h : l.length ≤ j) : keptOf p l j = l.filter (fun y => !p y) := by
  rw [keptOf, List.take_of_length_le h]
theorem set_take {α : Type} {s : List α} {i : Nat} (hi : i < s.length) (x : α) : (s.set i x).take (i + 1) = s.take i ++ [x] := by
  rw [List.take_add_one, List.getElem?_set_self hi, List.take_set_of_le (Nat.le_refl _)]
  rfl
theorem set_drop {α : Type} {s : List α} {i j : Nat} (hi : i < j) (x : α) : (s.set i x).drop j = s.drop j := List.drop_set_of_lt hi
theorem drop_at {α : Type} {s l : List α} {j : Nat} (h : s.drop j = l.drop j) {x : α} (hx : l[j]? = some x) : s[j]? = some x := by
  have := congrArg (fun q => q[0]?) h
  simp only [List.getElem?_drop, Nat.add_zero] at this
  rw [this]
  exact hx
theorem drop_next {α : Type} {s l : List α} {j : Nat} (h : s.drop j = l.drop j) : s.drop (j + 1) = l.drop (j + 1) := by
  rw [← List.drop_drop, ← List.drop_drop, h]
end Go.Proofs.YtakodjmembpdjaaDoor
