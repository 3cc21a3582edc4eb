/- Rows of the call's own that hold numbers; two rows of unlike element types lie apart. No condition; no program. -/
import Derived.Test.YtlpiefopegjgjaaRowk
namespace Go.Proofs.Ytlpiefopegjgjaa
open Go.RowKit
def natC (n : Nat) : List Value := [.int .i64 n]
theorem natK (l : List Nat) : ∀ x ∈ l, (natC x).length = 1 := fun _ _ => rfl
theorem natOne (l : List Nat) : ∀ u ∈ rowsOf natC l, u.oneCell' = true := rowsOf_one' fun x _ u hu => by
  simp only [natC, List.mem_singleton] at hu
  subst hu; rfl
abbrev OwnNs (w : World) (base : Nat) (e : TypeId) (v : Value) (l : List Nat) : Prop := w.ownsRow base e 1 v l.length (rowsOf natC l)
theorem own_own_ne {w : World} {base base' : Nat} {e e' : TypeId} {size size' n n' : Nat} {v v' : Value} {xs xs' : List Value} (h : w.ownsRow base e size v n xs) (h' : w.ownsRow base' e' size' v' n' xs') (hne : e' ≠ e) : v.ownBlock = none ∨ v.ownBlock ≠ v'.ownBlock := by
  rcases h.2 with ⟨rfl, _⟩ | ⟨g, cap, cur, rfl, _, hh, _⟩
  · exact .inl rfl
  · exact .inr (own_blk_ne h' (show Blk w g e cur from hh) hne)
theorem Row.setNat {w : World} {g : Nat} {e : TypeId} {cap : Nat} {s : List Nat} (h : Row w g e 1 natC cap s) {i : Nat} (hi : i < s.length) (x : Nat) : Row (w.setCell ⟨g, i, none⟩ (.int .i64 x)) g e 1 natC cap (s.set i x) := by
  have := h.set (natK s) hi (x := x) rfl
  rw [Nat.mul_one] at this
  exact this
theorem Row.nat_at {w : World} {g : Nat} {e : TypeId} {cap : Nat} {s : List Nat} (h : Row w g e 1 natC cap s) {i x : Nat} (hx : s[i]? = some x) : w.cell? ⟨g, i, none⟩ = some (.int .i64 x) := by
  have := h.at_ i x hx 0 _ rfl
  rwa [Nat.mul_one, Nat.add_zero] at this
theorem Row.frozen {α : Type} {w : World} {g : Nat} {e : TypeId} {k cap : Nat} {enc : α → List Value} {s : List α} (h : Row w g e k enc cap s) (i : Nat) : w.frozen? ⟨g, i, none⟩ = false := by
  obtain ⟨cur, hc, _⟩ := h.blk
  exact hc.frozen i
/-- What is told where all are asked, and one is wrong. -/
def markN (n : Nat) : Nat := if n = 0 then 12 else n
def mixN (l : List Nat) (k : Nat) : List Nat := (l.take k).map markN ++ l.drop k
theorem mixN_length (l : List Nat) (k : Nat) : (mixN l k).length = l.length := by simp [mixN]; omega
theorem mixN_zero (l : List Nat) : mixN l 0 = l := by simp [mixN]
theorem mixN_all (l : List Nat) : mixN l l.length = l.map markN := by simp [mixN]
theorem mixN_at {l : List Nat} {k x : Nat} (hx : l[k]? = some x) : (mixN l k)[k]? = some x := by
  have := (List.getElem?_eq_some_iff.1 hx).1
  rw [mixN, List.getElem?_append_right (by simp; omega)]
  simp [Nat.min_eq_left (Nat.le_of_lt this), hx]
theorem mixN_step {l : List Nat} {k x : Nat} (hx : l[k]? = some x) (y : Nat) (hy : markN x = y) : (mixN l k).set k y = mixN l (k + 1) := by
  obtain ⟨hk, he⟩ := List.getElem?_eq_some_iff.1 hx
  apply List.ext_getElem?
  intro j
  have hlen := mixN_length l k
  by_cases hj : k = j
  · subst hj
    rw [List.getElem?_set_self (by omega)]
    rw [mixN, List.getElem?_append_left (by simp; omega), List.getElem?_map, List.getElem?_take, if_pos (Nat.lt_succ_self k), hx, ← hy]
    rfl
  · rw [List.getElem?_set_ne hj]
    simp only [mixN]
    by_cases h : j < k
    · rw [List.getElem?_append_left (by simp; omega), List.getElem?_append_left (by simp; omega)]
      simp [List.getElem?_take, h, Nat.lt_succ_of_lt h]
    · rw [List.getElem?_append_right (by simp; omega), List.getElem?_append_right (by simp; omega)]
      simp only [List.length_map, List.length_take, List.getElem?_drop]
      congr 1
      omega
theorem set_same {l : List Nat} {k x : Nat} (h : l[k]? = some x) : l.set k x = l := by
  obtain ⟨hk, he⟩ := List.getElem?_eq_some_iff.1 h
  rw [← he]
  exact List.set_getElem_self hk
theorem mixN_skip {l : List Nat} {k x : Nat} (hx : l[k]? = some x) (hn : x ≠ 0) : mixN l k = mixN l (k + 1) := by
  have := mixN_step hx x (by simp [markN, hn])
  rw [← this, set_same (mixN_at hx)]
end Go.Proofs.Ytlpiefopegjgjaa
