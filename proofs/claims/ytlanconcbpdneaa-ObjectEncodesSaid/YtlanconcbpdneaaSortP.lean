/- Sorted lists by a key that is a text: where a key stands, what is put, what is dropped. No condition; no program. -/
import Derived.Below
import Derived.Laws.Cover1
import Derived.Lib.Bytealg
namespace Go.Proofs.Ytlanconcbpdneaa
open Go.RowKit
/-- The order of texts. -/
theorem less_irrefl (a : List UInt8) : Op.bytesLess a a = false := by
  induction a with
  | nil => rfl
  | cons x a ih => rw [Op.bytesLess, ih]; simp
theorem less_asymm : ∀ {a b : List UInt8}, Op.bytesLess a b = true → Op.bytesLess b a = false
  | a, [], h => by cases a <;> simp [Op.bytesLess] at h
  | [], y :: b, _ => rfl
  | x :: a, y :: b, h => by
    rw [Op.bytesLess] at h ⊢
    simp only [Bool.or_eq_true, Bool.and_eq_true, decide_eq_true_eq, beq_iff_eq, UInt8.lt_iff_toNat_lt] at h
    simp only [Bool.or_eq_false_iff, Bool.and_eq_false_iff, decide_eq_false_iff_not, UInt8.lt_iff_toNat_lt]
    rcases h with h | ⟨rfl, h⟩
    · refine ⟨by omega, .inl ?_⟩
      rw [beq_eq_false_iff_ne]
      rintro rfl
      omega
    · exact ⟨by omega, .inr (less_asymm h)⟩
theorem less_total : ∀ {a b : List UInt8}, Op.bytesLess a b = false → a ≠ b → Op.bytesLess b a = true
  | [], [], _, hne => absurd rfl hne
  | x :: a, [], _, _ => rfl
  | [], y :: b, h, _ => by simp [Op.bytesLess] at h
  | x :: a, y :: b, h, hne => by
    rw [Op.bytesLess] at h ⊢
    simp only [Bool.or_eq_false_iff, Bool.and_eq_false_iff, decide_eq_false_iff_not, UInt8.lt_iff_toNat_lt] at h
    simp only [Bool.or_eq_true, Bool.and_eq_true, decide_eq_true_eq, beq_iff_eq, UInt8.lt_iff_toNat_lt]
    by_cases hxy : x = y
    · subst hxy
      refine .inr ⟨rfl, less_total (h.2.resolve_left (by simp)) (fun e => hne (by rw [e]))⟩
    · have : x.toNat ≠ y.toNat := fun e => hxy (UInt8.toNat_inj.1 e)
      exact .inl (by omega)
theorem less_trans : ∀ {a b c : List UInt8}, Op.bytesLess a b = true → Op.bytesLess b c = true → Op.bytesLess a c = true
  | a, b, [], _, h => by cases b <;> simp [Op.bytesLess] at h
  | a, [], z :: c, h, _ => by cases a <;> simp [Op.bytesLess] at h
  | [], y :: b, z :: c, _, _ => rfl
  | x :: a, y :: b, z :: c, h1, h2 => by
    rw [Op.bytesLess] at h1 h2 ⊢
    simp only [Bool.or_eq_true, Bool.and_eq_true, decide_eq_true_eq, beq_iff_eq, UInt8.lt_iff_toNat_lt] at h1 h2 ⊢
    rcases h1 with h1 | ⟨rfl, h1⟩
    · rcases h2 with h2 | ⟨rfl, h2⟩
      · exact .inl (by omega)
      · exact .inl h1
    · rcases h2 with h2 | ⟨rfl, h2⟩
      · exact .inl h2
      · exact .inr ⟨rfl, less_trans h1 h2⟩
/-- 'at most', as the walk has it. -/
theorem leq_not_less (a b : List UInt8) : (Op.bytesLess a b || a == b) = !Op.bytesLess b a := by
  cases h : Op.bytesLess a b
  · by_cases e : a = b
    · subst e; rw [less_irrefl]; simp
    · rw [less_total h e]; simp [e]
  · rw [less_asymm h]; simp
theorem cmp_neg : ∀ (a b : List UInt8), (decide (Lib.compareBytes a b < 0)) = Op.bytesLess a b
  | [], [] => rfl
  | [], _ :: _ => rfl
  | _ :: _, [] => rfl
  | x :: a, y :: b => by
    have ih := cmp_neg a b
    simp only [Lib.compareBytes, Op.bytesLess]
    by_cases h1 : x < y
    · simp [h1]
    · by_cases h2 : x > y
      · have hne : (x == y) = false := by
          rw [beq_eq_false_iff_ne]
          rintro rfl
          exact h1 h2
        simp [h1, h2, hne]
      · have he : x = y := UInt8.toNat_inj.1 (by rw [UInt8.lt_iff_toNat_lt] at h1; rw [gt_iff_lt, UInt8.lt_iff_toNat_lt] at h2; omega)
        subst he
        simp only [h1, if_false, decide_false, Bool.false_or, beq_self_eq_true, Bool.true_and]
        exact ih
theorem cmp_zero : ∀ (a b : List UInt8), (decide (Lib.compareBytes a b = 0)) = (a == b)
  | [], [] => rfl
  | [], _ :: _ => rfl
  | _ :: _, [] => rfl
  | x :: a, y :: b => by
    have ih := cmp_zero a b
    simp only [Lib.compareBytes]
    by_cases h1 : x < y
    · have hne : (x == y) = false := by
        rw [beq_eq_false_iff_ne]
        rintro rfl
        rw [UInt8.lt_iff_toNat_lt] at h1
        omega
      simp [h1, hne]
    · by_cases h2 : x > y
      · have hne : (x == y) = false := by
          rw [beq_eq_false_iff_ne]
          rintro rfl
          exact h1 h2
        simp [h1, h2, hne]
      · have he : x = y := UInt8.toNat_inj.1 (by rw [UInt8.lt_iff_toNat_lt] at h1; rw [gt_iff_lt, UInt8.lt_iff_toNat_lt] at h2; omega)
        subst he
        simp only [h1, h2, if_false]
        rw [ih]
        simp
/-- Whether the one at place p is the one that is looked for. -/
def hitAt {α : Type} (cmp : α → Int) (l : List α) (p : Nat) : Bool := match l[p]? with | some x => decide (cmp x = 0) | none => false
theorem hitAt_some {α : Type} {cmp : α → Int} {l : List α} {p : Nat} {x : α} (h : l[p]? = some x) : hitAt cmp l p = decide (cmp x = 0) := by unfold hitAt; rw [h]
theorem hitAt_none {α : Type} {cmp : α → Int} {l : List α} {p : Nat} (h : l.length ≤ p) : hitAt cmp l p = false := by unfold hitAt; rw [List.getElem?_eq_none h]
section
variable {α : Type} (key : α → List UInt8)
def SortedK (l : List α) : Prop := l.Pairwise (fun a b => Op.bytesLess (key a) (key b) = true)
def posK (l : List α) (n : List UInt8) : Nat := (l.takeWhile (fun r => Op.bytesLess (key r) n)).length
def hasK (l : List α) (n : List UInt8) : Bool := l.any (fun r => key r == n)
def dropK (l : List α) (n : List UInt8) : List α := l.filter (fun r => !(key r == n))
def insK (l : List α) (x : α) : List α := l.take (posK key l (key x)) ++ [x] ++ l.drop (posK key l (key x))
def putK (l : List α) (x : α) : List α := if hasK key l (key x) then l.set (posK key l (key x)) x else insK key l x
/-- As the document lays them: x is put in front of the first one that is not less, the one of its key is left out. -/
def setK (x : α) : Bool → List α → List α
  | d, [] => if d then [] else [x]
  | d, y :: r => (if !d && !Op.bytesLess (key y) (key x) then [x] else []) ++ (if key y == key x then [] else [y]) ++ setK x (d || !Op.bytesLess (key y) (key x)) r
end
section
variable {α : Type} {key : α → List UInt8} {l : List α} {n : List UInt8} {x y : α}
theorem posK_le : posK key l n ≤ l.length := (List.takeWhile_sublist _).length_le
theorem posK_cons_lt (h : Op.bytesLess (key y) n = true) : posK key (y :: l) n = posK key l n + 1 := by simp [posK, List.takeWhile_cons, h]
theorem posK_cons_ge (h : Op.bytesLess (key y) n = false) : posK key (y :: l) n = 0 := by simp [posK, List.takeWhile_cons, h]
/-- The place is the one ahead of which all are less, and that itself is not. -/
theorem posK_of {p : Nat} (hp : p ≤ l.length) (h1 : ∀ (i : Nat) (y : α), l[i]? = some y → i < p → Op.bytesLess (key y) n = true) (h2 : ∀ y, l[p]? = some y → Op.bytesLess (key y) n = false) : posK key l n = p := by
  induction l generalizing p with
  | nil => simp at hp; subst hp; rfl
  | cons z l ih =>
    cases p with
    | zero => exact posK_cons_ge (h2 z rfl)
    | succ p =>
      rw [posK_cons_lt (h1 0 z rfl (by omega)), ih (by simpa using hp) (fun i y hy hi => h1 (i + 1) y (by simpa using hy) (by omega)) (fun y hy => h2 y (by simpa using hy))]
theorem sorted_cons (h : SortedK key (y :: l)) : SortedK key l := (List.pairwise_cons.1 h).2
theorem sorted_head (h : SortedK key (y :: l)) : ∀ z ∈ l, Op.bytesLess (key y) (key z) = true := (List.pairwise_cons.1 h).1
theorem not_less_all (hs : SortedK key (y :: l)) (hy : Op.bytesLess (key y) n = false) : ∀ z ∈ y :: l, Op.bytesLess (key z) n = false := by
  intro z hz
  rcases List.mem_cons.1 hz with rfl | hz
  · exact hy
  · cases h : Op.bytesLess (key z) n with
    | false => rfl
    | true =>
      have := less_trans (sorted_head hs z hz) h
      rw [hy] at this; cases this
theorem sorted_at (hs : SortedK key l) {i : Nat} (hy : l[i]? = some y) : Op.bytesLess (key y) n = decide (i < posK key l n) := by
  induction l generalizing i with
  | nil => simp at hy
  | cons z l ih =>
    cases hz : Op.bytesLess (key z) n with
    | true =>
      rw [posK_cons_lt hz]
      cases i with
      | zero => simp at hy; subst hy; rw [hz]; simp
      | succ i => rw [ih (sorted_cons hs) (by simpa using hy)]; simp
    | false =>
      rw [posK_cons_ge hz]
      have := not_less_all hs hz y (List.mem_of_getElem? hy)
      rw [this]; simp
theorem less_ne {a b : List UInt8} (h : Op.bytesLess a b = true) : (a == b) = false := by
  rw [beq_eq_false_iff_ne]
  rintro rfl
  rw [less_irrefl] at h; cases h
/-- Whether a key is there, by its place. -/
theorem hasK_at (hs : SortedK key l) : hasK key l n = (match l[posK key l n]? with | some y => key y == n | none => false) := by
  induction l with
  | nil => rfl
  | cons z l ih =>
    cases hz : Op.bytesLess (key z) n with
    | true =>
      rw [posK_cons_lt hz]
      have := ih (sorted_cons hs)
      simp only [hasK, List.any_cons, less_ne hz, Bool.false_or] at this ⊢
      rw [this]
      simp
    | false =>
      rw [posK_cons_ge hz]
      simp only [hasK, List.any_cons, List.getElem?_cons_zero]
      cases he : (key z == n) with
      | true => rfl
      | false =>
        rw [Bool.false_or, List.any_eq_false]
        intro y hy hk
        have h1 := sorted_head hs y hy
        have h2 : key y = n := by simpa using hk
        rw [h2] at h1
        rw [hz] at h1; cases h1
theorem hasK_mem (h : hasK key l n = false) : ∀ y ∈ l, (key y == n) = false := by
  intro y hy
  have := List.any_eq_false.1 h y hy
  simpa using this
theorem setK_true : setK key x true l = dropK key l (key x) := by
  induction l with
  | nil => rfl
  | cons y l ih =>
    simp only [setK, dropK, List.filter_cons, Bool.not_true, Bool.false_and, Bool.false_eq_true, if_false, List.nil_append, Bool.true_or]
    rw [ih]
    cases key y == key x <;> simp [dropK]
theorem dropK_none (h : hasK key l n = false) : dropK key l n = l := List.filter_eq_self.2 fun y hy => by rw [hasK_mem h y hy]; rfl
theorem hasK_of_not_less (h : ∀ z ∈ l, Op.bytesLess n (key z) = true) : hasK key l n = false := List.any_eq_false.2 fun z hz => by
  have := less_ne (h z hz)
  rw [beq_eq_false_iff_ne] at this
  simpa using fun e => this e.symm
/-- What is dropped, by its place. -/
theorem dropK_at (hs : SortedK key l) : dropK key l n = if hasK key l n then l.eraseIdx (posK key l n) else l := by
  induction l with
  | nil => rfl
  | cons z l ih =>
    cases hz : Op.bytesLess (key z) n with
    | true =>
      have hne := less_ne hz
      rw [posK_cons_lt hz]
      have h1 : dropK key (z :: l) n = z :: dropK key l n := by simp [dropK, List.filter_cons, hne]
      have h2 : hasK key (z :: l) n = hasK key l n := by simp [hasK, hne]
      rw [h1, h2, ih (sorted_cons hs)]
      cases hasK key l n <;> simp
    | false =>
      rw [posK_cons_ge hz]
      cases he : (key z == n) with
      | true =>
        have hzn : key z = n := by simpa using he
        have h0 : hasK key l n = false := hasK_of_not_less (by rw [← hzn]; exact sorted_head hs)
        have h1 : dropK key (z :: l) n = dropK key l n := by simp [dropK, List.filter_cons, he]
        rw [h1, dropK_none h0]
        simp [hasK, he]
      | false =>
        have h0 : hasK key (z :: l) n = false := by
          rw [hasK_at hs, posK_cons_ge hz]
          simpa using he
        rw [h0, dropK_none h0]
        rfl
/-- The document's way of putting is ours. -/
theorem setK_false (hs : SortedK key l) : setK key x false l = putK key l x := by
  induction l with
  | nil => rfl
  | cons z l ih =>
    cases hz : Op.bytesLess (key z) (key x) with
    | true =>
      have hne := less_ne hz
      have h2 : hasK key (z :: l) (key x) = hasK key l (key x) := by simp [hasK, hne]
      simp only [setK, hz, hne, Bool.not_true, Bool.and_false, Bool.false_eq_true, if_false, List.nil_append, Bool.or_false]
      rw [ih (sorted_cons hs)]
      unfold putK insK
      rw [h2, posK_cons_lt hz]
      cases hasK key l (key x) <;> simp
    | false =>
      simp only [setK, hz, Bool.not_false, Bool.and_self, if_true, Bool.or_true]
      rw [setK_true]
      unfold putK insK
      rw [posK_cons_ge hz]
      cases he : (key z == key x) with
      | true =>
        have hzn : key z = key x := by simpa using he
        have h0 : hasK key l (key x) = false := hasK_of_not_less (by rw [← hzn]; exact sorted_head hs)
        rw [dropK_none h0]
        simp [hasK, he]
      | false =>
        have h0 : hasK key (z :: l) (key x) = false := by
          rw [hasK_at hs, posK_cons_ge hz]
          simpa using he
        have h1 : hasK key l (key x) = false := by
          simp only [hasK, List.any_cons, he, Bool.false_or] at h0 ⊢
          exact h0
        rw [dropK_none h1, h0]
        simp
theorem sorted_drop (hs : SortedK key l) : SortedK key (dropK key l n) := List.Pairwise.filter _ hs
theorem mem_setK {d : Bool} (h : y ∈ setK key x d l) : y ∈ l ∨ y = x := by
  induction l generalizing d with
  | nil => cases d <;> simp [setK] at h; exact .inr h
  | cons z l ih =>
    simp only [setK, List.mem_append] at h
    rcases h with (h1 | h1) | h1
    · split at h1
      · simp at h1; exact .inr h1
      · simp at h1
    · split at h1
      · simp at h1
      · simp at h1; exact .inl (by simp [h1])
    · rcases ih h1 with h2 | h2
      · exact .inl (by simp [h2])
      · exact .inr h2
theorem dropK_mem (h : y ∈ dropK key l n) : y ∈ l ∧ key y ≠ n := by
  simp only [dropK, List.mem_filter] at h
  exact ⟨h.1, by simpa using h.2⟩
theorem sorted_setK (hs : SortedK key l) : SortedK key (setK key x false l) := by
  induction l with
  | nil => exact List.pairwise_singleton _ _
  | cons z l ih =>
    cases hz : Op.bytesLess (key z) (key x) with
    | true =>
      have hne := less_ne hz
      simp only [setK, hz, hne, Bool.not_true, Bool.and_false, Bool.false_eq_true, if_false, List.nil_append, Bool.or_false, List.singleton_append]
      refine List.pairwise_cons.2 ⟨fun y hy => ?_, ih (sorted_cons hs)⟩
      rcases mem_setK hy with h1 | rfl
      · exact sorted_head hs y h1
      · exact hz
    | false =>
      have hall := not_less_all hs hz
      have hd : setK key x false (z :: l) = x :: dropK key (z :: l) (key x) := by
        simp only [setK, hz, Bool.not_false, Bool.and_self, if_true, Bool.or_true]
        rw [setK_true]
        cases hne : (key z == key x) <;> simp [dropK, List.filter_cons, hne]
      rw [hd]
      refine List.pairwise_cons.2 ⟨fun y hy => ?_, sorted_drop hs⟩
      obtain ⟨h1, h2⟩ := dropK_mem hy
      exact less_total (hall y h1) h2
theorem sorted_put (hs : SortedK key l) : SortedK key (putK key l x) := by rw [← setK_false hs]; exact sorted_setK hs
theorem find_at (hs : SortedK key l) : l.find? (fun r => key r == n) = if hasK key l n then l[posK key l n]? else none := by
  induction l with
  | nil => rfl
  | cons z l ih =>
    cases hz : Op.bytesLess (key z) n with
    | true =>
      have hne := less_ne hz
      have h2 : hasK key (z :: l) n = hasK key l n := by simp [hasK, hne]
      rw [h2, posK_cons_lt hz, List.find?_cons, hne]
      simpa using ih (sorted_cons hs)
    | false =>
      cases he : (key z == n) with
      | true => rw [posK_cons_ge hz, List.find?_cons, he]; simp [hasK, he]
      | false =>
        have h0 : hasK key (z :: l) n = false := by
          rw [hasK_at hs, posK_cons_ge hz]
          simpa using he
        rw [h0]
        simp only [Bool.false_eq_true, if_false, List.find?_eq_none]
        intro y hy
        rw [hasK_mem h0 y hy]; simp
theorem hasK_hit (hs : SortedK key l) : hasK key l n = hitAt (fun x => Lib.compareBytes (key x) n) l (posK key l n) := by
  rw [hasK_at hs]
  unfold hitAt
  cases l[posK key l n]? with
  | none => rfl
  | some x => exact (cmp_zero _ _).symm
theorem putK_len : (putK key l x).length ≤ l.length + 1 := by
  unfold putK insK
  split
  · simp
  · simp; omega
theorem dropK_len : (dropK key l n).length ≤ l.length := List.length_filter_le _ _
theorem putK_mem (h : y ∈ putK key l x) : y ∈ l ∨ y = x := by
  unfold putK insK at h
  split at h
  · rcases List.mem_or_eq_of_mem_set h with h | h
    · exact .inl h
    · exact .inr h
  · simp only [List.mem_append, List.mem_singleton] at h
    rcases h with (h | h) | h
    · exact .inl (List.mem_of_mem_take h)
    · exact .inr h
    · exact .inl (List.mem_of_mem_drop h)
end
end Go.Proofs.Ytlanconcbpdneaa
