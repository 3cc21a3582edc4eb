/- The plain law of refs (layer 9): names, refs, updates. No condition; no program. -/
import Derived.Below
import Derived.Laws.Cover1
namespace Go.Proofs.Ytlpiefopegjgjaa
open Go.RowKit
/-- May a byte stand in a name? -/
def nameC (c : UInt8) : Bool := decide (33 ≤ c.toNat) && decide (c.toNat ≤ 126)
def nameOk (s : List UInt8) : Bool := !s.isEmpty && decide (s.length ≤ 40) && s.all nameC
/-- A ref: a name, and an id. -/
structure RefL where
  name : List UInt8
  id : List UInt8
/-- An update. -/
structure UpdL where
  name : List UInt8
  old : List UInt8
  new : List UInt8
theorem all_take_step {s : List UInt8} {k : Nat} (hk : k < s.length) (h : (s.take k).all nameC = true) (hc : nameC (s.getD k 0) = true) : (s.take (k + 1)).all nameC = true := by
  rw [List.take_add_one, List.all_append, h, List.getElem?_eq_getElem hk]
  simpa [List.getD, List.getElem?_eq_getElem hk] using hc
theorem nameOk_bad {s : List UInt8} {k : Nat} (hk : k < s.length) (hc : nameC (s.getD k 0) = false) : nameOk s = false := by
  have : s.all nameC = false := by
    rw [List.all_eq_false]
    exact ⟨s[k], List.getElem_mem hk, by simpa [List.getD, List.getElem?_eq_getElem hk] using hc⟩
  simp [nameOk, this]
theorem nameOk_all {s : List UInt8} (h : s.all nameC = true) : nameOk s = (!s.isEmpty && decide (s.length ≤ 40)) := by simp [nameOk, h]
def isNone (id : List UInt8) : Bool := decide (id = List.replicate 32 0)
/-- Is the ref at a place as it must be? -/
def fineAt (l : List RefL) (i : Nat) : Bool :=
  match l[i]? with
  | none => true
  | some r => nameOk r.name && !isNone r.id && (decide (i = 0) || match l[i - 1]? with | none => true | some q => Op.bytesLess q.name r.name)
def fineL (l : List RefL) : Bool := decide (l.length ≤ 64) && (List.range l.length).all (fineAt l)
theorem fineAt_of {l : List RefL} {i : Nat} {r : RefL} (hr : l[i]? = some r) (h1 : nameOk r.name = true) (h2 : isNone r.id = false) (h3 : 0 < i → ∃ q, l[i - 1]? = some q ∧ Op.bytesLess q.name r.name = true) : fineAt l i = true := by
  unfold fineAt
  rw [hr]
  simp only [h1, h2, Bool.not_false, Bool.and_self, Bool.true_and]
  rcases Nat.eq_zero_or_pos i with h0 | h0
  · simp [h0]
  · obtain ⟨q, hq, hl⟩ := h3 h0
    simp [hq, hl]
theorem fineAt_name {l : List RefL} {i : Nat} {r : RefL} (hr : l[i]? = some r) (h1 : nameOk r.name = false) : fineAt l i = false := by
  unfold fineAt; rw [hr]; simp [h1]
theorem fineAt_none {l : List RefL} {i : Nat} {r : RefL} (hr : l[i]? = some r) (h1 : isNone r.id = true) : fineAt l i = false := by
  unfold fineAt; rw [hr]; simp [h1]
theorem fineAt_less {l : List RefL} {i : Nat} {r q : RefL} (hr : l[i]? = some r) (h0 : 0 < i) (hq : l[i - 1]? = some q) (h1 : Op.bytesLess q.name r.name = false) : fineAt l i = false := by
  unfold fineAt; rw [hr]
  have : i ≠ 0 := by omega
  simp [hq, h1, this]
theorem fine_step {l : List RefL} {k : Nat} (h : (List.range k).all (fineAt l) = true) (hk : fineAt l k = true) : (List.range (k + 1)).all (fineAt l) = true := by
  rw [List.range_succ, List.all_append, h]; simp [hk]
theorem fineL_bad {l : List RefL} {k : Nat} (hk : k < l.length) (h : fineAt l k = false) : fineL l = false := by
  have : (List.range l.length).all (fineAt l) = false := by
    rw [List.all_eq_false]
    exact ⟨k, List.mem_range.2 hk, by simp [h]⟩
  simp [fineL, this]
theorem fineL_all {l : List RefL} (h : (List.range l.length).all (fineAt l) = true) : fineL l = decide (l.length ≤ 64) := by simp [fineL, h]
theorem fineL_long {l : List RefL} (h : ¬ l.length ≤ 64) : fineL l = false := by simp [fineL, h]
/-- What a name stands for. -/
def findL (l : List RefL) (name : List UInt8) : Option (List UInt8) := (l.find? (fun r => r.name == name)).map (·.id)
def findOr (l : List RefL) (name : List UInt8) : List UInt8 := (findL l name).getD (List.replicate 32 0)
/-- The order of texts. -/
theorem less_irrefl (a : List UInt8) : Op.bytesLess a a = false := by
  induction a with
  | nil => rfl
  | cons x a ih => rw [Op.bytesLess, ih]; simp
theorem less_asymm : ∀ {a b : List UInt8}, Op.bytesLess a b = true → Op.bytesLess b a = false
  | a, [], h => by cases a <;> simp [Op.bytesLess] at h
  | [], y :: b, _ => rfl
  | x :: a, y :: b, h => by
    rw [Op.bytesLess] at h ⊢
    simp only [Bool.or_eq_true, Bool.and_eq_true, decide_eq_true_eq, beq_iff_eq, UInt8.lt_iff_toNat_lt] at h
    simp only [Bool.or_eq_false_iff, Bool.and_eq_false_iff, decide_eq_false_iff_not, UInt8.lt_iff_toNat_lt]
    rcases h with h | ⟨rfl, h⟩
    · refine ⟨by omega, .inl ?_⟩
      rw [beq_eq_false_iff_ne]
      rintro rfl
      omega
    · exact ⟨by omega, .inr (less_asymm h)⟩
theorem less_total : ∀ {a b : List UInt8}, Op.bytesLess a b = false → a ≠ b → Op.bytesLess b a = true
  | [], [], _, hne => absurd rfl hne
  | x :: a, [], _, _ => rfl
  | [], y :: b, h, _ => by simp [Op.bytesLess] at h
  | x :: a, y :: b, h, hne => by
    rw [Op.bytesLess] at h ⊢
    simp only [Bool.or_eq_false_iff, Bool.and_eq_false_iff, decide_eq_false_iff_not, UInt8.lt_iff_toNat_lt] at h
    simp only [Bool.or_eq_true, Bool.and_eq_true, decide_eq_true_eq, beq_iff_eq, UInt8.lt_iff_toNat_lt]
    by_cases hxy : x = y
    · subst hxy
      refine .inr ⟨rfl, less_total (h.2.resolve_left (by simp)) (fun e => hne (by rw [e]))⟩
    · have : x.toNat ≠ y.toNat := fun e => hxy (UInt8.toNat_inj.1 e)
      exact .inl (by omega)
theorem less_trans : ∀ {a b c : List UInt8}, Op.bytesLess a b = true → Op.bytesLess b c = true → Op.bytesLess a c = true
  | a, b, [], _, h => by cases b <;> simp [Op.bytesLess] at h
  | a, [], z :: c, h, _ => by cases a <;> simp [Op.bytesLess] at h
  | [], y :: b, z :: c, _, _ => rfl
  | x :: a, y :: b, z :: c, h1, h2 => by
    rw [Op.bytesLess] at h1 h2 ⊢
    simp only [Bool.or_eq_true, Bool.and_eq_true, decide_eq_true_eq, beq_iff_eq, UInt8.lt_iff_toNat_lt] at h1 h2 ⊢
    rcases h1 with h1 | ⟨rfl, h1⟩
    · rcases h2 with h2 | ⟨rfl, h2⟩
      · exact .inl (by omega)
      · exact .inl h1
    · rcases h2 with h2 | ⟨rfl, h2⟩
      · exact .inl h2
      · exact .inr ⟨rfl, less_trans h1 h2⟩
/-- 'at most', as the walk has it. -/
theorem leq_not_less (a b : List UInt8) : (Op.bytesLess a b || a == b) = !Op.bytesLess b a := by
  cases h : Op.bytesLess a b
  · by_cases e : a = b
    · subst e; rw [less_irrefl]; simp
    · rw [less_total h e]; simp [e]
  · rw [less_asymm h]; simp
end Go.Proofs.Ytlpiefopegjgjaa
