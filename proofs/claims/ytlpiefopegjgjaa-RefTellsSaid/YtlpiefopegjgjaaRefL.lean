/- The plain law of updates (layer 9): both sides come to the same, of sorted refs. No condition; no program. -/
import Derived.Test.YtlpiefopegjgjaaRefZ
namespace Go.Proofs.Ytlpiefopegjgjaa
open Go.RowKit
def Sorted (l : List RefL) : Prop := l.Pairwise (fun a b => Op.bytesLess a.name b.name = true)
theorem fineAt_all {l : List RefL} (h : fineL l = true) {i : Nat} (hi : i < l.length) : fineAt l i = true := by
  unfold fineL at h
  rw [Bool.and_eq_true] at h
  exact List.all_eq_true.1 h.2 i (List.mem_range.2 hi)
theorem fineAt_parts {l : List RefL} {i : Nat} (hi : i < l.length) (h : fineAt l i = true) : nameOk l[i].name = true ∧ isNone l[i].id = false ∧ (∀ h0 : 0 < i, Op.bytesLess (l[i - 1]'(by omega)).name l[i].name = true) := by
  unfold fineAt at h
  rw [List.getElem?_eq_getElem hi] at h
  simp only [Bool.and_eq_true, Bool.not_eq_true', Bool.or_eq_true, decide_eq_true_eq] at h
  refine ⟨h.1.1, h.1.2, fun h0 => ?_⟩
  rcases h.2 with h2 | h2
  · omega
  · rw [List.getElem?_eq_getElem (by omega)] at h2
    exact h2
theorem sorted_of_fine {l : List RefL} (h : fineL l = true) : Sorted l := by
  have step : ∀ i (hi : i + 1 < l.length), Op.bytesLess (l[i]'(by omega)).name l[i + 1].name = true := fun i hi => (fineAt_parts hi (fineAt_all h hi)).2.2 (by omega)
  rw [Sorted, List.pairwise_iff_getElem]
  intro i j hi hj hij
  obtain ⟨n, rfl⟩ : ∃ n, j = i + 1 + n := ⟨j - i - 1, by omega⟩
  induction n with
  | zero => exact step i hj
  | succ n ih => exact less_trans (ih (by omega) (by omega)) (step (i + 1 + n) hj)
theorem set_true (name id : List UInt8) (l : List RefL) : setGo name id true l = dropL l name := by
  induction l with
  | nil => rfl
  | cons x l ih =>
    simp only [setGo, dropL, List.filter_cons, Bool.not_true, Bool.false_and, Bool.false_eq_true, if_false, List.nil_append, Bool.true_or]
    rw [ih]
    cases x.name == name <;> simp [dropL]
theorem dropL_mem {l : List RefL} {name : List UInt8} {y : RefL} (h : y ∈ dropL l name) : y ∈ l ∧ y.name ≠ name := by
  simp only [dropL, List.mem_filter] at h
  exact ⟨h.1, by simpa using h.2⟩
theorem not_less_all {x : RefL} {l : List RefL} {name : List UInt8} (hs : Sorted (x :: l)) (hx : Op.bytesLess x.name name = false) : ∀ y ∈ x :: l, Op.bytesLess y.name name = false := by
  intro y hy
  rcases List.mem_cons.1 hy with rfl | hy
  · exact hx
  · cases h : Op.bytesLess y.name name with
    | false => rfl
    | true =>
      have := less_trans ((List.pairwise_cons.1 hs).1 y hy) h
      rw [hx] at this; cases this
theorem posL_zero {l : List RefL} {name : List UInt8} (h : ∀ y ∈ l, Op.bytesLess y.name name = false) : posL l name = 0 := by
  cases l with
  | nil => rfl
  | cons x l => simp [posL, List.takeWhile_cons, h x (by simp)]
theorem set_false {name id : List UInt8} {l : List RefL} (hs : Sorted l) : setGo name id false l = insL (dropL l name) name id := by
  induction l with
  | nil => rfl
  | cons x l ih =>
    cases hx : Op.bytesLess x.name name with
    | true =>
      have hne : (x.name == name) = false := by
        rw [beq_eq_false_iff_ne]
        intro he
        rw [he, less_irrefl] at hx
        cases hx
      simp only [setGo, hx, hne, Bool.not_true, Bool.and_false, Bool.false_eq_true, if_false, List.nil_append, Bool.or_false]
      rw [ih (List.pairwise_cons.1 hs).2]
      have hd : dropL (x :: l) name = x :: dropL l name := by simp [dropL, List.filter_cons, hne]
      have hp : posL (x :: dropL l name) name = posL (dropL l name) name + 1 := by simp [posL, List.takeWhile_cons, hx]
      rw [hd, insL, insL, hp]
      simp
    | false =>
      have hall := not_less_all hs hx
      have hp : posL (dropL (x :: l) name) name = 0 := posL_zero fun y hy => hall y (dropL_mem hy).1
      simp only [setGo, hx, Bool.not_false, Bool.and_self, if_true, Bool.or_true]
      rw [set_true, insL, hp]
      cases hne : (x.name == name) <;> simp [dropL, List.filter_cons, hne]
theorem set_put {name id : List UInt8} {l : List RefL} (hs : Sorted l) : setL l name id = putL l name id := by
  unfold setL putL
  cases isNone id
  · simpa using set_false hs
  · simpa using set_true name id l
theorem sorted_drop {l : List RefL} (hs : Sorted l) (name : List UInt8) : Sorted (dropL l name) := List.Pairwise.filter _ hs
theorem mem_setGo {name id : List UInt8} {d : Bool} {l : List RefL} {y : RefL} (h : y ∈ setGo name id d l) : y ∈ l ∨ y = ⟨name, id⟩ := by
  induction l generalizing d with
  | nil => cases d <;> simp [setGo] at h; exact .inr h
  | cons x l ih =>
    simp only [setGo, List.mem_append] at h
    rcases h with (h1 | h1) | h1
    · split at h1
      · simp at h1; exact .inr h1
      · simp at h1
    · split at h1
      · simp at h1
      · simp at h1; exact .inl (by simp [h1])
    · rcases ih h1 with h2 | h2
      · exact .inl (by simp [h2])
      · exact .inr h2
theorem sorted_set {name id : List UInt8} {l : List RefL} (hs : Sorted l) : Sorted (setGo name id false l) := by
  induction l with
  | nil => exact List.pairwise_singleton _ _
  | cons x l ih =>
    cases hx : Op.bytesLess x.name name with
    | true =>
      have hne : (x.name == name) = false := by
        rw [beq_eq_false_iff_ne]
        intro he
        rw [he, less_irrefl] at hx
        cases hx
      simp only [setGo, hx, hne, Bool.not_true, Bool.and_false, Bool.false_eq_true, if_false, List.nil_append, Bool.or_false, List.singleton_append]
      refine List.pairwise_cons.2 ⟨fun y hy => ?_, ih (List.pairwise_cons.1 hs).2⟩
      rcases mem_setGo hy with h1 | rfl
      · exact (List.pairwise_cons.1 hs).1 y h1
      · exact hx
    | false =>
      have hall := not_less_all hs hx
      have hd : setGo name id false (x :: l) = ⟨name, id⟩ :: dropL (x :: l) name := by
        simp only [setGo, hx, Bool.not_false, Bool.and_self, if_true, Bool.or_true]
        rw [set_true]
        cases hne : (x.name == name) <;> simp [dropL, List.filter_cons, hne]
      rw [hd]
      refine List.pairwise_cons.2 ⟨fun y hy => ?_, sorted_drop hs name⟩
      obtain ⟨h1, h2⟩ := dropL_mem hy
      exact less_total (hall y h1) h2
theorem sorted_put {name id : List UInt8} {l : List RefL} (hs : Sorted l) : Sorted (putL l name id) := by
  unfold putL
  cases isNone id
  · have := sorted_set (name := name) (id := id) hs
    rw [set_false hs] at this
    simpa using this
  · simpa using sorted_drop hs name
theorem code_eq {l : List RefL} (hs : Sorted l) (p : List UpdL) (x : UpdL) : codeS l p x = codeP l p x := by
  unfold codeS codeP
  rw [set_put hs]
theorem next_eq {l : List RefL} (hs : Sorted l) (p : List UpdL) (x : UpdL) : nextS l p x = nextP l p x := by
  unfold nextS nextP
  rw [set_put hs, code_eq hs]
theorem sorted_next {l : List RefL} (hs : Sorted l) (p : List UpdL) (x : UpdL) : Sorted (nextP l p x) := by
  unfold nextP
  split
  · exact sorted_put hs
  · exact hs
theorem run_eq {l : List RefL} (hs : Sorted l) (u : List UpdL) (k : Nat) : runS l u k = runP l u k ∧ Sorted (runP l u k).1 := by
  induction k with
  | zero => exact ⟨rfl, hs⟩
  | succ k ih =>
    cases hx : u[k]? with
    | none =>
      have e1 : runS l u (k + 1) = runS l u k := by simp [runS, hx]
      have e2 : runP l u (k + 1) = runP l u k := by simp [runP, hx]
      rw [e1, e2]
      exact ih
    | some x =>
      rw [runS_step hx, runP_step hx, ih.1, code_eq ih.2, next_eq ih.2]
      exact ⟨rfl, sorted_next ih.2 _ _⟩
theorem res_eq {l : List RefL} (h : fineL l = true) (u : List UpdL) (all : Bool) : resS l u all = resU l u all := by
  unfold resS resU
  rw [(run_eq (sorted_of_fine h) u u.length).1]
theorem told_eq {l : List RefL} (h : fineL l = true) (u : List UpdL) (all : Bool) : toldS l u all = toldU l u all := by
  unfold toldS toldU
  rw [(run_eq (sorted_of_fine h) u u.length).1]
theorem toldU_length (l : List RefL) (u : List UpdL) (all : Bool) : (toldU l u all).length = u.length := by
  have := runP_told (l := l) (u := u) (Nat.le_refl u.length)
  unfold toldU
  split
  · rw [List.length_map, this]
  · exact this
end Go.Proofs.Ytlpiefopegjgjaa
