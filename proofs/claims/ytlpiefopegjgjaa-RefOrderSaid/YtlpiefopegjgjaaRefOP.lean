/- The plain law of the order of updates (layer 9). No condition; no program. -/
import Derived.Test.YtlpiefopegjgjaaRefL
namespace Go.Proofs.Ytlpiefopegjgjaa
open Go.RowKit
theorem findL_cons (x : RefL) (l : List RefL) (n : List UInt8) : findL (x :: l) n = if x.name = n then some x.id else findL l n := by
  unfold findL
  by_cases h : x.name = n
  · simp [List.find?_cons, h]
  · simp [List.find?_cons, h]
theorem findL_append (a b : List RefL) (n : List UInt8) : findL (a ++ b) n = (findL a n).or (findL b n) := by
  induction a with
  | nil => simp [findL]
  | cons x a ih =>
    rw [List.cons_append, findL_cons, findL_cons, ih]
    split <;> simp
theorem findL_drop (l : List RefL) (name n : List UInt8) : findL (dropL l name) n = if n = name then none else findL l n := by
  induction l with
  | nil => simp [findL, dropL]
  | cons x l ih =>
    have hd : dropL (x :: l) name = if x.name = name then dropL l name else x :: dropL l name := by
      by_cases h : x.name = name <;> simp [dropL, List.filter_cons, h]
    rw [hd, findL_cons]
    by_cases h : x.name = name
    · rw [if_pos h, ih]
      by_cases hn : n = name
      · simp [hn]
      · rw [if_neg hn, if_neg hn, if_neg (fun e => hn (by rw [← e, h]))]
    · rw [if_neg h, findL_cons, ih]
      by_cases hx : x.name = n
      · rw [if_pos hx, if_pos hx, if_neg (fun e => h (by rw [hx, e]))]
      · rw [if_neg hx, if_neg hx]
theorem findL_put (l : List RefL) (name id n : List UInt8) : findL (putL l name id) n = if n = name then (if isNone id then none else some id) else findL l n := by
  unfold putL
  cases h : isNone id
  · have hd := findL_drop l name n
    have h3 : findL (insL (dropL l name) name id) n = ((findL ((dropL l name).take (posL (dropL l name) name)) n).or (if name = n then some id else none)).or (findL ((dropL l name).drop (posL (dropL l name) name)) n) := by
      rw [insL, findL_append, findL_append, findL_cons]
      rfl
    have h4 : findL (dropL l name) n = (findL ((dropL l name).take (posL (dropL l name) name)) n).or (findL ((dropL l name).drop (posL (dropL l name) name)) n) := by
      rw [← findL_append, List.take_append_drop]
    rw [if_neg (by simp), h3]
    by_cases hn : n = name
    · rw [if_pos hn] at hd ⊢
      rw [hd] at h4
      have h5 := h4.symm
      rw [Option.or_eq_none_iff] at h5
      rw [h5.1, h5.2, if_pos hn.symm]
      rfl
    · rw [if_neg hn] at hd ⊢
      rw [if_neg (fun e => hn e.symm), ← hd, h4]
      cases findL ((dropL l name).take (posL (dropL l name) name)) n <;> rfl
  · simpa using findL_drop l name n
theorem findL_mem {l : List RefL} {n id : List UInt8} (h : findL l n = some id) : ∃ r ∈ l, r.name = n ∧ r.id = id := by
  induction l with
  | nil => simp [findL] at h
  | cons x l ih =>
    rw [findL_cons] at h
    by_cases hx : x.name = n
    · rw [if_pos hx] at h
      exact ⟨x, by simp, hx, by injection h⟩
    · rw [if_neg hx] at h
      obtain ⟨r, h1, h2⟩ := ih h
      exact ⟨r, by simp [h1], h2⟩
theorem findL_less {l : List RefL} {n : List UInt8} (h : ∀ r ∈ l, Op.bytesLess n r.name = true) : findL l n = none := by
  cases hf : findL l n with
  | none => rfl
  | some id =>
    obtain ⟨r, h1, h2, _⟩ := findL_mem hf
    have := h r h1
    rw [h2, less_irrefl] at this
    cases this
theorem sorted_ext : ∀ {a b : List RefL}, Sorted a → Sorted b → (∀ n, findL a n = findL b n) → a = b
  | [], [], _, _, _ => rfl
  | [], y :: b, _, _, h => by
    have := h y.name
    rw [findL_cons, if_pos rfl] at this
    simp [findL] at this
  | x :: a, [], _, _, h => by
    have := h x.name
    rw [findL_cons, if_pos rfl] at this
    simp [findL] at this
  | x :: a, y :: b, ha, hb, h => by
    have ha' := List.pairwise_cons.1 ha
    have hb' := List.pairwise_cons.1 hb
    have hn : x.name = y.name := by
      apply Decidable.byContradiction
      intro hne
      have h1 := h x.name
      rw [findL_cons, if_pos rfl, findL_cons, if_neg (fun e => hne e.symm)] at h1
      obtain ⟨r, hr, hr2, _⟩ := findL_mem h1.symm
      have l1 := hb'.1 r hr
      rw [hr2] at l1
      have h2 := h y.name
      rw [findL_cons, if_neg hne, findL_cons, if_pos rfl] at h2
      obtain ⟨q, hq, hq2, _⟩ := findL_mem h2
      have l2 := ha'.1 q hq
      rw [hq2] at l2
      rw [less_asymm l1] at l2
      cases l2
    have hid : x.id = y.id := by
      have h1 := h x.name
      rw [findL_cons, if_pos rfl, findL_cons, if_pos hn.symm] at h1
      injection h1
    have hxy : x = y := by cases x; cases y; simp at hn hid; simp [hn, hid]
    subst hxy
    rw [sorted_ext ha'.2 hb'.2 fun n => ?_]
    by_cases hx : x.name = n
    · rw [findL_less (fun r hr => hx ▸ ha'.1 r hr), findL_less (fun r hr => hx ▸ hb'.1 r hr)]
    · have := h n
      rwa [findL_cons, if_neg hx, findL_cons, if_neg hx] at this
/-- What a name stands for behind updates that all hold. -/
def lastOf (l : List RefL) (u : List UpdL) (n : List UInt8) : Option (List UInt8) := match u.find? (fun y => y.name == n) with
  | some y => if isNone y.new then none else some y.new
  | none => findL l n
theorem anyBad_append (a : List Nat) (c : Nat) : anyBad (a ++ [c]) = (anyBad a || decide (c ≠ 0)) := by simp [anyBad]
theorem code_zero {l : List RefL} {p : List UpdL} {x : UpdL} (h : codeP l p x = 0) : rightOf p x = true ∧ findOr l x.name = x.old ∧ (putL l x.name x.new).length ≤ 64 := by
  unfold codeP at h
  split at h
  · split at h
    · split at h
      · rename_i h1 h2 h3; exact ⟨h1, h2, h3⟩
      · omega
    · omega
  · omega
theorem right_parts {p : List UpdL} {x : UpdL} (h : rightOf p x = true) : nameOk x.name = true ∧ p.any (fun y => y.name == x.name) = false ∧ (isNone x.old && isNone x.new) = false := by
  simp only [rightOf, Bool.and_eq_true, Bool.not_eq_true'] at h
  exact ⟨h.1.1, h.1.2, h.2⟩
theorem find_none_of {u : List UpdL} {n : List UInt8} (h : u.any (fun y => y.name == n) = false) : u.find? (fun y => y.name == n) = none := by
  rw [List.find?_eq_none]
  rw [List.any_eq_false] at h
  exact h
theorem run_find {l : List RefL} {u : List UpdL} : ∀ {k : Nat}, k ≤ u.length → anyBad (runP l u k).2 = false → ∀ n, findL (runP l u k).1 n = lastOf l (u.take k) n
  | 0, _, _, n => by simp [runP, lastOf]
  | k + 1, hk, h, n => by
    have hx : u[k]? = some u[k] := List.getElem?_eq_getElem (by omega)
    rw [runP_step hx] at h ⊢
    rw [anyBad_append, Bool.or_eq_false_iff] at h
    have hc : codeP (runP l u k).1 (u.take k) u[k] = 0 := by simpa using h.2
    have ih := run_find (l := l) (by omega) h.1 n
    obtain ⟨h1, h2, h3⟩ := code_zero hc
    obtain ⟨_, h4, _⟩ := right_parts h1
    show findL (nextP _ _ _) n = _
    rw [nextP, if_pos hc, findL_put, ih]
    unfold lastOf
    rw [List.take_add_one, hx, List.find?_append]
    by_cases hn : n = u[k].name
    · rw [if_pos hn, hn, find_none_of h4]
      simp
    · rw [if_neg hn]
      have : ([u[k]] : List UpdL).find? (fun y => y.name == n) = none := by
        rw [List.find?_eq_none]
        intro y hy
        simp at hy
        subst hy
        simpa using fun e => hn e.symm
      simp only [Option.toList_some, this, Option.or_none]
/-- Updates that all hold, in whatever order. -/
structure Good (l : List RefL) (u : List UpdL) : Prop where
  each : ∀ x ∈ u, nameOk x.name = true ∧ (isNone x.old && isNone x.new) = false ∧ findOr l x.name = x.old
  apart : u.Pairwise (fun a b => a.name ≠ b.name)
  room : l.length + u.length ≤ 64
theorem findOr_of {l l' : List RefL} {n : List UInt8} (h : findL l n = findL l' n) : findOr l n = findOr l' n := by unfold findOr; rw [h]
theorem bad_take {l : List RefL} {u : List UpdL} : ∀ {k : Nat}, k ≤ u.length → anyBad (runP l u k).2 = false → ∀ i, i ≤ k → anyBad (runP l u i).2 = false
  | 0, _, h, i, hi => by obtain rfl : i = 0 := by omega
                         exact h
  | k + 1, hk, h, i, hi => by
    rcases Nat.lt_or_ge k i with h1 | h1
    · obtain rfl : i = k + 1 := by omega
      exact h
    · have hx : u[k]? = some u[k] := List.getElem?_eq_getElem (by omega)
      rw [runP_step hx, anyBad_append, Bool.or_eq_false_iff] at h
      exact bad_take (by omega) h.1 i h1
theorem code_at {l : List RefL} {u : List UpdL} (h : anyBad (runP l u u.length).2 = false) {i : Nat} (hi : i < u.length) : codeP (runP l u i).1 (u.take i) u[i] = 0 := by
  have h1 := bad_take (Nat.le_refl _) h (i + 1) (by omega)
  have hx : u[i]? = some u[i] := List.getElem?_eq_getElem hi
  rw [runP_step hx, anyBad_append, Bool.or_eq_false_iff] at h1
  simpa using h1.2
theorem good_of_ok {l : List RefL} {u : List UpdL} (h : anyBad (runP l u u.length).2 = false) (hr : l.length + u.length ≤ 64) : Good l u := by
  have key : ∀ i (hi : i < u.length), nameOk u[i].name = true ∧ (u.take i).any (fun y => y.name == u[i].name) = false ∧ (isNone u[i].old && isNone u[i].new) = false ∧ findOr l u[i].name = u[i].old := by
    intro i hi
    obtain ⟨h1, h2, h3⟩ := code_zero (code_at h hi)
    obtain ⟨h4, h5, h6⟩ := right_parts h1
    refine ⟨h4, h5, h6, ?_⟩
    rw [← h2]
    apply findOr_of
    rw [run_find (by omega) (bad_take (Nat.le_refl _) h i (by omega))]
    unfold lastOf
    rw [find_none_of h5]
  refine ⟨fun x hx => ?_, ?_, hr⟩
  · obtain ⟨i, hi, rfl⟩ := List.getElem_of_mem hx
    exact ⟨(key i hi).1, (key i hi).2.2.1, (key i hi).2.2.2⟩
  · rw [List.pairwise_iff_getElem]
    intro i j hi hj hij he
    have := (key j hj).2.1
    rw [List.any_eq_false] at this
    refine this u[i] ?_ (by simpa using he)
    rw [List.mem_take_iff_getElem]
    exact ⟨i, by omega, rfl⟩
theorem ok_of_good {l : List RefL} {u : List UpdL} (g : Good l u) : ∀ {k : Nat}, k ≤ u.length → anyBad (runP l u k).2 = false
  | 0, _ => rfl
  | k + 1, hk => by
    have ih := ok_of_good g (k := k) (by omega)
    have hx : u[k]? = some u[k] := List.getElem?_eq_getElem (by omega)
    rw [runP_step hx, anyBad_append, ih]
    obtain ⟨h1, h2, h3⟩ := g.each u[k] (List.getElem_mem _)
    have h5 : (u.take k).any (fun y => y.name == u[k].name) = false := by
      rw [List.any_eq_false]
      intro y hy
      obtain ⟨i, hi, rfl⟩ := List.mem_take_iff_getElem.1 hy
      have := (List.pairwise_iff_getElem.1 g.apart) i k (by omega) (by omega) (by omega)
      simpa using this
    have hright : rightOf (u.take k) u[k] = true := by simp only [rightOf, h1, h5, h2]; rfl
    have hf : findOr (runP l u k).1 u[k].name = u[k].old := by
      rw [← h3]
      apply findOr_of
      rw [run_find (by omega) ih]
      unfold lastOf
      rw [find_none_of h5]
    have hl : (putL (runP l u k).1 u[k].name u[k].new).length ≤ 64 := by
      have e1 := putL_le (runP l u k).1 u[k].name u[k].new
      have e2 := runP_le l u k
      have e3 := g.room
      omega
    have hc : codeP (runP l u k).1 (u.take k) u[k] = 0 := by rw [codeP, if_pos hright, if_pos hf, if_pos hl]
    rw [hc]
    rfl
theorem good_reverse {l : List RefL} {u : List UpdL} (g : Good l u) : Good l u.reverse :=
  ⟨fun x hx => g.each x (by simpa using hx), by rw [List.pairwise_reverse]; exact g.apart.imp fun h e => h e.symm, by rw [List.length_reverse]; exact g.room⟩
theorem find_apart {u : List UpdL} (h : u.Pairwise (fun a b => a.name ≠ b.name)) {n : List UInt8} {y : UpdL} : u.find? (fun y => y.name == n) = some y ↔ y ∈ u ∧ y.name = n := by
  induction u with
  | nil => simp
  | cons x u ih =>
    have h' := List.pairwise_cons.1 h
    rw [List.find?_cons]
    by_cases hx : x.name = n
    · simp only [hx, beq_self_eq_true]
      constructor
      · intro e
        injection e with e
        subst e
        exact ⟨by simp, hx⟩
      · rintro ⟨hm, hy⟩
        rcases List.mem_cons.1 hm with rfl | hm
        · rfl
        · exact absurd (hx.trans hy.symm) (h'.1 y hm)
    · have hb : (x.name == n) = false := by simpa using hx
      simp only [hb]
      rw [ih h'.2]
      constructor
      · rintro ⟨hm, hy⟩
        exact ⟨by simp [hm], hy⟩
      · rintro ⟨hm, hy⟩
        rcases List.mem_cons.1 hm with rfl | hm
        · exact absurd hy hx
        · exact ⟨hm, hy⟩
theorem find_reverse {u : List UpdL} (h : u.Pairwise (fun a b => a.name ≠ b.name)) (n : List UInt8) : u.reverse.find? (fun y => y.name == n) = u.find? (fun y => y.name == n) := by
  have h2 : u.reverse.Pairwise (fun a b => a.name ≠ b.name) := by rw [List.pairwise_reverse]; exact h.imp fun h e => h e.symm
  apply Option.ext
  intro y
  constructor
  · intro e
    have := (find_apart h2).1 e
    exact (find_apart h).2 ⟨by simpa using this.1, this.2⟩
  · intro e
    have := (find_apart h).1 e
    exact (find_apart h2).2 ⟨by simpa using this.1, this.2⟩
theorem order_law {l : List RefL} (hs : Sorted l) {u : List UpdL} (h : anyBad (runP l u u.length).2 = false) (hr : l.length + u.length ≤ 64) :
    anyBad (runP l u.reverse u.reverse.length).2 = false ∧ (runP l u.reverse u.reverse.length).1 = (runP l u u.length).1 := by
  have g := good_of_ok h hr
  have h2 := ok_of_good (good_reverse g) (Nat.le_refl _)
  refine ⟨h2, sorted_ext (run_eq hs u.reverse _).2 (run_eq hs u _).2 fun n => ?_⟩
  rw [run_find (Nat.le_refl _) h2, run_find (Nat.le_refl _) h, List.take_length, List.take_length]
  unfold lastOf
  rw [find_reverse g.apart]
/-- Fine stays. -/
theorem fine_of {l : List RefL} (hl : l.length ≤ 64) (hs : Sorted l) (h : ∀ r ∈ l, nameOk r.name = true ∧ isNone r.id = false) : fineL l = true := by
  rw [fineL_all, decide_eq_true_iff]
  · exact hl
  · rw [List.all_eq_true]
    intro i hi
    have hi := List.mem_range.1 hi
    obtain ⟨h1, h2⟩ := h l[i] (List.getElem_mem _)
    refine fineAt_of (List.getElem?_eq_getElem hi) h1 h2 fun h0 => ⟨l[i - 1], List.getElem?_eq_getElem (by omega), ?_⟩
    exact (List.pairwise_iff_getElem.1 hs) (i - 1) i (by omega) hi (by omega)
theorem fine_each {l : List RefL} (h : fineL l = true) : ∀ r ∈ l, nameOk r.name = true ∧ isNone r.id = false := by
  intro r hr
  obtain ⟨i, hi, rfl⟩ := List.getElem_of_mem hr
  have := fineAt_parts hi (fineAt_all h hi)
  exact ⟨this.1, this.2.1⟩
theorem fine_len {l : List RefL} (h : fineL l = true) : l.length ≤ 64 := by
  unfold fineL at h
  rw [Bool.and_eq_true, decide_eq_true_eq] at h
  exact h.1
theorem put_mem {l : List RefL} {name id : List UInt8} {y : RefL} (h : y ∈ putL l name id) : y ∈ l ∨ (y = ⟨name, id⟩ ∧ isNone id = false) := by
  unfold putL at h
  cases hz : isNone id with
  | true => rw [hz] at h; exact .inl (dropL_mem (by simpa using h)).1
  | false =>
    rw [hz, if_neg (by simp)] at h
    unfold insL at h
    rw [List.mem_append, List.mem_append] at h
    rcases h with (h1 | h1) | h1
    · exact .inl (dropL_mem (List.mem_of_mem_take h1)).1
    · simp at h1; exact .inr ⟨h1, rfl⟩
    · exact .inl (dropL_mem (List.mem_of_mem_drop h1)).1
theorem fine_next {l : List RefL} (h : fineL l = true) (p : List UpdL) (x : UpdL) : fineL (nextP l p x) = true := by
  unfold nextP
  split
  · rename_i hc
    obtain ⟨h1, h2, h3⟩ := code_zero hc
    refine fine_of h3 (sorted_put (sorted_of_fine h)) fun r hr => ?_
    rcases put_mem hr with h4 | ⟨rfl, h4⟩
    · exact fine_each h r h4
    · exact ⟨(right_parts h1).1, h4⟩
  · exact h
theorem fine_run {l : List RefL} (h : fineL l = true) (u : List UpdL) (k : Nat) : fineL (runP l u k).1 = true := by
  induction k with
  | zero => exact h
  | succ k ih =>
    cases hx : u[k]? with
    | none => simpa [runP, hx] using ih
    | some x => rw [runP_step hx]; exact fine_next ih _ _
theorem fine_res {l : List RefL} (h : fineL l = true) (u : List UpdL) (all : Bool) : fineL (resU l u all) = true := by
  unfold resU
  split
  · exact h
  · exact fine_run h u _
theorem cnt_all {l : List Nat} (h : ∀ n ∈ l, n ≠ 0) : cntBad l = l.length := by
  unfold cntBad
  rw [List.filter_eq_self.2]
  intro n hn
  simpa using h n hn
/-- How many are told wrong: none, or all. -/
theorem cnt_told (l : List RefL) (u : List UpdL) : (anyBad (runP l u u.length).2 = false ∧ cntBad (toldU l u true) = 0 ∧ resU l u true = (runP l u u.length).1) ∨ (anyBad (runP l u u.length).2 = true ∧ cntBad (toldU l u true) = u.length ∧ 0 < u.length ∧ resU l u true = l) := by
  cases h : anyBad (runP l u u.length).2 with
  | false =>
    refine .inl ⟨rfl, ?_, ?_⟩
    · unfold toldU; rw [h]; exact cnt_zero _ h
    · unfold resU; rw [h]; rfl
  | true =>
    have htl := toldU_length l u true
    have ht : toldU l u true = (runP l u u.length).2.map markN := by unfold toldU; rw [h]; rfl
    refine .inr ⟨rfl, ?_, ?_, ?_⟩
    · rw [← htl]
      apply cnt_all
      intro n hn
      rw [ht, List.mem_map] at hn
      obtain ⟨m, _, rfl⟩ := hn
      unfold markN
      split <;> omega
    · rcases Nat.eq_zero_or_pos u.length with h0 | h0
      · rw [h0] at h
        simp [runP, anyBad] at h
      · exact h0
    · unfold resU; rw [h]; rfl
end Go.Proofs.Ytlpiefopegjgjaa
