/- Regions that draw their order, by what each operation leaves, whatever the order: for regions that lay memory amid calls. No condition; no program. -/
import Derived.Test.YtlanconcbpdneaaQuiet
import Derived.Orders
namespace Go.Proofs.Ytlanconcbpdneaa
open Go.RowKit
section
variable {P : Program} {ops : Array Oper} {a0 : Act} {C : Array Bool → World → Prop} {R : Nat → Value → World → Prop} {Q : Exit → Act → World → Prop}
/-- What the operations that are listed so far have left. -/
structure Left (ops : Array Oper) (a0 : Act) (C : Array Bool → World → Prop) (R : Nat → Value → World → Prop) (listed : Array Bool) (a : Act) (w : World) : Prop where
  cls : C listed w
  size : listed.size = ops.size
  closed : ∀ i o, ops[i]? = some o → listed.getD i false = true → ∀ e ∈ o.after, Region.binds .any e = true → listed.getD e.on false = true
  tsize : a.tmps.size = a0.tmps.size
  defers : a.defers = a0.defers
  old : ∀ t : Nat, (∀ (i : Nat) o, ops[i]? = some o → listed.getD i false = true → o.dst ≠ some t) → a.tmps[t]? = a0.tmps[t]?
  new : ∀ (i : Nat) o (t : Nat), ops[i]? = some o → listed.getD i false = true → o.dst = some t → ∃ v, a.tmps[t]? = some v ∧ R i v w
/-- Each operation waits only for earlier ones; no two write one slot; the slots are there. -/
def acyc (ops : Array Oper) : Bool := (List.range ops.size).all fun i => match ops[i]? with
  | some o => o.after.all fun e => decide (e.on < i)
  | none => true
def apartB (ops : Array Oper) : Bool := (List.range ops.size).all fun i => (List.range ops.size).all fun j => decide (i = j) || match ops[i]?, ops[j]? with
  | some o, some q => match o.dst, q.dst with
    | some s, some t => decide (s ≠ t)
    | _, _ => true
  | _, _ => true
theorem acyc_spec (h : acyc ops = true) {i : Nat} {o : Oper} (ho : ops[i]? = some o) {e : Edge} (he : e ∈ o.after) : e.on < i := by
  have hi := (Array.getElem?_eq_some_iff.1 ho).1
  have := List.all_eq_true.1 h i (List.mem_range.2 hi)
  rw [ho] at this
  have := Array.all_eq_true_iff_forall_mem.1 this e he
  simpa using this
theorem apart_spec (h : apartB ops = true) {i j : Nat} {o q : Oper} {t : Nat} (ho : ops[i]? = some o) (hq : ops[j]? = some q) (h1 : o.dst = some t) (h2 : q.dst = some t) : i = j := by
  have hi := (Array.getElem?_eq_some_iff.1 ho).1
  have hj := (Array.getElem?_eq_some_iff.1 hq).1
  have := List.all_eq_true.1 (List.all_eq_true.1 h i (List.mem_range.2 hi)) j (List.mem_range.2 hj)
  rw [ho, hq] at this
  simp only [h1, h2] at this
  simpa using this
theorem ready_spec {listed : Array Bool} {i : Nat} (h : i ∈ Region.ready .any ops listed) : i < ops.size ∧ listed.getD i true = false ∧ ∀ o, ops[i]? = some o → ∀ e ∈ o.after, Region.binds .any e = true → listed.getD e.on false = true := by
  unfold Region.ready at h
  rw [List.mem_filter, List.mem_range, Bool.and_eq_true] at h
  obtain ⟨h1, h2, h3⟩ := h
  refine ⟨h1, by simpa using h2, fun o ho e he hb => ?_⟩
  rw [ho] at h3
  simp only [Option.map_some, Option.getD_some] at h3
  have := Array.all_eq_true_iff_forall_mem.1 h3 e he
  simpa [hb] using this
theorem getD_of_size {listed : Array Bool} {i : Nat} (h : i < listed.size) : listed.getD i false = listed.getD i true := by
  simp [Array.getD, h]
/-- Where none is ready, all are listed. -/
theorem all_listed (hac : acyc ops = true) {listed : Array Bool} (hs : listed.size = ops.size) (h : Region.ready .any ops listed = []) : ∀ i, i < ops.size → listed.getD i false = true := by
  intro i
  induction i using Nat.strongRecOn with
  | ind i ih =>
    intro hi
    cases hl : listed.getD i false with
    | true => rfl
    | false =>
      have hmem : i ∈ Region.ready .any ops listed := by
        unfold Region.ready
        rw [List.mem_filter, List.mem_range, Bool.and_eq_true]
        have ho : ops[i]? = some ops[i] := Array.getElem?_eq_getElem hi
        refine ⟨hi, by rw [← getD_of_size (by omega), hl]; rfl, ?_⟩
        rw [ho]
        simp only [Option.map_some, Option.getD_some]
        rw [Array.all_eq_true_iff_forall_mem]
        intro e he
        have h1 := acyc_spec hac ho he
        rw [ih e.on h1 (by omega)]
        simp
      rw [h] at hmem
      cases hmem
/-- How many are not listed. -/
def unlisted (listed : Array Bool) (n : Nat) : Nat := ((List.range n).filter fun i => !listed.getD i false).length
theorem unlisted_set {listed : Array Bool} {n i : Nat} (hi : i < n) (hs : listed.size = n) (hl : listed.getD i false = false) : unlisted (listed.setIfInBounds i true) n < unlisted listed n := by
  unfold unlisted
  have hsub : ((List.range n).filter fun j => !(listed.setIfInBounds i true).getD j false).Sublist ((List.range n).filter fun j => !listed.getD j false) := by
    have : ((List.range n).filter fun j => !(listed.setIfInBounds i true).getD j false) = (((List.range n).filter fun j => !listed.getD j false).filter fun j => decide (j ≠ i)) := by
      rw [List.filter_filter]
      apply List.filter_congr
      intro j hj
      have hj := List.mem_range.1 hj
      by_cases hji : j = i
      · subst hji
        simp [Array.getD, hs, hj]
      · have : (listed.setIfInBounds i true).getD j false = listed.getD j false := by
          simp [Array.getD, hs, hj, Array.getElem_setIfInBounds, Ne.symm hji]
        simp [this, hji]
    rw [this]
    exact List.filter_sublist
  rcases Nat.lt_or_ge ((List.range n).filter fun j => !(listed.setIfInBounds i true).getD j false).length ((List.range n).filter fun j => !listed.getD j false).length with h | h
  · exact h
  · exfalso
    have heq := hsub.eq_of_length_le h
    have hm : i ∈ ((List.range n).filter fun j => !listed.getD j false) := by
      rw [List.mem_filter, List.mem_range]
      exact ⟨hi, by rw [hl]; rfl⟩
    rw [← heq, List.mem_filter] at hm
    have := hm.2
    simp [Array.getD, hs, hi] at this
theorem getD_set {listed : Array Bool} {i j : Nat} (hi : i < listed.size) : (listed.setIfInBounds i true).getD j false = if j = i then true else listed.getD j false := by
  by_cases hj : j = i
  · subst hj
    simp [Array.getD, hi]
  · rw [if_neg hj]
    simp only [Array.getD, Array.size_setIfInBounds]
    split
    · rename_i h
      simp only [Array.getInternal_eq_getElem]
      rw [Array.getElem_setIfInBounds_ne _ (Ne.symm hj)]
    · rfl
theorem put_at {a : Act} {d : Option Tmp} {v : Value} {t : Nat} (h : d ≠ some t) : (a.put d v).tmps[t]? = a.tmps[t]? := by
  cases d with
  | none => rfl
  | some s =>
    have : s ≠ t := fun e => h (by rw [e])
    simp [Act.put, Array.getElem?_setIfInBounds, this]
theorem put_size (a : Act) (d : Option Tmp) (v : Value) : (a.put d v).tmps.size = a.tmps.size := by
  cases d <;> simp [Act.put]
theorem put_defers (a : Act) (d : Option Tmp) (v : Value) : (a.put d v).defers = a.defers := by
  cases d <;> simp [Act.put]
theorem Left.step {listed : Array Bool} {a : Act} {w w' : World} {i : Nat} {o : Oper} {v : Value} (hd : apartB ops = true) (hsz : ∀ (i : Nat) o (t : Nat), ops[i]? = some o → o.dst = some t → t < a0.tmps.size)
    (h : Left ops a0 C R listed a w) (hi : i ∈ Region.ready .any ops listed) (ho : ops[i]? = some o) (hR : R i v w') (hC : C (listed.setIfInBounds i true) w') (hst : ∀ j u, listed.getD j false = true → R j u w → R j u w') : Left ops a0 C R (listed.setIfInBounds i true) (a.put o.dst v) w' := by
  obtain ⟨hin, hil, hdep⟩ := ready_spec hi
  have his : i < listed.size := by rw [h.size]; exact hin
  refine ⟨hC, by rw [Array.size_setIfInBounds]; exact h.size, ?_, by rw [put_size]; exact h.tsize, by rw [put_defers]; exact h.defers, ?_, ?_⟩
  · intro j q hq hj e he hb
    rw [getD_set his]
    split
    · rfl
    · rw [getD_set his] at hj
      by_cases hji : j = i
      · subst hji
        rw [ho] at hq
        injection hq with hq
        subst hq
        exact hdep o ho e he hb
      · rw [if_neg hji] at hj
        exact h.closed j q hq hj e he hb
  · intro t ht
    have h1 : o.dst ≠ some t := ht i o ho (by rw [getD_set his, if_pos rfl])
    rw [put_at h1]
    refine h.old t fun j q hq hj => ht j q hq ?_
    rw [getD_set his]
    split
    · rfl
    · exact hj
  · intro j q t hq hj ht
    by_cases hji : j = i
    · subst hji
      rw [ho] at hq
      injection hq with hq
      subst hq
      refine ⟨v, ?_, hR⟩
      have hlt := hsz j o t ho ht
      rw [ht]
      simp [Act.put, h.tsize, hlt]
    · rw [getD_set his, if_neg hji] at hj
      obtain ⟨u, h1, h2⟩ := h.new j q t hq hj ht
      refine ⟨u, ?_, hst j u hj h2⟩
      rw [put_at (fun e => hji (apart_spec hd hq ho ht e))]
      exact h1
theorem wpAny_left (hac : acyc ops = true) (hd : apartB ops = true) (hsz : ∀ (i : Nat) o (t : Nat), ops[i]? = some o → o.dst = some t → t < a0.tmps.size)
    (hstep : ∀ i o listed a w, ops[i]? = some o → i ∈ Region.ready .any ops listed → Left ops a0 C R listed a w → wpOp P ops Q i (fun a' w' => ∃ v, a' = a.put o.dst v ∧ R i v w' ∧ C (listed.setIfInBounds i true) w' ∧ ∀ j u, listed.getD j false = true → R j u w → R j u w') a w)
    (hend : ∀ a w listed, Left ops a0 C R listed a w → (∀ i, i < ops.size → listed.getD i false = true) → Q .normal a w) :
    ∀ (fuel : Nat) (listed : Array Bool) (a : Act) (w : World), Left ops a0 C R listed a w → unlisted listed ops.size ≤ fuel → wpAny P .any ops Q fuel listed a w
  | 0, listed, a, w, h, hu => by
    have hall : ∀ i, i < ops.size → listed.getD i false = true := by
      intro i hi
      cases hl : listed.getD i false with
      | true => rfl
      | false =>
        have hm : i ∈ ((List.range ops.size).filter fun i => !listed.getD i false) := by
          rw [List.mem_filter, List.mem_range]
          exact ⟨hi, by rw [hl]; rfl⟩
        have := List.length_pos_of_mem hm
        unfold unlisted at hu
        omega
    refine ⟨?_, hend a w listed h hall⟩
    rw [List.eq_nil_iff_forall_not_mem]
    intro i hi
    obtain ⟨h1, h2, _⟩ := ready_spec hi
    rw [← getD_of_size (by rw [h.size]; exact h1), hall i h1] at h2
    cases h2
  | fuel + 1, listed, a, w, h, hu => by
    refine ⟨fun h0 => hend a w listed h (all_listed hac h.size h0), fun i hi => ?_⟩
    obtain ⟨h1, h2, _⟩ := ready_spec hi
    have ho : ops[i]? = some ops[i] := Array.getElem?_eq_getElem h1
    refine wpOp_mono ?_ (hstep i _ listed a w ho hi h)
    rintro a' w' ⟨v, rfl, hR, hC, hst⟩
    refine wpAny_left hac hd hsz hstep hend fuel _ _ _ (h.step hd hsz hi ho hR hC hst) ?_
    have := unlisted_set h1 h.size (by rw [getD_of_size (by rw [h.size]; exact h1)]; exact h2)
    omega
/-- The region's law. -/
theorem wp_region_listed {id : Nat} {w0 : World} (hm : P.follows .mixedOrders = true) (hac : acyc ops = true) (hd : apartB ops = true) (hsz : ∀ (i : Nat) o (t : Nat), ops[i]? = some o → o.dst = some t → t < a0.tmps.size)
    (hC : C (Array.replicate ops.size false) { w0 with drawn := w0.drawn + 1 })
    (hstep : ∀ i o listed a w, ops[i]? = some o → i ∈ Region.ready .any ops listed → Left ops a0 C R listed a w → wpOp P ops Q i (fun a' w' => ∃ v, a' = a.put o.dst v ∧ R i v w' ∧ C (listed.setIfInBounds i true) w' ∧ ∀ j u, listed.getD j false = true → R j u w → R j u w') a w)
    (hend : ∀ a w listed, Left ops a0 C R listed a w → (∀ i, i < ops.size → listed.getD i false = true) → Q .normal a w) : (Code.region id ops true).wp P Q a0 w0 := by
  refine wp_region_any hm (wpAny_left hac hd hsz hstep hend _ _ _ _ ⟨hC, by simp, ?_, rfl, rfl, fun _ _ => rfl, ?_⟩ ?_)
  · intro i o ho hl
    exfalso
    have hi := (Array.getElem?_eq_some_iff.1 ho).1
    simp [Array.getD, hi] at hl
  · intro i o t ho hl
    exfalso
    have hi := (Array.getElem?_eq_some_iff.1 ho).1
    simp [Array.getD, hi] at hl
  · unfold unlisted
    exact Nat.le_trans (List.length_filter_le _ _) (by simp)
/-- The same, where all that is left stays. -/
theorem wp_region_left {id : Nat} {w0 : World} (hm : P.follows .mixedOrders = true) (hac : acyc ops = true) (hd : apartB ops = true) (hsz : ∀ (i : Nat) o (t : Nat), ops[i]? = some o → o.dst = some t → t < a0.tmps.size)
    (hC : C (Array.replicate ops.size false) { w0 with drawn := w0.drawn + 1 })
    (hstep : ∀ i o listed a w, ops[i]? = some o → i ∈ Region.ready .any ops listed → Left ops a0 C R listed a w → wpOp P ops Q i (fun a' w' => ∃ v, a' = a.put o.dst v ∧ R i v w' ∧ C (listed.setIfInBounds i true) w' ∧ ∀ j u, R j u w → R j u w') a w)
    (hend : ∀ a w listed, Left ops a0 C R listed a w → (∀ i, i < ops.size → listed.getD i false = true) → Q .normal a w) : (Code.region id ops true).wp P Q a0 w0 :=
  wp_region_listed hm hac hd hsz hC (fun i o listed a w h1 h2 h3 => wpOp_mono (fun a' w' ⟨v, e, hR, hc, hs⟩ => ⟨v, e, hR, hc, fun j u _ => hs j u⟩) (hstep i o listed a w h1 h2 h3)) hend
/-- What an operation reads: as it was, or what an earlier one has left. -/
def oldB (ops : Array Oper) (i t : Nat) : Bool := (List.range ops.size).all fun j => match ops[j]? with
  | some q => decide (q.dst ≠ some t) || decide (j = i) || q.after.any fun e => Region.binds .any e && decide (e.on = i)
  | none => true
def newB (ops : Array Oper) (i j t : Nat) : Bool := match ops[i]?, ops[j]? with
  | some o, some q => decide (q.dst = some t) && o.after.any fun e => Region.binds .any e && decide (e.on = j)
  | _, _ => false
theorem Left.get_old {listed : Array Bool} {a : Act} {w : World} {i t : Nat} (h : Left ops a0 C R listed a w) (hi : i ∈ Region.ready .any ops listed) (hb : oldB ops i t = true) : a.eval (.tmp t) = a0.eval (.tmp t) := by
  obtain ⟨hin, hil, _⟩ := ready_spec hi
  have key : a.tmps[t]? = a0.tmps[t]? := by
    refine h.old t fun j q hq hj ht => ?_
    have hjn := (Array.getElem?_eq_some_iff.1 hq).1
    have h1 := List.all_eq_true.1 hb j (List.mem_range.2 hjn)
    rw [hq] at h1
    simp only [Bool.or_eq_true, decide_eq_true_eq] at h1
    rcases h1 with (h1 | h1) | h1
    · exact h1 ht
    · subst h1
      rw [getD_of_size (by rw [h.size]; exact hin), hil] at hj
      cases hj
    · rw [Array.any_eq_true'] at h1
      obtain ⟨e, he, h2⟩ := h1
      simp only [Bool.and_eq_true, decide_eq_true_eq] at h2
      have := h.closed j q hq hj e he h2.1
      rw [h2.2, getD_of_size (by rw [h.size]; exact hin), hil] at this
      cases this
  simp only [Act.eval, Array.getD_eq_getD_getElem?, key]
theorem Left.get_new {listed : Array Bool} {a : Act} {w : World} {i j t : Nat} (h : Left ops a0 C R listed a w) (hi : i ∈ Region.ready .any ops listed) (hb : newB ops i j t = true) : R j (a.eval (.tmp t)) w := by
  obtain ⟨hin, hil, hdep⟩ := ready_spec hi
  unfold newB at hb
  split at hb
  · rename_i o q ho hq
    simp only [Bool.and_eq_true, decide_eq_true_eq] at hb
    obtain ⟨h1, h2⟩ := hb
    rw [Array.any_eq_true'] at h2
    obtain ⟨e, he, h3⟩ := h2
    simp only [Bool.and_eq_true, decide_eq_true_eq] at h3
    have hj := hdep o ho e he h3.1
    rw [h3.2] at hj
    obtain ⟨v, h4, h5⟩ := h.new j q t hq hj h1
    simp only [Act.eval, Array.getD_eq_getD_getElem?, h4, Option.getD_some]
    exact h5
  · cases hb
def waitsB (ops : Array Oper) (j i : Nat) : Bool := match ops[j]? with
  | some q => q.after.any fun e => Region.binds .any e && decide (e.on = i)
  | none => false
/-- What waits for an operation is not listed ahead of it. -/
theorem Left.later {listed : Array Bool} {a : Act} {w : World} {i j : Nat} (h : Left ops a0 C R listed a w) (hi : i ∈ Region.ready .any ops listed) (hb : waitsB ops j i = true) : listed.getD j false = false := by
  obtain ⟨hin, hil, _⟩ := ready_spec hi
  cases hj : listed.getD j false with
  | false => rfl
  | true =>
    exfalso
    unfold waitsB at hb
    split at hb
    · rename_i q hq
      rw [Array.any_eq_true'] at hb
      obtain ⟨e, he, h2⟩ := hb
      simp only [Bool.and_eq_true, decide_eq_true_eq] at h2
      have := h.closed j q hq hj e he h2.1
      rw [h2.2, getD_of_size (by rw [h.size]; exact hin), hil] at this
      cases this
    · cases hb
theorem step_wp {i : Nat} {o : Oper} {a : Act} {w : World} {K : Act → World → Prop} (ho : ops[i]? = some o) (hg : o.guard = none) (h : o.wp P a w K Q) : wpOp P ops Q i K a w := by
  unfold wpOp
  rw [ho]
  simp only
  rw [if_pos (by simp [Region.wanted, hg])]
  exact .inl h
/-- A guarded one: it is done, or its slot is left without a value. -/
theorem step_wp_g {i : Nat} {o : Oper} {a : Act} {w : World} {K : Act → World → Prop} {j t : Nat} {q : Oper} {c want : Bool} (ho : ops[i]? = some o) (hg : o.guard = some (j, want)) (hq : ops[j]? = some q) (hdst : q.dst = some t)
    (hv : a.eval (.tmp t) = .bool c) (h1 : c = want → o.wp P a w K Q) (h0 : c ≠ want → K (a.put o.dst undef) w) : wpOp P ops Q i K a w := by
  have hy : yielded ops a.tmps j = some c := by
    unfold yielded
    simp only [Act.eval, Array.getD_eq_getD_getElem?] at hv
    rw [hq]
    simp only [Option.bind_some, hdst]
    cases h : a.tmps[t]? with
    | none => rw [h] at hv; simp [undef] at hv
    | some v => rw [h] at hv; simp only [Option.getD_some] at hv; subst hv; rfl
  unfold wpOp
  rw [ho]
  simp only
  by_cases hc : c = want
  · rw [if_pos (by simp [Region.wanted, hg, hy, hc])]
    exact .inl (h1 hc)
  · rw [if_neg (by simp [Region.wanted, hg, hy, hc])]
    exact h0 hc
def putAll (vs : Nat → Value) : List Oper → Nat → Act → Act
  | [], _, a => a
  | o :: l, k, a => putAll vs l (k + 1) (a.put o.dst (vs k))
theorem putAll_size (vs : Nat → Value) : ∀ (l : List Oper) (k : Nat) (a : Act), (putAll vs l k a).tmps.size = a.tmps.size
  | [], _, _ => rfl
  | o :: l, k, a => by rw [putAll, putAll_size vs l, put_size]
theorem putAll_defers (vs : Nat → Value) : ∀ (l : List Oper) (k : Nat) (a : Act), (putAll vs l k a).defers = a.defers
  | [], _, _ => rfl
  | o :: l, k, a => by rw [putAll, putAll_defers vs l, put_defers]
theorem putAll_old (vs : Nat → Value) {t : Nat} : ∀ (l : List Oper) (k : Nat) (a : Act), (∀ o ∈ l, o.dst ≠ some t) → (putAll vs l k a).tmps[t]? = a.tmps[t]?
  | [], _, _, _ => rfl
  | o :: l, k, a, h => by rw [putAll, putAll_old vs l _ _ (fun q hq => h q (by simp [hq])), put_at (h o (by simp))]
theorem putAll_new (vs : Nat → Value) {t : Nat} : ∀ (l : List Oper) (k : Nat) (a : Act) (i : Nat) (o : Oper), l[i]? = some o → o.dst = some t → t < a.tmps.size → (∀ j q, l[j]? = some q → q.dst = some t → j = i) → (putAll vs l k a).tmps[t]? = some (vs (k + i))
  | [], _, _, i, o, h, _, _, _ => by simp at h
  | q :: l, k, a, 0, o, h, ht, hlt, hu => by
    simp only [List.getElem?_cons_zero, Option.some.injEq] at h
    subst h
    rw [putAll, putAll_old vs l]
    · rw [ht]; simp [Act.put, hlt]
    · intro r hr hrt
      obtain ⟨j, hj⟩ := List.getElem?_of_mem hr
      have := hu (j + 1) r (by simpa using hj) hrt
      omega
  | q :: l, k, a, i + 1, o, h, ht, hlt, hu => by
    rw [putAll, putAll_new vs l (k + 1) _ i o (by simpa using h) ht (by rw [put_size]; exact hlt) (fun j r hj hr => by have := hu (j + 1) r (by simpa using hj) hr; omega)]
    congr 2
    omega
theorem act_ext {a b : Act} (h1 : a.tmps = b.tmps) (h2 : a.defers = b.defers) : a = b := by
  cases a; cases b; simp only at h1 h2; rw [h1, h2]
/-- Behind the region: the frame, written out. -/
theorem Left.frame {l : List Oper} {listed : Array Bool} {a : Act} {w : World} (hd : apartB l.toArray = true) (hsz : ∀ (i : Nat) o (t : Nat), l.toArray[i]? = some o → o.dst = some t → t < a0.tmps.size)
    (h : Left l.toArray a0 C R listed a w) (hall : ∀ i, i < l.toArray.size → listed.getD i false = true) :
    ∃ vs : Nat → Value, a = putAll vs l 0 a0 ∧ ∀ (i : Nat) o (t : Nat), l[i]? = some o → o.dst = some t → R i (vs i) w := by
  refine ⟨fun i => match l[i]? with | some o => (match o.dst with | some t => a.tmps.getD t undef | none => undef) | none => undef, ?_, ?_⟩
  · have h1 : a.defers = (putAll (fun i => match l[i]? with | some o => (match o.dst with | some t => a.tmps.getD t undef | none => undef) | none => undef) l 0 a0).defers := by rw [putAll_defers, h.defers]
    have h2 : a.tmps = (putAll (fun i => match l[i]? with | some o => (match o.dst with | some t => a.tmps.getD t undef | none => undef) | none => undef) l 0 a0).tmps := by
      apply Array.ext_getElem?
      intro t
      by_cases ht : ∃ (i : Nat) (o : Oper), l[i]? = some o ∧ o.dst = some t
      · obtain ⟨i, o, hl, hdst⟩ := ht
        have hla : l.toArray[i]? = some o := by simpa using hl
        have hin := (List.getElem?_eq_some_iff.1 hl).1
        obtain ⟨v, hv, _⟩ := h.new i o t hla (hall i (by simpa using hin)) hdst
        rw [putAll_new _ l 0 a0 i o hl hdst (hsz i o t hla hdst) (fun j q hj hq => apart_spec hd (by simpa using hj) hla hq hdst), hv]
        simp [hl, hdst, Array.getD_eq_getD_getElem?, hv]
      · rw [putAll_old _ l 0 a0 (fun o ho hdst => by
          obtain ⟨i, hi⟩ := List.getElem?_of_mem ho
          exact ht ⟨i, o, hi, hdst⟩)]
        exact h.old t fun i o hl _ hdst => ht ⟨i, o, by simpa using hl, hdst⟩
    exact act_ext h2 h1
  · intro i o t hl hdst
    have hla : l.toArray[i]? = some o := by simpa using hl
    have hin := (List.getElem?_eq_some_iff.1 hl).1
    obtain ⟨v, hv, hR⟩ := h.new i o t hla (hall i (by simpa using hin)) hdst
    simp only [hl, hdst, Array.getD_eq_getD_getElem?, hv, Option.getD_some]
    exact hR
def sizesB (ops : Array Oper) (n : Nat) : Bool := ops.all fun o => match o.dst with
  | some t => decide (t < n)
  | none => true
theorem sizes_spec {n : Nat} (h : sizesB ops n = true) (i : Nat) (o : Oper) (t : Nat) (ho : ops[i]? = some o) (hd : o.dst = some t) : t < n := by
  obtain ⟨hi, he⟩ := Array.getElem?_eq_some_iff.1 ho
  have := Array.all_eq_true_iff_forall_mem.1 h o (by rw [← he]; exact Array.getElem_mem hi)
  rw [hd] at this
  simpa using this
end
end Go.Proofs.Ytlanconcbpdneaa
