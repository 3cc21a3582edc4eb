/- Lemmas and walks of this seat, laid together: ObjW, IdW, Inv, InvW, LitB, Stage, InvA. -/
import Derived.Test.YtbhdfaadedlcfaaMa
import Derived.Deep.MidRow
import Derived.Orders
import Derived.Great.BuildSlice
/- Layer 4 (object): the words. No condition. -/
namespace Go.Proofs.Ytbhdfaadedlcfaa
open Go.RowKit
def idC (l : Txt) : List Value := (u8s l).toList
def entC (e : EntL) : List Value := .string (B e.name) :: .int .i64 e.kind :: (u8s e.id).toList
def objC (o : ObjL) (ve vp : Value) : List Value := .int .i64 o.kind :: .string (B o.data) :: ve :: ((u8s o.tree).toList ++ (vp :: .int .u32 o.time :: .string (B o.text) :: ((u8s o.target).toList ++ [.int .i64 o.of_, .string (B o.name)])))
def linkC (l : LinkL) : List Value := (u8s l.id).toList ++ [.int .i64 l.kind]
structure EntOk (e : EntL) : Prop where
  id : e.id.length = 32
  name : e.name.length ≤ 9223372036854775807
  k1 : -9223372036854775808 ≤ e.kind
  k2 : e.kind ≤ 9223372036854775807
structure ObjOk (o : ObjL) : Prop where
  tree : o.tree.length = 32
  target : o.target.length = 32
  ents : ∀ e ∈ o.ents, EntOk e
  pars : ∀ p ∈ o.pars, p.length = 32
  data : o.data.length ≤ 9223372036854775807
  text : o.text.length ≤ 9223372036854775807
  name : o.name.length ≤ 9223372036854775807
  time : o.time < 4294967296
  k1 : -9223372036854775808 ≤ o.kind
  k2 : o.kind ≤ 9223372036854775807
  f1 : -9223372036854775808 ≤ o.of_
  f2 : o.of_ ≤ 9223372036854775807
theorem u8s_len (l : Txt) : (u8s l).toList.length = l.length := by simp [u8s]
theorem idC_len {l : Txt} (h : l.length = 32) : (idC l).length = 32 := by unfold idC; rw [u8s_len, h]
theorem entC_len {e : EntL} (h : EntOk e) : (entC e).length = 34 := by unfold entC; simp only [List.length_cons, u8s_len, h.id]
theorem objC_len {o : ObjL} (h : ObjOk o) (ve vp : Value) : (objC o ve vp).length = 72 := by
  unfold objC
  simp only [List.length_cons, List.length_append, u8s_len, h.tree, h.target, List.length_nil]
theorem linkC_len {l : LinkL} (h : l.id.length = 32) : (linkC l).length = 33 := by unfold linkC; simp [u8s_size, h]
/-- A slice value reads as these entries. -/
abbrev Ents (w : World) (v : Value) (l : List EntL) : Prop := SliceAt w 34 entC v l
abbrev Ids (w : World) (v : Value) (l : List Txt) : Prop := SliceAt w 32 idC v l
/-- A value reads as this object. -/
structure ObjV (w : World) (ve vp : Value) (o : ObjL) : Prop where
  ok : ObjOk o
  ents : Ents w ve o.ents
  pars : Ids w vp o.pars
theorem ObjV.below {w w' : World} {ve vp : Value} {o : ObjL} (h : ObjV w ve vp o) (hb : Below w.heap.size w w') : ObjV w' ve vp o := ⟨h.ok, h.ents.below hb, h.pars.below hb⟩
/-- One block holds an object's cells. -/
structure ObjB (w : World) (g : Nat) (o : ObjL) (ve vp : Value) : Prop where
  blk : Blk w g 45 (objC o ve vp).toArray
  tr : o.tree.length = 32
  ta : o.target.length = 32
section
variable {w : World} {g : Nat} {o : ObjL} {ve vp : Value}
theorem ObjB.drew (h : ObjB w g o ve vp) : ObjB w.drew g o ve vp := ⟨h.blk.drew, h.tr, h.ta⟩
theorem ObjB.below {w' : World} (h : ObjB w g o ve vp) (hb : Below w.heap.size w w') : ObjB w' g o ve vp := ⟨(hb.block g h.blk.lt).trans h.blk, h.tr, h.ta⟩
theorem ObjB.at_ (h : ObjB w g o ve vp) {i : Nat} {u : Value} (hu : (objC o ve vp)[i]? = some u) : w.cell? ⟨g, i, none⟩ = some u := by
  rw [h.blk.cell]
  simpa using hu
theorem app_right {α : Type} {a b : List α} {n i : Nat} (ha : a.length = n) (hi : n ≤ i) : (a ++ b)[i]? = b[i - n]? := by rw [List.getElem?_append_right (by omega), ha]
theorem obj_pars (h : o.tree.length = 32) : (objC o ve vp)[35]? = some vp := by
  show ((u8s o.tree).toList ++ _)[32]? = _
  rw [app_right (by rw [u8s_len, h]) (Nat.le_refl _)]; rfl
theorem obj_time (h : o.tree.length = 32) : (objC o ve vp)[36]? = some (.int .u32 o.time) := by
  show ((u8s o.tree).toList ++ _)[33]? = _
  rw [app_right (by rw [u8s_len, h]) (by omega)]; rfl
theorem obj_text (h : o.tree.length = 32) : (objC o ve vp)[37]? = some (.string (B o.text)) := by
  show ((u8s o.tree).toList ++ _)[34]? = _
  rw [app_right (by rw [u8s_len, h]) (by omega)]; rfl
theorem obj_of (h : o.tree.length = 32) (ht : o.target.length = 32) : (objC o ve vp)[70]? = some (.int .i64 o.of_) := by
  show ((u8s o.tree).toList ++ _)[67]? = _
  rw [app_right (by rw [u8s_len, h]) (by omega)]
  show ((u8s o.target).toList ++ _)[32]? = _
  rw [app_right (by rw [u8s_len, ht]) (by omega)]; rfl
theorem obj_name (h : o.tree.length = 32) (ht : o.target.length = 32) : (objC o ve vp)[71]? = some (.string (B o.name)) := by
  show ((u8s o.tree).toList ++ _)[68]? = _
  rw [app_right (by rw [u8s_len, h]) (by omega)]
  show ((u8s o.target).toList ++ _)[33]? = _
  rw [app_right (by rw [u8s_len, ht]) (by omega)]; rfl
theorem ObjB.kind (h : ObjB w g o ve vp) : w.cell? ⟨g, 0, none⟩ = some (.int .i64 o.kind) := h.at_ rfl
theorem ObjB.data (h : ObjB w g o ve vp) : w.cell? ⟨g, 1, none⟩ = some (.string (B o.data)) := h.at_ rfl
theorem ObjB.ents (h : ObjB w g o ve vp) : w.cell? ⟨g, 2, none⟩ = some ve := h.at_ rfl
theorem ObjB.pars (h : ObjB w g o ve vp) : w.cell? ⟨g, 35, none⟩ = some vp := h.at_ (obj_pars h.tr)
theorem ObjB.time (h : ObjB w g o ve vp) : w.cell? ⟨g, 36, none⟩ = some (.int .u32 o.time) := h.at_ (obj_time h.tr)
theorem ObjB.text (h : ObjB w g o ve vp) : w.cell? ⟨g, 37, none⟩ = some (.string (B o.text)) := h.at_ (obj_text h.tr)
theorem ObjB.of_ (h : ObjB w g o ve vp) : w.cell? ⟨g, 70, none⟩ = some (.int .i64 o.of_) := h.at_ (obj_of h.tr h.ta)
theorem ObjB.name (h : ObjB w g o ve vp) : w.cell? ⟨g, 71, none⟩ = some (.string (B o.name)) := h.at_ (obj_name h.tr h.ta)
theorem ObjB.whole (h : ObjB w g o ve vp) : w.rangeAt g 0 (objC o ve vp) := by
  have := range_blk h.blk
  simpa using this
theorem rangeAt_part {g o : Nat} {a b c : List Value} {n m : Nat} (h : w.rangeAt g o (a ++ (b ++ c))) (ha : a.length = n) (hm : o + n = m) : w.rangeAt g m b := fun j u hu => by
  have hj : j < b.length := (List.getElem?_eq_some_iff.1 hu).1
  have := h (n + j) u (by
    rw [List.getElem?_append_right (by omega), ha, Nat.add_sub_cancel_left, List.getElem?_append_left hj]
    exact hu)
  rwa [← Nat.add_assoc, hm] at this
theorem ObjB.tree (h : ObjB w g o ve vp) : w.rangeAt g 3 (u8s o.tree).toList := rangeAt_part (a := [.int .i64 o.kind, .string (B o.data), ve]) h.whole rfl rfl
theorem ObjB.target (h : ObjB w g o ve vp) : w.rangeAt g 38 (u8s o.target).toList := by
  have := h.whole
  have e : objC o ve vp = (.int .i64 o.kind :: .string (B o.data) :: ve :: ((u8s o.tree).toList ++ [vp, .int .u32 o.time, .string (B o.text)])) ++ ((u8s o.target).toList ++ [.int .i64 o.of_, .string (B o.name)]) := by
    unfold objC
    simp
  rw [e] at this
  exact rangeAt_part this (n := 38) (by simp [u8s_size, h.tr]) (by omega)
end
def ldvO (p : Addr) : Sem Value := loadVar 45 p
theorem ldvO_eq (p : Addr) : loadVar 45 p = ldvO p := rfl
def ldvE (p : Addr) : Sem Value := loadVar 107 p
theorem ldvE_eq (p : Addr) : loadVar 107 p = ldvE p := rfl
theorem szObj : (Try.prog.info? 45).map (·.size) = some 72 := by kernel_rfl
theorem szEnt : (Try.prog.info? 107).map (·.size) = some 34 := by kernel_rfl
theorem run_ldvI_at {w : World} {g o : Nat} {l : Txt} (h : w.rangeAt g o (u8s l).toList) (hl : l.length = 32) : (ldvI ⟨g, o, none⟩).run Try.prog w = .ok (.agg (u8s l)) w := by
  have := run_loadVar_mid (P := Try.prog) w g o 28 (u8s l).toList _ h Try.underlying28 rfl (by rw [u8s_len, hl]; exact sz32)
  rwa [Array.toArray_toList] at this
theorem run_ldvE {w : World} {g o : Nat} {x : EntL} (h : w.rangeAt g o (entC x)) (hx : EntOk x) : (ldvE ⟨g, o, none⟩).run Try.prog w = .ok (.agg (entC x).toArray) w :=
  run_loadVar_mid (P := Try.prog) w g o 107 (entC x) _ h Try.underlying107 rfl (by rw [entC_len hx]; exact szEnt)
theorem run_ldvO {w : World} {g : Nat} {o : ObjL} {ve vp : Value} (h : ObjB w g o ve vp) (ho : ObjOk o) : (ldvO ⟨g, 0, none⟩).run Try.prog w = .ok (.agg (objC o ve vp).toArray) w :=
  run_loadVar_mid (P := Try.prog) w g 0 45 (objC o ve vp) _ h.whole Try.underlying45 rfl (by rw [objC_len ho]; exact szObj)
theorem agg_eq {a b : Array Value} (h : a = b) : Value.agg a = Value.agg b := by rw [h]
end Go.Proofs.Ytbhdfaadedlcfaa
/- Slices of ids: the words. No condition. -/
namespace Go.Proofs.Ytbhdfaadedlcfaa
open Go.RowKit
theorem Try.idsTy : SliceTy Try.prog 22 28 (.agg (u8s noId)) 32 32 := ⟨Try.underlying22, info_parts (by kernel_rfl), by decide, by omega⟩
theorem idC_one (l : Txt) : ∀ u ∈ idC l, u.oneCell' = true := fun u hu => u8v_one l u (by simpa [idC, u8s] using hu)
theorem idC_agg {l : Txt} {v : Value} (h : v = .agg (u8s l)) : v = .agg (idC l).toArray := by rw [h]; simp [idC]
abbrev OwnIds (w : World) (base : Nat) (v : Value) (l : List Txt) : Prop := w.ownsRow base 28 32 v l.length (rowsOf idC l)
end Go.Proofs.Ytbhdfaadedlcfaa
/- Regions that draw their order, by what each operation leaves, whatever the order: for regions that lay memory amid calls. No condition; no program. -/
namespace Go.Proofs.Ytbhdfaadedlcfaa
open Go.RowKit
section
variable {P : Program} {ops : Array Oper} {a0 : Act} {C : Array Bool → World → Prop} {R : Nat → Value → World → Prop} {Q : Exit → Act → World → Prop}
/-- What the operations that are listed so far have left. -/
structure Left (ops : Array Oper) (a0 : Act) (C : Array Bool → World → Prop) (R : Nat → Value → World → Prop) (listed : Array Bool) (a : Act) (w : World) : Prop where
  cls : C listed w
  size : listed.size = ops.size
  closed : ∀ i o, ops[i]? = some o → listed.getD i false = true → ∀ e ∈ o.after, Region.binds .any e = true → listed.getD e.on false = true
  tsize : a.tmps.size = a0.tmps.size
  defers : a.defers = a0.defers
  old : ∀ t : Nat, (∀ (i : Nat) o, ops[i]? = some o → listed.getD i false = true → o.dst ≠ some t) → a.tmps[t]? = a0.tmps[t]?
  new : ∀ (i : Nat) o (t : Nat), ops[i]? = some o → listed.getD i false = true → o.dst = some t → ∃ v, a.tmps[t]? = some v ∧ R i v w
/-- Each operation waits only for earlier ones; no two write one slot; the slots are there. -/
def acyc (ops : Array Oper) : Bool := (List.range ops.size).all fun i => match ops[i]? with
  | some o => o.after.all fun e => !Region.binds .any e || decide (e.on < i)
  | none => true
def apartB (ops : Array Oper) : Bool := (List.range ops.size).all fun i => (List.range ops.size).all fun j => decide (i = j) || match ops[i]?, ops[j]? with
  | some o, some q => match o.dst, q.dst with
    | some s, some t => decide (s ≠ t)
    | _, _ => true
  | _, _ => true
theorem acyc_spec (h : acyc ops = true) {i : Nat} {o : Oper} (ho : ops[i]? = some o) {e : Edge} (he : e ∈ o.after) (hb : Region.binds .any e = true) : e.on < i := by
  have hi := (Array.getElem?_eq_some_iff.1 ho).1
  have := List.all_eq_true.1 h i (List.mem_range.2 hi)
  rw [ho] at this
  have := Array.all_eq_true_iff_forall_mem.1 this e he
  rw [hb] at this
  simpa using this
theorem apart_spec (h : apartB ops = true) {i j : Nat} {o q : Oper} {t : Nat} (ho : ops[i]? = some o) (hq : ops[j]? = some q) (h1 : o.dst = some t) (h2 : q.dst = some t) : i = j := by
  have hi := (Array.getElem?_eq_some_iff.1 ho).1
  have hj := (Array.getElem?_eq_some_iff.1 hq).1
  have := List.all_eq_true.1 (List.all_eq_true.1 h i (List.mem_range.2 hi)) j (List.mem_range.2 hj)
  rw [ho, hq] at this
  simp only [h1, h2] at this
  simpa using this
theorem ready_spec {listed : Array Bool} {i : Nat} (h : i ∈ Region.ready .any ops listed) : i < ops.size ∧ listed.getD i true = false ∧ ∀ o, ops[i]? = some o → ∀ e ∈ o.after, Region.binds .any e = true → listed.getD e.on false = true := by
  unfold Region.ready at h
  rw [List.mem_filter, List.mem_range, Bool.and_eq_true] at h
  obtain ⟨h1, h2, h3⟩ := h
  refine ⟨h1, by simpa using h2, fun o ho e he hb => ?_⟩
  rw [ho] at h3
  simp only [Option.map_some, Option.getD_some] at h3
  have := Array.all_eq_true_iff_forall_mem.1 h3 e he
  simpa [hb] using this
theorem getD_of_size {listed : Array Bool} {i : Nat} (h : i < listed.size) : listed.getD i false = listed.getD i true := by
  simp [Array.getD, h]
/-- Where none is ready, all are listed. -/
theorem all_listed (hac : acyc ops = true) {listed : Array Bool} (hs : listed.size = ops.size) (h : Region.ready .any ops listed = []) : ∀ i, i < ops.size → listed.getD i false = true := by
  intro i
  induction i using Nat.strongRecOn with
  | ind i ih =>
    intro hi
    cases hl : listed.getD i false with
    | true => rfl
    | false =>
      have hmem : i ∈ Region.ready .any ops listed := by
        unfold Region.ready
        rw [List.mem_filter, List.mem_range, Bool.and_eq_true]
        have ho : ops[i]? = some ops[i] := Array.getElem?_eq_getElem hi
        refine ⟨hi, by rw [← getD_of_size (by omega), hl]; rfl, ?_⟩
        rw [ho]
        simp only [Option.map_some, Option.getD_some]
        rw [Array.all_eq_true_iff_forall_mem]
        intro e he
        cases hb : Region.binds .any e with
        | false => simp
        | true =>
          have h1 := acyc_spec hac ho he hb
          rw [ih e.on h1 (by omega)]
          simp
      rw [h] at hmem
      cases hmem
/-- How many are not listed. -/
def unlisted (listed : Array Bool) (n : Nat) : Nat := ((List.range n).filter fun i => !listed.getD i false).length
theorem unlisted_set {listed : Array Bool} {n i : Nat} (hi : i < n) (hs : listed.size = n) (hl : listed.getD i false = false) : unlisted (listed.setIfInBounds i true) n < unlisted listed n := by
  unfold unlisted
  have hsub : ((List.range n).filter fun j => !(listed.setIfInBounds i true).getD j false).Sublist ((List.range n).filter fun j => !listed.getD j false) := by
    have : ((List.range n).filter fun j => !(listed.setIfInBounds i true).getD j false) = (((List.range n).filter fun j => !listed.getD j false).filter fun j => decide (j ≠ i)) := by
      rw [List.filter_filter]
      apply List.filter_congr
      intro j hj
      have hj := List.mem_range.1 hj
      by_cases hji : j = i
      · subst hji
        simp [Array.getD, hs, hj]
      · have : (listed.setIfInBounds i true).getD j false = listed.getD j false := by
          simp [Array.getD, hs, hj, Array.getElem_setIfInBounds, Ne.symm hji]
        simp [this, hji]
    rw [this]
    exact List.filter_sublist
  rcases Nat.lt_or_ge ((List.range n).filter fun j => !(listed.setIfInBounds i true).getD j false).length ((List.range n).filter fun j => !listed.getD j false).length with h | h
  · exact h
  · exfalso
    have heq := hsub.eq_of_length_le h
    have hm : i ∈ ((List.range n).filter fun j => !listed.getD j false) := by
      rw [List.mem_filter, List.mem_range]
      exact ⟨hi, by rw [hl]; rfl⟩
    rw [← heq, List.mem_filter] at hm
    have := hm.2
    simp [Array.getD, hs, hi] at this
theorem getD_set {listed : Array Bool} {i j : Nat} (hi : i < listed.size) : (listed.setIfInBounds i true).getD j false = if j = i then true else listed.getD j false := by
  by_cases hj : j = i
  · subst hj
    simp [Array.getD, hi]
  · rw [if_neg hj]
    simp only [Array.getD, Array.size_setIfInBounds]
    split
    · rename_i h
      simp only [Array.getInternal_eq_getElem]
      rw [Array.getElem_setIfInBounds_ne _ (Ne.symm hj)]
    · rfl
theorem put_at {a : Act} {d : Option Tmp} {v : Value} {t : Nat} (h : d ≠ some t) : (a.put d v).tmps[t]? = a.tmps[t]? := by
  cases d with
  | none => rfl
  | some s =>
    have : s ≠ t := fun e => h (by rw [e])
    simp [Act.put, Array.getElem?_setIfInBounds, this]
theorem put_size (a : Act) (d : Option Tmp) (v : Value) : (a.put d v).tmps.size = a.tmps.size := by
  cases d <;> simp [Act.put]
theorem put_defers (a : Act) (d : Option Tmp) (v : Value) : (a.put d v).defers = a.defers := by
  cases d <;> simp [Act.put]
theorem Left.step {listed : Array Bool} {a : Act} {w w' : World} {i : Nat} {o : Oper} {v : Value} (hd : apartB ops = true) (hsz : ∀ (i : Nat) o (t : Nat), ops[i]? = some o → o.dst = some t → t < a0.tmps.size)
    (h : Left ops a0 C R listed a w) (hi : i ∈ Region.ready .any ops listed) (ho : ops[i]? = some o) (hR : R i v w') (hC : C (listed.setIfInBounds i true) w') (hst : ∀ j u, listed.getD j false = true → R j u w → R j u w') : Left ops a0 C R (listed.setIfInBounds i true) (a.put o.dst v) w' := by
  obtain ⟨hin, hil, hdep⟩ := ready_spec hi
  have his : i < listed.size := by rw [h.size]; exact hin
  refine ⟨hC, by rw [Array.size_setIfInBounds]; exact h.size, ?_, by rw [put_size]; exact h.tsize, by rw [put_defers]; exact h.defers, ?_, ?_⟩
  · intro j q hq hj e he hb
    rw [getD_set his]
    split
    · rfl
    · rw [getD_set his] at hj
      by_cases hji : j = i
      · subst hji
        rw [ho] at hq
        injection hq with hq
        subst hq
        exact hdep o ho e he hb
      · rw [if_neg hji] at hj
        exact h.closed j q hq hj e he hb
  · intro t ht
    have h1 : o.dst ≠ some t := ht i o ho (by rw [getD_set his, if_pos rfl])
    rw [put_at h1]
    refine h.old t fun j q hq hj => ht j q hq ?_
    rw [getD_set his]
    split
    · rfl
    · exact hj
  · intro j q t hq hj ht
    by_cases hji : j = i
    · subst hji
      rw [ho] at hq
      injection hq with hq
      subst hq
      refine ⟨v, ?_, hR⟩
      have hlt := hsz j o t ho ht
      rw [ht]
      simp [Act.put, h.tsize, hlt]
    · rw [getD_set his, if_neg hji] at hj
      obtain ⟨u, h1, h2⟩ := h.new j q t hq hj ht
      refine ⟨u, ?_, hst j u hj h2⟩
      rw [put_at (fun e => hji (apart_spec hd hq ho ht e))]
      exact h1
theorem wpAny_left (hac : acyc ops = true) (hd : apartB ops = true) (hsz : ∀ (i : Nat) o (t : Nat), ops[i]? = some o → o.dst = some t → t < a0.tmps.size)
    (hstep : ∀ i o listed a w, ops[i]? = some o → i ∈ Region.ready .any ops listed → Left ops a0 C R listed a w → wpOp P ops Q i (fun a' w' => ∃ v, a' = a.put o.dst v ∧ R i v w' ∧ C (listed.setIfInBounds i true) w' ∧ ∀ j u, listed.getD j false = true → R j u w → R j u w') a w)
    (hend : ∀ a w listed, Left ops a0 C R listed a w → (∀ i, i < ops.size → listed.getD i false = true) → Q .normal a w) :
    ∀ (fuel : Nat) (listed : Array Bool) (a : Act) (w : World), Left ops a0 C R listed a w → unlisted listed ops.size ≤ fuel → wpAny P .any ops Q fuel listed a w
  | 0, listed, a, w, h, hu => by
    have hall : ∀ i, i < ops.size → listed.getD i false = true := by
      intro i hi
      cases hl : listed.getD i false with
      | true => rfl
      | false =>
        have hm : i ∈ ((List.range ops.size).filter fun i => !listed.getD i false) := by
          rw [List.mem_filter, List.mem_range]
          exact ⟨hi, by rw [hl]; rfl⟩
        have := List.length_pos_of_mem hm
        unfold unlisted at hu
        omega
    refine ⟨?_, hend a w listed h hall⟩
    rw [List.eq_nil_iff_forall_not_mem]
    intro i hi
    obtain ⟨h1, h2, _⟩ := ready_spec hi
    rw [← getD_of_size (by rw [h.size]; exact h1), hall i h1] at h2
    cases h2
  | fuel + 1, listed, a, w, h, hu => by
    refine ⟨fun h0 => hend a w listed h (all_listed hac h.size h0), fun i hi => ?_⟩
    obtain ⟨h1, h2, _⟩ := ready_spec hi
    have ho : ops[i]? = some ops[i] := Array.getElem?_eq_getElem h1
    refine wpOp_mono ?_ (hstep i _ listed a w ho hi h)
    rintro a' w' ⟨v, rfl, hR, hC, hst⟩
    refine wpAny_left hac hd hsz hstep hend fuel _ _ _ (h.step hd hsz hi ho hR hC hst) ?_
    have := unlisted_set h1 h.size (by rw [getD_of_size (by rw [h.size]; exact h1)]; exact h2)
    omega
/-- The region's law. -/
theorem wp_region_listed {id : Nat} {w0 : World} (hm : P.follows .mixedOrders = true) (hac : acyc ops = true) (hd : apartB ops = true) (hsz : ∀ (i : Nat) o (t : Nat), ops[i]? = some o → o.dst = some t → t < a0.tmps.size)
    (hC : C (Array.replicate ops.size false) { w0 with drawn := w0.drawn + 1 })
    (hstep : ∀ i o listed a w, ops[i]? = some o → i ∈ Region.ready .any ops listed → Left ops a0 C R listed a w → wpOp P ops Q i (fun a' w' => ∃ v, a' = a.put o.dst v ∧ R i v w' ∧ C (listed.setIfInBounds i true) w' ∧ ∀ j u, listed.getD j false = true → R j u w → R j u w') a w)
    (hend : ∀ a w listed, Left ops a0 C R listed a w → (∀ i, i < ops.size → listed.getD i false = true) → Q .normal a w) : (Code.region id ops true).wp P Q a0 w0 := by
  refine wp_region_any hm (wpAny_left hac hd hsz hstep hend _ _ _ _ ⟨hC, by simp, ?_, rfl, rfl, fun _ _ => rfl, ?_⟩ ?_)
  · intro i o ho hl
    exfalso
    have hi := (Array.getElem?_eq_some_iff.1 ho).1
    simp [Array.getD, hi] at hl
  · intro i o t ho hl
    exfalso
    have hi := (Array.getElem?_eq_some_iff.1 ho).1
    simp [Array.getD, hi] at hl
  · unfold unlisted
    exact Nat.le_trans (List.length_filter_le _ _) (by simp)
/-- The same, where all that is left stays. -/
theorem wp_region_left {id : Nat} {w0 : World} (hm : P.follows .mixedOrders = true) (hac : acyc ops = true) (hd : apartB ops = true) (hsz : ∀ (i : Nat) o (t : Nat), ops[i]? = some o → o.dst = some t → t < a0.tmps.size)
    (hC : C (Array.replicate ops.size false) { w0 with drawn := w0.drawn + 1 })
    (hstep : ∀ i o listed a w, ops[i]? = some o → i ∈ Region.ready .any ops listed → Left ops a0 C R listed a w → wpOp P ops Q i (fun a' w' => ∃ v, a' = a.put o.dst v ∧ R i v w' ∧ C (listed.setIfInBounds i true) w' ∧ ∀ j u, R j u w → R j u w') a w)
    (hend : ∀ a w listed, Left ops a0 C R listed a w → (∀ i, i < ops.size → listed.getD i false = true) → Q .normal a w) : (Code.region id ops true).wp P Q a0 w0 :=
  wp_region_listed hm hac hd hsz hC (fun i o listed a w h1 h2 h3 => wpOp_mono (fun a' w' ⟨v, e, hR, hc, hs⟩ => ⟨v, e, hR, hc, fun j u _ => hs j u⟩) (hstep i o listed a w h1 h2 h3)) hend
/-- What an operation reads: as it was, or what an earlier one has left. -/
def oldB (ops : Array Oper) (i t : Nat) : Bool := (List.range ops.size).all fun j => match ops[j]? with
  | some q => decide (q.dst ≠ some t) || decide (j = i) || q.after.any fun e => Region.binds .any e && decide (e.on = i)
  | none => true
def newB (ops : Array Oper) (i j t : Nat) : Bool := match ops[i]?, ops[j]? with
  | some o, some q => decide (q.dst = some t) && o.after.any fun e => Region.binds .any e && decide (e.on = j)
  | _, _ => false
theorem Left.get_old {listed : Array Bool} {a : Act} {w : World} {i t : Nat} (h : Left ops a0 C R listed a w) (hi : i ∈ Region.ready .any ops listed) (hb : oldB ops i t = true) : a.eval (.tmp t) = a0.eval (.tmp t) := by
  obtain ⟨hin, hil, _⟩ := ready_spec hi
  have key : a.tmps[t]? = a0.tmps[t]? := by
    refine h.old t fun j q hq hj ht => ?_
    have hjn := (Array.getElem?_eq_some_iff.1 hq).1
    have h1 := List.all_eq_true.1 hb j (List.mem_range.2 hjn)
    rw [hq] at h1
    simp only [Bool.or_eq_true, decide_eq_true_eq] at h1
    rcases h1 with (h1 | h1) | h1
    · exact h1 ht
    · subst h1
      rw [getD_of_size (by rw [h.size]; exact hin), hil] at hj
      cases hj
    · rw [Array.any_eq_true'] at h1
      obtain ⟨e, he, h2⟩ := h1
      simp only [Bool.and_eq_true, decide_eq_true_eq] at h2
      have := h.closed j q hq hj e he h2.1
      rw [h2.2, getD_of_size (by rw [h.size]; exact hin), hil] at this
      cases this
  simp only [Act.eval, Array.getD_eq_getD_getElem?, key]
theorem Left.get_new {listed : Array Bool} {a : Act} {w : World} {i j t : Nat} (h : Left ops a0 C R listed a w) (hi : i ∈ Region.ready .any ops listed) (hb : newB ops i j t = true) : R j (a.eval (.tmp t)) w := by
  obtain ⟨hin, hil, hdep⟩ := ready_spec hi
  unfold newB at hb
  split at hb
  · rename_i o q ho hq
    simp only [Bool.and_eq_true, decide_eq_true_eq] at hb
    obtain ⟨h1, h2⟩ := hb
    rw [Array.any_eq_true'] at h2
    obtain ⟨e, he, h3⟩ := h2
    simp only [Bool.and_eq_true, decide_eq_true_eq] at h3
    have hj := hdep o ho e he h3.1
    rw [h3.2] at hj
    obtain ⟨v, h4, h5⟩ := h.new j q t hq hj h1
    simp only [Act.eval, Array.getD_eq_getD_getElem?, h4, Option.getD_some]
    exact h5
  · cases hb
def waitsB (ops : Array Oper) (j i : Nat) : Bool := match ops[j]? with
  | some q => q.after.any fun e => Region.binds .any e && decide (e.on = i)
  | none => false
/-- What waits for an operation is not listed ahead of it. -/
theorem Left.later {listed : Array Bool} {a : Act} {w : World} {i j : Nat} (h : Left ops a0 C R listed a w) (hi : i ∈ Region.ready .any ops listed) (hb : waitsB ops j i = true) : listed.getD j false = false := by
  obtain ⟨hin, hil, _⟩ := ready_spec hi
  cases hj : listed.getD j false with
  | false => rfl
  | true =>
    exfalso
    unfold waitsB at hb
    split at hb
    · rename_i q hq
      rw [Array.any_eq_true'] at hb
      obtain ⟨e, he, h2⟩ := hb
      simp only [Bool.and_eq_true, decide_eq_true_eq] at h2
      have := h.closed j q hq hj e he h2.1
      rw [h2.2, getD_of_size (by rw [h.size]; exact hin), hil] at this
      cases this
    · cases hb
theorem step_wp {i : Nat} {o : Oper} {a : Act} {w : World} {K : Act → World → Prop} (ho : ops[i]? = some o) (hg : o.guard = none) (h : o.wp P a w K Q) : wpOp P ops Q i K a w := by
  unfold wpOp
  rw [ho]
  simp only
  rw [if_pos (by simp [Region.wanted, hg])]
  exact .inl h
/-- A guarded one: it is done, or its slot is left without a value. -/
theorem step_wp_g {i : Nat} {o : Oper} {a : Act} {w : World} {K : Act → World → Prop} {j t : Nat} {q : Oper} {c want : Bool} (ho : ops[i]? = some o) (hg : o.guard = some (j, want)) (hq : ops[j]? = some q) (hdst : q.dst = some t)
    (hv : a.eval (.tmp t) = .bool c) (h1 : c = want → o.wp P a w K Q) (h0 : c ≠ want → K (a.put o.dst undef) w) : wpOp P ops Q i K a w := by
  have hy : yielded ops a.tmps j = some c := by
    unfold yielded
    simp only [Act.eval, Array.getD_eq_getD_getElem?] at hv
    rw [hq]
    simp only [Option.bind_some, hdst]
    cases h : a.tmps[t]? with
    | none => rw [h] at hv; simp [undef] at hv
    | some v => rw [h] at hv; simp only [Option.getD_some] at hv; subst hv; rfl
  unfold wpOp
  rw [ho]
  simp only
  by_cases hc : c = want
  · rw [if_pos (by simp [Region.wanted, hg, hy, hc])]
    exact .inl (h1 hc)
  · rw [if_neg (by simp [Region.wanted, hg, hy, hc])]
    exact h0 hc
def putAll (vs : Nat → Value) : List Oper → Nat → Act → Act
  | [], _, a => a
  | o :: l, k, a => putAll vs l (k + 1) (a.put o.dst (vs k))
theorem putAll_size (vs : Nat → Value) : ∀ (l : List Oper) (k : Nat) (a : Act), (putAll vs l k a).tmps.size = a.tmps.size
  | [], _, _ => rfl
  | o :: l, k, a => by rw [putAll, putAll_size vs l, put_size]
theorem putAll_defers (vs : Nat → Value) : ∀ (l : List Oper) (k : Nat) (a : Act), (putAll vs l k a).defers = a.defers
  | [], _, _ => rfl
  | o :: l, k, a => by rw [putAll, putAll_defers vs l, put_defers]
theorem putAll_old (vs : Nat → Value) {t : Nat} : ∀ (l : List Oper) (k : Nat) (a : Act), (∀ o ∈ l, o.dst ≠ some t) → (putAll vs l k a).tmps[t]? = a.tmps[t]?
  | [], _, _, _ => rfl
  | o :: l, k, a, h => by rw [putAll, putAll_old vs l _ _ (fun q hq => h q (by simp [hq])), put_at (h o (by simp))]
theorem putAll_new (vs : Nat → Value) {t : Nat} : ∀ (l : List Oper) (k : Nat) (a : Act) (i : Nat) (o : Oper), l[i]? = some o → o.dst = some t → t < a.tmps.size → (∀ j q, l[j]? = some q → q.dst = some t → j = i) → (putAll vs l k a).tmps[t]? = some (vs (k + i))
  | [], _, _, i, o, h, _, _, _ => by simp at h
  | q :: l, k, a, 0, o, h, ht, hlt, hu => by
    simp only [List.getElem?_cons_zero, Option.some.injEq] at h
    subst h
    rw [putAll, putAll_old vs l]
    · rw [ht]; simp [Act.put, hlt]
    · intro r hr hrt
      obtain ⟨j, hj⟩ := List.getElem?_of_mem hr
      have := hu (j + 1) r (by simpa using hj) hrt
      omega
  | q :: l, k, a, i + 1, o, h, ht, hlt, hu => by
    rw [putAll, putAll_new vs l (k + 1) _ i o (by simpa using h) ht (by rw [put_size]; exact hlt) (fun j r hj hr => by have := hu (j + 1) r (by simpa using hj) hr; omega)]
    congr 2
    omega
theorem act_ext {a b : Act} (h1 : a.tmps = b.tmps) (h2 : a.defers = b.defers) : a = b := by
  cases a; cases b; simp only at h1 h2; rw [h1, h2]
/-- Behind the region: the frame, written out. -/
theorem Left.frame {l : List Oper} {listed : Array Bool} {a : Act} {w : World} (hd : apartB l.toArray = true) (hsz : ∀ (i : Nat) o (t : Nat), l.toArray[i]? = some o → o.dst = some t → t < a0.tmps.size)
    (h : Left l.toArray a0 C R listed a w) (hall : ∀ i, i < l.toArray.size → listed.getD i false = true) :
    ∃ vs : Nat → Value, a = putAll vs l 0 a0 ∧ ∀ (i : Nat) o (t : Nat), l[i]? = some o → o.dst = some t → R i (vs i) w := by
  refine ⟨fun i => match l[i]? with | some o => (match o.dst with | some t => a.tmps.getD t undef | none => undef) | none => undef, ?_, ?_⟩
  · have h1 : a.defers = (putAll (fun i => match l[i]? with | some o => (match o.dst with | some t => a.tmps.getD t undef | none => undef) | none => undef) l 0 a0).defers := by rw [putAll_defers, h.defers]
    have h2 : a.tmps = (putAll (fun i => match l[i]? with | some o => (match o.dst with | some t => a.tmps.getD t undef | none => undef) | none => undef) l 0 a0).tmps := by
      apply Array.ext_getElem?
      intro t
      by_cases ht : ∃ (i : Nat) (o : Oper), l[i]? = some o ∧ o.dst = some t
      · obtain ⟨i, o, hl, hdst⟩ := ht
        have hla : l.toArray[i]? = some o := by simpa using hl
        have hin := (List.getElem?_eq_some_iff.1 hl).1
        obtain ⟨v, hv, _⟩ := h.new i o t hla (hall i (by simpa using hin)) hdst
        rw [putAll_new _ l 0 a0 i o hl hdst (hsz i o t hla hdst) (fun j q hj hq => apart_spec hd (by simpa using hj) hla hq hdst), hv]
        simp [hl, hdst, Array.getD_eq_getD_getElem?, hv]
      · rw [putAll_old _ l 0 a0 (fun o ho hdst => by
          obtain ⟨i, hi⟩ := List.getElem?_of_mem ho
          exact ht ⟨i, o, hi, hdst⟩)]
        exact h.old t fun i o hl _ hdst => ht ⟨i, o, by simpa using hl, hdst⟩
    exact act_ext h2 h1
  · intro i o t hl hdst
    have hla : l.toArray[i]? = some o := by simpa using hl
    have hin := (List.getElem?_eq_some_iff.1 hl).1
    obtain ⟨v, hv, hR⟩ := h.new i o t hla (hall i (by simpa using hin)) hdst
    simp only [hl, hdst, Array.getD_eq_getD_getElem?, hv, Option.getD_some]
    exact hR
def sizesB (ops : Array Oper) (n : Nat) : Bool := ops.all fun o => match o.dst with
  | some t => decide (t < n)
  | none => true
theorem sizes_spec {n : Nat} (h : sizesB ops n = true) (i : Nat) (o : Oper) (t : Nat) (ho : ops[i]? = some o) (hd : o.dst = some t) : t < n := by
  obtain ⟨hi, he⟩ := Array.getElem?_eq_some_iff.1 ho
  have := Array.all_eq_true_iff_forall_mem.1 h o (by rw [← he]; exact Array.getElem_mem hi)
  rw [hd] at this
  simpa using this
end
end Go.Proofs.Ytbhdfaadedlcfaa
/- Small laws for the steps of a region that draws its order. No condition; no program. -/
namespace Go.Proofs.Ytbhdfaadedlcfaa
open Go.RowKit
theorem slot_eval (a : Act) (t : Nat) : a.tmps[t]?.getD undef = a.eval (.tmp t) := by simp [Act.eval]
theorem wp_val' {P : Program} {o : Oper} {a : Act} {w w' : World} {v : Value} {K : Act → World → Prop} {Q : Exit → Act → World → Prop} (hrun : (execOp a.eval o).run P w = .ok (.value v) w') (hK : K (a.put o.dst v) w') : o.wp P a w K Q := by
  unfold Oper.wp
  rw [hrun]
  exact hK
theorem wp_val {P : Program} {o : Oper} {a : Act} {w : World} {v : Value} {K : Act → World → Prop} {Q : Exit → Act → World → Prop} (hrun : (execOp a.eval o).run P w = .ok (.value v) w) (hK : K (a.put o.dst v) w) : o.wp P a w K Q := wp_val' hrun hK
section
variable {P : Program} {ops : Array Oper} {a0 : Act} {C : Array Bool → World → Prop} {R : Nat → Value → World → Prop} {listed : Array Bool} {a : Act} {w : World} {i j k : Nat}
/-- What operation j waits for, if j is listed, is listed. -/
theorem Left.earlier (h : Left ops a0 C R listed a w) (hl : listed.getD j false = true) (hb : waitsB ops j k = true) : listed.getD k false = true := by
  unfold waitsB at hb
  split at hb
  · rename_i q hq
    rw [Array.any_eq_true'] at hb
    obtain ⟨e, he, h2⟩ := hb
    simp only [Bool.and_eq_true, decide_eq_true_eq] at h2
    have := h.closed j q hq hl e he h2.1
    rwa [h2.2] at this
  · cases hb
theorem Left.later2 (h : Left ops a0 C R listed a w) (hl : listed.getD k false = false) (hb : waitsB ops j k = true) : listed.getD j false = false := by
  cases hj : listed.getD j false with
  | false => rfl
  | true => have := h.earlier hj hb; rw [hl] at this; cases this
theorem Left.before (_ : Left ops a0 C R listed a w) (hi : i ∈ Region.ready .any ops listed) (hb : waitsB ops i j = true) : listed.getD j false = true := by
  unfold waitsB at hb
  split at hb
  · rename_i q hq
    rw [Array.any_eq_true'] at hb
    obtain ⟨e, he, h2⟩ := hb
    simp only [Bool.and_eq_true, decide_eq_true_eq] at h2
    have := (ready_spec hi).2.2 q hq e he h2.1
    rwa [h2.2] at this
  · cases hb
end
end Go.Proofs.Ytbhdfaadedlcfaa
/- Structs and slices written out, at operations written out. No condition; no program. -/
namespace Go.Proofs.Ytbhdfaadedlcfaa
open Go.RowKit
theorem lit_build {P : Program} {w : World} {ops : Array Oper} {rest : List Oper} {a : Act} {Q : Exit → Act → World → Prop} {d : Option Tmp} {T rt : TypeId} {pos : String} {af : Array Edge} {fs : Array (Nat × Operand)} (vals : List (Nat × Value)) (cs : Array Value) (hb : P.built T vals = some cs)
    (hv : (fs.map fun (i, x) => (i, a.eval x)).toList = vals) (h : wpList P ops Q rest (a.put d (.agg cs)) w) : wpList P ops Q ({ dst := d, op := .build T fs, type := rt, pos := pos, after := af, guard := none } :: rest) a w :=
  wpList_plain rfl fun _ hK => wp_build _ _ rfl (by rw [hv, hb]; rfl) (by rw [hv, hb]; exact hK _ _ h)
theorem lit_build1 {P : Program} {w : World} {ops : Array Oper} {rest : List Oper} {a : Act} {Q : Exit → Act → World → Prop} {d : Option Tmp} {T rt : TypeId} {pos : String} {af : Array Edge} {i0 : Nat} {x0 : Operand} {v0 : Value} {cs : Array Value} (hb : P.built T [(i0, v0)] = some cs)
    (h0 : a.eval x0 = v0) (h : wpList P ops Q rest (a.put d (.agg cs)) w) : wpList P ops Q ({ dst := d, op := .build T #[(i0, x0)], type := rt, pos := pos, after := af, guard := none } :: rest) a w :=
  lit_build [(i0, v0)] cs hb (by simp [h0]) h
theorem lit_build2 {P : Program} {w : World} {ops : Array Oper} {rest : List Oper} {a : Act} {Q : Exit → Act → World → Prop} {d : Option Tmp} {T rt : TypeId} {pos : String} {af : Array Edge} {i0 i1 : Nat} {x0 x1 : Operand} {v0 v1 : Value} {cs : Array Value} (hb : P.built T [(i0, v0), (i1, v1)] = some cs)
    (h0 : a.eval x0 = v0) (h1 : a.eval x1 = v1) (h : wpList P ops Q rest (a.put d (.agg cs)) w) : wpList P ops Q ({ dst := d, op := .build T #[(i0, x0), (i1, x1)], type := rt, pos := pos, after := af, guard := none } :: rest) a w :=
  lit_build [(i0, v0), (i1, v1)] cs hb (by simp [h0, h1]) h
theorem lit_build3 {P : Program} {w : World} {ops : Array Oper} {rest : List Oper} {a : Act} {Q : Exit → Act → World → Prop} {d : Option Tmp} {T rt : TypeId} {pos : String} {af : Array Edge} {i0 i1 i2 : Nat} {x0 x1 x2 : Operand} {v0 v1 v2 : Value} {cs : Array Value} (hb : P.built T [(i0, v0), (i1, v1), (i2, v2)] = some cs)
    (h0 : a.eval x0 = v0) (h1 : a.eval x1 = v1) (h2 : a.eval x2 = v2) (h : wpList P ops Q rest (a.put d (.agg cs)) w) : wpList P ops Q ({ dst := d, op := .build T #[(i0, x0), (i1, x1), (i2, x2)], type := rt, pos := pos, after := af, guard := none } :: rest) a w :=
  lit_build [(i0, v0), (i1, v1), (i2, v2)] cs hb (by simp [h0, h1, h2]) h
theorem lit_build4 {P : Program} {w : World} {ops : Array Oper} {rest : List Oper} {a : Act} {Q : Exit → Act → World → Prop} {d : Option Tmp} {T rt : TypeId} {pos : String} {af : Array Edge} {i0 i1 i2 i3 : Nat} {x0 x1 x2 x3 : Operand} {v0 v1 v2 v3 : Value} {cs : Array Value} (hb : P.built T [(i0, v0), (i1, v1), (i2, v2), (i3, v3)] = some cs)
    (h0 : a.eval x0 = v0) (h1 : a.eval x1 = v1) (h2 : a.eval x2 = v2) (h3 : a.eval x3 = v3) (h : wpList P ops Q rest (a.put d (.agg cs)) w) : wpList P ops Q ({ dst := d, op := .build T #[(i0, x0), (i1, x1), (i2, x2), (i3, x3)], type := rt, pos := pos, after := af, guard := none } :: rest) a w :=
  lit_build [(i0, v0), (i1, v1), (i2, v2), (i3, v3)] cs hb (by simp [h0, h1, h2, h3]) h
/-- A slice of one element of several cells. -/
theorem lit_slice1 {P : Program} {w : World} {ops : Array Oper} {rest : List Oper} {a : Act} {Q : Exit → Act → World → Prop} {d : Option Tmp} {rt : TypeId} {pos : String} {af : Array Edge} (x : Operand) {t e : TypeId} {z : Value} {size bytes : Nat} (hT : SliceTy P t e z size bytes) (cs : Array Value) (hcs : cs.size = size) (hsm : size ≤ 1000) (hx : a.eval x = .agg cs)
    (h : wpList P ops Q rest (a.put d (.slice (some ⟨w.heap.size, 0, none⟩) 1 1)) (w.alloc (.cells cs e))) :
    wpList P ops Q ({ dst := d, op := .buildSlice t 1 #[(0, x)], type := rt, pos := pos, after := af, guard := none } :: rest) a w :=
  wpList_plain rfl fun _ hK => by
    have e1 : ((#[(0, x)] : Array (Nat × Operand)).map fun (i, x) => (i, a.eval x)) = #[(0, .agg cs)] := by simp [hx]
    have hrun : (Instr.buildSlice t 1 #[(0, .agg cs)]).run P w = .ok (.slice (some ⟨w.heap.size, 0, none⟩) 1 1) (w.alloc (.cells cs e)) := by
      obtain ⟨it, hi, hz, hs, hb⟩ := hT.hi
      have h0 := hT.hsz
      refine run_buildSlice w _ _ 1 _ _ it _ hT.ht hi hz (by rw [hs]; omega) (by rw [hs]; omega) ?_
      rw [hs]
      have := Great.fill_whole (s := size) (by omega) [Value.agg cs] ((Array.range (1 * size)).map (z.cells[· % z.cells.size]!)) (by
        intro v hv
        simp at hv
        subst hv
        exact hcs) (by simp)
      simpa [Value.cells] using this
    unfold Oper.wp execOp
    simp only [Sem.run_bind, e1, hrun, Result.andThen_ok]
    exact hK _ _ h
/-- append of one element that was just laid. -/
theorem lit_append_new {P : Program} {ops : Array Oper} {rest : List Oper} {a : Act} {W : World} {Q : Exit → Act → World → Prop} {d : Option Tmp} {rt : TypeId} {pos : String} {af : Array Edge}
    (s x : Operand) (c : Nat) (t : TypeId) {e : TypeId} {z : Value} {size bytes : Nat} (hT : SliceTy P t e z size bytes) {base n : Nat} {v : Value} {xs : List Value} (hown : W.ownsRow base e size v n xs)
    (cs : Array Value) {t' : TypeId} (hl : cs.size = 1 * size) (h1 : ∀ u ∈ cs.toList, u.oneCell' = true) (h63 : n + 1 ≤ 9223372036854775807) (hbytes : (n + 1) * bytes ≤ 140737488355328) (hbase : base ≤ W.heap.size)
    (hs : a.eval s = v) (hx : a.eval x = .slice (some ⟨W.heap.size, 0, none⟩) 1 c)
    (h : ∀ v' w', w'.ownsRow base e size v' (n + 1) (xs ++ cs.toList) → Below base W w' → W.grownBy w' v.ownBlock → Newer W v v' → wpList P ops Q rest (a.put d v') w') :
    wpList P ops Q ({ dst := d, op := .call { callee := .builtin .append, args := #[s, x], argTypes := #[t, t] }, type := rt, pos := pos, after := af, guard := none } :: rest) a (W.alloc (.cells cs t')) := by
  have hb0 : Below W.heap.size W (W.alloc (.cells cs t')) := (Below.refl _ _).alloc (Nat.le_refl _) _
  have hown' := own_below hown hb0
  refine lit_append_at s x c t hT hown' (Blk.new W t' cs) hl h1 h63 hbytes (Nat.le_trans hbase hb0.size) hs hx ?_
  intro v' w' ho hg hn
  have hbel : Below base W w' := (hb0.mono hbase).grown hg (Nat.le_trans hbase hb0.size) (fun k hk => (World.ownsRow.lt hown' k hk).1)
  have hg' : W.grownBy w' v.ownBlock := ⟨hbel.os, hbel.tape, hbel.output, hbel.size, fun k hk hne => (hg.block k (Nat.lt_of_lt_of_le hk hb0.size) hne).trans (hb0.block k hk)⟩
  exact h v' w' ho hbel hg' ((Newer.refl W v).then_ hn hb0.size)
end Go.Proofs.Ytbhdfaadedlcfaa
/- Regions that draw their order and end in 'x.F = append(x.F, y)': what lies there at each stage. No condition; no program. -/
namespace Go.Proofs.Ytbhdfaadedlcfaa
open Go.RowKit
/-- Ahead of operation ap; behind it; behind operation st. -/
def Stage (ap st : Nat) (P1 P2 P3 : World → Prop) (listed : Array Bool) (w : World) : Prop :=
  if listed.getD st false = true then P3 w else if listed.getD ap false = true then P2 w else P1 w
section
variable {ap st i n : Nat} {P1 P2 P3 : World → Prop} {listed : Array Bool} {w w' : World}
theorem getD_other {l : Array Bool} {i j : Nat} (h : i ≠ j) : (l.setIfInBounds i true).getD j false = l.getD j false := by
  simp only [Array.getD_eq_getD_getElem?, Array.getElem?_setIfInBounds]
  rw [if_neg h]
theorem getD_here {l : Array Bool} {i : Nat} (h : i < l.size) : (l.setIfInBounds i true).getD i false = true := by
  simp [Array.getD_eq_getD_getElem?, Array.getElem?_setIfInBounds, h]
theorem getD_none (n i : Nat) : (Array.replicate n false).getD i false = false := by
  simp only [Array.getD_eq_getD_getElem?, Array.getElem?_replicate]
  split <;> rfl
theorem Stage.same (h : Stage ap st P1 P2 P3 listed w) (h1 : i ≠ ap) (h2 : i ≠ st) : Stage ap st P1 P2 P3 (listed.setIfInBounds i true) w := by
  unfold Stage at *
  rwa [getD_other h1, getD_other h2]
theorem Stage.start (h : P1 w) : Stage ap st P1 P2 P3 (Array.replicate n false) w := by
  unfold Stage
  rw [getD_none, getD_none, if_neg (by simp), if_neg (by simp)]
  exact h
theorem Stage.one (h : Stage ap st P1 P2 P3 listed w) (ha : listed.getD ap false = false) (hs : listed.getD st false = false) : P1 w := by
  unfold Stage at h
  rwa [ha, hs, if_neg (by simp), if_neg (by simp)] at h
theorem Stage.two (h : Stage ap st P1 P2 P3 listed w) (ha : listed.getD ap false = true) (hs : listed.getD st false = false) : P2 w := by
  unfold Stage at h
  rwa [ha, hs, if_neg (by simp), if_pos rfl] at h
theorem Stage.three (h : Stage ap st P1 P2 P3 listed w) (hs : listed.getD st false = true) : P3 w := by
  unfold Stage at h
  rwa [hs, if_pos rfl] at h
theorem Stage.to1 (h : P1 w) (ha : listed.getD ap false = false) (hs : listed.getD st false = false) (h1 : i ≠ ap) (h2 : i ≠ st) : Stage ap st P1 P2 P3 (listed.setIfInBounds i true) w := by
  unfold Stage
  rw [getD_other h1, getD_other h2, ha, hs, if_neg (by simp), if_neg (by simp)]
  exact h
theorem Stage.to2 (h : P2 w) (hs : listed.getD st false = false) (hi : ap < listed.size) (hne : ap ≠ st) : Stage ap st P1 P2 P3 (listed.setIfInBounds ap true) w := by
  unfold Stage
  rw [getD_other hne, getD_here hi, hs, if_neg (by simp), if_pos rfl]
  exact h
theorem Stage.to3 (h : P3 w) (hi : st < listed.size) : Stage ap st P1 P2 P3 (listed.setIfInBounds st true) w := by
  unfold Stage
  rw [getD_here hi, if_pos rfl]
  exact h
end
/-- What each operation leaves: a slice written out (li), what append gives (ap), else a value. -/
def StR (V : Nat → Value) (li ap : Nat) (L Q : Value → World → Prop) (i : Nat) (v : Value) (w : World) : Prop := if i = li then L v w else if i = ap then Q v w else v = V i
section
variable {V : Nat → Value} {li ap i : Nat} {L Q : Value → World → Prop} {v : Value} {w w' : World}
theorem StR.at_ (h : StR V li ap L Q i v w) (h1 : i ≠ li) (h2 : i ≠ ap) : v = V i := by
  unfold StR at h
  rwa [if_neg h1, if_neg h2] at h
theorem StR.mk (h1 : i ≠ li) (h2 : i ≠ ap) (h : v = V i) : StR V li ap L Q i v w := by
  unfold StR
  rwa [if_neg h1, if_neg h2]
theorem StR.lit (h : StR V li ap L Q li v w) : L v w := by
  unfold StR at h
  rwa [if_pos rfl] at h
theorem StR.mkLit (h : L v w) : StR V li ap L Q li v w := by
  unfold StR
  rwa [if_pos rfl]
theorem StR.app (h : StR V li ap L Q ap v w) (hne : ap ≠ li) : Q v w := by
  unfold StR at h
  rwa [if_neg hne, if_pos rfl] at h
theorem StR.mkApp (h : Q v w) (hne : ap ≠ li) : StR V li ap L Q ap v w := by
  unfold StR
  rwa [if_neg hne, if_pos rfl]
theorem StR.keepL (hL : ∀ v, L v w → L v w') (hne : i ≠ ap) (h : StR V li ap L Q i v w) : StR V li ap L Q i v w' := by
  unfold StR at *
  split
  · rename_i hj; rw [if_pos hj] at h; exact hL v h
  · rename_i hj
    rw [if_neg hj, if_neg hne] at h
    first
      | exact h
      | (rw [if_neg hne]; exact h)
theorem StR.keepN (h1 : i ≠ li) (h2 : i ≠ ap) (h : StR V li ap L Q i v w) : StR V li ap L Q i v w' := by
  unfold StR at *
  rwa [if_neg h1, if_neg h2] at *
theorem StR.keep (hL : ∀ v, L v w → L v w') (hQ : ∀ v, Q v w → Q v w') (j : Nat) (u : Value) (h : StR V li ap L Q j u w) : StR V li ap L Q j u w' := by
  unfold StR at *
  split
  · rename_i hj; rw [if_pos hj] at h; exact hL u h
  · rename_i hj
    rw [if_neg hj] at h
    split
    · rename_i hj2; rw [if_pos hj2] at h; exact hQ u h
    · rename_i hj2; rwa [if_neg hj2] at h
end
theorem wp_skip {P : Program} {o : Oper} {a : Act} {w w' : World} {K : Act → World → Prop} {Q : Exit → Act → World → Prop} (hrun : (execOp a.eval o).run P w = .ok .skip w') (hK : K (a.put o.dst undef) w') : o.wp P a w K Q := by
  unfold Oper.wp
  rw [hrun]
  exact hK
theorem map0 {a : Act} : (#[] : Array Operand).map a.eval = #[] := by simp
theorem map1 {a : Act} {x : Operand} {v : Value} (h : a.eval x = v) : #[x].map a.eval = #[v] := by simp [h]
theorem map2 {a : Act} {x y : Operand} {v u : Value} (h : a.eval x = v) (h2 : a.eval y = u) : #[x, y].map a.eval = #[v, u] := by simp [h, h2]
theorem map3 {a : Act} {x y z : Operand} {v u t : Value} (h : a.eval x = v) (h2 : a.eval y = u) (h3 : a.eval z = t) : #[x, y, z].map a.eval = #[v, u, t] := by simp [h, h2, h3]
/-- A call of a function whose contract is known. -/
theorem call_step {P : Program} {o : Oper} {a : Act} {w : World} {K : Act → World → Prop} {Q : Exit → Act → World → Prop} {f : FuncId} {args : Array Operand} {tys : Array TypeId} (ho : o.op = .call { callee := .value (.func f), args := args, argTypes := tys })
    {vals : Array Value} (hv : args.map a.eval = vals) (hcf : (callFunc f vals).run P w = .ok (.enter f vals) w) {R : Ending → World → Prop} (hc : Calls P f vals w R) (hK : ∀ e w', R e w' → ∃ v, e = .returned v ∧ K (a.put o.dst v) w') : o.wp P a w K Q := by
  subst hv
  unfold Oper.wp execOp
  simp only [ho]
  go_simp
  refine hc.mono ?_
  intro e w' hR
  obtain ⟨v, rfl, hk⟩ := hK e w' hR
  exact hk
/-- A struct is written out. -/
theorem build_step {P : Program} {o : Oper} {a : Act} {w : World} {K : Act → World → Prop} {Q : Exit → Act → World → Prop} {T : TypeId} {fs : Array (Nat × Operand)} (ho : o.op = .build T fs) {vals : List (Nat × Value)} {cs : Array Value} (hb : P.built T vals = some cs)
    (hv : (fs.map fun (i, x) => (i, a.eval x)).toList = vals) (h : K (a.put o.dst (.agg cs)) w) : o.wp P a w K Q :=
  wp_build _ _ ho (by rw [hv, hb]; rfl) (by rw [hv, hb]; exact h)
theorem parts1 {a : Act} {i : Nat} {x : Operand} {v : Value} (h : a.eval x = v) : ((#[(i, x)] : Array (Nat × Operand)).map fun (i, x) => (i, a.eval x)).toList = [(i, v)] := by simp [h]
theorem parts2 {a : Act} {i j : Nat} {x y : Operand} {v u : Value} (h : a.eval x = v) (h2 : a.eval y = u) : ((#[(i, x), (j, y)] : Array (Nat × Operand)).map fun (i, x) => (i, a.eval x)).toList = [(i, v), (j, u)] := by simp [h, h2]
theorem parts3 {a : Act} {i j k : Nat} {x y z : Operand} {v u t : Value} (h : a.eval x = v) (h2 : a.eval y = u) (h3 : a.eval z = t) : ((#[(i, x), (j, y), (k, z)] : Array (Nat × Operand)).map fun (i, x) => (i, a.eval x)).toList = [(i, v), (j, u), (k, t)] := by simp [h, h2, h3]
theorem slot_is {a : Act} {t : Nat} {v : Value} (h : a.tmps[t]?.getD undef = v) : a.eval (.tmp t) = v := (slot_eval a t).symm.trans h
/-- A field's block, the slice that it holds, and what else lies there. -/
structure F1 (B gO : Nat) (TO : TypeId) (cO : Array Value) (e : TypeId) (k : Nat) (ve : Value) (n : Nat) (xs : List Value) (I J : World → Prop) (w : World) : Prop where
  blk : Blk w gO TO cO
  own : w.ownsRow B e k ve n xs
  inv : I w
  pre : J w
  size : B ≤ w.heap.size
structure F2 (B gO : Nat) (TO : TypeId) (cO : Array Value) (I : World → Prop) (w : World) : Prop where
  blk : Blk w gO TO cO
  inv : I w
  size : B ≤ w.heap.size
def F3 (B gO off : Nat) (TO : TypeId) (cO : Array Value) (e : TypeId) (k : Nat) (n : Nat) (xs ys : List Value) (I : World → Prop) (w : World) : Prop :=
  ∃ v', Blk w gO TO (cO.setIfInBounds off v') ∧ w.ownsRow B e k v' (n + 1) (xs ++ ys) ∧ I w ∧ B ≤ w.heap.size
def LitR (B : Nat) (e : TypeId) (ve : Value) (ys : List Value) (v : Value) (w : World) : Prop := ∃ b, v = .slice (some ⟨b, 0, none⟩) 1 1 ∧ Blk w b e ys.toArray ∧ B ≤ b ∧ ve.ownBlock ≠ some b
def AppR (B : Nat) (e : TypeId) (k n : Nat) (xs ys : List Value) (v : Value) (w : World) : Prop := w.ownsRow B e k v (n + 1) (xs ++ ys)
section
variable {B gO off : Nat} {TO e : TypeId} {cO : Array Value} {k : Nat} {ve : Value} {n : Nat} {xs ys : List Value} {I J : World → Prop} {w w' : World}
theorem F1.below (h : F1 B gO TO cO e k ve n xs I J w) (hb : Below w.heap.size w w') (hI : I w') (hJ : J w') : F1 B gO TO cO e k ve n xs I J w' :=
  ⟨h.blk.below hb h.blk.lt, own_below h.own hb, hI, hJ, Nat.le_trans h.size hb.size⟩
theorem F1.far {S : List (Option Nat)} (h : F1 B gO TO cO e k ve n xs I J w) (hf : Far S w w') (hO : some gO ∉ S) (hS : ∀ k, some k ∈ S → k < B) (hI : I w') (hJ : J w') : F1 B gO TO cO e k ve n xs I J w' :=
  ⟨hf.blk h.blk hO, hf.own h.own (fun k hk hm => by have h1 := (World.ownsRow.lt h.own k hk).1; have h2 := hS k hm; omega), hI, hJ, Nat.le_trans h.size hf.size⟩
theorem LitR.below {v : Value} (h : LitR B e ve ys v w) (hb : Below w.heap.size w w') : LitR B e ve ys v w' := by
  obtain ⟨b, h1, h2, h3, h4⟩ := h
  exact ⟨b, h1, h2.below hb h2.lt, h3, h4⟩
theorem AppR.below {v : Value} (h : AppR B e k n xs ys v w) (hb : Below w.heap.size w w') : AppR B e k n xs ys v w' := own_below h hb
/-- Far-reaching: a block that is neither. -/
theorem LitR.set_ {v : Value} {p : Addr} (h : LitR B e ve ys v w) (hp : p.block < B) (u : Value) : LitR B e ve ys v (w.setCell p u) := by
  obtain ⟨b, h1, h2, h3, h4⟩ := h
  exact ⟨b, h1, h2.far (by omega) u, h3, h4⟩
theorem own_set {v : Value} {m : Nat} {zs : List Value} {p : Addr} (h : w.ownsRow B e k v m zs) (hp : p.block < B) (u : Value) : (w.setCell p u).ownsRow B e k v m zs := by
  refine Far.own (S := [some p.block]) ((Far.refl _ w).set_ (.inl (by simp)) u) h ?_
  intro q hq
  have := (World.ownsRow.lt h q hq).1
  simp; omega
variable {P : Program}
/-- The slice is written out. -/
theorem slice_step {a : Act} {o : Oper} {K : Act → World → Prop} {Q : Exit → Act → World → Prop} {x : Operand} {t : TypeId} {z : Value} {size bytes : Nat} (ho : o.op = .buildSlice t 1 #[(0, x)]) (hT : SliceTy P t e z size bytes) (hle : size ≤ 65536) (hy : ys.length = size) (hx : a.eval x = .agg ys.toArray ∨ (size = 1 ∧ ys = [a.eval x] ∧ (a.eval x).cells = #[a.eval x]))
    (h : K (a.put o.dst (.slice (some ⟨w.heap.size, 0, none⟩) 1 1)) (w.alloc (.cells ys.toArray e))) : o.wp P a w K Q := by
  obtain ⟨v, hv, hc⟩ : ∃ v, a.eval x = v ∧ v.cells.toList = ys := by
    rcases hx with hx | ⟨_, h2, h3⟩
    · exact ⟨_, hx, by simp [Value.cells]⟩
    · exact ⟨_, rfl, by rw [h3, h2]⟩
  have e1 : ((#[(0, x)] : Array (Nat × Operand)).map fun (i, x) => (i, a.eval x)) = #[(0, v)] := by simp [hv]
  have hrun : (Instr.buildSlice t 1 #[(0, v)]).run P w = .ok (.slice (some ⟨w.heap.size, 0, none⟩) 1 1) (w.alloc (.cells ys.toArray e)) := by
    obtain ⟨it, hi, hz, hs, hb⟩ := hT.hi
    have h0 := hT.hsz
    refine run_buildSlice w _ _ 1 _ _ it _ hT.ht hi hz (by rw [hs]; omega) (by rw [hs]; omega) ?_
    rw [hs]
    have := Great.fill_whole (s := size) (by omega) [v] ((Array.range (1 * size)).map (z.cells[· % z.cells.size]!)) (by
      intro u hu
      simp at hu
      subst hu
      rw [← Array.length_toList, hc]
      exact hy) (by simp)
    simpa [hc] using this
  unfold Oper.wp execOp
  simp only [ho, Sem.run_bind, e1, hrun, Result.andThen_ok]
  exact h
/-- It is appended. -/
theorem app_step {a : Act} {o : Oper} {K : Act → World → Prop} {Q : Exit → Act → World → Prop} {s x : Operand} {t : TypeId} {z : Value} {bytes : Nat} (ho : o.op = .call { callee := .builtin .append, args := #[s, x], argTypes := #[t, t] }) (hT : SliceTy P t e z k bytes)
    (h : F1 B gO TO cO e k ve n xs I J w) (hgO : gO < B) {v : Value} (hl : LitR B e ve ys v w) (hy : ys.length = k) (h1 : ∀ u ∈ ys, u.oneCell' = true) (h63 : n + 1 ≤ 9223372036854775807) (hbytes : (n + 1) * bytes ≤ 140737488355328)
    (hI : ∀ w', Below B w w' → I w') (hs : a.eval s = ve) (hx : a.eval x = v)
    (hK : ∀ v' w', F2 B gO TO cO I w' → AppR B e k n xs ys v' w' → (∀ u, LitR B e ve ys u w → LitR B e ve ys u w') → Below B w w' → K (a.put o.dst v') w') : o.wp P a w K Q := by
  obtain ⟨b, rfl, hb, hB, hne⟩ := hl
  refine wp_append_blk s x t ho e z k bytes hT B ve n xs hs h.own b 1 1 e ys.toArray hx hb (by simpa using hy) (by simpa using h1) h63 hbytes w (Below.refl _ _) h.size ?_
  intro v' w' hown hbel hgr
  refine hK v' w' ⟨(hbel.block gO hgO).trans h.blk, hI w' hbel, Nat.le_trans h.size hgr.size⟩ (by simpa [AppR] using hown) ?_ hbel
  rintro u ⟨b2, g1, g2, g3, g4⟩
  exact ⟨b2, g1, g2.grown hgr (fun e => g4 e.symm), g3, g4⟩
/-- It is stored. -/
theorem F2.stored (h : F2 B gO TO cO I w) {v : Value} (hv : AppR B e k n xs ys v w) (hgO : gO < B) (hI : I (w.setCell ⟨gO, off, none⟩ v)) : F3 B gO off TO cO e k n xs ys I (w.setCell ⟨gO, off, none⟩ v) :=
  ⟨v, h.blk.set_ off v, own_set hv hgO v, hI, by rw [World.size_setCell]; exact h.size⟩
theorem AppR.set_ {v : Value} {p : Addr} (h : AppR B e k n xs ys v w) (hp : p.block < B) (u : Value) : AppR B e k n xs ys v (w.setCell p u) := own_set h hp u
end
end Go.Proofs.Ytbhdfaadedlcfaa
/- Regions that draw their order, by a class that may speak of the frame too: 'x, y := f(..)' where x is laid amid the region. No condition; no program. -/
namespace Go.Proofs.Ytbhdfaadedlcfaa
open Go.RowKit
section
variable {P : Program} {ops : Array Oper} {a0 : Act} {C : Array Bool → Act → World → Prop} {R : Nat → Value → World → Prop} {Q : Exit → Act → World → Prop}
theorem Left.as {C C' : Array Bool → World → Prop} {listed : Array Bool} {a : Act} {w : World} (h : Left ops a0 C R listed a w) (hc : C' listed w) : Left ops a0 C' R listed a w := ⟨hc, h.size, h.closed, h.tsize, h.defers, h.old, h.new⟩
theorem wpAny_leftA (hac : acyc ops = true) (hd : apartB ops = true) (hsz : ∀ (i : Nat) o (t : Nat), ops[i]? = some o → o.dst = some t → t < a0.tmps.size)
    (hstep : ∀ i o listed a w, ops[i]? = some o → i ∈ Region.ready .any ops listed → Left ops a0 (fun l w => C l a w) R listed a w → wpOp P ops Q i (fun a' w' => ∃ v, a' = a.put o.dst v ∧ R i v w' ∧ C (listed.setIfInBounds i true) (a.put o.dst v) w' ∧ ∀ j u, listed.getD j false = true → R j u w → R j u w') a w)
    (hend : ∀ a w listed, Left ops a0 (fun l w => C l a w) R listed a w → (∀ i, i < ops.size → listed.getD i false = true) → Q .normal a w) :
    ∀ (fuel : Nat) (listed : Array Bool) (a : Act) (w : World), Left ops a0 (fun l w => C l a w) R listed a w → unlisted listed ops.size ≤ fuel → wpAny P .any ops Q fuel listed a w
  | 0, listed, a, w, h, hu => by
    have hall : ∀ i, i < ops.size → listed.getD i false = true := by
      intro i hi
      cases hl : listed.getD i false with
      | true => rfl
      | false =>
        have hm : i ∈ ((List.range ops.size).filter fun i => !listed.getD i false) := by
          rw [List.mem_filter, List.mem_range]
          exact ⟨hi, by rw [hl]; rfl⟩
        have := List.length_pos_of_mem hm
        unfold unlisted at hu
        omega
    refine ⟨?_, hend a w listed h hall⟩
    rw [List.eq_nil_iff_forall_not_mem]
    intro i hi
    obtain ⟨h1, h2, _⟩ := ready_spec hi
    rw [← getD_of_size (by rw [h.size]; exact h1), hall i h1] at h2
    cases h2
  | fuel + 1, listed, a, w, h, hu => by
    refine ⟨fun h0 => hend a w listed h (all_listed hac h.size h0), fun i hi => ?_⟩
    obtain ⟨h1, h2, _⟩ := ready_spec hi
    have ho : ops[i]? = some ops[i] := Array.getElem?_eq_getElem h1
    refine wpOp_mono ?_ (hstep i _ listed a w ho hi h)
    rintro a' w' ⟨v, rfl, hR, hC, hst⟩
    have h' : Left ops a0 (fun _ _ => True) R listed a w := h.as trivial
    have hs := (h'.step hd hsz hi ho hR trivial hst).as (C' := fun l w => C l (a.put ops[i].dst v) w) hC
    refine wpAny_leftA hac hd hsz hstep hend fuel _ _ _ hs ?_
    have := unlisted_set h1 h.size (by rw [getD_of_size (by rw [h.size]; exact h1)]; exact h2)
    omega
theorem wp_region_leftA {id : Nat} {w0 : World} (hm : P.follows .mixedOrders = true) (hac : acyc ops = true) (hd : apartB ops = true) (hsz : ∀ (i : Nat) o (t : Nat), ops[i]? = some o → o.dst = some t → t < a0.tmps.size)
    (hC : C (Array.replicate ops.size false) a0 { w0 with drawn := w0.drawn + 1 })
    (hstep : ∀ i o listed a w, ops[i]? = some o → i ∈ Region.ready .any ops listed → Left ops a0 (fun l w => C l a w) R listed a w → wpOp P ops Q i (fun a' w' => ∃ v, a' = a.put o.dst v ∧ R i v w' ∧ C (listed.setIfInBounds i true) (a.put o.dst v) w' ∧ ∀ j u, listed.getD j false = true → R j u w → R j u w') a w)
    (hend : ∀ a w listed, Left ops a0 (fun l w => C l a w) R listed a w → (∀ i, i < ops.size → listed.getD i false = true) → Q .normal a w) : (Code.region id ops true).wp P Q a0 w0 := by
  refine wp_region_any hm (wpAny_leftA (C := C) (R := R) hac hd hsz hstep hend _ _ _ _ ⟨hC, by simp, ?_, rfl, rfl, fun _ _ => rfl, ?_⟩ ?_)
  · intro i o ho hl
    exfalso
    have hi := (Array.getElem?_eq_some_iff.1 ho).1
    simp [Array.getD, hi] at hl
  · intro i o t ho hl
    exfalso
    have hi := (Array.getElem?_eq_some_iff.1 ho).1
    simp [Array.getD, hi] at hl
  · unfold unlisted
    exact Nat.le_trans (List.length_filter_le _ _) (by simp)
end
/-- A variable is laid by operation al into slot s, and written by operation st. -/
structure VarC (al st s : Nat) (T : TypeId) (B : Nat) (Z cs : Array Value) (I : World → Prop) (listed : Array Bool) (a : Act) (w : World) : Prop where
  inv : I w
  size : B ≤ w.heap.size
  at_ : listed.getD al false = true → ∃ b, a.eval (.tmp s) = .pointer (some ⟨b, 0, none⟩) ∧ B ≤ b ∧ Blk w b T (if listed.getD st false = true then cs else Z)
section
variable {al st s i : Nat} {T : TypeId} {B : Nat} {Z cs : Array Value} {I : World → Prop} {listed : Array Bool} {a : Act} {w w' : World}
theorem eval_put {d : Option Tmp} {v : Value} (h : d ≠ some s) : (a.put d v).eval (.tmp s) = a.eval (.tmp s) := by
  simp only [Act.eval, Array.getD_eq_getD_getElem?, put_at h]
theorem VarC.start {n : Nat} (hI : I w) (hB : B ≤ w.heap.size) : VarC al st s T B Z cs I (Array.replicate n false) a w := ⟨hI, hB, fun h => by rw [getD_none] at h; cases h⟩
theorem VarC.below (h : VarC al st s T B Z cs I listed a w) (h1 : i ≠ al) (h2 : i ≠ st) {d : Option Tmp} {v : Value} (hd : d ≠ some s) (hb : Below w.heap.size w w') (hI : I w') : VarC al st s T B Z cs I (listed.setIfInBounds i true) (a.put d v) w' :=
  ⟨hI, Nat.le_trans h.size hb.size, fun hl => by
    rw [getD_other h1] at hl
    rw [getD_other h2]
    obtain ⟨b, e1, e2, e3⟩ := h.at_ hl
    exact ⟨b, by rw [eval_put hd]; exact e1, e2, e3.below hb e3.lt⟩⟩
theorem VarC.same (h : VarC al st s T B Z cs I listed a w) (h1 : i ≠ al) (h2 : i ≠ st) {d : Option Tmp} {v : Value} (hd : d ≠ some s) : VarC al st s T B Z cs I (listed.setIfInBounds i true) (a.put d v) w := h.below h1 h2 hd (Below.refl _ _) h.inv
variable {P : Program} {o : Oper} {K : Act → World → Prop} {Q : Exit → Act → World → Prop}
theorem alloc_step (ho : o.op = .alloc T) (hz : (zeroValue T).run P w = .ok (.agg Z) w) (h : K (a.put o.dst (.pointer (some ⟨w.heap.size, 0, none⟩))) (w.alloc (.cells Z T))) : o.wp P a w K Q := by
  unfold Oper.wp execOp
  simp only [ho]
  go_simp
  exact h
theorem VarC.laid (h : VarC al st s T B Z cs I listed a w) (hs : listed.getD st false = false) (hne : al ≠ st) (ht : s < a.tmps.size) (hI : I (w.alloc (.cells Z T))) : VarC al st s T B Z cs I (listed.setIfInBounds al true) (a.put (some s) (.pointer (some ⟨w.heap.size, 0, none⟩))) (w.alloc (.cells Z T)) :=
  ⟨hI, by rw [size_alloc']; have := h.size; omega, fun _ => ⟨w.heap.size, by simp [Act.eval, Act.put, ht], h.size, by rw [getD_other hne, hs, if_neg (by simp)]; exact Blk.new _ _ _⟩⟩
theorem VarC.stored (h : VarC al st s T B Z cs I listed a w) (hl : listed.getD al false = true) (hs : listed.getD st false = false) (hi : st < listed.size) {y : Operand} (ho : o.op = .store T (.tmp s) y) (hy : a.eval y = .agg cs) (hsz : (P.info? T).map (·.size) = some cs.size) (hzc : Z.size = cs.size) (hone : cs.all (·.oneCell') = true) (hne : al ≠ st)
    (hd : o.dst = none) (hI : ∀ b, B ≤ b → I (w.setRow b cs)) (hK : ∀ w', (∃ b, B ≤ b ∧ b < w.heap.size ∧ w' = w.setRow b cs ∧ Blk w b T Z) → VarC al st s T B Z cs I (listed.setIfInBounds st true) (a.put o.dst undef) w' → K (a.put o.dst undef) w') : o.wp P a w K Q := by
  obtain ⟨b, e1, e2, e3⟩ := h.at_ hl
  rw [hs, if_neg (by simp)] at e3
  refine wp_store_row T (.tmp s) y ho b cs e1 hy T Z e3 hsz hzc hone (hK _ ⟨b, e2, e3.lt, rfl, e3⟩ ⟨hI b e2, by simpa using h.size, fun _ => ⟨b, by rw [hd]; exact e1, e2, ?_⟩⟩)
  rw [getD_here hi, if_pos rfl]
  exact setRow_heap _ _ _ _ _ _ e3
end
end Go.Proofs.Ytbhdfaadedlcfaa
