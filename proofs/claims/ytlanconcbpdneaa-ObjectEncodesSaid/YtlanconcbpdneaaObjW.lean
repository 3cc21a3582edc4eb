/- Layer 4 (object): the words. No condition. -/
import Derived.Test.YtlanconcbpdneaaObjP
import Derived.Test.YtlanconcbpdneaaZero
import Derived.Test.YtlanconcbpdneaaQuiet
import Derived.Test.YtlanconcbpdneaaElem
import Derived.Test.YtlanconcbpdneaaRowk
import Derived.Test.YtlanconcbpdneaaFar
import Derived.Deep.MidRow
namespace Go.Proofs.Ytlanconcbpdneaa
open Go.RowKit
def idC (l : Txt) : List Value := (u8s l).toList
def entC (e : EntL) : List Value := .string (B e.name) :: .int .i64 e.kind :: (u8s e.id).toList
def objC (o : ObjL) (ve vp : Value) : List Value := .int .i64 o.kind :: .string (B o.data) :: ve :: ((u8s o.tree).toList ++ (vp :: .int .u32 o.time :: .string (B o.text) :: ((u8s o.target).toList ++ [.int .i64 o.of_, .string (B o.name)])))
def linkC (l : LinkL) : List Value := (u8s l.id).toList ++ [.int .i64 l.kind]
structure EntOk (e : EntL) : Prop where
  id : e.id.length = 32
  name : e.name.length ≤ 9223372036854775807
  k1 : -9223372036854775808 ≤ e.kind
  k2 : e.kind ≤ 9223372036854775807
structure ObjOk (o : ObjL) : Prop where
  tree : o.tree.length = 32
  target : o.target.length = 32
  ents : ∀ e ∈ o.ents, EntOk e
  pars : ∀ p ∈ o.pars, p.length = 32
  data : o.data.length ≤ 9223372036854775807
  text : o.text.length ≤ 9223372036854775807
  name : o.name.length ≤ 9223372036854775807
  time : o.time < 4294967296
  k1 : -9223372036854775808 ≤ o.kind
  k2 : o.kind ≤ 9223372036854775807
  f1 : -9223372036854775808 ≤ o.of_
  f2 : o.of_ ≤ 9223372036854775807
theorem u8s_len (l : Txt) : (u8s l).toList.length = l.length := by simp [u8s]
theorem idC_len {l : Txt} (h : l.length = 32) : (idC l).length = 32 := by unfold idC; rw [u8s_len, h]
theorem entC_len {e : EntL} (h : EntOk e) : (entC e).length = 34 := by unfold entC; simp only [List.length_cons, u8s_len, h.id]
theorem objC_len {o : ObjL} (h : ObjOk o) (ve vp : Value) : (objC o ve vp).length = 72 := by
  unfold objC
  simp only [List.length_cons, List.length_append, u8s_len, h.tree, h.target, List.length_nil]
theorem linkC_len {l : LinkL} (h : l.id.length = 32) : (linkC l).length = 33 := by unfold linkC; simp [u8s_size, h]
/-- A slice value reads as these entries. -/
abbrev Ents (w : World) (v : Value) (l : List EntL) : Prop := SliceAt w 34 entC v l
abbrev Ids (w : World) (v : Value) (l : List Txt) : Prop := SliceAt w 32 idC v l
/-- A value reads as this object. -/
structure ObjV (w : World) (ve vp : Value) (o : ObjL) : Prop where
  ok : ObjOk o
  ents : Ents w ve o.ents
  pars : Ids w vp o.pars
theorem ObjV.below {w w' : World} {ve vp : Value} {o : ObjL} (h : ObjV w ve vp o) (hb : Below w.heap.size w w') : ObjV w' ve vp o := ⟨h.ok, h.ents.below hb, h.pars.below hb⟩
/-- One block holds an object's cells. -/
structure ObjB (w : World) (g : Nat) (o : ObjL) (ve vp : Value) : Prop where
  blk : Blk w g 28 (objC o ve vp).toArray
  tr : o.tree.length = 32
  ta : o.target.length = 32
section
variable {w : World} {g : Nat} {o : ObjL} {ve vp : Value}
theorem ObjB.drew (h : ObjB w g o ve vp) : ObjB w.drew g o ve vp := ⟨h.blk.drew, h.tr, h.ta⟩
theorem ObjB.below {w' : World} (h : ObjB w g o ve vp) (hb : Below w.heap.size w w') : ObjB w' g o ve vp := ⟨(hb.block g h.blk.lt).trans h.blk, h.tr, h.ta⟩
theorem ObjB.at_ (h : ObjB w g o ve vp) {i : Nat} {u : Value} (hu : (objC o ve vp)[i]? = some u) : w.cell? ⟨g, i, none⟩ = some u := by
  rw [h.blk.cell]
  simpa using hu
theorem app_right {α : Type} {a b : List α} {n i : Nat} (ha : a.length = n) (hi : n ≤ i) : (a ++ b)[i]? = b[i - n]? := by rw [List.getElem?_append_right (by omega), ha]
theorem obj_pars (h : o.tree.length = 32) : (objC o ve vp)[35]? = some vp := by
  show ((u8s o.tree).toList ++ _)[32]? = _
  rw [app_right (by rw [u8s_len, h]) (Nat.le_refl _)]; rfl
theorem obj_time (h : o.tree.length = 32) : (objC o ve vp)[36]? = some (.int .u32 o.time) := by
  show ((u8s o.tree).toList ++ _)[33]? = _
  rw [app_right (by rw [u8s_len, h]) (by omega)]; rfl
theorem obj_text (h : o.tree.length = 32) : (objC o ve vp)[37]? = some (.string (B o.text)) := by
  show ((u8s o.tree).toList ++ _)[34]? = _
  rw [app_right (by rw [u8s_len, h]) (by omega)]; rfl
theorem obj_of (h : o.tree.length = 32) (ht : o.target.length = 32) : (objC o ve vp)[70]? = some (.int .i64 o.of_) := by
  show ((u8s o.tree).toList ++ _)[67]? = _
  rw [app_right (by rw [u8s_len, h]) (by omega)]
  show ((u8s o.target).toList ++ _)[32]? = _
  rw [app_right (by rw [u8s_len, ht]) (by omega)]; rfl
theorem obj_name (h : o.tree.length = 32) (ht : o.target.length = 32) : (objC o ve vp)[71]? = some (.string (B o.name)) := by
  show ((u8s o.tree).toList ++ _)[68]? = _
  rw [app_right (by rw [u8s_len, h]) (by omega)]
  show ((u8s o.target).toList ++ _)[33]? = _
  rw [app_right (by rw [u8s_len, ht]) (by omega)]; rfl
theorem ObjB.kind (h : ObjB w g o ve vp) : w.cell? ⟨g, 0, none⟩ = some (.int .i64 o.kind) := h.at_ rfl
theorem ObjB.data (h : ObjB w g o ve vp) : w.cell? ⟨g, 1, none⟩ = some (.string (B o.data)) := h.at_ rfl
theorem ObjB.ents (h : ObjB w g o ve vp) : w.cell? ⟨g, 2, none⟩ = some ve := h.at_ rfl
theorem ObjB.pars (h : ObjB w g o ve vp) : w.cell? ⟨g, 35, none⟩ = some vp := h.at_ (obj_pars h.tr)
theorem ObjB.time (h : ObjB w g o ve vp) : w.cell? ⟨g, 36, none⟩ = some (.int .u32 o.time) := h.at_ (obj_time h.tr)
theorem ObjB.text (h : ObjB w g o ve vp) : w.cell? ⟨g, 37, none⟩ = some (.string (B o.text)) := h.at_ (obj_text h.tr)
theorem ObjB.of_ (h : ObjB w g o ve vp) : w.cell? ⟨g, 70, none⟩ = some (.int .i64 o.of_) := h.at_ (obj_of h.tr h.ta)
theorem ObjB.name (h : ObjB w g o ve vp) : w.cell? ⟨g, 71, none⟩ = some (.string (B o.name)) := h.at_ (obj_name h.tr h.ta)
theorem ObjB.whole (h : ObjB w g o ve vp) : w.rangeAt g 0 (objC o ve vp) := by
  have := range_blk h.blk
  simpa using this
theorem rangeAt_part {g o : Nat} {a b c : List Value} {n m : Nat} (h : w.rangeAt g o (a ++ (b ++ c))) (ha : a.length = n) (hm : o + n = m) : w.rangeAt g m b := fun j u hu => by
  have hj : j < b.length := (List.getElem?_eq_some_iff.1 hu).1
  have := h (n + j) u (by
    rw [List.getElem?_append_right (by omega), ha, Nat.add_sub_cancel_left, List.getElem?_append_left hj]
    exact hu)
  rwa [← Nat.add_assoc, hm] at this
theorem ObjB.tree (h : ObjB w g o ve vp) : w.rangeAt g 3 (u8s o.tree).toList := rangeAt_part (a := [.int .i64 o.kind, .string (B o.data), ve]) h.whole rfl rfl
theorem ObjB.target (h : ObjB w g o ve vp) : w.rangeAt g 38 (u8s o.target).toList := by
  have := h.whole
  have e : objC o ve vp = (.int .i64 o.kind :: .string (B o.data) :: ve :: ((u8s o.tree).toList ++ [vp, .int .u32 o.time, .string (B o.text)])) ++ ((u8s o.target).toList ++ [.int .i64 o.of_, .string (B o.name)]) := by
    unfold objC
    simp
  rw [e] at this
  exact rangeAt_part this (n := 38) (by simp [u8s_size, h.tr]) (by omega)
end
def ldvO (p : Addr) : Sem Value := loadVar 28 p
theorem ldvO_eq (p : Addr) : loadVar 28 p = ldvO p := rfl
def ldvE (p : Addr) : Sem Value := loadVar 45 p
theorem ldvE_eq (p : Addr) : loadVar 45 p = ldvE p := rfl
theorem szObj : (Try.prog.info? 28).map (·.size) = some 72 := by kernel_rfl
theorem szEnt : (Try.prog.info? 45).map (·.size) = some 34 := by kernel_rfl
theorem run_ldvI_at {w : World} {g o : Nat} {l : Txt} (h : w.rangeAt g o (u8s l).toList) (hl : l.length = 32) : (ldvI ⟨g, o, none⟩).run Try.prog w = .ok (.agg (u8s l)) w := by
  have := run_loadVar_mid (P := Try.prog) w g o 24 (u8s l).toList _ h Try.underlying24 rfl (by rw [u8s_len, hl]; exact sz32)
  rwa [Array.toArray_toList] at this
theorem run_ldvE {w : World} {g o : Nat} {x : EntL} (h : w.rangeAt g o (entC x)) (hx : EntOk x) : (ldvE ⟨g, o, none⟩).run Try.prog w = .ok (.agg (entC x).toArray) w :=
  run_loadVar_mid (P := Try.prog) w g o 45 (entC x) _ h Try.underlying45 rfl (by rw [entC_len hx]; exact szEnt)
theorem run_ldvO {w : World} {g : Nat} {o : ObjL} {ve vp : Value} (h : ObjB w g o ve vp) (ho : ObjOk o) : (ldvO ⟨g, 0, none⟩).run Try.prog w = .ok (.agg (objC o ve vp).toArray) w :=
  run_loadVar_mid (P := Try.prog) w g 0 28 (objC o ve vp) _ h.whole Try.underlying28 rfl (by rw [objC_len ho]; exact szObj)
theorem agg_eq {a b : Array Value} (h : a = b) : Value.agg a = Value.agg b := by rw [h]
end Go.Proofs.Ytlanconcbpdneaa
