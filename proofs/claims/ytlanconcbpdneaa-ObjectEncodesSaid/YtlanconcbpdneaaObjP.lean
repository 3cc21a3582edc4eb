/- Layer 4 (object): the plain law. No condition; no program. -/
import Derived.Test.YtlanconcbpdneaaBase
import Derived.Test.YtlanconcbpdneaaVarintP
namespace Go.Proofs.Ytlanconcbpdneaa
open Go.RowKit
abbrev Txt := List UInt8
structure EntL where
  name : Txt
  kind : Int
  id : Txt
structure ObjL where
  kind : Int
  data : Txt
  ents : List EntL
  tree : Txt
  pars : List Txt
  time : Nat
  text : Txt
  target : Txt
  of_ : Int
  name : Txt
structure LinkL where
  id : Txt
  kind : Int
def noId : Txt := List.replicate 32 0
def nameB (s : Txt) : Bool := decide (1 ≤ s.length) && decide (s.length ≤ 40) && s.all (fun c => !(c == 0) && !(c == 47))
def kindB (n : Int) : Bool := decide (1 ≤ n) && decide (n ≤ 4)
def entB (e : EntL) : Bool := nameB e.name && (e.kind == 1 || e.kind == 2)
def entAt (l : List EntL) (i : Nat) : Bool := match l[i]? with | none => true | some e => entB e && (match i with | 0 => true | k + 1 => match l[k]? with | none => true | some p => Op.bytesLess p.name e.name)
def entsB (l : List EntL) : Bool := (List.range l.length).all (entAt l) && decide (l.length ≤ 64)
def blobN (o : ObjL) : Bool := o.data.isEmpty
def treeN (o : ObjL) : Bool := o.ents.length == 0
def commitN (o : ObjL) : Bool := decide (o.tree = noId) && o.pars.length == 0 && o.time == 0 && o.text.isEmpty
def tagN (o : ObjL) : Bool := decide (o.target = noId) && o.of_ == 0 && o.name.isEmpty
def aloneB (o : ObjL) : Bool := if o.kind = 1 then treeN o && commitN o && tagN o else if o.kind = 2 then blobN o && commitN o && tagN o else if o.kind = 3 then blobN o && treeN o && tagN o else blobN o && treeN o && commitN o
def mayB (o : ObjL) : Bool := if o.kind = 2 then aloneB o && entsB o.ents else if o.kind = 3 then aloneB o && decide (o.pars.length ≤ 8) else if o.kind = 4 then aloneB o && kindB o.of_ && nameB o.name else o.kind == 1 && aloneB o
def byteK (n : Int) : UInt8 := UInt8.ofNat (n % 256).toNat
def textE (s : Txt) : Txt := put s.length ++ s
def entE (e : EntL) : Txt := byteK e.kind :: (textE e.name ++ e.id)
def entsE (l : List EntL) : Txt := (l.map entE).flatten
def commitE (o : ObjL) : Txt := o.tree ++ put o.pars.length ++ o.pars.flatten ++ put o.time ++ textE o.text
def tagE (o : ObjL) : Txt := byteK o.of_ :: (o.target ++ textE o.name)
/-- Ours. -/
def bodyO (o : ObjL) : Txt := if o.kind = 1 then o.data else if o.kind = 2 then entsE o.ents else if o.kind = 3 then commitE o else if o.kind = 4 then tagE o else []
/-- The document's. -/
def bodyR (o : ObjL) : Txt := o.data ++ entsE o.ents ++ (if o.kind = 3 then commitE o else if o.kind = 4 then tagE o else [])
def wholeO (o : ObjL) : Txt := byteK o.kind :: textE (bodyO o)
def encO (o : ObjL) : Option Txt := if mayB o = true ∧ (wholeO o).length ≤ 4096 then some (wholeO o) else none
theorem may_kind {o : ObjL} (h : mayB o = true) : o.kind = 1 ∨ o.kind = 2 ∨ o.kind = 3 ∨ o.kind = 4 := by
  unfold mayB at h
  split at h
  · exact .inr (.inl ‹_›)
  · split at h
    · exact .inr (.inr (.inl ‹_›))
    · split at h
      · exact .inr (.inr (.inr ‹_›))
      · simp at h; exact .inl h.1
theorem may_alone {o : ObjL} (h : mayB o = true) : aloneB o = true := by
  unfold mayB at h
  split at h
  · simp at h; exact h.1
  · split at h
    · simp at h; exact h.1
    · split at h
      · simp at h; exact h.1.1
      · simp at h; exact h.2
theorem blob_nil {o : ObjL} (h : blobN o = true) : o.data = [] := by unfold blobN at h; exact List.isEmpty_iff.1 h
theorem tree_nil {o : ObjL} (h : treeN o = true) : o.ents = [] := by unfold treeN at h; simpa using h
theorem commit_nil {o : ObjL} (h : commitN o = true) : o.text = [] := by unfold commitN at h; simp at h; exact h.2
theorem entsE_nil : entsE [] = [] := rfl
theorem body_same {o : ObjL} (h : mayB o = true) : bodyR o = bodyO o := by
  have ha := may_alone h
  unfold aloneB at ha
  unfold bodyR bodyO
  rcases may_kind h with hk | hk | hk | hk
  · rw [hk] at ha ⊢
    simp at ha
    rw [tree_nil ha.1.1]
    simp [entsE_nil]
  · rw [hk] at ha ⊢
    simp at ha
    rw [blob_nil ha.1.1]
    simp
  · rw [hk] at ha ⊢
    simp at ha
    rw [blob_nil ha.1.1, tree_nil ha.1.2]
    simp [entsE_nil]
  · rw [hk] at ha ⊢
    simp at ha
    rw [blob_nil ha.1.1, tree_nil ha.1.2]
    simp [entsE_nil]
theorem enc_data {o : ObjL} (h : 4096 < o.data.length) : encO o = none := by
  unfold encO
  rw [if_neg]
  rintro ⟨hm, hl⟩
  have hb := body_same hm
  have hw : (wholeO o).length ≥ (bodyO o).length := by unfold wholeO textE; simp; omega
  have : o.data.length ≤ (bodyR o).length := by unfold bodyR; simp only [List.length_append]; omega
  rw [hb] at this
  omega
theorem enc_text {o : ObjL} (h : 4096 < o.text.length) : encO o = none := by
  unfold encO
  rw [if_neg]
  rintro ⟨hm, hl⟩
  have hw : (wholeO o).length ≥ (bodyO o).length := by unfold wholeO textE; simp; omega
  have ha := may_alone hm
  unfold aloneB at ha
  have hn : commitN o = true → False := fun hc => by rw [commit_nil hc] at h; simp at h
  rcases may_kind hm with hk | hk | hk | hk
  · rw [hk] at ha; simp at ha; exact hn ha.1.2
  · rw [hk] at ha; simp at ha; exact hn ha.1.2
  · have : o.text.length ≤ (bodyO o).length := by unfold bodyO; rw [hk]; simp [commitE, textE]; omega
    omega
  · rw [hk] at ha; simp at ha; exact hn ha.2
def linksL (o : ObjL) : List LinkL := if o.kind = 2 then o.ents.map (fun e => ⟨e.id, e.kind⟩) else if o.kind = 3 then ⟨o.tree, 2⟩ :: o.pars.map (fun p => ⟨p, 3⟩) else if o.kind = 4 then [⟨o.target, o.of_⟩] else []
theorem entsE_snoc (l : List EntL) (e : EntL) : entsE (l ++ [e]) = entsE l ++ entE e := by simp [entsE]
theorem take_snoc {α : Type} {l : List α} {k : Nat} {x : α} (h : l[k]? = some x) : l.take (k + 1) = l.take k ++ [x] := by rw [List.take_add_one, h]; rfl
theorem entsE_take {l : List EntL} {k : Nat} {e : EntL} (h : l[k]? = some e) : entsE (l.take (k + 1)) = entsE (l.take k) ++ entE e := by rw [take_snoc h, entsE_snoc]
theorem flat_take {l : List Txt} {k : Nat} {x : Txt} (h : l[k]? = some x) : (l.take (k + 1)).flatten = (l.take k).flatten ++ x := by rw [take_snoc h]; simp
theorem name_len {s : Txt} (h : nameB s = true) : s.length ≤ 40 := by unfold nameB at h; simp at h; exact h.1.2
theorem ents_fine {l : List EntL} (h : entsB l = true) : l.length ≤ 64 ∧ ∀ e ∈ l, nameB e.name = true ∧ (e.kind = 1 ∨ e.kind = 2) := by
  unfold entsB at h
  rw [Bool.and_eq_true, List.all_eq_true] at h
  refine ⟨of_decide_eq_true h.2, fun e he => ?_⟩
  obtain ⟨i, hi, rfl⟩ := List.getElem_of_mem he
  have h1 := h.1 i (by simpa using hi)
  unfold entAt at h1
  rw [List.getElem?_eq_getElem hi] at h1
  simp only [Bool.and_eq_true] at h1
  have h2 := h1.1
  unfold entB at h2
  simp at h2
  exact h2
theorem entE_len {e : EntL} (h : e.name.length ≤ 40) (hi : e.id.length = 32) : (entE e).length ≤ 90 := by
  have := put_length e.name.length
  unfold entE textE
  simp only [List.length_cons, List.length_append]
  omega
theorem entsE_len {l : List EntL} (h : ∀ e ∈ l, e.name.length ≤ 40 ∧ e.id.length = 32) : (entsE l).length ≤ 90 * l.length := by
  induction l with
  | nil => simp [entsE]
  | cons e l ih =>
    have h1 := entE_len (h e (by simp)).1 (h e (by simp)).2
    have h2 := ih fun e he => h e (by simp [he])
    have : entsE (e :: l) = entE e ++ entsE l := by simp [entsE]
    rw [this]
    simp only [List.length_append, List.length_cons]
    omega
theorem flat_len {l : List Txt} (h : ∀ x ∈ l, x.length = 32) : l.flatten.length = 32 * l.length := by
  induction l with
  | nil => rfl
  | cons x l ih =>
    have h1 := h x (by simp)
    have h2 := ih fun x hx => h x (by simp [hx])
    simp only [List.flatten_cons, List.length_append, List.length_cons]
    omega
end Go.Proofs.Ytlanconcbpdneaa
