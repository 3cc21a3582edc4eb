/- Lemmas and walks of this seat, laid together: StoP, Rowk, Far, StitCl, StitBs, StrId, Zero, ObjW, Shelf, ObjN, Varint. -/
import Derived.Test.YtnehabcopjgklaaDoorMa
import Derived.Deep.MidRow
import Derived.Lib.AppendZerosOnto
import Derived.Maps.AppendAt
import Derived.Lib.SliceRun
import Derived.Shelf.Strings.Builder1
import Derived.Shelf.Strings.Builder2
import Derived.Shelf.Strings.OnBuilder
import Derived.Shelf.Small.Strs
import Derived.Shelf.Strings.BuilderF
import Derived.Shelf.Strings.BuilderK
import Derived.Shelf.Strings.Builder2Cap
import Derived.Shelf.Strings.Search1
import Derived.Shelf.Strings.Prefix
import Derived.Shelf.Bits.Mul64
import Derived.Shelf.Strings.Repeat
import Derived.Shelf.Strings.BuilderCap
import Derived.Test.YtnehabcopjgklaaDoorProg
/- What a store comes to, plain. No condition; no program. -/
namespace Go.Proofs.YtnehabcopjgklaaDoor
open Go.RowKit
/-- What an item of a store is: its text is an object's, its id its sum. -/
def StIs (x : StL) : Prop := x.id = shaOf x.text ∧ ∃ o, decO x.text = some o
/-- A store's items: rising by ids. -/
structure StoOk (s : List StL) : Prop where
  each : ∀ x ∈ s, StIs x
  sorted : SortedK StL.id s
  few : s.length ≤ 500000
theorem decO_len {t : Txt} {o : ObjL} (h : decO t = some o) : 1 ≤ t.length ∧ t.length ≤ 4096 := by
  unfold decO at h
  split at h
  · cases h
  · split at h
    · cases h
    · rename_i h2
      exact ⟨by simp, by omega⟩
theorem StIs.ok {x : StL} (h : StIs x) : StitOk x := by
  obtain ⟨o, ho⟩ := h.2
  have := decO_len ho
  exact ⟨by rw [h.1]; exact shaOf_length _, by omega⟩
theorem StoOk.ok {s : List StL} (h : StoOk s) : ∀ x ∈ s, StitOk x := fun x hx => (h.each x hx).ok
theorem StoOk.nil : StoOk [] := ⟨fun x hx => by simp at hx, List.Pairwise.nil, by simp⟩
/-- A text is put. -/
def putS (s : List StL) (t : Txt) : List StL := match decO t with
  | none => s
  | some _ => if hasK StL.id s (shaOf t) then s else insK StL.id s ⟨shaOf t, t⟩
def putI (t : Txt) : Txt := match decO t with
  | none => List.replicate 32 0
  | some _ => shaOf t
def putC (t : Txt) : Nat := match decO t with
  | none => 2
  | some _ => 0
theorem putS_eq (s : List StL) {t : Txt} (h : hasK StL.id s (shaOf t) = false) : insK StL.id s ⟨shaOf t, t⟩ = putK StL.id s ⟨shaOf t, t⟩ := by unfold putK; rw [h]; rfl
theorem StoOk.put {s : List StL} (h : StoOk s) (t : Txt) (hf : s.length < 500000) : StoOk (putS s t) := by
  unfold putS
  split
  · exact h
  · rename_i o ho
    split
    · exact h
    · rename_i hh
      rw [putS_eq s (by simpa using hh)]
      refine ⟨fun x hx => ?_, sorted_put h.sorted, Nat.le_trans putK_len (by omega)⟩
      rcases putK_mem hx with h1 | h1
      · exact h.each x h1
      · subst h1
        exact ⟨rfl, o, ho⟩
/-- What stands at an id. -/
def getS (s : List StL) (n : Txt) : Option StL := s.find? fun r => r.id == n
theorem hasK_atS {s : List StL} {n : Txt} {P : Nat} (h : hasK StL.id s n = true) (hG : getS s n = s[P]?) : (s[P]?).isSome = true := by
  rw [← hG]
  unfold getS
  unfold hasK at h
  rw [List.any_eq_true] at h
  obtain ⟨y, hy, hk⟩ := h
  rw [List.find?_isSome]
  exact ⟨y, hy, hk⟩
theorem getS_at {s : List StL} (h : StoOk s) (n : Txt) : getS s n = if hasK StL.id s n then s[posK StL.id s n]? else none := find_at h.sorted
end Go.Proofs.YtnehabcopjgklaaDoor
/- Rows of the call's own whose elements have several cells: written, element by element, and many at once; copy, clear, append of a make. No condition; no program. -/
namespace Go.Proofs.YtnehabcopjgklaaDoor
open Go.RowKit
section
variable {P : Program} {w w' : World} {g : Nat} {e : TypeId}
theorem Blk.setCells : ∀ (vs : List Value) (o : Nat) (w : World) (cur : Array Value), Blk w g e cur → ∃ cur', Blk (w.setCells g o vs) g e cur' ∧ cur'.size = cur.size
  | [], _, _, cur, h => ⟨cur, h, rfl⟩
  | v :: r, o, w, cur, h => by
    obtain ⟨cur', h1, h2⟩ := Blk.setCells r (o + 1) _ _ (h.set_ o v)
    exact ⟨cur', h1, by rw [h2, Array.size_setIfInBounds]⟩
theorem Blk.setCells_far {g' : Nat} (hne : g' ≠ g) : ∀ (vs : List Value) (o : Nat) (w : World) {cur : Array Value}, Blk w g' e cur → Blk (w.setCells g o vs) g' e cur
  | [], _, _, _, h => h
  | v :: r, o, w, _, h => Blk.setCells_far hne r (o + 1) _ (h.far (p := ⟨g, o, none⟩) hne v)
theorem below_setCells : ∀ (vs : List Value) (o : Nat) (w0 w : World) {base : Nat}, Below base w0 w → base ≤ g → Below base w0 (w.setCells g o vs)
  | [], _, _, _, _, h, _ => h
  | v :: r, o, w0, w, base, h, hg => below_setCells r (o + 1) w0 _ (h.setCell (p := ⟨g, o, none⟩) hg v) hg
theorem size_setCells : ∀ (vs : List Value) (o : Nat) (w : World), (w.setCells g o vs).heap.size = w.heap.size
  | [], _, _ => rfl
  | v :: r, o, w => by rw [World.setCells, size_setCells r]; exact World.size_setCell _ _ _
end
section
variable {α : Type} {P : Program} {w w' : World} {g : Nat} {e : TypeId} {k : Nat} {enc : α → List Value} {cap : Nat} {s t : List α}
/-- A row of the call's own: block g holds the elements' cells, one behind the other, and has room for cap. -/
structure Row (w : World) (g : Nat) (e : TypeId) (k : Nat) (enc : α → List Value) (cap : Nat) (s : List α) : Prop where
  blk : ∃ cur, Blk w g e cur ∧ cur.size = cap * k
  at_ : ∀ i x, s[i]? = some x → w.rangeAt g (i * k) (enc x)
  le : s.length ≤ cap
  top : cap ≤ maxLen
theorem Row.lt (h : Row w g e k enc cap s) : g < w.heap.size := by obtain ⟨cur, hb, _⟩ := h.blk; exact hb.lt
theorem Row.drew (h : Row w g e k enc cap s) : Row w.drew g e k enc cap s := ⟨h.blk, h.at_, h.le, h.top⟩
theorem Row.below (h : Row w g e k enc cap s) (hb : Below w.heap.size w w') : Row w' g e k enc cap s := by
  have hlt := h.lt
  obtain ⟨cur, hc, hs⟩ := h.blk
  exact ⟨⟨cur, hc.below hb hlt, hs⟩, fun i x hx => rangeAt_below (h.at_ i x hx) hlt hb, h.le, h.top⟩
theorem Row.alloc (h : Row w g e k enc cap s) (o : Obj) : Row (w.alloc o) g e k enc cap s := h.below ((Below.refl _ _).alloc (Nat.le_refl _) _)
theorem Row.cut (h : Row w g e k enc cap s) (n : Nat) : Row w g e k enc cap (s.take n) :=
  ⟨h.blk, fun i x hx => h.at_ i x (by rw [List.getElem?_take] at hx; split at hx; exact hx; cases hx), by have := h.le; simp; omega, h.top⟩
theorem Row.there (h : Row w g e k enc cap s) {o n : Nat} (hn : o + n ≤ cap * k) : w.there g o n := by
  obtain ⟨cur, hc, hs⟩ := h.blk
  intro j hj
  refine ⟨?_, hc.frozen _⟩
  rw [hc.cell, Array.getElem?_eq_getElem (by omega)]
  rfl
theorem Row.top63 (h : Row w g e k enc cap s) : cap ≤ 9223372036854775807 := by have := h.top; simpa [maxLen] using this
theorem Row.slice (h : Row w g e k enc cap s) : SliceAt w k enc (.slice (some ⟨g, 0, none⟩) s.length cap) s :=
  ⟨_, cap, rfl, h.le, h.top63, fun _ => ⟨g, 0, rfl, h.lt, fun i x hx => by rw [Nat.zero_add]; exact h.at_ i x hx⟩⟩
/-- Elements are written from place i on. -/
theorem Row.put (hk : ∀ x ∈ s, (enc x).length = k) (hkt : ∀ x ∈ t, (enc x).length = k) (h : Row w g e k enc cap s) {i : Nat} (hi : i ≤ s.length) (ht : i + t.length ≤ cap) :
    Row (w.setCells g (i * k) (rowsOf enc t)) g e k enc cap (s.take i ++ t ++ s.drop (i + t.length)) := by
  have hlen := rowsOf_length hkt
  obtain ⟨cur, hc, hs⟩ := h.blk
  obtain ⟨cur', hc', hs'⟩ := hc.setCells (rowsOf enc t) (i * k)
  have hroom : i * k + (rowsOf enc t).length ≤ cap * k := by
    rw [hlen, ← Nat.add_mul]
    exact Nat.mul_le_mul_right _ ht
  have hth : w.there g (i * k) (rowsOf enc t).length := h.there hroom
  refine ⟨⟨cur', hc', hs'.trans hs⟩, fun j x hx => ?_, ?_, h.top⟩
  · by_cases h1 : j < i
    · have hx' : s[j]? = some x := by
        rw [List.append_assoc, List.getElem?_append_left (by simp; omega), List.getElem?_take, if_pos h1] at hx
        exact hx
      refine World.rangeAt_setCells_apart (h.at_ j x hx') _ _ _ (.inr (.inl ?_))
      rw [hk x (List.mem_of_getElem? hx'), ← Nat.succ_mul]
      exact Nat.mul_le_mul_right _ h1
    · by_cases h2 : j < i + t.length
      · have hx' : t[j - i]? = some x := by
          rw [List.append_assoc, List.getElem?_append_right (by simp; omega), List.getElem?_append_left (by simp; omega)] at hx
          simpa [List.length_take, Nat.min_eq_left hi] using hx
        intro q u hu
        have hq := rowsOf_get hkt hx' hu
        have := World.rangeAt_setCells_same w g (i * k) (rowsOf enc t) hth _ u hq
        have e1 : i * k + ((j - i) * k + q) = j * k + q := by
          rw [← Nat.add_assoc, ← Nat.add_mul, show i + (j - i) = j from by omega]
        rwa [e1] at this
      · have hx' : s[j]? = some x := by
          rw [List.getElem?_append_right (by simp; omega), List.getElem?_drop] at hx
          rw [← hx]
          congr 1
          simp
          omega
        refine World.rangeAt_setCells_apart (h.at_ j x hx') _ _ _ (.inr (.inr ?_))
        rw [hlen, ← Nat.add_mul]
        exact Nat.mul_le_mul_right _ (by omega)
  · have := h.le
    simp
    omega
theorem Row.set (hk : ∀ x ∈ s, (enc x).length = k) (h : Row w g e k enc cap s) {i : Nat} (hi : i < s.length) {x : α} (hx : (enc x).length = k) : Row (w.setCells g (i * k) (enc x)) g e k enc cap (s.set i x) := by
  have := h.put hk (t := [x]) (fun y hy => by simp at hy; subst hy; exact hx) (i := i) (by omega) (by have := h.le; simp; omega)
  rw [rowsOf_one] at this
  rw [List.set_eq_take_append_cons_drop, if_pos hi]
  simpa using this
/-- Cells behind the first i elements are overwritten. -/
theorem Row.shed (hk : ∀ x ∈ s, (enc x).length = k) (h : Row w g e k enc cap s) (i : Nat) (zs : List Value) : Row (w.setCells g (i * k) zs) g e k enc cap (s.take i) := by
  obtain ⟨cur, hc, hs⟩ := h.blk
  obtain ⟨cur', hc', hs'⟩ := hc.setCells zs (i * k)
  refine ⟨⟨cur', hc', hs'.trans hs⟩, fun j x hx => ?_, ?_, h.top⟩
  · rw [List.getElem?_take] at hx
    split at hx
    · rename_i h1
      refine World.rangeAt_setCells_apart (h.at_ j x hx) _ _ _ (.inr (.inl ?_))
      rw [hk x (List.mem_of_getElem? hx), ← Nat.succ_mul]
      exact Nat.mul_le_mul_right _ h1
    · cases hx
  · have := h.le
    simp
    omega
theorem take_of_ranges (hk : ∀ x ∈ s, (enc x).length = k) {c : List Value} (hc : s.length * k ≤ c.length) (h : ∀ i x, s[i]? = some x → ∀ j u, (enc x)[j]? = some u → c[i * k + j]? = some u) : c.take (s.length * k) = rowsOf enc s := by
  induction s generalizing c with
  | nil => simp [rowsOf]
  | cons x s ih =>
    have hx := hk x (by simp)
    have h1 : c.take k = enc x := by
      refine List.ext_getElem? fun j => ?_
      rw [List.getElem?_take]
      split
      · rename_i hj
        have := h 0 x (by simp) j (enc x)[j] (List.getElem?_eq_getElem (by omega))
        rw [Nat.zero_mul, Nat.zero_add] at this
        rw [this, List.getElem?_eq_getElem (by omega)]
      · rw [List.getElem?_eq_none (by omega)]
    have h2 := ih (fun y hy => hk y (by simp [hy])) (c := c.drop k) (by simp only [List.length_cons, Nat.succ_mul] at hc; rw [List.length_drop]; omega) (fun i y hy j u hu => by
      rw [List.getElem?_drop]
      have := h (i + 1) y (by simpa using hy) j u hu
      rw [← this]
      congr 1
      rw [Nat.succ_mul]
      omega)
    simp only [List.length_cons, Nat.succ_mul, rowsOf, List.flatMap_cons] at *
    rw [Nat.add_comm, List.take_add, h1, h2]
theorem Row.own (hk : ∀ x ∈ s, (enc x).length = k) (h : Row w g e k enc cap s) {base : Nat} (hg : base ≤ g) : w.ownsRow base e k (.slice (some ⟨g, 0, none⟩) s.length cap) s.length (rowsOf enc s) := by
  obtain ⟨cur, hc, hs⟩ := h.blk
  have hle : s.length * k ≤ cap * k := Nat.mul_le_mul_right _ h.le
  refine ⟨rowsOf_length hk, .inr ⟨g, cap, cur, rfl, hg, hc, h.le, h.top, hs, take_of_ranges hk (by simpa [hs] using hle) fun i x hx j u hu => ?_⟩⟩
  have := h.at_ i x hx j u hu
  rw [hc.cell] at this
  rw [Array.getElem?_toList]
  exact this
/-- .. and back. -/
theorem Row.of_own {base : Nat} {v : Value} (hk : ∀ x ∈ s, (enc x).length = k) (h : w.ownsRow base e k v s.length (rowsOf enc s)) :
    (v = .slice none 0 0 ∧ s = []) ∨ ∃ g cap, v = .slice (some ⟨g, 0, none⟩) s.length cap ∧ base ≤ g ∧ Row w g e k enc cap s := by
  rcases h.2 with ⟨h1, h2⟩ | ⟨g, cap, cur, h1, h2, h3, h4, h5, h6, h7⟩
  · exact .inl ⟨h1, List.eq_nil_of_length_eq_zero h2⟩
  · refine .inr ⟨g, cap, h1, h2, ⟨cur, h3, h6⟩, fun i x hx j u hu => ?_, h4, h5⟩
    have hrow := rowsOf_get hk hx hu
    have hb : Blk w g e cur := h3
    rw [hb.cell, ← Array.getElem?_toList]
    rw [← h7, List.getElem?_take] at hrow
    split at hrow
    · exact hrow
    · cases hrow
/-- A row just laid, whose first cells are the elements'. -/
theorem Row.of_new (hk : ∀ x ∈ s, (enc x).length = k) (w : World) (zs : Array Value) (hs : s.length * k + zs.size = cap * k) (hle : s.length ≤ cap) (htop : cap ≤ maxLen) :
    Row (w.alloc (.cells ((rowsOf enc s).toArray ++ zs) e)) w.heap.size e k enc cap s := by
  have hb := Blk.new w e ((rowsOf enc s).toArray ++ zs)
  refine ⟨⟨_, hb, by rw [Array.size_append, List.size_toArray, rowsOf_length hk]; exact hs⟩, fun i x hx j u hu => ?_, hle, htop⟩
  have hrow := rowsOf_get hk hx hu
  have hlt : i * k + j < (rowsOf enc s).length := (List.getElem?_eq_some_iff.1 hrow).1
  rw [hb.cell, Array.getElem?_append_left (by simpa using hlt)]
  simpa using hrow
/-- copy, whatever the elements' size. -/
theorem run_copy_rows (w : World) (dT sT ty elem : TypeId) (b o dLen dCap : Nat) (a : Addr) (sLen sCap n : Nat) (cs : List Value)
    (hu : P.underlying dT = some (.slice elem)) (hs : (P.info? elem).map (·.size) = some k) (hn : n = Nat.min sLen dLen) (hl : cs.length = n * k)
    (hsrc : ∀ j v, cs[j]? = some v → w.cell? (a.add j) = some v) (ht : w.there b o cs.length) (h1 : ∀ v ∈ cs, v.oneCell' = true) :
    (Builtin.copy_ #[dT, sT] ty #[.slice (some ⟨b, o, none⟩) dLen dCap, .slice (some a) sLen sCap]).run P w = .ok (goInt n) (w.setCells b o cs) := by
  have hl' := run_loadCells_list (P := P) w a cs hsrc
  have hst := run_storeCells_cells (P := P) b o cs 0 w (fun j hj => (ht j hj).1) (fun j hj => (ht j hj).2) h1
  cases hq : P.info? elem with
  | none => simp [hq] at hs
  | some i =>
    have hi : i.size = k := by simpa [hq] using hs
    rw [hl] at hl'
    simp [Builtin.copy_, run_underlying hu, Builtin.lenOf, Builtin.firstCells, sizeOf, typeInfo, hq, hi, ← hn, hl', hst]
theorem run_clear_rows (w : World) (dT ty elem : TypeId) (z : Value) (b o n dCap : Nat) (hu : P.underlying dT = some (.slice elem)) (hz : (P.info? elem).map (·.zero) = some (some z)) (h0 : 0 < n)
    (ht : w.there b o (Builtin.zeroCells z.cells n).size) (h1 : ∀ v ∈ (Builtin.zeroCells z.cells n).toList, v.oneCell' = true) :
    (Builtin.clear_ #[dT] ty #[.slice (some ⟨b, o, none⟩) n dCap]).run P w = .ok (.tuple #[]) (w.setCells b o (Builtin.zeroCells z.cells n).toList) := by
  have hst := run_storeCells_cells (P := P) b o (Builtin.zeroCells z.cells n).toList 0 w (fun j hj => (ht j (by simpa using hj)).1) (fun j hj => (ht j (by simpa using hj)).2) h1
  obtain ⟨m, rfl⟩ : ∃ m, n = m + 1 := ⟨n - 1, by omega⟩
  cases hq : P.info? elem with
  | none => simp [hq] at hz
  | some i =>
    have hi : i.zero = some z := by simpa [hq] using hz
    rw [Nat.add_zero] at hst
    simp [Builtin.clear_, run_underlying hu, zeroValue, typeInfo, hq, hi]
    rw [hst]
    rfl
theorem rowsOf_find (hk : ∀ x ∈ s, (enc x).length = k) {j : Nat} {u : Value} (h : (rowsOf enc s)[j]? = some u) : ∃ i x q, s[i]? = some x ∧ (enc x)[q]? = some u ∧ j = i * k + q := by
  induction s generalizing j with
  | nil => simp [rowsOf] at h
  | cons y s ih =>
    have hy := hk y (by simp)
    simp only [rowsOf, List.flatMap_cons] at h
    by_cases hj : j < k
    · rw [List.getElem?_append_left (by omega)] at h
      exact ⟨0, y, j, rfl, h, by omega⟩
    · rw [List.getElem?_append_right (by omega), hy] at h
      obtain ⟨i, x, q, h1, h2, h3⟩ := ih (fun z hz => hk z (by simp [hz])) h
      exact ⟨i + 1, x, q, by simpa using h1, h2, by rw [Nat.succ_mul]; omega⟩
theorem SliceAt.news {v : Value} (hk : ∀ x ∈ s, (enc x).length = k) (h : SliceAt w k enc v s) {a : Addr} {n c : Nat} (hv : v = .slice (some a) n c) : ∀ j u, (rowsOf enc s)[j]? = some u → w.cell? (a.add j) = some u := by
  intro j u hu
  obtain ⟨i, x, q, h1, h2, h3⟩ := rowsOf_find hk hu
  obtain ⟨A, cap, rfl, _, _, hc⟩ := h
  have hi := (List.getElem?_eq_some_iff.1 h1).1
  obtain ⟨g, o, rfl, hg, hat⟩ := hc (by omega)
  injection hv with e1 _ _
  injection e1 with e1
  subst e1
  have := hat i x h1 q u h2
  rw [Addr.add_mid, h3, ← Nat.add_assoc]
  exact this
theorem rowsOf_one' (ho : ∀ x ∈ s, ∀ u ∈ enc x, u.oneCell' = true) : ∀ u ∈ rowsOf enc s, u.oneCell' = true := by
  intro u hu
  obtain ⟨x, hx, hux⟩ := List.mem_flatMap.1 hu
  exact ho x hx u hux
theorem zeroCells_one {z : Array Value} (hz : ∀ u ∈ z.toList, u.oneCell' = true) (n : Nat) : ∀ u ∈ (Builtin.zeroCells z n).toList, u.oneCell' = true := by
  intro u hu
  simp only [Builtin.zeroCells, Array.toList_map, List.mem_map] at hu
  obtain ⟨i, hi, rfl⟩ := hu
  have hlt : i % z.size < z.size := Nat.mod_lt _ (by
    rcases Nat.eq_zero_or_pos z.size with h0 | h0
    · rw [h0] at hi; simp at hi
    · exact h0)
  rw [getElem!_pos z _ hlt]
  exact hz _ (Array.getElem_mem_toList _)
theorem wp_clear_run (w : World) {o : Oper} {a : Act} {K : Act → World → Prop} {Q : Exit → Act → World → Prop} (d : Operand) (t : TypeId)
    (ho : o.op = .call { callee := .builtin .clear, args := #[d], argTypes := #[t] }) (v : Value) (hd : a.eval d = v) {v' : Value} {w' : World}
    (hr : (Builtin.clear_ #[t] o.type #[v]).run P w = .ok v' w') (h : K (a.put o.dst v') w') : o.wp P a w K Q := by
  unfold Oper.wp execOp
  simp only [ho, resolve, invoke, builtin, Sem.run_bind, Sem.run_pure, Result.andThen_ok, List.map_toArray, List.map_cons, List.map_nil, hd, hr]
  exact h
theorem wpList_clear_run (w : World) {ops : Array Oper} {rest : List Oper} {o : Oper} {a : Act} {Q : Exit → Act → World → Prop} (hgd : o.guard = none) (d : Operand) (t : TypeId)
    (ho : o.op = .call { callee := .builtin .clear, args := #[d], argTypes := #[t] }) (v : Value) (hd : a.eval d = v) {v' : Value} {w' : World}
    (hr : (Builtin.clear_ #[t] o.type #[v]).run P w = .ok v' w') (h : wpList P ops Q rest (a.put o.dst v') w') : wpList P ops Q (o :: rest) a w :=
  wpList_plain hgd fun _ hK => wp_clear_run w d t ho v hd hr (hK _ _ h)
theorem wp_copy_run (w : World) {o : Oper} {a : Act} {K : Act → World → Prop} {Q : Exit → Act → World → Prop} (d x : Operand) (t t' : TypeId)
    (ho : o.op = .call { callee := .builtin .copy, args := #[d, x], argTypes := #[t, t'] }) (v u : Value) (hd : a.eval d = v) (hs : a.eval x = u) {v' : Value} {w' : World}
    (hr : (Builtin.copy_ #[t, t'] o.type #[v, u]).run P w = .ok v' w') (h : K (a.put o.dst v') w') : o.wp P a w K Q := by
  unfold Oper.wp execOp
  simp only [ho, resolve, invoke, builtin, Sem.run_bind, Sem.run_pure, Result.andThen_ok, List.map_toArray, List.map_cons, List.map_nil, hd, hs, hr]
  exact h
theorem wpList_copy_run (w : World) {ops : Array Oper} {rest : List Oper} {o : Oper} {a : Act} {Q : Exit → Act → World → Prop} (hgd : o.guard = none) (d x : Operand) (t t' : TypeId)
    (ho : o.op = .call { callee := .builtin .copy, args := #[d, x], argTypes := #[t, t'] }) (v u : Value) (hd : a.eval d = v) (hs : a.eval x = u) {v' : Value} {w' : World}
    (hr : (Builtin.copy_ #[t, t'] o.type #[v, u]).run P w = .ok v' w') (h : wpList P ops Q rest (a.put o.dst v') w') : wpList P ops Q (o :: rest) a w :=
  wpList_plain hgd fun _ hK => wp_copy_run w d x t t' ho v u hd hs hr (hK _ _ h)
theorem step_copy_run {ops : Array Oper} {o : Oper} {a : Act} {w : World} {K : Act → World → Prop} {Q : Exit → Act → World → Prop} {E : Prop}
    (hg : o.guard = none) (d x : Operand) (dT sT : TypeId) (hop : o.op = Op.call { callee := Callee.builtin Builtin.copy, args := #[d, x], argTypes := #[dT, sT] })
    (v u : Value) (hd : a.eval d = v) (hx : a.eval x = u) {v' : Value} {w' : World} (hr : (Builtin.copy_ #[dT, sT] o.type #[v, u]).run P w = .ok v' w') (hK : K (a.put o.dst v') w') :
    if Region.wanted o (yielded ops a.tmps) = true then Oper.wp P o a w K Q else E := by
  have hw : Region.wanted o (yielded ops a.tmps) = true := by simp [Region.wanted, hg]
  rw [if_pos hw]
  exact wp_copy_run w d x dT sT hop v u hd hx hr hK
end
end Go.Proofs.YtnehabcopjgklaaDoor
/- What a call leaves as it was: all blocks but some. No condition; no program. -/
namespace Go.Proofs.YtnehabcopjgklaaDoor
open Go.RowKit
/-- All blocks of w but those of S are as they were; there may be new ones. -/
structure Far (S : List (Option Nat)) (w w' : World) : Prop where
  os : w'.os = w.os
  tape : w'.tape = w.tape
  output : w'.output = w.output
  size : w.heap.size ≤ w'.heap.size
  block : ∀ k, k < w.heap.size → some k ∉ S → w'.heap[k]? = w.heap[k]?
/-- The slice value v' lies where v lay, or in a new block. -/
def Newer (w : World) (v v' : Value) : Prop := v'.ownBlock = v.ownBlock ∨ ∀ k, v'.ownBlock = some k → w.heap.size ≤ k
section
variable {S T : List (Option Nat)} {w w0 w1 w2 w' : World} {g B : Nat} {t : TypeId} {cs : Array Value}
theorem Far.refl (S : List (Option Nat)) (w : World) : Far S w w := ⟨rfl, rfl, rfl, Nat.le_refl _, fun _ _ _ => rfl⟩
theorem Far.of_below (h : Below w.heap.size w w') : Far S w w' := ⟨h.os, h.tape, h.output, h.size, fun k hk _ => h.block k hk⟩
theorem Far.of_grown {row : Option Nat} (h : w.grownBy w' row) : Far [row] w w' := ⟨h.os, h.tape, h.output, h.size, fun k hk hn => h.block k hk (fun e => hn (by simp [e]))⟩
theorem Far.grown {row : Option Nat} (h : Far S w w') (hs : ∀ k, some k ∈ S → some k = row) : w.grownBy w' row := ⟨h.os, h.tape, h.output, h.size, fun k hk hn => h.block k hk (fun e => hn (hs k e))⟩
theorem Far.mono (h : Far S w w') (hs : ∀ k, some k ∈ S → some k ∈ T) : Far T w w' := ⟨h.os, h.tape, h.output, h.size, fun k hk hn => h.block k hk (fun e => hn (hs k e))⟩
theorem Far.then_ (h : Far S w w1) (h2 : Far T w1 w2) (hT : ∀ k, some k ∈ T → some k ∈ S ∨ w.heap.size ≤ k) : Far S w w2 :=
  ⟨h2.os.trans h.os, h2.tape.trans h.tape, h2.output.trans h.output, Nat.le_trans h.size h2.size, fun k hk hn => by
    refine (h2.block k (Nat.lt_of_lt_of_le hk h.size) fun e => ?_).trans (h.block k hk hn)
    rcases hT k e with h3 | h3
    · exact hn h3
    · omega⟩
theorem Far.trans (h : Far S w w1) (h2 : Far S w1 w2) : Far S w w2 := h.then_ h2 fun _ hk => .inl hk
theorem Far.more (h : Far S w w1) (h2 : Below w1.heap.size w1 w2) : Far S w w2 := h.trans (Far.of_below h2)
theorem Far.blk (h : Far S w w') (hb : Blk w g t cs) (hg : some g ∉ S) : Blk w' g t cs := (h.block g hb.lt hg).trans hb
theorem Far.own {base size n : Nat} {e : TypeId} {v : Value} {xs : List Value} (h : Far S w w') (ho : w.ownsRow base e size v n xs) (hv : ∀ k, v.ownBlock = some k → some k ∉ S) : w'.ownsRow base e size v n xs := by
  have hlt := World.ownsRow.lt ho
  refine ⟨ho.1, ?_⟩
  rcases ho.2 with hn | ⟨g, cap, cur, rfl, hb, hgg, rest⟩
  · exact .inl hn
  · exact .inr ⟨g, cap, cur, rfl, hb, (h.block g (hlt g rfl).2 (hv g rfl)).trans hgg, rest⟩
theorem Far.range {o : Nat} {cs : List Value} (h : Far S w w') (hr : w.rangeAt g o cs) (hlt : g < w.heap.size) (hg : some g ∉ S) : w'.rangeAt g o cs := fun j u hu => by
  rw [World.cell?_of_block (w := w) (h.block g hlt hg)]
  exact hr j u hu
theorem Far.below (h : Far S w w') (hB : B ≤ w.heap.size) (hS : ∀ k, some k ∈ S → B ≤ k) : Below B w w' :=
  ⟨h.os, h.tape, h.output, h.size, fun k hk => h.block k (Nat.lt_of_lt_of_le hk hB) fun e => by have := hS k e; omega⟩
theorem Far.drew (h : Far S w w') : Far S w w'.drew := ⟨h.os, h.tape, h.output, h.size, h.block⟩
theorem Far.drewN (h : Far S w w') (n : Nat) : Far S w (w'.drewN n) := ⟨h.os, h.tape, h.output, h.size, h.block⟩
theorem Far.alloc (h : Far S w w') (o : Obj) : Far S w (w'.alloc o) := h.more ((Below.refl _ _).alloc (Nat.le_refl _) o)
theorem Far.set_ (h : Far S w w') {p : Addr} (hp : some p.block ∈ S ∨ w.heap.size ≤ p.block) (v : Value) : Far S w (w'.setCell p v) :=
  ⟨h.os, h.tape, h.output, by rw [World.size_setCell]; exact h.size, fun k hk hn => by
    refine (Below.heap_setCell w' p v k fun e => ?_).trans (h.block k hk hn)
    rcases hp with hp | hp
    · exact hn (e ▸ hp)
    · omega⟩
theorem Far.cells (hg : some g ∈ S ∨ w.heap.size ≤ g) : ∀ (vs : List Value) (o : Nat) (w' : World), Far S w w' → Far S w (w'.setCells g o vs)
  | [], _, _, h => h
  | v :: r, o, w', h => Far.cells hg r (o + 1) _ (h.set_ (p := ⟨g, o, none⟩) hg v)
theorem Newer.refl (w : World) (v : Value) : Newer w v v := .inl rfl
theorem Newer.then_ {v v1 v2 : Value} (h : Newer w v v1) (h2 : Newer w1 v1 v2) (hs : w.heap.size ≤ w1.heap.size) : Newer w v v2 := by
  rcases h2 with h2 | h2
  · rcases h with h | h
    · exact .inl (h2.trans h)
    · exact .inr fun k hk => h k (h2 ▸ hk)
  · exact .inr fun k hk => Nat.le_trans hs (h2 k hk)
/-- A block that was there is no block of v', if it was none of v. -/
theorem Newer.ne {v v' : Value} (h : Newer w v v') (hg : g < w.heap.size) (hne : v.ownBlock ≠ some g) : v'.ownBlock ≠ some g := by
  rcases h with h | h
  · rwa [h]
  · intro e
    have := h g e
    omega
end
/-- append of a block's cells, and where the new slice lies. -/
theorem lit_append_at {P : Program} {ops : Array Oper} {rest : List Oper} {a : Act} {w : World} {Q : Exit → Act → World → Prop} {d : Option Tmp} {rt : TypeId} {pos : String} {af : Array Edge}
    (s x : Operand) (c : Nat) (t : TypeId) {e : TypeId} {z : Value} {size bytes : Nat} (hT : SliceTy P t e z size bytes) {base n : Nat} {v : Value} {xs : List Value} (hown : w.ownsRow base e size v n xs)
    {k m : Nat} {t' : TypeId} {cs : Array Value} (hcs : Blk w k t' cs) (hl : cs.size = m * size) (h1 : ∀ u ∈ cs.toList, u.oneCell' = true)
    (h63 : n + m ≤ 9223372036854775807) (hbytes : (n + m) * bytes ≤ 140737488355328) (hbase : base ≤ w.heap.size) (hs : a.eval s = v) (hx : a.eval x = .slice (some ⟨k, 0, none⟩) m c)
    (h : ∀ v' w', w'.ownsRow base e size v' (n + m) (xs ++ cs.toList) → w.grownBy w' v.ownBlock → Newer w v v' → wpList P ops Q rest (a.put d v') w') :
    wpList P ops Q ({ dst := d, op := .call { callee := .builtin .append, args := #[s, x], argTypes := #[t, t] }, type := rt, pos := pos, after := af, guard := none } :: rest) a w := by
  obtain ⟨i, i1, i2, i3, i4⟩ := hT.hi
  refine wpList_append_own_at w rfl s x t rfl base e i z size bytes hT.ht i1 i2 i3 i4 hT.hzs hT.hsz v n xs hs hown ⟨k, 0, none⟩ m c cs.toList hx (by simpa using hl) (news_of_blk hcs) h1 (by simp only [maxLen]; omega) hbytes hbase ?_
  intro v' w' hown' hg _ hat
  refine h v' w' hown' hg ?_
  rcases hat with hat | hat
  · exact .inl hat
  · refine .inr fun k hk => ?_
    rw [hat] at hk
    injection hk with hk
    omega
theorem grown_of_below {w w' : World} (h : Below w.heap.size w w') (row : Option Nat) : w.grownBy w' row := ⟨h.os, h.tape, h.output, h.size, fun k hk _ => h.block k hk⟩
/-- A variable just laid is given a whole value. -/
theorem lit_new {P : Program} {ops : Array Oper} {rest : List Oper} {a : Act} {w : World} {Q : Exit → Act → World → Prop} {d : Option Tmp} {rt : TypeId} {pos : String} {af : Array Edge}
    (ty : TypeId) (x y : Operand) (cs : Array Value) (k : Nat) (hk : (P.info? ty).map (·.size) = some k) (hcs : cs.size = k) (h1 : cs.all (·.oneCell') = true) (zs : Array Value) (hz : zs.size = k) (hx : a.eval x = .pointer (some ⟨w.heap.size, 0, none⟩)) (hy : a.eval y = .agg cs)
    (h : ∀ W1, Blk W1 w.heap.size ty cs → Below w.heap.size w W1 → wpList P ops Q rest (a.put d undef) W1) :
    wpList P ops Q ({ dst := d, op := .store ty x y, type := rt, pos := pos, after := af, guard := none } :: rest) a (w.alloc (.cells zs ty)) :=
  wpList_store_new rfl ty x y rfl cs zs hx hy (by rw [hcs]; exact hk) (hz.trans hcs.symm) h1 h
/-- A whole value in mid-block is loaded. -/
theorem lit_load {P : Program} {ops : Array Oper} {rest : List Oper} {a : Act} {w : World} {Q : Exit → Act → World → Prop} {d : Option Tmp} {rt : TypeId} {pos : String} {af : Array Edge}
    (ty : TypeId) (x : Operand) (b o : Nat) (cs : List Value) (td : TypeDesc) (hc : w.rangeAt b o cs) (hu : P.underlying ty = some td) (hag : td.isRow = true) (hk : (P.info? ty).map (·.size) = some cs.length) (hx : a.eval x = .pointer (some ⟨b, o, none⟩))
    (h : wpList P ops Q rest (a.put d (.agg cs.toArray)) w) : wpList P ops Q ({ dst := d, op := .load ty x, type := rt, pos := pos, after := af, guard := none } :: rest) a w :=
  wpList_load_mid rfl ty x rfl b o hx cs td hc hu hag hk h
theorem wpList_append_slice {P : Program} {w : World} {ops : Array Oper} {rest : List Oper} {o : Oper} {a : Act} {Q : Exit → Act → World → Prop} (hgd : o.guard = none) (s x : Operand) (t : TypeId)
    (ho : o.op = .call { callee := .builtin .append, args := #[s, x], argTypes := #[t, t] })
    (e : TypeId) (z : Value) (size bytes : Nat) (hT : SliceTy P t e z size bytes) (base : Nat) (v : Value) (n : Nat) (xs : List Value) (hs : a.eval s = v) (hown : w.ownsRow base e size v n xs)
    (ad : Addr) (m c : Nat) (news : List Value) (hx : a.eval x = .slice (some ad) m c) (hl : news.length = m * size) (hnews : ∀ j u, news[j]? = some u → w.cell? (ad.add j) = some u) (h1 : ∀ u ∈ news, u.oneCell' = true)
    (h63 : n + m ≤ 9223372036854775807) (hbytes : (n + m) * bytes ≤ 140737488355328) (w0 : World) (hb : Below base w0 w) (hbase : base ≤ w.heap.size)
    (h : ∀ v' w', w'.ownsRow base e size v' (n + m) (xs ++ news) → Below base w0 w' → wpList P ops Q rest (a.put o.dst v') w') : wpList P ops Q (o :: rest) a w :=
  wpList_plain hgd fun _ hK => by
    obtain ⟨i, i1, i2, i3, i4⟩ := hT.hi
    refine wp_append_own w s x t ho base e i z size bytes hT.ht i1 i2 i3 i4 hT.hzs hT.hsz v n xs hs hown ad m c news hx hl hnews h1 h63 hbytes hbase ?_
    intro v' w' hown' hg _
    exact hK _ _ (h v' w' hown' (hb.grown hg hbase (fun k hk => (World.ownsRow.lt hown k hk).1)))
end Go.Proofs.YtnehabcopjgklaaDoor
/- Slices of elements of several cells: the words, and slices.Clone. No condition. -/
namespace Go.Proofs.YtnehabcopjgklaaDoor
open Go.RowKit
def StitsOk (l : List StL) : Prop := ∀ r ∈ l, StitOk r
theorem stitK {l : List StL} (h : StitsOk l) : ∀ x ∈ l, (stitC x).length = 33 := fun x hx => stitC_len (h x hx)
theorem stitOne (l : List StL) : ∀ u ∈ rowsOf stitC l, u.oneCell' = true := rowsOf_one' fun x _ => stitC_one x
theorem szStit : (Tryd.prog.info? 71).map (·.size) = some 33 := by kernel_rfl
theorem sizedStit {r : StL} (h : StitOk r) : (Tryd.prog.info? 71).map (·.size) = some (stitC r).length := by rw [stitC_len h]; exact szStit
theorem stitC_size {r : StL} (h : StitOk r) : (stitC r).toArray.size = 1 * 33 := by rw [List.size_toArray, stitC_len h]
theorem stitC_all (r : StL) : ∀ u ∈ (stitC r).toArray.toList, u.oneCell' = true := by rw [List.toList_toArray]; exact stitC_one r
abbrev Stits (w : World) (v : Value) (l : List StL) : Prop := SliceAt w 33 stitC v l
abbrev OwnStits (w : World) (base : Nat) (v : Value) (l : List StL) : Prop := w.ownsRow base 71 33 v l.length (rowsOf stitC l)
theorem OwnStits.refs {w : World} {base : Nat} {v : Value} {l : List StL} (hok : StitsOk l) (h : OwnStits w base v l) : Stits w v l := SliceAt.of_own (stitK hok) h
theorem range_blkStit {w : World} {g : Nat} {r : StL} (h : Blk w g 71 (stitC r).toArray) : w.rangeAt g 0 (stitC r) := by
  have := range_blk h
  rwa [List.toList_toArray] at this
/-- A whole element is loaded: a word of its own, so that the walk does not open it. -/
def ldvStit (p : Addr) : Sem Value := loadVar 71 p
theorem ldvStit_eq (p : Addr) : loadVar 71 p = ldvStit p := rfl
theorem run_ldvStit {w : World} {g o : Nat} {x : StL} (h : w.rangeAt g o (stitC x)) (hx : StitOk x) : (ldvStit ⟨g, o, none⟩).run Tryd.prog w = .ok (.agg (stitC x).toArray) w :=
  run_loadVar_mid (P := Tryd.prog) w g o 71 (stitC x) _ h Tryd.underlying71 rfl (sizedStit hx)
theorem stitsOk_nil : StitsOk [] := fun x hx => by simp at hx
theorem stitsOk_one {o : List StL} (h : StitsOk o) {r : StL} (hr : StitOk r) : StitsOk (o ++ [r]) := by
  intro y hy
  rw [List.mem_append] at hy
  rcases hy with h1 | h1
  · exact h y h1
  · simp at h1; subst h1; exact hr
theorem stitsOk_take {s : List StL} (h : StitsOk s) (n : Nat) : StitsOk (s.take n) := fun y hy => h y (List.mem_of_mem_take hy)
theorem stitsOk_set {s : List StL} (h : StitsOk s) (i : Nat) {x : StL} (hx : StitOk x) : StitsOk (s.set i x) := by
  intro y hy
  rcases List.mem_or_eq_of_mem_set hy with h1 | rfl
  · exact h y h1
  · exact hx
theorem own_stit_more {w : World} {base : Nat} {v : Value} {o : List StL} {r : StL} (h : w.ownsRow base 71 33 v (o.length + 1) (rowsOf stitC o ++ (stitC r).toArray.toList)) : OwnStits w base v (o ++ [r]) := by
  unfold OwnStits
  rw [rowsOf_append, rowsOf_one, List.length_append]
  rwa [List.toList_toArray] at h
theorem OwnStits.of_row {w : World} {base g cap : Nat} {l : List StL} (hok : StitsOk l) (h : Row w g 71 33 stitC cap l) (hg : base ≤ g) {n : Nat} (hn : n = l.length) : OwnStits w base (.slice (some ⟨g, 0, none⟩) n cap) l := by
  subst hn
  exact h.own (stitK hok) hg
theorem zStit_cells : zStit.cells.size = 33 := rfl
theorem zStit_info : (Tryd.prog.info? 71).map (·.zero) = some (some zStit) := by
  obtain ⟨i, h1, h2, _⟩ := Tryd.stitTy.hi
  rw [h1]
  simp [h2]
theorem new_of_ownStit {w : World} {base : Nat} {v : Value} {l : List StL} (_ : OwnStits w base v l) (t : TypeId) (cs : Array Value) : Blk (w.alloc (.cells cs t)) w.heap.size t cs := Blk.new _ _ _
set_option maxRecDepth 100000 in
set_option maxHeartbeats 400000 in
theorem cloneStits_calls (l : List StL) (hok : StitsOk l) (hbig : l.length ≤ 1000000) (v : Value) (w : World) (hv : Stits w v l) :
    Calls Tryd.prog 35 #[v] w fun e w' => ∃ v', e = .returned v' ∧ OwnStits w' w.heap.size v' l ∧ Below w.heap.size w w' := by
  have hv0 := hv
  have q22 := fun (w : World) (a : Option Addr) (n c n' c' : Nat) => Lib.run_eql_slice_nil (P := Tryd.prog) w 61 _ a n c n' c' Tryd.underlying61
  obtain ⟨A, cap, rfl, hcap1, hcap2, hat⟩ := hv
  cases A with
  | none =>
    obtain rfl : l = [] := by
      cases l with
      | nil => rfl
      | cons x l => obtain ⟨g, o, h, _⟩ := hat (by simp); cases h
    clear hat hv0
    go_enter Tryd.func35, Tryd.ntmps35
    go_wp2
    go_ret
    exact ⟨_, rfl, World.ownsRow_nil _ _ _ _, Below.refl _ _⟩
  | some ad =>
    have hb0 : Below w.heap.size w (w.alloc (.cells #[] 71)) := (Below.refl _ _).alloc (Nat.le_refl _) _
    have hnews := (hv0.below hb0).news (stitK hok) rfl
    have hown0 : (w.alloc (.cells #[] 71)).ownsRow w.heap.size 71 33 (.slice (some ⟨w.heap.size, 0, none⟩) 0 0) 0 [] :=
      World.ownsRow_lit (size := 33) w #[] 0 (Nat.le_refl _) (by simp [maxLen]) rfl
    have hone := stitOne l
    have hl := rowsOf_length (stitK hok)
    clear hat hv0
    go_enter Tryd.func35, Tryd.ntmps35
    go_wp2_with (first
      | (at_builtin
         refine wpList_append_slice rfl (.tmp 5) (.tmp 6) _ rfl 71 _ 33 48 Tryd.stitTy w.heap.size _ 0 [] rfl hown0 ad l.length cap (rowsOf stitC l) rfl hl hnews hone (by omega) (by omega) w hb0 hb0.size ?_
         intro v' w' hown3 hbel3))
    go_ret
    refine ⟨_, rfl, ?_, hbel3⟩
    rw [Nat.zero_add, List.nil_append] at hown3
    exact hown3
end Go.Proofs.YtnehabcopjgklaaDoor
/- slices.BinarySearchFunc at items of a store. No condition. -/
namespace Go.Proofs.YtnehabcopjgklaaDoor
open Go.RowKit
attribute [local go_sem ↓] ldvStit_eq ldvI_eq
theorem bel_keep {w0 w : World} {f : FuncId} {args : Array Value} {v : Value} (hW : Below w0.heap.size w0 w) (h : Calls Tryd.prog f args w fun e w' => e = .returned v ∧ Below w.heap.size w w') :
    Calls Tryd.prog f args w fun e w' => e = .returned v ∧ Below w0.heap.size w0 w' := h.mono fun _ _ ⟨he, hb⟩ => ⟨he, bthen hW hW.size hb⟩
set_option maxRecDepth 100000 in
set_option maxHeartbeats 4000000 in
theorem bsfStits_calls (l : List StL) (hok : StitsOk l) (hbig : l.length ≤ 1000000) (v : Value) (w : World) (hv : Stits w v l) (f : FuncId) (hf : ∀ (a : Array Value) (W : World), (callFunc f a).run Tryd.prog W = .ok (.enter f a) W) (n : List UInt8) (hn : n.length = 32) (cmp : StL → Int)
    (hcl : ∀ (W : World) (x : StL), x ∈ l → Below w.heap.size w W → Calls Tryd.prog f #[.agg (stitC x).toArray, .agg (u8s n)] W fun e w' => e = .returned (.int .i64 (cmp x)) ∧ Below W.heap.size W w')
    (p : Nat) (hp : p ≤ l.length) (hcmp : ∀ i x, l[i]? = some x → (cmp x < 0 ↔ i < p)) :
    Calls Tryd.prog 45 #[v, .agg (u8s n), .func (.func f) #[] #[]] w fun e w' =>
      e = .returned (.tuple #[.int .i64 p, .bool (hitAt cmp l p)]) ∧ Below w.heap.size w w' := by
  obtain ⟨A, cap, rfl, hcap1, hcap2, hat⟩ := hv
  have hcmp := Lib.hid hcmp
  obtain ⟨b, hb⟩ : ∃ b, Hid (b = hitAt cmp l p) := ⟨_, Lib.hid rfl⟩
  rw [← hb.out]
  obtain ⟨W1, hW1⟩ : ∃ W1, w.alloc (.cells (u8s n) 24) = W1 := ⟨_, rfl⟩
  have hn1 : Blk W1 w.heap.size 24 (u8s n) := by rw [← hW1]; exact Blk.new _ _ _
  have bW1 : Below w.heap.size w W1 := by rw [← hW1]; exact (Below.refl _ _).alloc (Nat.le_refl _) _
  have hsI : (Tryd.prog.info? 24).map (·.size) = some (u8s n).toList.length := by rw [u8s_lenS, hn]; exact sz32
  obtain ⟨NC, hNC⟩ : ∃ NC, u8s n = NC := ⟨_, rfl⟩
  rw [hNC] at hW1 hn1 hsI hcl ⊢
  clear hNC
  go_enter Tryd.func45, Tryd.ntmps45
  go_wp2
  go_loopw [9, 10] (fun vi vj wr => ∃ lo hi : Nat, vi = .int .i64 lo ∧ vj = .int .i64 hi ∧ lo ≤ p ∧ p ≤ hi ∧ hi ≤ l.length ∧ Below W1.heap.size W1 wr) (fun vi vj _ => (intOf vj).toNat - (intOf vi).toNat)
  case atStart => exact ⟨0, l.length, rfl, rfl, by omega, hp, by omega, Below.refl _ _⟩
  case round =>
    obtain ⟨lo, hi, rfl, rfl, hlo, hhi, hle, hbel⟩ := hrel
    clear hW1
    by_cases hlt : lo < hi
    · have hli : (lo : Int) < (hi : Int) := by omega
      obtain ⟨m, hm⟩ : ∃ m : Nat, Hid (m = (lo + hi) / 2) := ⟨_, Lib.hid rfl⟩
      have hm2 : ((lo : Int) + (hi : Int)) / 2 = (m : Int) := by rw [hm.out]; omega
      have hml : m < l.length := by rw [hm.out]; omega
      have hmi : (m : Int) < (l.length : Int) := by omega
      have hmlo : lo ≤ m := by rw [hm.out]; omega
      have hmhi : m < hi := by rw [hm.out]; omega
      obtain ⟨g, o, rfl, hg, hcell⟩ := hat (by omega)
      obtain ⟨x, hx⟩ : ∃ x, l[m]? = some x := ⟨_, List.getElem?_eq_getElem hml⟩
      have hxm := List.mem_of_getElem? hx
      have hxok := hok x hxm
      have hxr := hcell m x hx
      have hc2 := fun W hb => hcl W x hxm hb
      have hd := hcmp.out m x hx
      clear hx hcell hat hcl
      go_wp2
      refine wp_region_class (C := fun W => Below W1.heap.size W1 W) (by kernel_rfl) (by kernel_rfl) hbel.drew ?_
      repeat
        first
          | ((with_reducible refine wpQuiet_ex ?_ ?_)
             · (go_simp; done)
             apply Exists.intro
             refine ⟨fun W hW => ?_, ?_⟩
             · have hb0 := bthen bW1 bW1.size hW
               have q0 := run_ldvStit (rangeAt_below hxr hg hb0) hxok
               have q1 : (ldvI ⟨w.heap.size, 0, none⟩).run Tryd.prog W = .ok (.agg NC) W := by
                 have := run_loadVar_mid (P := Tryd.prog) W w.heap.size 0 24 NC.toList _ (range_blk (hn1.below hW hn1.lt)) Tryd.underlying24 rfl hsI
                 rwa [Array.toArray_toList] at this
               have hkeep := bel_keep hW (hc2 W hb0)
               go_simp
               first
                 | rfl
                 | (with_reducible exact hkeep)
             simp only [Act.put, List.setIfInBounds_toArray, List.set_cons_zero, List.set_cons_succ])
          | ((with_reducible refine wpQuiet_pass ?_ ?_)
             · (first | rfl | (go_simp; done))
             simp only [Act.put, List.setIfInBounds_toArray, List.set_cons_zero, List.set_cons_succ])
      with_reducible refine wpQuiet_nil ?_
      intro w5 hW5
      by_cases hneg : cmp x < 0
      · have hmp : m < p := hd.1 hneg
        clear hd
        go_wp2
        go_roundw
        case rel => exact ⟨m + 1, hi, by go_num, rfl, by omega, hhi, hle, hW5⟩
        case measure => simp [intOf]; omega
      · have hmp : ¬ m < p := fun h => hneg (hd.2 h)
        clear hd
        go_wp2
        go_roundw
        case rel => exact ⟨lo, m, rfl, by go_num, hlo, by omega, by omega, hW5⟩
        case measure => simp [intOf]; omega
    · obtain rfl : lo = p := by omega
      obtain rfl : hi = lo := by omega
      by_cases hlp : hi < l.length
      · have hli : (hi : Int) < (l.length : Int) := by omega
        obtain ⟨g, o, rfl, hg, hcell⟩ := hat (by omega)
        obtain ⟨x, hx⟩ : ∃ x, l[hi]? = some x := ⟨_, List.getElem?_eq_getElem hlp⟩
        have hxm := List.mem_of_getElem? hx
        have hxok := hok x hxm
        have hxr := hcell hi x hx
        have hc2 := fun W hb => hcl W x hxm hb
        have hb' : Hid (b = decide (cmp x = 0)) := by show _ = _; rw [hb.out, hitAt_some hx]
        clear hx hcell hat hb hcl
        go_wp2
        refine wp_region_class (C := fun W => Below W1.heap.size W1 W) (by kernel_rfl) (by kernel_rfl) hbel.drew ?_
        repeat
          first
            | ((with_reducible refine wpQuiet_ex ?_ ?_)
               · (go_simp; done)
               apply Exists.intro
               refine ⟨fun W hW => ?_, ?_⟩
               · have hb0 := bthen bW1 bW1.size hW
                 have q0 := run_ldvStit (rangeAt_below hxr hg hb0) hxok
                 have q1 : (ldvI ⟨w.heap.size, 0, none⟩).run Tryd.prog W = .ok (.agg NC) W := by
                   have := run_loadVar_mid (P := Tryd.prog) W w.heap.size 0 24 NC.toList _ (range_blk (hn1.below hW hn1.lt)) Tryd.underlying24 rfl hsI
                   rwa [Array.toArray_toList] at this
                 have hkeep := bel_keep hW (hc2 W hb0)
                 go_simp
                 first
                   | rfl
                   | (with_reducible exact hkeep)
               simp only [Act.put, List.setIfInBounds_toArray, List.set_cons_zero, List.set_cons_succ])
            | ((with_reducible refine wpQuiet_pass ?_ ?_)
               · (first | rfl | (go_simp; done))
               simp only [Act.put, List.setIfInBounds_toArray, List.set_cons_zero, List.set_cons_succ])
        with_reducible refine wpQuiet_nil ?_
        intro w5 hW5
        go_wp2
        go_ret2
        exact ⟨by rw [hb'.out]; rfl, bthen bW1 bW1.size hW5⟩
      · have hli : ¬ (hi : Int) < (l.length : Int) := by omega
        have hb' : Hid (b = false) := by show _ = _; rw [hb.out, hitAt_none (by omega)]
        clear hb hat
        go_wp2
        refine wp_region_class (C := fun W => Below W1.heap.size W1 W) (by kernel_rfl) (by kernel_rfl) hbel.drew ?_
        repeat
          first
            | ((with_reducible refine wpQuiet_ex ?_ ?_)
               · (go_simp; done)
               apply Exists.intro
               refine ⟨fun W hW => ?_, ?_⟩
               · go_simp
                 first
                   | rfl
               simp only [Act.put, List.setIfInBounds_toArray, List.set_cons_zero, List.set_cons_succ])
            | ((with_reducible refine wpQuiet_pass ?_ ?_)
               · (first | rfl | (go_simp; done))
               simp only [Act.put, List.setIfInBounds_toArray, List.set_cons_zero, List.set_cons_succ])
        with_reducible refine wpQuiet_nil ?_
        intro w5 hW5
        go_wp2
        go_ret2
        exact ⟨by rw [hb'.out]; rfl, bthen bW1 bW1.size hW5⟩
end Go.Proofs.YtnehabcopjgklaaDoor
/- string(id[:]). No condition. -/
namespace Go.Proofs.YtnehabcopjgklaaDoor
open Go.RowKit
theorem str_of_blk (w : World) {t : TypeId} {g : Nat} {l : List UInt8} (h : Blk w g t (u8s l)) :
    (convert 77 9 (.slice (some ⟨g, 0, none⟩) l.length l.length)).run Tryd.prog w = .ok (.string (B l)) w := by
  rw [run_convert_bytes_arg w 77 5 Tryd.underlying77 Tryd.underlying5 g 0 l.length l.length (l.map fun c => (c.toNat : Int)) (by simp) (fun i hi => by
    rw [Nat.zero_add, h.cell, u8s_get l i hi]
    simp [List.getD, List.getElem?_map, List.getElem?_eq_getElem hi]) 9 Tryd.underlying9]
  have hl : (l.map fun c => (c.toNat : Int)).map (fun n => UInt8.ofNat n.toNat) = l := by
    rw [List.map_map]
    exact (List.map_congr_left (g := id) (fun c _ => by simp)).trans (List.map_id l)
  rw [strOfNums, hl]
  rfl
theorem str_of_id (w : World) {t : TypeId} {g : Nat} {l : List UInt8} (hl : l.length = 32) (h : Blk w g t (u8s l)) (n : Nat) :
    (convert 77 9 (.slice (some ⟨g, 0, none⟩) 32 32)).run Tryd.prog (w.drewN n) = .ok (.string (B l)) (w.drewN n) := by
  have := str_of_blk (w.drewN n) (h.drewN n)
  rwa [hl] at this
end Go.Proofs.YtnehabcopjgklaaDoor
/- == of an id and the empty one, as the walk meets it. No condition. -/
namespace Go.Proofs.YtnehabcopjgklaaDoor
open Go.RowKit
theorem zero_cells : (#[.int .u8 0, .int .u8 0, .int .u8 0, .int .u8 0, .int .u8 0, .int .u8 0, .int .u8 0, .int .u8 0, .int .u8 0, .int .u8 0, .int .u8 0, .int .u8 0, .int .u8 0, .int .u8 0, .int .u8 0, .int .u8 0, .int .u8 0, .int .u8 0, .int .u8 0, .int .u8 0, .int .u8 0, .int .u8 0, .int .u8 0, .int .u8 0, .int .u8 0, .int .u8 0, .int .u8 0, .int .u8 0, .int .u8 0, .int .u8 0, .int .u8 0, .int .u8 0] : Array Value) = u8s (List.replicate 32 0) := by kernel_rfl
theorem equalIn_zero (l : List UInt8) (hl : l.length = 32) (w : World) :
    (Op.equalIn 10000 24 (.agg (u8s l)) (.agg #[.int .u8 0, .int .u8 0, .int .u8 0, .int .u8 0, .int .u8 0, .int .u8 0, .int .u8 0, .int .u8 0, .int .u8 0, .int .u8 0, .int .u8 0, .int .u8 0, .int .u8 0, .int .u8 0, .int .u8 0, .int .u8 0, .int .u8 0, .int .u8 0, .int .u8 0, .int .u8 0, .int .u8 0, .int .u8 0, .int .u8 0, .int .u8 0, .int .u8 0, .int .u8 0, .int .u8 0, .int .u8 0, .int .u8 0, .int .u8 0, .int .u8 0, .int .u8 0])).run Tryd.prog w = .ok (decide (l = List.replicate 32 0)) w := by
  rw [zero_cells]
  exact run_equalIn_bytes w 9998 Tryd.underlying24 (by kernel_rfl) Tryd.underlying5 (by kernel_rfl) (Option.isSome_iff_exists.1 (by kernel_rfl)) l (List.replicate 32 0) hl (by simp)
end Go.Proofs.YtnehabcopjgklaaDoor
/- Layer 4 (object): the words. No condition. -/
namespace Go.Proofs.YtnehabcopjgklaaDoor
open Go.RowKit
def idC (l : Txt) : List Value := (u8s l).toList
def entC (e : EntL) : List Value := .string (B e.name) :: .int .i64 e.kind :: (u8s e.id).toList
def objC (o : ObjL) (ve vp : Value) : List Value := .int .i64 o.kind :: .string (B o.data) :: ve :: ((u8s o.tree).toList ++ (vp :: .int .u32 o.time :: .string (B o.text) :: ((u8s o.target).toList ++ [.int .i64 o.of_, .string (B o.name)])))
def linkC (l : LinkL) : List Value := (u8s l.id).toList ++ [.int .i64 l.kind]
structure EntOk (e : EntL) : Prop where
  id : e.id.length = 32
  name : e.name.length ≤ 9223372036854775807
  k1 : -9223372036854775808 ≤ e.kind
  k2 : e.kind ≤ 9223372036854775807
structure ObjOk (o : ObjL) : Prop where
  tree : o.tree.length = 32
  target : o.target.length = 32
  ents : ∀ e ∈ o.ents, EntOk e
  pars : ∀ p ∈ o.pars, p.length = 32
  data : o.data.length ≤ 9223372036854775807
  text : o.text.length ≤ 9223372036854775807
  name : o.name.length ≤ 9223372036854775807
  time : o.time < 4294967296
  k1 : -9223372036854775808 ≤ o.kind
  k2 : o.kind ≤ 9223372036854775807
  f1 : -9223372036854775808 ≤ o.of_
  f2 : o.of_ ≤ 9223372036854775807
theorem u8s_len (l : Txt) : (u8s l).toList.length = l.length := by simp [u8s]
theorem idC_len {l : Txt} (h : l.length = 32) : (idC l).length = 32 := by unfold idC; rw [u8s_len, h]
theorem entC_len {e : EntL} (h : EntOk e) : (entC e).length = 34 := by unfold entC; simp only [List.length_cons, u8s_len, h.id]
theorem objC_len {o : ObjL} (h : ObjOk o) (ve vp : Value) : (objC o ve vp).length = 72 := by
  unfold objC
  simp only [List.length_cons, List.length_append, u8s_len, h.tree, h.target, List.length_nil]
theorem linkC_len {l : LinkL} (h : l.id.length = 32) : (linkC l).length = 33 := by unfold linkC; simp [u8s_size, h]
/-- A slice value reads as these entries. -/
abbrev Ents (w : World) (v : Value) (l : List EntL) : Prop := SliceAt w 34 entC v l
abbrev Ids (w : World) (v : Value) (l : List Txt) : Prop := SliceAt w 32 idC v l
/-- A value reads as this object. -/
structure ObjV (w : World) (ve vp : Value) (o : ObjL) : Prop where
  ok : ObjOk o
  ents : Ents w ve o.ents
  pars : Ids w vp o.pars
theorem ObjV.below {w w' : World} {ve vp : Value} {o : ObjL} (h : ObjV w ve vp o) (hb : Below w.heap.size w w') : ObjV w' ve vp o := ⟨h.ok, h.ents.below hb, h.pars.below hb⟩
/-- One block holds an object's cells. -/
structure ObjB (w : World) (g : Nat) (o : ObjL) (ve vp : Value) : Prop where
  blk : Blk w g 41 (objC o ve vp).toArray
  tr : o.tree.length = 32
  ta : o.target.length = 32
section
variable {w : World} {g : Nat} {o : ObjL} {ve vp : Value}
theorem ObjB.drew (h : ObjB w g o ve vp) : ObjB w.drew g o ve vp := ⟨h.blk.drew, h.tr, h.ta⟩
theorem ObjB.below {w' : World} (h : ObjB w g o ve vp) (hb : Below w.heap.size w w') : ObjB w' g o ve vp := ⟨(hb.block g h.blk.lt).trans h.blk, h.tr, h.ta⟩
theorem ObjB.at_ (h : ObjB w g o ve vp) {i : Nat} {u : Value} (hu : (objC o ve vp)[i]? = some u) : w.cell? ⟨g, i, none⟩ = some u := by
  rw [h.blk.cell]
  simpa using hu
theorem app_right {α : Type} {a b : List α} {n i : Nat} (ha : a.length = n) (hi : n ≤ i) : (a ++ b)[i]? = b[i - n]? := by rw [List.getElem?_append_right (by omega), ha]
theorem obj_pars (h : o.tree.length = 32) : (objC o ve vp)[35]? = some vp := by
  show ((u8s o.tree).toList ++ _)[32]? = _
  rw [app_right (by rw [u8s_len, h]) (Nat.le_refl _)]; rfl
theorem obj_time (h : o.tree.length = 32) : (objC o ve vp)[36]? = some (.int .u32 o.time) := by
  show ((u8s o.tree).toList ++ _)[33]? = _
  rw [app_right (by rw [u8s_len, h]) (by omega)]; rfl
theorem obj_text (h : o.tree.length = 32) : (objC o ve vp)[37]? = some (.string (B o.text)) := by
  show ((u8s o.tree).toList ++ _)[34]? = _
  rw [app_right (by rw [u8s_len, h]) (by omega)]; rfl
theorem obj_of (h : o.tree.length = 32) (ht : o.target.length = 32) : (objC o ve vp)[70]? = some (.int .i64 o.of_) := by
  show ((u8s o.tree).toList ++ _)[67]? = _
  rw [app_right (by rw [u8s_len, h]) (by omega)]
  show ((u8s o.target).toList ++ _)[32]? = _
  rw [app_right (by rw [u8s_len, ht]) (by omega)]; rfl
theorem obj_name (h : o.tree.length = 32) (ht : o.target.length = 32) : (objC o ve vp)[71]? = some (.string (B o.name)) := by
  show ((u8s o.tree).toList ++ _)[68]? = _
  rw [app_right (by rw [u8s_len, h]) (by omega)]
  show ((u8s o.target).toList ++ _)[33]? = _
  rw [app_right (by rw [u8s_len, ht]) (by omega)]; rfl
theorem ObjB.kind (h : ObjB w g o ve vp) : w.cell? ⟨g, 0, none⟩ = some (.int .i64 o.kind) := h.at_ rfl
theorem ObjB.data (h : ObjB w g o ve vp) : w.cell? ⟨g, 1, none⟩ = some (.string (B o.data)) := h.at_ rfl
theorem ObjB.ents (h : ObjB w g o ve vp) : w.cell? ⟨g, 2, none⟩ = some ve := h.at_ rfl
theorem ObjB.pars (h : ObjB w g o ve vp) : w.cell? ⟨g, 35, none⟩ = some vp := h.at_ (obj_pars h.tr)
theorem ObjB.time (h : ObjB w g o ve vp) : w.cell? ⟨g, 36, none⟩ = some (.int .u32 o.time) := h.at_ (obj_time h.tr)
theorem ObjB.text (h : ObjB w g o ve vp) : w.cell? ⟨g, 37, none⟩ = some (.string (B o.text)) := h.at_ (obj_text h.tr)
theorem ObjB.of_ (h : ObjB w g o ve vp) : w.cell? ⟨g, 70, none⟩ = some (.int .i64 o.of_) := h.at_ (obj_of h.tr h.ta)
theorem ObjB.name (h : ObjB w g o ve vp) : w.cell? ⟨g, 71, none⟩ = some (.string (B o.name)) := h.at_ (obj_name h.tr h.ta)
theorem ObjB.whole (h : ObjB w g o ve vp) : w.rangeAt g 0 (objC o ve vp) := by
  have := range_blk h.blk
  simpa using this
theorem rangeAt_part {g o : Nat} {a b c : List Value} {n m : Nat} (h : w.rangeAt g o (a ++ (b ++ c))) (ha : a.length = n) (hm : o + n = m) : w.rangeAt g m b := fun j u hu => by
  have hj : j < b.length := (List.getElem?_eq_some_iff.1 hu).1
  have := h (n + j) u (by
    rw [List.getElem?_append_right (by omega), ha, Nat.add_sub_cancel_left, List.getElem?_append_left hj]
    exact hu)
  rwa [← Nat.add_assoc, hm] at this
theorem ObjB.tree (h : ObjB w g o ve vp) : w.rangeAt g 3 (u8s o.tree).toList := rangeAt_part (a := [.int .i64 o.kind, .string (B o.data), ve]) h.whole rfl rfl
theorem ObjB.target (h : ObjB w g o ve vp) : w.rangeAt g 38 (u8s o.target).toList := by
  have := h.whole
  have e : objC o ve vp = (.int .i64 o.kind :: .string (B o.data) :: ve :: ((u8s o.tree).toList ++ [vp, .int .u32 o.time, .string (B o.text)])) ++ ((u8s o.target).toList ++ [.int .i64 o.of_, .string (B o.name)]) := by
    unfold objC
    simp
  rw [e] at this
  exact rangeAt_part this (n := 38) (by simp [u8s_size, h.tr]) (by omega)
end
def ldvO (p : Addr) : Sem Value := loadVar 41 p
theorem ldvO_eq (p : Addr) : loadVar 41 p = ldvO p := rfl
def ldvE (p : Addr) : Sem Value := loadVar 76 p
theorem ldvE_eq (p : Addr) : loadVar 76 p = ldvE p := rfl
theorem szObj : (Tryd.prog.info? 41).map (·.size) = some 72 := by kernel_rfl
theorem szEnt : (Tryd.prog.info? 76).map (·.size) = some 34 := by kernel_rfl
theorem run_ldvI_at {w : World} {g o : Nat} {l : Txt} (h : w.rangeAt g o (u8s l).toList) (hl : l.length = 32) : (ldvI ⟨g, o, none⟩).run Tryd.prog w = .ok (.agg (u8s l)) w := by
  have := run_loadVar_mid (P := Tryd.prog) w g o 24 (u8s l).toList _ h Tryd.underlying24 rfl (by rw [u8s_len, hl]; exact sz32)
  rwa [Array.toArray_toList] at this
theorem run_ldvE {w : World} {g o : Nat} {x : EntL} (h : w.rangeAt g o (entC x)) (hx : EntOk x) : (ldvE ⟨g, o, none⟩).run Tryd.prog w = .ok (.agg (entC x).toArray) w :=
  run_loadVar_mid (P := Tryd.prog) w g o 76 (entC x) _ h Tryd.underlying76 rfl (by rw [entC_len hx]; exact szEnt)
theorem run_ldvO {w : World} {g : Nat} {o : ObjL} {ve vp : Value} (h : ObjB w g o ve vp) (ho : ObjOk o) : (ldvO ⟨g, 0, none⟩).run Tryd.prog w = .ok (.agg (objC o ve vp).toArray) w :=
  run_loadVar_mid (P := Tryd.prog) w g 0 41 (objC o ve vp) _ h.whole Tryd.underlying41 rfl (by rw [objC_len ho]; exact szObj)
theorem agg_eq {a b : Array Value} (h : a = b) : Value.agg a = Value.agg b := by rw [h]
end Go.Proofs.YtnehabcopjgklaaDoor
/-
  DERIVED: THE SHELF's CONTRACTS AT THIS DUMP, IN PLAIN WORDS (tools/lay-plain.mjs out of 'TrydShelf.lean', which tools/lay-shelf.mjs wrote): THE SAME DECLARATIONS UNDER THE SAME NAMES: 'import', 'namespace', 'open', 'def', 'theorem' AND NOTHING ELSE: no command of the shelf's: FOR A HAND-IN. Each laying: the table of numbers ('.._ren') and one theorem, a field a fact of the dump's own or the kernel's comparison; each contract: ONE APPLICATION.
-/
namespace Go.Proofs
open Go.Shelf
def Tryd.lays170_ren : Go.Shelf.Ren := ⟨fun | 170 => 86 | n => n, fun | 70 => 131 | 3 => 3 | 0 => 0 | 72 => 133 | 37 => 77 | 5 => 5 | n => n, fun | n => n⟩
theorem Tryd.lays170 : Go.Proofs.Lays.n170 Tryd.prog Tryd.lays170_ren := {
  mixed := by kernel_rfl
  f170 := Tryd.func86.trans (congrArg some (by kernel_rfl))
  t0 := Tryd.underlying0
  a0 := Tryd.isAgg0
  z0 := Tryd.sizeOf0
  v0 := Tryd.zeroValue0
  t3 := Tryd.underlying3
  a3 := Tryd.isAgg3
  z3 := Tryd.sizeOf3
  v3 := Tryd.zeroValue3
  t37 := Tryd.underlying77
  a37 := Tryd.isAgg77
  z37 := Tryd.sizeOf77
  v37 := Tryd.zeroValue77
  t70 := Tryd.underlying131
  a70 := Tryd.isAgg131
  z70 := Tryd.sizeOf131
  v70 := Tryd.zeroValue131
  t72 := Tryd.underlying133
  a72 := Tryd.isAgg133
  z72 := Tryd.sizeOf133
  v72 := Tryd.zeroValue133 }
open Go.RowKit in
/-- (*strings.Builder).Len: "Len returns the number of accumulated bytes; b.Len() == len(b.String()).": the world is as it was. (LAID: no walk: one application.) -/
theorem Tryd.Builder_Len (B b : Nat) (bs : List Value) (w : World) (h : Lib.IsBuilder 133 5 B b bs w) :
    Calls Tryd.prog 86 #[.pointer (some ⟨b, 0, none⟩)] w fun e w' => e = .returned (.int .i64 bs.length) ∧ w' = w := Any.Builder_Len Tryd.lays170 B b bs w h
def Tryd.lays169_ren : Go.Shelf.Ren := ⟨fun | 169 => 83 | n => n, fun | 70 => 131 | 9 => 9 | 0 => 0 | 72 => 133 | 37 => 77 | 127 => 147 | 3 => 3 | 5 => 5 | n => n, fun | n => n⟩
theorem Tryd.lays169 : Go.Proofs.Lays.n169 Tryd.prog Tryd.lays169_ren := {
  mixed := by kernel_rfl
  f169 := Tryd.func83.trans (congrArg some (by kernel_rfl))
  t0 := Tryd.underlying0
  a0 := Tryd.isAgg0
  z0 := Tryd.sizeOf0
  v0 := Tryd.zeroValue0
  t3 := Tryd.underlying3
  a3 := Tryd.isAgg3
  z3 := Tryd.sizeOf3
  v3 := Tryd.zeroValue3
  t9 := Tryd.underlying9
  a9 := Tryd.isAgg9
  z9 := Tryd.sizeOf9
  v9 := Tryd.zeroValue9
  t37 := Tryd.underlying77
  a37 := Tryd.isAgg77
  z37 := Tryd.sizeOf77
  v37 := Tryd.zeroValue77
  t70 := Tryd.underlying131
  a70 := Tryd.isAgg131
  z70 := Tryd.sizeOf131
  v70 := Tryd.zeroValue131
  t72 := Tryd.underlying133
  a72 := Tryd.isAgg133
  z72 := Tryd.sizeOf133
  v72 := Tryd.zeroValue133
  t127 := Tryd.underlying147
  a127 := Tryd.isAgg147
  z127 := Tryd.sizeOf147
  v127 := Tryd.zeroValue147 }
theorem Tryd.Builder_Extra_169 : Builder.Extra Tryd.prog Tryd.lays169_ren := {
  sizeBuilder := by kernel_rfl
  liesBuilder := by kernel_rfl
  t5 := Tryd.underlying5
  a5 := Tryd.isAgg5
  z5 := Tryd.sizeOf5
  v5 := Tryd.zeroValue5
  infoByte := by kernel_rfl
  cellsByte := by kernel_rfl
  sizeByte := by kernel_rfl
  neB5 := by decide }
open Go.RowKit in
/-- (*strings.Builder).String: "String returns the accumulated string.": OF A BUILDER THAT HOLDS AT LEAST ONE BYTE. ✋ THE MODEL FREEZES THOSE BYTES IN THE BUFFER (unsafe.String): a later write INTO them ends the model's run without an answer; a later append BEHIND them goes on. The statement's order of evaluation is drawn: one draw. (LAID: no walk: one application.) -/
theorem Tryd.Builder_String (B b : Nat) (l : List UInt8) (w : World) (h : Lib.IsBuilder 133 5 B b (Lib.byteCells l) w) (h0 : l ≠ []) :
    Calls Tryd.prog 83 #[.pointer (some ⟨b, 0, none⟩)] w fun e w' => e = .returned (.string ⟨l.toArray⟩) ∧ Below B w w' := Any.Builder_String Tryd.lays169 Tryd.Builder_Extra_169 B b l w h h0
open Go.RowKit in
/-- (*strings.Builder).String OF A BUILDER THAT HOLDS NO BYTE: the empty string. (Its buffer is nil, or a row of which it has taken nothing yet; where that row has NO capacity the model lays one new block for unsafe.SliceData's 'some address'.) One draw. (LAID: no walk: one application.) -/
theorem Tryd.Builder_String_empty (B b : Nat) (w : World) (h : Lib.IsBuilder 133 5 B b [] w) (hBw : B ≤ w.heap.size) :
    Calls Tryd.prog 83 #[.pointer (some ⟨b, 0, none⟩)] w fun e w' => e = .returned (.string ⟨#[]⟩) ∧ Below B w w' := Any.Builder_String_empty Tryd.lays169 Tryd.Builder_Extra_169 B b w h hBw
open Go.RowKit in
/-- (*strings.Builder).String: "String returns the accumulated string.": WHATEVER THE BUILDER HOLDS. (LAID: no walk: one application.) -/
theorem Tryd.Builder_String_any (B b : Nat) (l : List UInt8) (w : World) (h : Lib.IsBuilder 133 5 B b (Lib.byteCells l) w) (hBw : B ≤ w.heap.size) :
    Calls Tryd.prog 83 #[.pointer (some ⟨b, 0, none⟩)] w fun e w' => e = .returned (.string ⟨l.toArray⟩) ∧ Below B w w' := Any.Builder_String_any Tryd.lays169 Tryd.Builder_Extra_169 B b l w h hBw
def Tryd.lays241_ren : Go.Shelf.Ren := ⟨fun | 241 => 93 | 277 => 99 | n => n, fun | 70 => 131 | 3 => 3 | 0 => 0 | 72 => 133 | 37 => 77 | 5 => 5 | n => n, fun | n => n⟩
theorem Tryd.lays241 : Go.Proofs.Lays.n241 Tryd.prog Tryd.lays241_ren := {
  mixed := by kernel_rfl
  f241 := Tryd.func93.trans (congrArg some (by kernel_rfl))
  f277 := Tryd.func99.trans (congrArg some (by kernel_rfl))
  t0 := Tryd.underlying0
  a0 := Tryd.isAgg0
  z0 := Tryd.sizeOf0
  v0 := Tryd.zeroValue0
  t3 := Tryd.underlying3
  a3 := Tryd.isAgg3
  z3 := Tryd.sizeOf3
  v3 := Tryd.zeroValue3
  t37 := Tryd.underlying77
  a37 := Tryd.isAgg77
  z37 := Tryd.sizeOf77
  v37 := Tryd.zeroValue77
  t70 := Tryd.underlying131
  a70 := Tryd.isAgg131
  z70 := Tryd.sizeOf131
  v70 := Tryd.zeroValue131
  t72 := Tryd.underlying133
  a72 := Tryd.isAgg133
  z72 := Tryd.sizeOf133
  v72 := Tryd.zeroValue133 }
theorem Tryd.Builder_Extra_241 : Builder.Extra Tryd.prog Tryd.lays241_ren := {
  sizeBuilder := by kernel_rfl
  liesBuilder := by kernel_rfl
  t5 := Tryd.underlying5
  a5 := Tryd.isAgg5
  z5 := Tryd.sizeOf5
  v5 := Tryd.zeroValue5
  infoByte := by kernel_rfl
  cellsByte := by kernel_rfl
  sizeByte := by kernel_rfl
  neB5 := by decide }
open Go.RowKit in
/-- (*strings.Builder).grow (no doc but "grow copies the buffer to a new, larger buffer so that there are at least n bytes of capacity beyond len(b.buf)."): AT A BUILDER WITHOUT A BUFFER: a new row of whatever bytes for its buffer, none of them its own yet. Three draws. (LAID: no walk: one application.) -/
theorem Tryd.Builder_grow_fresh (B b n : Nat) (w : World) (hB : B ≤ b) (hbk : w.heap[b]? = some (.cells #[.pointer (some ⟨b, 0, none⟩), .slice none 0 0] 133 (0, 0))) (hBw : B ≤ w.heap.size) (hn : n ≤ 281474976710656) :
    Calls Tryd.prog 93 #[.pointer (some ⟨b, 0, none⟩), .int .i64 n] w fun e w' => e = .returned (.tuple #[]) ∧ (Lib.BuilderAt 133 5 B b (.pointer (some ⟨b, 0, none⟩)) [] w' ∧ Below B w w') := Any.Builder_grow_fresh Tryd.lays241 Tryd.Builder_Extra_241 B b n w hB hbk hBw hn
def Tryd.lays165_ren : Go.Shelf.Ren := ⟨fun | 165 => 81 | 240 => 92 | 241 => 93 | 276 => 98 | 277 => 99 | n => n, fun | 70 => 131 | 3 => 3 | 0 => 0 | 4 => 4 | 9 => 9 | 20 => 20 | 72 => 133 | 37 => 77 | 164 => 152 | 5 => 5 | n => n, fun | n => n⟩
theorem Tryd.lays165 : Go.Proofs.Lays.n165 Tryd.prog Tryd.lays165_ren := {
  mixed := by kernel_rfl
  f165 := Tryd.func81.trans (congrArg some (by kernel_rfl))
  f240 := Tryd.func92.trans (congrArg some (by kernel_rfl))
  f241 := Tryd.func93.trans (congrArg some (by kernel_rfl))
  f276 := Tryd.func98.trans (congrArg some (by kernel_rfl))
  f277 := Tryd.func99.trans (congrArg some (by kernel_rfl))
  t0 := Tryd.underlying0
  a0 := Tryd.isAgg0
  z0 := Tryd.sizeOf0
  v0 := Tryd.zeroValue0
  t3 := Tryd.underlying3
  a3 := Tryd.isAgg3
  z3 := Tryd.sizeOf3
  v3 := Tryd.zeroValue3
  t4 := Tryd.underlying4
  a4 := Tryd.isAgg4
  z4 := Tryd.sizeOf4
  v4 := Tryd.zeroValue4
  t9 := Tryd.underlying9
  a9 := Tryd.isAgg9
  z9 := Tryd.sizeOf9
  v9 := Tryd.zeroValue9
  t20 := Tryd.underlying20
  a20 := Tryd.isAgg20
  z20 := Tryd.sizeOf20
  v20 := Tryd.zeroValue20
  t37 := Tryd.underlying77
  a37 := Tryd.isAgg77
  z37 := Tryd.sizeOf77
  v37 := Tryd.zeroValue77
  t70 := Tryd.underlying131
  a70 := Tryd.isAgg131
  z70 := Tryd.sizeOf131
  v70 := Tryd.zeroValue131
  t72 := Tryd.underlying133
  a72 := Tryd.isAgg133
  z72 := Tryd.sizeOf133
  v72 := Tryd.zeroValue133
  t164 := Tryd.underlying152
  a164 := Tryd.isAgg152
  z164 := Tryd.sizeOf152
  v164 := Tryd.zeroValue152 }
theorem Tryd.Builder_Extra_165 : Builder.Extra Tryd.prog Tryd.lays165_ren := {
  sizeBuilder := by kernel_rfl
  liesBuilder := by kernel_rfl
  t5 := Tryd.underlying5
  a5 := Tryd.isAgg5
  z5 := Tryd.sizeOf5
  v5 := Tryd.zeroValue5
  infoByte := by kernel_rfl
  cellsByte := by kernel_rfl
  sizeByte := by kernel_rfl
  neB5 := by decide }
open Go.RowKit in
/-- (*strings.Builder).Grow AT A BUILDER THAT HAS NOT BEEN WRITTEN ('var b strings.Builder; b.Grow(n)'): "Grow grows b's capacity, if necessary, to guarantee space for another n bytes.": it holds no byte behind it as before it. (LAID: no walk: one application.) -/
theorem Tryd.Builder_Grow_fresh (B b n : Nat) (w : World) (hB : B ≤ b) (hbk : w.heap[b]? = some (.cells #[.pointer none, .slice none 0 0] 133 (0, 0))) (hBw : B ≤ w.heap.size) (hn : n ≤ 281474976710656) :
    Calls Tryd.prog 81 #[.pointer (some ⟨b, 0, none⟩), .int .i64 n] w fun e w' => e = .returned (.tuple #[]) ∧ (Lib.BuilderAt 133 5 B b (.pointer (some ⟨b, 0, none⟩)) [] w' ∧ Below B w w') := Any.Builder_Grow_fresh Tryd.lays165 Tryd.Builder_Extra_165 B b n w hB hbk hBw hn
def Tryd.lays156_ren : Go.Shelf.Ren := ⟨fun | 156 => 68 | 165 => 81 | 166 => 82 | 169 => 83 | 240 => 92 | 241 => 93 | 276 => 98 | 277 => 99 | n => n, fun | 31 => 22 | 9 => 9 | 3 => 3 | 4 => 4 | 0 => 0 | 20 => 20 | 72 => 133 | 76 => 137 | 70 => 131 | 37 => 77 | 75 => 136 | 127 => 147 | 164 => 152 | 5 => 5 | 80 => 114 | n => n, fun | n => n⟩
theorem Tryd.lays156 : Go.Proofs.Lays.n156 Tryd.prog Tryd.lays156_ren := {
  mixed := by kernel_rfl
  f156 := Tryd.func68.trans (congrArg some (by kernel_rfl))
  f165 := Tryd.func81.trans (congrArg some (by kernel_rfl))
  f166 := Tryd.func82.trans (congrArg some (by kernel_rfl))
  f169 := Tryd.func83.trans (congrArg some (by kernel_rfl))
  f240 := Tryd.func92.trans (congrArg some (by kernel_rfl))
  f241 := Tryd.func93.trans (congrArg some (by kernel_rfl))
  f276 := Tryd.func98.trans (congrArg some (by kernel_rfl))
  f277 := Tryd.func99.trans (congrArg some (by kernel_rfl))
  t0 := Tryd.underlying0
  a0 := Tryd.isAgg0
  z0 := Tryd.sizeOf0
  v0 := Tryd.zeroValue0
  t3 := Tryd.underlying3
  a3 := Tryd.isAgg3
  z3 := Tryd.sizeOf3
  v3 := Tryd.zeroValue3
  t4 := Tryd.underlying4
  a4 := Tryd.isAgg4
  z4 := Tryd.sizeOf4
  v4 := Tryd.zeroValue4
  t9 := Tryd.underlying9
  a9 := Tryd.isAgg9
  z9 := Tryd.sizeOf9
  v9 := Tryd.zeroValue9
  t20 := Tryd.underlying20
  a20 := Tryd.isAgg20
  z20 := Tryd.sizeOf20
  v20 := Tryd.zeroValue20
  t31 := Tryd.underlying22
  a31 := Tryd.isAgg22
  z31 := Tryd.sizeOf22
  v31 := Tryd.zeroValue22
  t37 := Tryd.underlying77
  a37 := Tryd.isAgg77
  z37 := Tryd.sizeOf77
  v37 := Tryd.zeroValue77
  t70 := Tryd.underlying131
  a70 := Tryd.isAgg131
  z70 := Tryd.sizeOf131
  v70 := Tryd.zeroValue131
  t72 := Tryd.underlying133
  a72 := Tryd.isAgg133
  z72 := Tryd.sizeOf133
  v72 := Tryd.zeroValue133
  t75 := Tryd.underlying136
  a75 := Tryd.isAgg136
  z75 := Tryd.sizeOf136
  v75 := Tryd.zeroValue136
  t76 := Tryd.underlying137
  a76 := Tryd.isAgg137
  z76 := Tryd.sizeOf137
  v76 := Tryd.zeroValue137
  t127 := Tryd.underlying147
  a127 := Tryd.isAgg147
  z127 := Tryd.sizeOf147
  v127 := Tryd.zeroValue147
  t164 := Tryd.underlying152
  a164 := Tryd.isAgg152
  z164 := Tryd.sizeOf152
  v164 := Tryd.zeroValue152 }
theorem Tryd.Builder_Extra_156 : Builder.Extra Tryd.prog Tryd.lays156_ren := {
  sizeBuilder := by kernel_rfl
  liesBuilder := by kernel_rfl
  t5 := Tryd.underlying5
  a5 := Tryd.isAgg5
  z5 := Tryd.sizeOf5
  v5 := Tryd.zeroValue5
  infoByte := by kernel_rfl
  cellsByte := by kernel_rfl
  sizeByte := by kernel_rfl
  neB5 := by decide }
open Go.RowKit in
/-- No element: the empty string; the world is as it was. (Whatever the slice's address and capacity: a nil slice too.) (LAID: no walk: one application.) -/
theorem Tryd.strings_Join_none (a : Option Addr) (c : Nat) (sep : ByteArray) (w : World) :
    Calls Tryd.prog 68 #[.slice a 0 c, .string sep] w fun e w' => e = .returned (.string ⟨#[]⟩) ∧ w' = w := Any.strings_Join_none Tryd.lays156 Tryd.Builder_Extra_156 a c sep w
open Go.RowKit in
/-- strings.Join: "Join concatenates the elements of its first argument to create a single string. The separator string sep is placed between elements in the resulting string.": HOWEVER MANY ELEMENTS. Below the heap's end the world is as it was. (LAID: no walk: one application.) -/
theorem Tryd.strings_Join (bk o c : Nat) (xs : List ByteArray) (sep : ByteArray) (w : World) (hcells : ∀ (j : Nat) x, xs[j]? = some x → w.cell? ⟨bk, o + j, none⟩ = some (.string x)) (hbk : bk < w.heap.size) (hN : xs.length ≤ 140737488355328) (hcap : xs.length ≤ c) (hlen : (Lib.join (xs.map (·.data.toList)) sep.data.toList).length ≤ 140737488355328) :
    Calls Tryd.prog 68 #[.slice (some ⟨bk, o, none⟩) xs.length c, .string sep] w fun e w' => e = .returned (.string ⟨(Lib.join (xs.map (·.data.toList)) sep.data.toList).toArray⟩) ∧ Below w.heap.size w w' := Any.strings_Join Tryd.lays156 Tryd.Builder_Extra_156 bk o c xs sep w hcells hbk hN hcap hlen
def Tryd.lays137_ren : Go.Shelf.Ren := ⟨fun | 137 => 80 | 217 => 91 | 266 => 97 | n => n, fun | 9 => 9 | 5 => 5 | 3 => 3 | n => n, fun | n => n⟩
theorem Tryd.lays137 : Go.Proofs.Lays.n137 Tryd.prog Tryd.lays137_ren := {
  mixed := by kernel_rfl
  f137 := Tryd.func80.trans (congrArg some (by kernel_rfl))
  f217 := Tryd.func91.trans (congrArg some (by kernel_rfl))
  f266 := Tryd.func97.trans (congrArg some (by kernel_rfl))
  t3 := Tryd.underlying3
  a3 := Tryd.isAgg3
  z3 := Tryd.sizeOf3
  v3 := Tryd.zeroValue3
  t5 := Tryd.underlying5
  a5 := Tryd.isAgg5
  z5 := Tryd.sizeOf5
  v5 := Tryd.zeroValue5
  t9 := Tryd.underlying9
  a9 := Tryd.isAgg9
  z9 := Tryd.sizeOf9
  v9 := Tryd.zeroValue9 }
open Go.RowKit in
/-- strings.IndexByte: "IndexByte returns the index of the first instance of c in s, or -1 if c is not present in s.": IT RETURNS 'Lib.indexByte s c'; the world is as it was. (LAID: no walk: one application.) -/
theorem Tryd.strings_IndexByte (s : ByteArray) (c : Int) (w : World) :
    Calls Tryd.prog 80 #[.string s, .int .u8 c] w fun e w' => e = .returned (.int .i64 (Lib.indexByte s.data.toList c.toNat.toUInt8)) ∧ w' = w := Any.strings_IndexByte Tryd.lays137 s c w
open Go.RowKit in
/-- (*strings.Builder).Len: "Len returns the number of accumulated bytes; b.Len() == len(b.String()).": the world is as it was. (THE FORM '_f': 'Lib.IsBuilderF'.) (LAID: no walk: one application.) -/
theorem Tryd.Builder_Len_f (B b : Nat) (bs : List Value) (w : World) (h : Lib.IsBuilderF 133 5 B b bs w) :
    Calls Tryd.prog 86 #[.pointer (some ⟨b, 0, none⟩)] w fun e w' => e = .returned (.int .i64 bs.length) ∧ w' = w := Any.Builder_Len_f Tryd.lays170 B b bs w h
open Go.RowKit in
/-- (*strings.Builder).String: "String returns the accumulated string.": OF A BUILDER THAT HOLDS AT LEAST ONE BYTE. ✋ THE MODEL FREEZES THOSE BYTES IN THE BUFFER (unsafe.String): a later write INTO them ends the model's run without an answer; a later append BEHIND them goes on. The statement's order of evaluation is drawn: one draw. THE FORM '_f': IT SAYS BESIDES THAT THE BUILDER IS A BUILDER STILL ('Lib.IsBuilderF', the same bytes): SO IT CAN BE WRITTEN ON: 'b.WriteString(b.String()[:k])'. (LAID: no walk: one application.) -/
theorem Tryd.Builder_String_f (B b : Nat) (l : List UInt8) (w : World) (h : Lib.IsBuilderF 133 5 B b (Lib.byteCells l) w) (h0 : l ≠ []) :
    Calls Tryd.prog 83 #[.pointer (some ⟨b, 0, none⟩)] w fun e w' => e = .returned (.string ⟨l.toArray⟩) ∧ (Lib.IsBuilderF 133 5 B b (Lib.byteCells l) w' ∧ Below B w w') := Any.Builder_String_f Tryd.lays169 Tryd.Builder_Extra_169 B b l w h h0
open Go.RowKit in
/-- (*strings.Builder).String OF A BUILDER THAT HOLDS NO BYTE: the empty string; THE FORM '_f': a builder still. (LAID: no walk: one application.) -/
theorem Tryd.Builder_String_empty_f (B b : Nat) (w : World) (h : Lib.IsBuilderF 133 5 B b [] w) (hBw : B ≤ w.heap.size) :
    Calls Tryd.prog 83 #[.pointer (some ⟨b, 0, none⟩)] w fun e w' => e = .returned (.string ⟨#[]⟩) ∧ (Lib.IsBuilderF 133 5 B b [] w' ∧ Below B w w') := Any.Builder_String_empty_f Tryd.lays169 Tryd.Builder_Extra_169 B b w h hBw
open Go.RowKit in
/-- (*strings.Builder).String: "String returns the accumulated string.": WHATEVER THE BUILDER HOLDS; THE FORM '_f': OF A BUILDER THAT MAY HAVE BEEN READ BEFORE; AND IT IS A BUILDER STILL, holding the same bytes: it can be written on. (LAID: no walk: one application.) -/
theorem Tryd.Builder_String_any_f (B b : Nat) (l : List UInt8) (w : World) (h : Lib.IsBuilderF 133 5 B b (Lib.byteCells l) w) (hBw : B ≤ w.heap.size) :
    Calls Tryd.prog 83 #[.pointer (some ⟨b, 0, none⟩)] w fun e w' => e = .returned (.string ⟨l.toArray⟩) ∧ (Lib.IsBuilderF 133 5 B b (Lib.byteCells l) w' ∧ Below B w w') := Any.Builder_String_any_f Tryd.lays169 Tryd.Builder_Extra_169 B b l w h hBw
open Go.RowKit in
/-- (*strings.Builder).String: "String returns the accumulated string.": OF A BUILDER THAT HOLDS AT LEAST ONE BYTE. ✋ THE MODEL FREEZES THOSE BYTES IN THE BUFFER (unsafe.String): a later write INTO them ends the model's run without an answer; a later append BEHIND them goes on. The statement's order of evaluation is drawn: one draw. THE FORM '_k': OVER 'Lib.IsBuilderF' (a builder that 'String()' may have read), AND WITH THE FRAME THAT REACHES ABOVE THE BUILDER: 'Lib.OthersKept': every block that is not b and is no row of uint8's stands as it stood: the iterator of a range among them. (LAID: no walk: one application.) -/
theorem Tryd.Builder_String_k (B b : Nat) (l : List UInt8) (w : World) (h : Lib.IsBuilderF 133 5 B b (Lib.byteCells l) w) (h0 : l ≠ []) :
    Calls Tryd.prog 83 #[.pointer (some ⟨b, 0, none⟩)] w fun e w' => e = .returned (.string ⟨l.toArray⟩) ∧ (Lib.IsBuilderF 133 5 B b (Lib.byteCells l) w' ∧ Below B w w' ∧ Lib.OthersKept 5 (some b) w w') := Any.Builder_String_k Tryd.lays169 Tryd.Builder_Extra_169 B b l w h h0
open Go.RowKit in
/-- (*strings.Builder).String OF A BUILDER THAT HOLDS NO BYTE: the empty string; THE FORM '_k': OVER 'Lib.IsBuilderF' (a builder that 'String()' may have read), AND WITH THE FRAME THAT REACHES ABOVE THE BUILDER: 'Lib.OthersKept': every block that is not b and is no row of uint8's stands as it stood: the iterator of a range among them. (LAID: no walk: one application.) -/
theorem Tryd.Builder_String_empty_k (B b : Nat) (w : World) (h : Lib.IsBuilderF 133 5 B b [] w) (hBw : B ≤ w.heap.size) :
    Calls Tryd.prog 83 #[.pointer (some ⟨b, 0, none⟩)] w fun e w' => e = .returned (.string ⟨#[]⟩) ∧ (Lib.IsBuilderF 133 5 B b [] w' ∧ Below B w w' ∧ Lib.OthersKept 5 (some b) w w') := Any.Builder_String_empty_k Tryd.lays169 Tryd.Builder_Extra_169 B b w h hBw
open Go.RowKit in
/-- (*strings.Builder).String: "String returns the accumulated string.": WHATEVER THE BUILDER HOLDS; THE FORM '_k': OVER 'Lib.IsBuilderF' (a builder that 'String()' may have read), AND WITH THE FRAME THAT REACHES ABOVE THE BUILDER: 'Lib.OthersKept': every block that is not b and is no row of uint8's stands as it stood: the iterator of a range among them. (LAID: no walk: one application.) -/
theorem Tryd.Builder_String_any_k (B b : Nat) (l : List UInt8) (w : World) (h : Lib.IsBuilderF 133 5 B b (Lib.byteCells l) w) (hBw : B ≤ w.heap.size) :
    Calls Tryd.prog 83 #[.pointer (some ⟨b, 0, none⟩)] w fun e w' => e = .returned (.string ⟨l.toArray⟩) ∧ (Lib.IsBuilderF 133 5 B b (Lib.byteCells l) w' ∧ Below B w w' ∧ Lib.OthersKept 5 (some b) w w') := Any.Builder_String_any_k Tryd.lays169 Tryd.Builder_Extra_169 B b l w h hBw
open Go.RowKit in
/-- (*strings.Builder).grow (no doc but "grow copies the buffer to a new, larger buffer so that there are at least n bytes of capacity beyond len(b.buf)."): AT A BUILDER WITHOUT A BUFFER: a new row of whatever bytes for its buffer, none of them its own yet. Three draws. (LAID: no walk: one application.) -/
theorem Tryd.Builder_grow_fresh_cap (B b n : Nat) (w : World) (hB : B ≤ b) (hbk : w.heap[b]? = some (.cells #[.pointer (some ⟨b, 0, none⟩), .slice none 0 0] 133 (0, 0))) (hBw : B ≤ w.heap.size) (hn : n ≤ 281474976710656) :
    Calls Tryd.prog 93 #[.pointer (some ⟨b, 0, none⟩), .int .i64 n] w fun e w' => e = .returned (.tuple #[]) ∧ (Lib.BuilderAt 133 5 B b (.pointer (some ⟨b, 0, none⟩)) [] w' ∧ Below B w w') ∧ ∃ p cap, w'.cell? ⟨b, 1, none⟩ = some (.slice p 0 cap) ∧ n ≤ cap := Any.Builder_grow_fresh_cap Tryd.lays241 Tryd.Builder_Extra_241 B b n w hB hbk hBw hn
open Go.RowKit in
/-- (*strings.Builder).Grow AT A BUILDER THAT HAS NOT BEEN WRITTEN ('var b strings.Builder; b.Grow(n)'): "Grow grows b's capacity, if necessary, to guarantee space for another n bytes.": it holds no byte behind it as before it. (LAID: no walk: one application.) -/
theorem Tryd.Builder_Grow_fresh_cap (B b n : Nat) (w : World) (hB : B ≤ b) (hbk : w.heap[b]? = some (.cells #[.pointer none, .slice none 0 0] 133 (0, 0))) (hBw : B ≤ w.heap.size) (hn : n ≤ 281474976710656) :
    Calls Tryd.prog 81 #[.pointer (some ⟨b, 0, none⟩), .int .i64 n] w fun e w' => e = .returned (.tuple #[]) ∧ (Lib.BuilderAt 133 5 B b (.pointer (some ⟨b, 0, none⟩)) [] w' ∧ Below B w w') ∧ ∃ p cap, w'.cell? ⟨b, 1, none⟩ = some (.slice p 0 cap) ∧ n ≤ cap := Any.Builder_Grow_fresh_cap Tryd.lays165 Tryd.Builder_Extra_165 B b n w hB hbk hBw hn
def Tryd.lays217_ren : Go.Shelf.Ren := ⟨fun | 217 => 91 | 266 => 97 | n => n, fun | 9 => 9 | 5 => 5 | 3 => 3 | n => n, fun | n => n⟩
theorem Tryd.lays217 : Go.Proofs.Lays.n217 Tryd.prog Tryd.lays217_ren := {
  mixed := by kernel_rfl
  f217 := Tryd.func91.trans (congrArg some (by kernel_rfl))
  f266 := Tryd.func97.trans (congrArg some (by kernel_rfl))
  t3 := Tryd.underlying3
  a3 := Tryd.isAgg3
  z3 := Tryd.sizeOf3
  v3 := Tryd.zeroValue3
  t5 := Tryd.underlying5
  a5 := Tryd.isAgg5
  z5 := Tryd.sizeOf5
  v5 := Tryd.zeroValue5
  t9 := Tryd.underlying9
  a9 := Tryd.isAgg9
  z9 := Tryd.sizeOf9
  v9 := Tryd.zeroValue9 }
open Go.RowKit Go.Lib in
/-- internal/stringslite.IndexByte (what strings.IndexByte calls): IT RETURNS 'Lib.indexByte s c'; the world is as it was. (LAID: no walk: one application.) -/
theorem Tryd.stringslite_IndexByte (s : ByteArray) (c : Int) (w : World) :
    Calls Tryd.prog 91 #[.string s, .int .u8 c] w fun e w' => e = .returned (.int .i64 (Lib.indexByte s.data.toList c.toNat.toUInt8)) ∧ w' = w := Any.stringslite_IndexByte Tryd.lays217 s c w
def Tryd.lays206_ren : Go.Shelf.Ren := ⟨fun | 206 => 96 | n => n, fun | 9 => 9 | 4 => 4 | 3 => 3 | n => n, fun | n => n⟩
theorem Tryd.lays206 : Go.Proofs.Lays.n206 Tryd.prog Tryd.lays206_ren := {
  mixed := by kernel_rfl
  f206 := Tryd.func96.trans (congrArg some (by kernel_rfl))
  t3 := Tryd.underlying3
  a3 := Tryd.isAgg3
  z3 := Tryd.sizeOf3
  v3 := Tryd.zeroValue3
  t4 := Tryd.underlying4
  a4 := Tryd.isAgg4
  z4 := Tryd.sizeOf4
  v4 := Tryd.zeroValue4
  t9 := Tryd.underlying9
  a9 := Tryd.isAgg9
  z9 := Tryd.sizeOf9
  v9 := Tryd.zeroValue9 }
open Go.RowKit Go.Lib in
/-- internal/stringslite.HasPrefix (what strings.HasPrefix calls). (LAID: no walk: one application.) -/
theorem Tryd.stringslite_HasPrefix (s p : ByteArray) (w : World) :
    Calls Tryd.prog 96 #[.string s, .string p] w fun e w' => e = .returned (.bool (Lib.hasPrefix s.data.toList p.data.toList)) ∧ w' = w := Any.stringslite_HasPrefix Tryd.lays206 s p w
def Tryd.lays99_ren : Go.Shelf.Ren := ⟨fun | 99 => 85 | 206 => 96 | n => n, fun | 9 => 9 | 4 => 4 | 3 => 3 | n => n, fun | n => n⟩
theorem Tryd.lays99 : Go.Proofs.Lays.n99 Tryd.prog Tryd.lays99_ren := {
  mixed := by kernel_rfl
  f99 := Tryd.func85.trans (congrArg some (by kernel_rfl))
  f206 := Tryd.func96.trans (congrArg some (by kernel_rfl))
  t3 := Tryd.underlying3
  a3 := Tryd.isAgg3
  z3 := Tryd.sizeOf3
  v3 := Tryd.zeroValue3
  t4 := Tryd.underlying4
  a4 := Tryd.isAgg4
  z4 := Tryd.sizeOf4
  v4 := Tryd.zeroValue4
  t9 := Tryd.underlying9
  a9 := Tryd.isAgg9
  z9 := Tryd.sizeOf9
  v9 := Tryd.zeroValue9 }
open Go.RowKit Go.Lib in
/-- strings.HasPrefix: "HasPrefix reports whether the string s begins with prefix.": IT RETURNS 'Lib.hasPrefix s prefix'; the world is as it was. (LAID: no walk: one application.) -/
theorem Tryd.strings_HasPrefix (s p : ByteArray) (w : World) :
    Calls Tryd.prog 85 #[.string s, .string p] w fun e w' => e = .returned (.bool (Lib.hasPrefix s.data.toList p.data.toList)) ∧ w' = w := Any.strings_HasPrefix Tryd.lays99 s p w
def Tryd.lays264_ren : Go.Shelf.Ren := ⟨fun | 264 => 95 | n => n, fun | 53 => 84 | 46 => 85 | n => n, fun | n => n⟩
theorem Tryd.lays264 : Go.Proofs.Lays.n264 Tryd.prog Tryd.lays264_ren := {
  mixed := by kernel_rfl
  f264 := Tryd.func95.trans (congrArg some (by kernel_rfl))
  t46 := Tryd.underlying85
  a46 := Tryd.isAgg85
  z46 := Tryd.sizeOf85
  v46 := Tryd.zeroValue85
  t53 := Tryd.underlying84
  a53 := Tryd.isAgg84
  z53 := Tryd.sizeOf84
  v53 := Tryd.zeroValue84 }
open Go.RowKit Go.Lib in
theorem Tryd.bits_Mul64 (x y : Nat) (hx : x < 18446744073709551616) (hy : y < 18446744073709551616) (w : World) :
    Calls Tryd.prog 95 #[.int .u64 x, .int .u64 y] w fun e w' => e = .returned (.tuple #[.int .u64 ((x * y / 18446744073709551616 : Nat) : Int), .int .u64 ((x * y % 18446744073709551616 : Nat) : Int)]) ∧ w' = w := Any.bits_Mul64 Tryd.lays264 x y hx hy w
def Tryd.lays212_ren : Go.Shelf.Ren := ⟨fun | 212 => 84 | 263 => 94 | 264 => 95 | n => n, fun | 46 => 85 | 51 => 39 | 146 => 148 | 53 => 84 | 148 => 150 | n => n, fun | n => n⟩
theorem Tryd.lays212 : Go.Proofs.Lays.n212 Tryd.prog Tryd.lays212_ren := {
  mixed := by kernel_rfl
  f212 := Tryd.func84.trans (congrArg some (by kernel_rfl))
  f263 := Tryd.func94.trans (congrArg some (by kernel_rfl))
  f264 := Tryd.func95.trans (congrArg some (by kernel_rfl))
  t46 := Tryd.underlying85
  a46 := Tryd.isAgg85
  z46 := Tryd.sizeOf85
  v46 := Tryd.zeroValue85
  t51 := Tryd.underlying39
  a51 := Tryd.isAgg39
  z51 := Tryd.sizeOf39
  v51 := Tryd.zeroValue39
  t53 := Tryd.underlying84
  a53 := Tryd.isAgg84
  z53 := Tryd.sizeOf84
  v53 := Tryd.zeroValue84
  t146 := Tryd.underlying148
  a146 := Tryd.isAgg148
  z146 := Tryd.sizeOf148
  v146 := Tryd.zeroValue148
  t148 := Tryd.underlying150
  a148 := Tryd.isAgg150
  z148 := Tryd.sizeOf150
  v148 := Tryd.zeroValue150 }
open Go.RowKit Go.Lib in
/-- math/bits.Mul: "Mul returns the full-width product of x and y": on a machine of 64 bits: Mul64's. (LAID: no walk: one application.) -/
theorem Tryd.bits_Mul (x y : Nat) (hx : x < 18446744073709551616) (hy : y < 18446744073709551616) (w : World) :
    Calls Tryd.prog 84 #[.int .u64 x, .int .u64 y] w fun e w' => e = .returned (.tuple #[.int .u64 ((x * y / 18446744073709551616 : Nat) : Int), .int .u64 ((x * y % 18446744073709551616 : Nat) : Int)]) ∧ w' = w := Any.bits_Mul Tryd.lays212 x y hx hy w
def Tryd.lays105_ren : Go.Shelf.Ren := ⟨fun | 105 => 69 | 212 => 84 | 99 => 85 | 165 => 81 | 166 => 82 | 170 => 86 | 169 => 83 | 263 => 94 | 264 => 95 | 206 => 96 | 240 => 92 | 241 => 93 | 276 => 98 | 277 => 99 | n => n, fun | 9 => 9 | 3 => 3 | 4 => 4 | 20 => 20 | 0 => 0 | 46 => 85 | 109 => 139 | 5 => 5 | 72 => 133 | 76 => 137 | 51 => 39 | 146 => 148 | 53 => 84 | 148 => 150 | 70 => 131 | 37 => 77 | 75 => 136 | 127 => 147 | 164 => 152 | 80 => 114 | n => n, fun | n => n⟩
theorem Tryd.lays105 : Go.Proofs.Lays.n105 Tryd.prog Tryd.lays105_ren := {
  mixed := by kernel_rfl
  f99 := Tryd.func85.trans (congrArg some (by kernel_rfl))
  f105 := Tryd.func69.trans (congrArg some (by kernel_rfl))
  f165 := Tryd.func81.trans (congrArg some (by kernel_rfl))
  f166 := Tryd.func82.trans (congrArg some (by kernel_rfl))
  f169 := Tryd.func83.trans (congrArg some (by kernel_rfl))
  f170 := Tryd.func86.trans (congrArg some (by kernel_rfl))
  f206 := Tryd.func96.trans (congrArg some (by kernel_rfl))
  f212 := Tryd.func84.trans (congrArg some (by kernel_rfl))
  f240 := Tryd.func92.trans (congrArg some (by kernel_rfl))
  f241 := Tryd.func93.trans (congrArg some (by kernel_rfl))
  f263 := Tryd.func94.trans (congrArg some (by kernel_rfl))
  f264 := Tryd.func95.trans (congrArg some (by kernel_rfl))
  f276 := Tryd.func98.trans (congrArg some (by kernel_rfl))
  f277 := Tryd.func99.trans (congrArg some (by kernel_rfl))
  t0 := Tryd.underlying0
  a0 := Tryd.isAgg0
  z0 := Tryd.sizeOf0
  v0 := Tryd.zeroValue0
  t3 := Tryd.underlying3
  a3 := Tryd.isAgg3
  z3 := Tryd.sizeOf3
  v3 := Tryd.zeroValue3
  t4 := Tryd.underlying4
  a4 := Tryd.isAgg4
  z4 := Tryd.sizeOf4
  v4 := Tryd.zeroValue4
  t5 := Tryd.underlying5
  a5 := Tryd.isAgg5
  z5 := Tryd.sizeOf5
  v5 := Tryd.zeroValue5
  t9 := Tryd.underlying9
  a9 := Tryd.isAgg9
  z9 := Tryd.sizeOf9
  v9 := Tryd.zeroValue9
  t20 := Tryd.underlying20
  a20 := Tryd.isAgg20
  z20 := Tryd.sizeOf20
  v20 := Tryd.zeroValue20
  t37 := Tryd.underlying77
  a37 := Tryd.isAgg77
  z37 := Tryd.sizeOf77
  v37 := Tryd.zeroValue77
  t46 := Tryd.underlying85
  a46 := Tryd.isAgg85
  z46 := Tryd.sizeOf85
  v46 := Tryd.zeroValue85
  t51 := Tryd.underlying39
  a51 := Tryd.isAgg39
  z51 := Tryd.sizeOf39
  v51 := Tryd.zeroValue39
  t53 := Tryd.underlying84
  a53 := Tryd.isAgg84
  z53 := Tryd.sizeOf84
  v53 := Tryd.zeroValue84
  t70 := Tryd.underlying131
  a70 := Tryd.isAgg131
  z70 := Tryd.sizeOf131
  v70 := Tryd.zeroValue131
  t72 := Tryd.underlying133
  a72 := Tryd.isAgg133
  z72 := Tryd.sizeOf133
  v72 := Tryd.zeroValue133
  t75 := Tryd.underlying136
  a75 := Tryd.isAgg136
  z75 := Tryd.sizeOf136
  v75 := Tryd.zeroValue136
  t76 := Tryd.underlying137
  a76 := Tryd.isAgg137
  z76 := Tryd.sizeOf137
  v76 := Tryd.zeroValue137
  t109 := Tryd.underlying139
  a109 := Tryd.isAgg139
  z109 := Tryd.sizeOf139
  v109 := Tryd.zeroValue139
  t127 := Tryd.underlying147
  a127 := Tryd.isAgg147
  z127 := Tryd.sizeOf147
  v127 := Tryd.zeroValue147
  t146 := Tryd.underlying148
  a146 := Tryd.isAgg148
  z146 := Tryd.sizeOf148
  v146 := Tryd.zeroValue148
  t148 := Tryd.underlying150
  a148 := Tryd.isAgg150
  z148 := Tryd.sizeOf150
  v148 := Tryd.zeroValue150
  t164 := Tryd.underlying152
  a164 := Tryd.isAgg152
  z164 := Tryd.sizeOf152
  v164 := Tryd.zeroValue152 }
theorem Tryd.Builder_Extra_105 : Builder.Extra Tryd.prog Tryd.lays105_ren := {
  sizeBuilder := by kernel_rfl
  liesBuilder := by kernel_rfl
  t5 := Tryd.underlying5
  a5 := Tryd.isAgg5
  z5 := Tryd.sizeOf5
  v5 := Tryd.zeroValue5
  infoByte := by kernel_rfl
  cellsByte := by kernel_rfl
  sizeByte := by kernel_rfl
  neB5 := by decide }
open Go.RowKit Go.Lib in
/-- THE MAIN CASE: at least two copies of a string that is not empty. (LAID: no walk: one application.) -/
theorem Tryd.strings_Repeat_main (s : ByteArray) (c : Nat) (w : World) (hc2 : 2 ≤ c) (hc : c ≤ 9223372036854775807) (hlen : s.size * c ≤ 140737488355328) (h0 : 0 < s.size) :
    Calls Tryd.prog 69 #[.string s, .int .i64 c] w fun e w' => e = .returned (.string ⟨(Lib.repeatL s.data.toList c).toArray⟩) ∧ Below w.heap.size w w' := Any.strings_Repeat_main Tryd.lays105 Tryd.Builder_Extra_105 s c w hc2 hc hlen h0
open Go.RowKit Go.Lib in
theorem Tryd.strings_Repeat_zero (s : ByteArray) (w : World) :
    Calls Tryd.prog 69 #[.string s, .int .i64 0] w fun e w' => e = .returned (.string ⟨#[]⟩) ∧ w' = w := Any.strings_Repeat_zero Tryd.lays105 s w
open Go.RowKit Go.Lib in
theorem Tryd.strings_Repeat_one (s : ByteArray) (w : World) :
    Calls Tryd.prog 69 #[.string s, .int .i64 1] w fun e w' => e = .returned (.string s) ∧ w' = w := Any.strings_Repeat_one Tryd.lays105 s w
open Go.RowKit Go.Lib in
/-- Copies of the empty string. (LAID: no walk: one application.) -/
theorem Tryd.strings_Repeat_empty (s : ByteArray) (c : Nat) (w : World) (hc2 : 2 ≤ c) (hc : c ≤ 9223372036854775807) (h0 : s.size = 0) :
    Calls Tryd.prog 69 #[.string s, .int .i64 c] w fun e w' => e = .returned (.string ⟨#[]⟩) ∧ w' = w := Any.strings_Repeat_empty Tryd.lays105 s c w hc2 hc h0
open Go.RowKit Go.Lib in
/-- count < 0: "It panics if count is negative". (LAID: no walk: one application.) -/
theorem Tryd.strings_Repeat_negative (s : ByteArray) (c : Int) (w : World) (hc : c < 0) :
    Calls Tryd.prog 69 #[.string s, .int .i64 c] w fun e w' => e = .panicked [{ v := repeatPanic Tryd.lays105_ren "strings: negative Repeat count", recovered := false }] ∧ w' = w := Any.strings_Repeat_negative Tryd.lays105 s c w hc
open Go.RowKit Go.Lib in
/-- len(s) * count is no int: ".. or if the result of (len(s) * count) overflows". (LAID: no walk: one application.) -/
theorem Tryd.strings_Repeat_overflow (s : ByteArray) (c : Nat) (w : World) (hc : c ≤ 9223372036854775807) (hs : s.size ≤ 9223372036854775807) (hbig : 9223372036854775807 < s.size * c) :
    Calls Tryd.prog 69 #[.string s, .int .i64 c] w fun e w' => e = .panicked [{ v := repeatPanic Tryd.lays105_ren "strings: Repeat output length overflow", recovered := false }] ∧ w' = w := Any.strings_Repeat_overflow Tryd.lays105 s c w hc hs hbig
open Go.RowKit Go.Lib in
/-- **strings.Repeat: count ≥ 0, the result within one allocation: count copies of s.** (LAID: no walk: one application.) -/
theorem Tryd.strings_Repeat (s : ByteArray) (c : Nat) (w : World) (hc : c ≤ 9223372036854775807) (hlen : s.size * c ≤ 140737488355328) :
    Calls Tryd.prog 69 #[.string s, .int .i64 c] w fun e w' => e = .returned (.string ⟨(Lib.repeatL s.data.toList c).toArray⟩) ∧ Below w.heap.size w w' := Any.strings_Repeat Tryd.lays105 Tryd.Builder_Extra_105 s c w hc hlen
end Go.Proofs
/- The walks of layer 4: Name on both sides, kind, one, bytes. No condition. -/
namespace Go.Proofs.YtnehabcopjgklaaDoor
open Go.RowKit
theorem idx_mem (c : UInt8) : ∀ s : Txt, (c ∉ s ∧ Lib.indexByte s c = -1) ∨ (c ∈ s ∧ 0 ≤ Lib.indexByte s c)
  | [] => .inl ⟨by simp, rfl⟩
  | x :: r => by
    by_cases hx : x = c
    · exact .inr ⟨by simp [hx], by simp [Lib.indexByte, hx]⟩
    · have hb : (x == c) = false := by simpa using hx
      rcases idx_mem c r with ⟨h1, h2⟩ | ⟨h1, h2⟩
      · exact .inl ⟨by simp [h1]; exact fun e => hx e.symm, by simp [Lib.indexByte, hb, h2]⟩
      · refine .inr ⟨by simp [h1], ?_⟩
        have hne : (Lib.indexByte r c == -1) = false := by rw [beq_eq_false_iff_ne]; omega
        simp only [Lib.indexByte, hb, hne]
        simp
        omega
theorem name_all {s : Txt} (h0 : (0 : UInt8) ∉ s) (h47 : (47 : UInt8) ∉ s) : s.all (fun c => !(c == 0) && !(c == 47)) = true := by
  rw [List.all_eq_true]
  intro c hc
  have h1 : c ≠ 0 := fun e => h0 (e ▸ hc)
  have h2 : c ≠ 47 := fun e => h47 (e ▸ hc)
  simp [h1, h2]
theorem name_no {s : Txt} (h : (0 : UInt8) ∈ s ∨ (47 : UInt8) ∈ s) : nameB s = false := by
  unfold nameB
  rw [Bool.and_eq_false_iff]
  refine .inr (List.all_eq_false.2 ?_)
  rcases h with h | h
  · exact ⟨0, h, by simp⟩
  · exact ⟨47, h, by simp⟩
theorem indexByte_calls (s : Txt) (c : Int) (k : UInt8) (hk : c.toNat.toUInt8 = k) (w : World) : Calls Tryd.prog 80 #[.string (B s), .int .u8 c] w fun e w' => e = .returned (.int .i64 (Lib.indexByte s k)) ∧ w' = w := by
  have := Tryd.strings_IndexByte (B s) c w
  rw [hk, show (B s).data.toList = s by simp [B]] at this
  exact this
set_option maxRecDepth 100000 in
set_option maxHeartbeats 1000000 in
theorem name_calls (s : Txt) (w : World) : Calls Tryd.prog 67 #[.string (B s)] w fun e w' => e = .returned (.bool (nameB s)) ∧ w' = w := by
  obtain ⟨r, hr⟩ : ∃ r, Hid (r = nameB s) := ⟨_, Lib.hid rfl⟩
  rw [← hr.out]
  have x0 := Lib.hid (indexByte_calls s 0 0 rfl w)
  have x47 := Lib.hid (indexByte_calls s 47 47 rfl w)
  by_cases hz : s = []
  · subst hz
    have hf : Hid (r = false) := hr
    clear x0 x47
    go_enter Tryd.func67, Tryd.ntmps67
    go_wp2
    go_ret
    exact ⟨by rw [hf.out]; rfl, rfl⟩
  · have hb0 : List.isEmpty s = false := by
      cases s with
      | nil => exact absurd rfl hz
      | cons _ _ => rfl
    have h1 : 1 ≤ s.length := List.length_pos_iff.2 hz
    by_cases h40 : s.length ≤ 40
    · have i40 : (s.length : Int) ≤ 40 := by omega
      rcases idx_mem 0 s with ⟨m0, e0⟩ | ⟨m0, e0⟩
      · rw [e0] at x0
        rcases idx_mem 47 s with ⟨m7, e7⟩ | ⟨m7, e7⟩
        · rw [e7] at x47
          have hf : Hid (r = true) := by show r = true; rw [hr.out]; unfold nameB; rw [name_all m0 m7]; simp [h1, h40]
          clear e0 e7 m0 m7 hr h1 h40
          go_enter Tryd.func67, Tryd.ntmps67
          go_wp2_with (first
            | ((with_reducible refine x0.out.mono ?_); rintro e w1 ⟨rfl, rfl⟩)
            | ((with_reducible refine x47.out.mono ?_); rintro e w1 ⟨rfl, rfl⟩))
          go_ret
          exact ⟨by rw [hf.out]; rfl, rfl⟩
        · have hf : Hid (r = false) := by show r = false; rw [hr.out]; exact name_no (.inr m7)
          have e7' : ¬ Lib.indexByte s 47 < 0 := by omega
          generalize Lib.indexByte s 47 = q at *
          clear e0 e7 m0 m7 hr h1 h40
          go_enter Tryd.func67, Tryd.ntmps67
          go_wp2_with (first
            | ((with_reducible refine x0.out.mono ?_); rintro e w1 ⟨rfl, rfl⟩)
            | ((with_reducible refine x47.out.mono ?_); rintro e w1 ⟨rfl, rfl⟩))
          go_ret
          exact ⟨by rw [hf.out]; simp [e7'], rfl⟩
      · have hf : Hid (r = false) := by show r = false; rw [hr.out]; exact name_no (.inl m0)
        have e0' : ¬ Lib.indexByte s 0 < 0 := by omega
        generalize Lib.indexByte s 0 = q at *
        clear e0 m0 hr h1 h40 x47
        go_enter Tryd.func67, Tryd.ntmps67
        go_wp2_with (first
          | ((with_reducible refine x0.out.mono ?_); rintro e w1 ⟨rfl, rfl⟩))
        go_ret
        exact ⟨by rw [hf.out]; rfl, rfl⟩
    · have i40 : ¬ (s.length : Int) ≤ 40 := by omega
      have hf : Hid (r = false) := by show r = false; rw [hr.out]; unfold nameB; simp [h40]
      clear x0 x47 hr h1 h40
      go_enter Tryd.func67, Tryd.ntmps67
      go_wp2
      go_ret
      exact ⟨by rw [hf.out]; rfl, rfl⟩
theorem all_take {s : Txt} {p : UInt8 → Bool} {k : Nat} {c : UInt8} (h : (s.take k).all p = true) (hc : s[k]? = some c) (hp : p c = true) : (s.take (k + 1)).all p = true := by
  rw [List.take_add_one, List.all_append, h, hc]
  simp [hp]
set_option maxRecDepth 100000 in
set_option maxHeartbeats 1000000 in
theorem refName_calls (s : Txt) (hs : s.length ≤ 9223372036854775807) (w : World) : Calls Tryd.prog 77 #[.string (B s)] w fun e w' => e = .returned (.bool (nameB s)) ∧ w' = w := by
  obtain ⟨b, hb⟩ : ∃ b, Hid (b = nameB s) := ⟨_, Lib.hid rfl⟩
  rw [← hb.out]
  go_enter Tryd.func77, Tryd.ntmps77
  go_wp2
  go_loop [3] (fun vi => ∃ k : Nat, vi = .int .i64 k ∧ k ≤ s.length ∧ Hid ((s.take k).all (fun c => !(c == 0) && !(c == 47)) = true)) (fun vi => s.length - (intOf vi).toNat)
  case atStart => exact ⟨0, rfl, by omega, Lib.hid rfl⟩
  case round =>
    obtain ⟨k, rfl, hk, hall⟩ := hrel
    by_cases hlt : k < s.length
    · have hki : (k : Int) < (s.length : Int) := by omega
      obtain ⟨c, hc⟩ : ∃ c, s[k] = c := ⟨_, rfl⟩
      have hck : s[k]? = some c := by rw [List.getElem?_eq_getElem hlt, hc]
      have hm := List.mem_of_getElem? hck
      obtain ⟨n, hn⟩ : ∃ n, c.toNat = n := ⟨_, rfl⟩
      by_cases g1 : n = 0
      · have e1 : c = 0 := UInt8.toNat_inj.1 (by rw [hn, g1]; rfl)
        have hf : Hid (b = false) := by show b = false; rw [hb.out]; exact name_no (.inl (e1 ▸ hm))
        subst g1
        clear hb hall hck hm e1
        go_wp2
        go_ret
        exact ⟨by rw [hf.out]; rfl, rfl⟩
      · have i1 : ((n : Int) == 0) = false := by rw [beq_eq_false_iff_ne]; omega
        have e1 : c ≠ 0 := fun e => g1 (by rw [← hn, e]; rfl)
        by_cases g2 : n = 47
        · have e2 : c = 47 := UInt8.toNat_inj.1 (by rw [hn, g2]; rfl)
          have hf : Hid (b = false) := by show b = false; rw [hb.out]; exact name_no (.inr (e2 ▸ hm))
          subst g2
          clear hb hall hck hm e2 e1
          go_wp2
          go_ret
          exact ⟨by rw [hf.out]; rfl, rfl⟩
        · have i2 : ((n : Int) == 47) = false := by rw [beq_eq_false_iff_ne]; omega
          have e2 : c ≠ 47 := fun e => g2 (by rw [← hn, e]; rfl)
          have hst := Lib.hid (all_take hall.out hck (by simp [e1, e2]))
          clear hall hck hm e1 e2 g1 g2
          go_wp2
          go_round
          case rel => exact ⟨k + 1, by go_num, by omega, hst⟩
          case measure => simp [intOf]; omega
    · have hki : ¬ (k : Int) < (s.length : Int) := by omega
      have hf : Hid (b = (decide (1 ≤ s.length) && decide (s.length ≤ 40))) := by
        show b = _
        have := hall.out
        rw [List.take_of_length_le (by omega)] at this
        rw [hb.out]
        unfold nameB
        rw [this, Bool.and_true]
      clear hb hall
      by_cases h1 : 1 ≤ s.length
      · have i1 : (1 : Int) ≤ (s.length : Int) := by omega
        by_cases h40 : s.length ≤ 40
        · have i40 : (s.length : Int) ≤ 40 := by omega
          go_wp2
          go_ret
          exact ⟨by rw [hf.out]; simp [h1, h40], rfl⟩
        · have i40 : ¬ (s.length : Int) ≤ 40 := by omega
          go_wp2
          go_ret
          exact ⟨by rw [hf.out]; simp [h1, h40], rfl⟩
      · have i1 : ¬ (1 : Int) ≤ (s.length : Int) := by omega
        go_wp2
        go_ret
        exact ⟨by rw [hf.out]; simp [h1], rfl⟩
end Go.Proofs.YtnehabcopjgklaaDoor
/- The walks of layer 1 (varint) and of its reference: Put and Get, each once. No condition. -/
namespace Go.Proofs.YtnehabcopjgklaaDoor
open Go.RowKit

/-- What the reference's Get returns. -/
def getPair : Option (Nat × Nat) → Value
  | some (n, k) => .tuple #[.int .u64 n, .int .i64 k]
  | none => .tuple #[.int .u64 0, .int .i64 0]

/-- What Get returns. -/
def getTriple (l : List UInt8) : Option (Nat × Nat) → Value
  | some (n, k) => .tuple #[.int .u64 n, .string (B (l.drop k)), .int .i64 0]
  | none => .tuple #[.int .u64 0, .string (B []), .int .i64 2]

theorem or128 (k : Nat) : bits .or .u8 ((k : Int) % 256) 128 = 128 + (k : Int) % 128 := by
  have h : ∀ m : Fin 256, bits .or .u8 ((m.val : Nat) : Int) 128 = 128 + ((m.val : Nat) : Int) % 128 := by decide +kernel
  have := h ⟨k % 256, by omega⟩
  simp only at this
  rw [show ((k % 256 : Nat) : Int) = (k : Int) % 256 from by omega] at this
  rw [this]
  omega

set_option maxRecDepth 100000 in
set_option maxHeartbeats 400000 in
theorem refPut_calls (n : Nat) (hn : n ≤ 18446744073709551615) (w : World) :
    Calls Tryd.prog 78 #[.int .u64 n] w fun e w' => e = .returned (.string (B (put n))) ∧ Below w.heap.size w w' := by
  have hc := fun (wx : World) (x : Int) => Tryd.str_of_one wx x
  go_enter Tryd.func78, Tryd.ntmps78
  go_wp2
  go_loopw [0, 3] (fun m s wr => ∃ (f k : Nat) (acc : List UInt8), m = .int .u64 k ∧ s = .string (B acc) ∧ Hid (acc ++ putF f k = put n) ∧ acc.length ≤ 9 ∧ acc.length + f ≤ 9 ∧ Hid (Fits f k) ∧ Below w.heap.size w wr) (fun m _ _ => (intOf m).toNat)
  case atStart => exact ⟨9, n, [], rfl, rfl, rfl, by simp, by simp, Lib.hid (Fits.of64 hn), Below.refl _ _⟩
  case round =>
    obtain ⟨f, k, acc, rfl, rfl, h1, h3, h4, h2, hb⟩ := hrel
    have hle := h2.out.le (by omega)
    go_wp2
    · have hk : 128 ≤ k := by omega
      obtain ⟨f, rfl⟩ := h2.out.pos hk
      go_roundw
      case rel => exact ⟨f, k / 128, acc ++ [UInt8.ofNat (128 + k % 128)], by go_num, by rw [ofNat_add_u8]; rfl, Lib.hid (by rw [← h1.out, putF_big f k hk]; simp), by simp; omega, by simp; omega, Lib.hid h2.out.next, hb.alloc hb.size _⟩
      case measure => simp [intOf]; omega
    · have hk : k < 128 := by omega
      go_ret
      refine ⟨?_, hb.alloc hb.size _⟩
      rw [← h1.out, putF_small f k hk]
      rfl

set_option maxRecDepth 100000 in
set_option maxHeartbeats 800000 in
theorem refGet_calls (l : List UInt8) (hl : l.length ≤ 4611686018427387904) (w : World) :
    Calls Tryd.prog 76 #[.string (B l)] w fun e w' => e = .returned (getPair (get l)) ∧ w' = w := by
  go_enter Tryd.func76, Tryd.ntmps76
  go_wp2
  go_loop [4] (fun e => ∃ k : Nat, e = .int .i64 k ∧ k ≤ 10 ∧ k ≤ l.length ∧ Hid (k ≤ lead l)) (fun e => 10 - (intOf e).toNat)
  case atStart => exact ⟨0, rfl, by omega, by omega, Nat.zero_le _⟩
  case round =>
    obtain ⟨e, rfl, h1, h2, h3⟩ := hrel
    by_cases ha : e < l.length
    · by_cases hb : e < 10
      · obtain ⟨c, hc⟩ : ∃ c, l[e] = c := ⟨_, rfl⟩
        by_cases hd : 128 ≤ c.toNat
        · have hn : Hid (e + 1 ≤ lead l) := lead_next h3.out ha (by rw [hc]; exact hd)
          go_wp2
          go_round
          case rel => exact ⟨e + 1, by go_num, by omega, by omega, hn⟩
          case measure => simp [intOf]; omega
        · have hle : Hid (lead l = e) := lead_here h3.out ha (by rw [hc]; omega)
          by_cases h9 : e = 9 ∧ 1 < c.toNat
          · obtain ⟨rfl, h9'⟩ := h9
            have hfin : Hid (get l = none) := get_nine ha hle.out (by rw [hc]; exact h9')
            go_wp2
            all_goals first | (exfalso; omega) | (go_ret2; exact ⟨by rw [hfin.out]; rfl, rfl⟩)
          · by_cases h0 : 0 < e ∧ c.toNat = 0
            · obtain ⟨h0', h0c⟩ := h0
              have hfin : Hid (get l = none) := get_zero ha hle.out h0' (by rw [hc]; exact h0c)
              have h0d : ((c.toNat : Int) == 0) = true := by simp [h0c]
              have h9' : ¬ 1 < c.toNat := by omega
              have h0c' := Lib.hid h0c
              clear h9 h0c
              by_cases he9 : e = 9
              · subst he9
                go_wp2
                all_goals first | (exfalso; omega) | (go_ret2; exact ⟨by rw [hfin.out]; rfl, rfl⟩)
              · go_wp2
                all_goals first | (exfalso; omega) | (go_ret2; exact ⟨by rw [hfin.out]; rfl, rfl⟩)
            · obtain ⟨V, hfin0, hV00, hVs0, hVb⟩ := get_seq ha hle.out hb (fun h => by rw [hc]; omega) (fun h => by rw [hc]; omega)
              have hfin := Lib.hid hfin0
              have hV0 := Lib.hid hV00
              have hVs := Lib.hid hVs0
              clear hfin0 hV00 hVs0
              have hVb' := Lib.hid hVb
              clear hVb
              have hcz : 0 < e → ((c.toNat : Int) == 0) = false := by intro h; simp; omega
              by_cases he9 : e = 9
              · subst he9
                have hcz' := hcz (by omega)
                have hc1 : ¬ 1 < c.toNat := by omega
                clear hcz
                go_wp2
                all_goals first | (exfalso; omega) | (exfalso; simp at ha; done) | (exfalso; rename_i hnil _; subst hnil; simp at ha; done) | skip
                all_goals
                  go_loop [5, 6] (fun n i => ∃ j : Nat, j ≤ 9 + 1 ∧ i = .int .i64 ((j : Int) - 1) ∧ n = .int .u64 (V j)) (fun _ i => (intOf i + 1).toNat)
                  case atStart => exact ⟨9 + 1, by omega, by go_num, by rw [hV0.out]; rfl⟩
                  case round =>
                    obtain ⟨j, hj, rfl, rfl⟩ := hrel
                    cases j with
                    | zero =>
                      go_wp2
                      all_goals first | (exfalso; omega) | skip
                      go_ret2
                      exact ⟨by rw [hfin.out]; rfl, rfl⟩
                    | succ m =>
                      have hm : m < l.length := by omega
                      have hs := hVs.out m hm (by omega)
                      have hb1 := hVb'.out m
                      have hji : ((m + 1 : Nat) : Int) - 1 = (m : Int) := by omega
                      have hx : 128 * (V (m + 1) : Int) + ((l[m]).toNat : Int) % 128 ≤ 18446744073709551615 := by omega
                      have hs' : Hid ((V m : Int) = 128 * (V (m + 1) : Int) + ((l[m]).toNat : Int) % 128) := by rw [hs]; show (_ : Int) = _; omega
                      clear hs
                      rw [hji]
                      generalize V (m + 1) = N at *
                      go_wp2
                      all_goals first | (exfalso; omega) | skip
                      go_round
                      case rel => exact ⟨m, by omega, by go_num, by rw [hs'.out]⟩
                      case measure => simp [intOf]
              · by_cases he0 : e = 0
                · subst he0
                  clear hcz
                  go_wp2
                  all_goals first | (exfalso; omega) | (exfalso; simp at ha; done) | (exfalso; rename_i hnil _; subst hnil; simp at ha; done) | skip
                  all_goals
                    go_loop [5, 6] (fun n i => ∃ j : Nat, j ≤ 0 + 1 ∧ i = .int .i64 ((j : Int) - 1) ∧ n = .int .u64 (V j)) (fun _ i => (intOf i + 1).toNat)
                    case atStart => exact ⟨0 + 1, by omega, by go_num, by rw [hV0.out]; rfl⟩
                    case round =>
                      obtain ⟨j, hj, rfl, rfl⟩ := hrel
                      cases j with
                      | zero =>
                        go_wp2
                        all_goals first | (exfalso; omega) | skip
                        go_ret2
                        exact ⟨by rw [hfin.out]; rfl, rfl⟩
                      | succ m =>
                        have hm : m < l.length := by omega
                        have hs := hVs.out m hm (by omega)
                        have hb1 := hVb'.out m
                        have hji : ((m + 1 : Nat) : Int) - 1 = (m : Int) := by omega
                        have hx : 128 * (V (m + 1) : Int) + ((l[m]).toNat : Int) % 128 ≤ 18446744073709551615 := by omega
                        have hs' : Hid ((V m : Int) = 128 * (V (m + 1) : Int) + ((l[m]).toNat : Int) % 128) := by rw [hs]; show (_ : Int) = _; omega
                        clear hs
                        rw [hji]
                        generalize V (m + 1) = N at *
                        go_wp2
                        all_goals first | (exfalso; omega) | skip
                        go_round
                        case rel => exact ⟨m, by omega, by go_num, by rw [hs'.out]⟩
                        case measure => simp [intOf]
                · have hcz' := hcz (by omega)
                  clear hcz
                  go_wp2
                  all_goals first | (exfalso; omega) | (exfalso; simp at ha; done) | (exfalso; rename_i hnil _; subst hnil; simp at ha; done) | skip
                  all_goals
                    go_loop [5, 6] (fun n i => ∃ j : Nat, j ≤ e + 1 ∧ i = .int .i64 ((j : Int) - 1) ∧ n = .int .u64 (V j)) (fun _ i => (intOf i + 1).toNat)
                    case atStart => exact ⟨e + 1, by omega, by go_num, by rw [hV0.out]; rfl⟩
                    case round =>
                      obtain ⟨j, hj, rfl, rfl⟩ := hrel
                      cases j with
                      | zero =>
                        go_wp2
                        all_goals first | (exfalso; omega) | skip
                        go_ret2
                        exact ⟨by rw [hfin.out]; rfl, rfl⟩
                      | succ m =>
                        have hm : m < l.length := by omega
                        have hs := hVs.out m hm (by omega)
                        have hb1 := hVb'.out m
                        have hji : ((m + 1 : Nat) : Int) - 1 = (m : Int) := by omega
                        have hx : 128 * (V (m + 1) : Int) + ((l[m]).toNat : Int) % 128 ≤ 18446744073709551615 := by omega
                        have hs' : Hid ((V m : Int) = 128 * (V (m + 1) : Int) + ((l[m]).toNat : Int) % 128) := by rw [hs]; show (_ : Int) = _; omega
                        clear hs
                        rw [hji]
                        generalize V (m + 1) = N at *
                        go_wp2
                        all_goals first | (exfalso; omega) | skip
                        go_round
                        case rel => exact ⟨m, by omega, by go_num, by rw [hs'.out]⟩
                        case measure => simp [intOf]
      · have hfin : Hid (get l = none) := get_ten (by have := h3.out; omega)
        have hb' : e = 10 := by omega
        subst hb'
        go_wp2
        all_goals first | (exfalso; omega) | (go_ret2; exact ⟨by rw [hfin.out]; rfl, rfl⟩)
    · have hfin : Hid (get l = none) := get_end (by have := h3.out; omega)
      go_wp2
      all_goals first | (exfalso; omega) | (go_ret2; exact ⟨by rw [hfin.out]; rfl, rfl⟩)
end Go.Proofs.YtnehabcopjgklaaDoor
