/- Lemmas and walks of this seat, laid together: Rowk, Id, Far, LitB, Stage, Zero, Unhex0, Far2, Splice, PkW, PkR, Varint, Varint2, Lz. -/
import Derived.Test.YtoekdiklbfdpiaaDoorMa
import Derived.Deep.MidRow
import Derived.Lib.AppendZerosOnto
import Derived.ChangeKeysEq
import Derived.Laws.Tables
import Derived.Maps.AppendAt
import Derived.Great.BuildSlice
/- Rows of the call's own whose elements have several cells: written, element by element, and many at once; copy, clear, append of a make. No condition; no program. -/
namespace Go.Proofs.YtoekdiklbfdpiaaDoor
open Go.RowKit
section
variable {P : Program} {w w' : World} {g : Nat} {e : TypeId}
theorem Blk.setCells : ∀ (vs : List Value) (o : Nat) (w : World) (cur : Array Value), Blk w g e cur → ∃ cur', Blk (w.setCells g o vs) g e cur' ∧ cur'.size = cur.size
  | [], _, _, cur, h => ⟨cur, h, rfl⟩
  | v :: r, o, w, cur, h => by
    obtain ⟨cur', h1, h2⟩ := Blk.setCells r (o + 1) _ _ (h.set_ o v)
    exact ⟨cur', h1, by rw [h2, Array.size_setIfInBounds]⟩
theorem Blk.setCells_far {g' : Nat} (hne : g' ≠ g) : ∀ (vs : List Value) (o : Nat) (w : World) {cur : Array Value}, Blk w g' e cur → Blk (w.setCells g o vs) g' e cur
  | [], _, _, _, h => h
  | v :: r, o, w, _, h => Blk.setCells_far hne r (o + 1) _ (h.far (p := ⟨g, o, none⟩) hne v)
theorem below_setCells : ∀ (vs : List Value) (o : Nat) (w0 w : World) {base : Nat}, Below base w0 w → base ≤ g → Below base w0 (w.setCells g o vs)
  | [], _, _, _, _, h, _ => h
  | v :: r, o, w0, w, base, h, hg => below_setCells r (o + 1) w0 _ (h.setCell (p := ⟨g, o, none⟩) hg v) hg
theorem size_setCells : ∀ (vs : List Value) (o : Nat) (w : World), (w.setCells g o vs).heap.size = w.heap.size
  | [], _, _ => rfl
  | v :: r, o, w => by rw [World.setCells, size_setCells r]; exact World.size_setCell _ _ _
end
section
variable {α : Type} {P : Program} {w w' : World} {g : Nat} {e : TypeId} {k : Nat} {enc : α → List Value} {cap : Nat} {s t : List α}
/-- A row of the call's own: block g holds the elements' cells, one behind the other, and has room for cap. -/
structure Row (w : World) (g : Nat) (e : TypeId) (k : Nat) (enc : α → List Value) (cap : Nat) (s : List α) : Prop where
  blk : ∃ cur, Blk w g e cur ∧ cur.size = cap * k
  at_ : ∀ i x, s[i]? = some x → w.rangeAt g (i * k) (enc x)
  le : s.length ≤ cap
  top : cap ≤ maxLen
theorem Row.lt (h : Row w g e k enc cap s) : g < w.heap.size := by obtain ⟨cur, hb, _⟩ := h.blk; exact hb.lt
theorem Row.drew (h : Row w g e k enc cap s) : Row w.drew g e k enc cap s := ⟨h.blk, h.at_, h.le, h.top⟩
theorem Row.below (h : Row w g e k enc cap s) (hb : Below w.heap.size w w') : Row w' g e k enc cap s := by
  have hlt := h.lt
  obtain ⟨cur, hc, hs⟩ := h.blk
  exact ⟨⟨cur, hc.below hb hlt, hs⟩, fun i x hx => rangeAt_below (h.at_ i x hx) hlt hb, h.le, h.top⟩
theorem Row.alloc (h : Row w g e k enc cap s) (o : Obj) : Row (w.alloc o) g e k enc cap s := h.below ((Below.refl _ _).alloc (Nat.le_refl _) _)
theorem Row.cut (h : Row w g e k enc cap s) (n : Nat) : Row w g e k enc cap (s.take n) :=
  ⟨h.blk, fun i x hx => h.at_ i x (by rw [List.getElem?_take] at hx; split at hx; exact hx; cases hx), by have := h.le; simp; omega, h.top⟩
theorem Row.there (h : Row w g e k enc cap s) {o n : Nat} (hn : o + n ≤ cap * k) : w.there g o n := by
  obtain ⟨cur, hc, hs⟩ := h.blk
  intro j hj
  refine ⟨?_, hc.frozen _⟩
  rw [hc.cell, Array.getElem?_eq_getElem (by omega)]
  rfl
theorem Row.top63 (h : Row w g e k enc cap s) : cap ≤ 9223372036854775807 := by have := h.top; simpa [maxLen] using this
theorem Row.slice (h : Row w g e k enc cap s) : SliceAt w k enc (.slice (some ⟨g, 0, none⟩) s.length cap) s :=
  ⟨_, cap, rfl, h.le, h.top63, fun _ => ⟨g, 0, rfl, h.lt, fun i x hx => by rw [Nat.zero_add]; exact h.at_ i x hx⟩⟩
/-- Elements are written from place i on. -/
theorem Row.put (hk : ∀ x ∈ s, (enc x).length = k) (hkt : ∀ x ∈ t, (enc x).length = k) (h : Row w g e k enc cap s) {i : Nat} (hi : i ≤ s.length) (ht : i + t.length ≤ cap) :
    Row (w.setCells g (i * k) (rowsOf enc t)) g e k enc cap (s.take i ++ t ++ s.drop (i + t.length)) := by
  have hlen := rowsOf_length hkt
  obtain ⟨cur, hc, hs⟩ := h.blk
  obtain ⟨cur', hc', hs'⟩ := hc.setCells (rowsOf enc t) (i * k)
  have hroom : i * k + (rowsOf enc t).length ≤ cap * k := by
    rw [hlen, ← Nat.add_mul]
    exact Nat.mul_le_mul_right _ ht
  have hth : w.there g (i * k) (rowsOf enc t).length := h.there hroom
  refine ⟨⟨cur', hc', hs'.trans hs⟩, fun j x hx => ?_, ?_, h.top⟩
  · by_cases h1 : j < i
    · have hx' : s[j]? = some x := by
        rw [List.append_assoc, List.getElem?_append_left (by simp; omega), List.getElem?_take, if_pos h1] at hx
        exact hx
      refine World.rangeAt_setCells_apart (h.at_ j x hx') _ _ _ (.inr (.inl ?_))
      rw [hk x (List.mem_of_getElem? hx'), ← Nat.succ_mul]
      exact Nat.mul_le_mul_right _ h1
    · by_cases h2 : j < i + t.length
      · have hx' : t[j - i]? = some x := by
          rw [List.append_assoc, List.getElem?_append_right (by simp; omega), List.getElem?_append_left (by simp; omega)] at hx
          simpa [List.length_take, Nat.min_eq_left hi] using hx
        intro q u hu
        have hq := rowsOf_get hkt hx' hu
        have := World.rangeAt_setCells_same w g (i * k) (rowsOf enc t) hth _ u hq
        have e1 : i * k + ((j - i) * k + q) = j * k + q := by
          rw [← Nat.add_assoc, ← Nat.add_mul, show i + (j - i) = j from by omega]
        rwa [e1] at this
      · have hx' : s[j]? = some x := by
          rw [List.getElem?_append_right (by simp; omega), List.getElem?_drop] at hx
          rw [← hx]
          congr 1
          simp
          omega
        refine World.rangeAt_setCells_apart (h.at_ j x hx') _ _ _ (.inr (.inr ?_))
        rw [hlen, ← Nat.add_mul]
        exact Nat.mul_le_mul_right _ (by omega)
  · have := h.le
    simp
    omega
theorem Row.set (hk : ∀ x ∈ s, (enc x).length = k) (h : Row w g e k enc cap s) {i : Nat} (hi : i < s.length) {x : α} (hx : (enc x).length = k) : Row (w.setCells g (i * k) (enc x)) g e k enc cap (s.set i x) := by
  have := h.put hk (t := [x]) (fun y hy => by simp at hy; subst hy; exact hx) (i := i) (by omega) (by have := h.le; simp; omega)
  rw [rowsOf_one] at this
  rw [List.set_eq_take_append_cons_drop, if_pos hi]
  simpa using this
/-- Cells behind the first i elements are overwritten. -/
theorem Row.shed (hk : ∀ x ∈ s, (enc x).length = k) (h : Row w g e k enc cap s) (i : Nat) (zs : List Value) : Row (w.setCells g (i * k) zs) g e k enc cap (s.take i) := by
  obtain ⟨cur, hc, hs⟩ := h.blk
  obtain ⟨cur', hc', hs'⟩ := hc.setCells zs (i * k)
  refine ⟨⟨cur', hc', hs'.trans hs⟩, fun j x hx => ?_, ?_, h.top⟩
  · rw [List.getElem?_take] at hx
    split at hx
    · rename_i h1
      refine World.rangeAt_setCells_apart (h.at_ j x hx) _ _ _ (.inr (.inl ?_))
      rw [hk x (List.mem_of_getElem? hx), ← Nat.succ_mul]
      exact Nat.mul_le_mul_right _ h1
    · cases hx
  · have := h.le
    simp
    omega
theorem take_of_ranges (hk : ∀ x ∈ s, (enc x).length = k) {c : List Value} (hc : s.length * k ≤ c.length) (h : ∀ i x, s[i]? = some x → ∀ j u, (enc x)[j]? = some u → c[i * k + j]? = some u) : c.take (s.length * k) = rowsOf enc s := by
  induction s generalizing c with
  | nil => simp [rowsOf]
  | cons x s ih =>
    have hx := hk x (by simp)
    have h1 : c.take k = enc x := by
      refine List.ext_getElem? fun j => ?_
      rw [List.getElem?_take]
      split
      · rename_i hj
        have := h 0 x (by simp) j (enc x)[j] (List.getElem?_eq_getElem (by omega))
        rw [Nat.zero_mul, Nat.zero_add] at this
        rw [this, List.getElem?_eq_getElem (by omega)]
      · rw [List.getElem?_eq_none (by omega)]
    have h2 := ih (fun y hy => hk y (by simp [hy])) (c := c.drop k) (by simp only [List.length_cons, Nat.succ_mul] at hc; rw [List.length_drop]; omega) (fun i y hy j u hu => by
      rw [List.getElem?_drop]
      have := h (i + 1) y (by simpa using hy) j u hu
      rw [← this]
      congr 1
      rw [Nat.succ_mul]
      omega)
    simp only [List.length_cons, Nat.succ_mul, rowsOf, List.flatMap_cons] at *
    rw [Nat.add_comm, List.take_add, h1, h2]
theorem Row.own (hk : ∀ x ∈ s, (enc x).length = k) (h : Row w g e k enc cap s) {base : Nat} (hg : base ≤ g) : w.ownsRow base e k (.slice (some ⟨g, 0, none⟩) s.length cap) s.length (rowsOf enc s) := by
  obtain ⟨cur, hc, hs⟩ := h.blk
  have hle : s.length * k ≤ cap * k := Nat.mul_le_mul_right _ h.le
  refine ⟨rowsOf_length hk, .inr ⟨g, cap, cur, rfl, hg, hc, h.le, h.top, hs, take_of_ranges hk (by simpa [hs] using hle) fun i x hx j u hu => ?_⟩⟩
  have := h.at_ i x hx j u hu
  rw [hc.cell] at this
  rw [Array.getElem?_toList]
  exact this
/-- .. and back. -/
theorem Row.of_own {base : Nat} {v : Value} (hk : ∀ x ∈ s, (enc x).length = k) (h : w.ownsRow base e k v s.length (rowsOf enc s)) :
    (v = .slice none 0 0 ∧ s = []) ∨ ∃ g cap, v = .slice (some ⟨g, 0, none⟩) s.length cap ∧ base ≤ g ∧ Row w g e k enc cap s := by
  rcases h.2 with ⟨h1, h2⟩ | ⟨g, cap, cur, h1, h2, h3, h4, h5, h6, h7⟩
  · exact .inl ⟨h1, List.eq_nil_of_length_eq_zero h2⟩
  · refine .inr ⟨g, cap, h1, h2, ⟨cur, h3, h6⟩, fun i x hx j u hu => ?_, h4, h5⟩
    have hrow := rowsOf_get hk hx hu
    have hb : Blk w g e cur := h3
    rw [hb.cell, ← Array.getElem?_toList]
    rw [← h7, List.getElem?_take] at hrow
    split at hrow
    · exact hrow
    · cases hrow
/-- A row just laid, whose first cells are the elements'. -/
theorem Row.of_new (hk : ∀ x ∈ s, (enc x).length = k) (w : World) (zs : Array Value) (hs : s.length * k + zs.size = cap * k) (hle : s.length ≤ cap) (htop : cap ≤ maxLen) :
    Row (w.alloc (.cells ((rowsOf enc s).toArray ++ zs) e)) w.heap.size e k enc cap s := by
  have hb := Blk.new w e ((rowsOf enc s).toArray ++ zs)
  refine ⟨⟨_, hb, by rw [Array.size_append, List.size_toArray, rowsOf_length hk]; exact hs⟩, fun i x hx j u hu => ?_, hle, htop⟩
  have hrow := rowsOf_get hk hx hu
  have hlt : i * k + j < (rowsOf enc s).length := (List.getElem?_eq_some_iff.1 hrow).1
  rw [hb.cell, Array.getElem?_append_left (by simpa using hlt)]
  simpa using hrow
/-- copy, whatever the elements' size. -/
theorem run_copy_rows (w : World) (dT sT ty elem : TypeId) (b o dLen dCap : Nat) (a : Addr) (sLen sCap n : Nat) (cs : List Value)
    (hu : P.underlying dT = some (.slice elem)) (hs : (P.info? elem).map (·.size) = some k) (hn : n = Nat.min sLen dLen) (hl : cs.length = n * k)
    (hsrc : ∀ j v, cs[j]? = some v → w.cell? (a.add j) = some v) (ht : w.there b o cs.length) (h1 : ∀ v ∈ cs, v.oneCell' = true) :
    (Builtin.copy_ #[dT, sT] ty #[.slice (some ⟨b, o, none⟩) dLen dCap, .slice (some a) sLen sCap]).run P w = .ok (goInt n) (w.setCells b o cs) := by
  have hl' := run_loadCells_list (P := P) w a cs hsrc
  have hst := run_storeCells_cells (P := P) b o cs 0 w (fun j hj => (ht j hj).1) (fun j hj => (ht j hj).2) h1
  cases hq : P.info? elem with
  | none => simp [hq] at hs
  | some i =>
    have hi : i.size = k := by simpa [hq] using hs
    rw [hl] at hl'
    simp [Builtin.copy_, run_underlying hu, Builtin.lenOf, Builtin.firstCells, sizeOf, typeInfo, hq, hi, ← hn, hl', hst]
theorem run_clear_rows (w : World) (dT ty elem : TypeId) (z : Value) (b o n dCap : Nat) (hu : P.underlying dT = some (.slice elem)) (hz : (P.info? elem).map (·.zero) = some (some z)) (h0 : 0 < n)
    (ht : w.there b o (Builtin.zeroCells z.cells n).size) (h1 : ∀ v ∈ (Builtin.zeroCells z.cells n).toList, v.oneCell' = true) :
    (Builtin.clear_ #[dT] ty #[.slice (some ⟨b, o, none⟩) n dCap]).run P w = .ok (.tuple #[]) (w.setCells b o (Builtin.zeroCells z.cells n).toList) := by
  have hst := run_storeCells_cells (P := P) b o (Builtin.zeroCells z.cells n).toList 0 w (fun j hj => (ht j (by simpa using hj)).1) (fun j hj => (ht j (by simpa using hj)).2) h1
  obtain ⟨m, rfl⟩ : ∃ m, n = m + 1 := ⟨n - 1, by omega⟩
  cases hq : P.info? elem with
  | none => simp [hq] at hz
  | some i =>
    have hi : i.zero = some z := by simpa [hq] using hz
    rw [Nat.add_zero] at hst
    simp [Builtin.clear_, run_underlying hu, zeroValue, typeInfo, hq, hi]
    rw [hst]
    rfl
theorem rowsOf_find (hk : ∀ x ∈ s, (enc x).length = k) {j : Nat} {u : Value} (h : (rowsOf enc s)[j]? = some u) : ∃ i x q, s[i]? = some x ∧ (enc x)[q]? = some u ∧ j = i * k + q := by
  induction s generalizing j with
  | nil => simp [rowsOf] at h
  | cons y s ih =>
    have hy := hk y (by simp)
    simp only [rowsOf, List.flatMap_cons] at h
    by_cases hj : j < k
    · rw [List.getElem?_append_left (by omega)] at h
      exact ⟨0, y, j, rfl, h, by omega⟩
    · rw [List.getElem?_append_right (by omega), hy] at h
      obtain ⟨i, x, q, h1, h2, h3⟩ := ih (fun z hz => hk z (by simp [hz])) h
      exact ⟨i + 1, x, q, by simpa using h1, h2, by rw [Nat.succ_mul]; omega⟩
theorem SliceAt.news {v : Value} (hk : ∀ x ∈ s, (enc x).length = k) (h : SliceAt w k enc v s) {a : Addr} {n c : Nat} (hv : v = .slice (some a) n c) : ∀ j u, (rowsOf enc s)[j]? = some u → w.cell? (a.add j) = some u := by
  intro j u hu
  obtain ⟨i, x, q, h1, h2, h3⟩ := rowsOf_find hk hu
  obtain ⟨A, cap, rfl, _, _, hc⟩ := h
  have hi := (List.getElem?_eq_some_iff.1 h1).1
  obtain ⟨g, o, rfl, hg, hat⟩ := hc (by omega)
  injection hv with e1 _ _
  injection e1 with e1
  subst e1
  have := hat i x h1 q u h2
  rw [Addr.add_mid, h3, ← Nat.add_assoc]
  exact this
theorem rowsOf_one' (ho : ∀ x ∈ s, ∀ u ∈ enc x, u.oneCell' = true) : ∀ u ∈ rowsOf enc s, u.oneCell' = true := by
  intro u hu
  obtain ⟨x, hx, hux⟩ := List.mem_flatMap.1 hu
  exact ho x hx u hux
theorem zeroCells_one {z : Array Value} (hz : ∀ u ∈ z.toList, u.oneCell' = true) (n : Nat) : ∀ u ∈ (Builtin.zeroCells z n).toList, u.oneCell' = true := by
  intro u hu
  simp only [Builtin.zeroCells, Array.toList_map, List.mem_map] at hu
  obtain ⟨i, hi, rfl⟩ := hu
  have hlt : i % z.size < z.size := Nat.mod_lt _ (by
    rcases Nat.eq_zero_or_pos z.size with h0 | h0
    · rw [h0] at hi; simp at hi
    · exact h0)
  rw [getElem!_pos z _ hlt]
  exact hz _ (Array.getElem_mem_toList _)
theorem wp_clear_run (w : World) {o : Oper} {a : Act} {K : Act → World → Prop} {Q : Exit → Act → World → Prop} (d : Operand) (t : TypeId)
    (ho : o.op = .call { callee := .builtin .clear, args := #[d], argTypes := #[t] }) (v : Value) (hd : a.eval d = v) {v' : Value} {w' : World}
    (hr : (Builtin.clear_ #[t] o.type #[v]).run P w = .ok v' w') (h : K (a.put o.dst v') w') : o.wp P a w K Q := by
  unfold Oper.wp execOp
  simp only [ho, resolve, invoke, builtin, Sem.run_bind, Sem.run_pure, Result.andThen_ok, List.map_toArray, List.map_cons, List.map_nil, hd, hr]
  exact h
theorem wpList_clear_run (w : World) {ops : Array Oper} {rest : List Oper} {o : Oper} {a : Act} {Q : Exit → Act → World → Prop} (hgd : o.guard = none) (d : Operand) (t : TypeId)
    (ho : o.op = .call { callee := .builtin .clear, args := #[d], argTypes := #[t] }) (v : Value) (hd : a.eval d = v) {v' : Value} {w' : World}
    (hr : (Builtin.clear_ #[t] o.type #[v]).run P w = .ok v' w') (h : wpList P ops Q rest (a.put o.dst v') w') : wpList P ops Q (o :: rest) a w :=
  wpList_plain hgd fun _ hK => wp_clear_run w d t ho v hd hr (hK _ _ h)
theorem wp_copy_run (w : World) {o : Oper} {a : Act} {K : Act → World → Prop} {Q : Exit → Act → World → Prop} (d x : Operand) (t t' : TypeId)
    (ho : o.op = .call { callee := .builtin .copy, args := #[d, x], argTypes := #[t, t'] }) (v u : Value) (hd : a.eval d = v) (hs : a.eval x = u) {v' : Value} {w' : World}
    (hr : (Builtin.copy_ #[t, t'] o.type #[v, u]).run P w = .ok v' w') (h : K (a.put o.dst v') w') : o.wp P a w K Q := by
  unfold Oper.wp execOp
  simp only [ho, resolve, invoke, builtin, Sem.run_bind, Sem.run_pure, Result.andThen_ok, List.map_toArray, List.map_cons, List.map_nil, hd, hs, hr]
  exact h
theorem wpList_copy_run (w : World) {ops : Array Oper} {rest : List Oper} {o : Oper} {a : Act} {Q : Exit → Act → World → Prop} (hgd : o.guard = none) (d x : Operand) (t t' : TypeId)
    (ho : o.op = .call { callee := .builtin .copy, args := #[d, x], argTypes := #[t, t'] }) (v u : Value) (hd : a.eval d = v) (hs : a.eval x = u) {v' : Value} {w' : World}
    (hr : (Builtin.copy_ #[t, t'] o.type #[v, u]).run P w = .ok v' w') (h : wpList P ops Q rest (a.put o.dst v') w') : wpList P ops Q (o :: rest) a w :=
  wpList_plain hgd fun _ hK => wp_copy_run w d x t t' ho v u hd hs hr (hK _ _ h)
theorem step_copy_run {ops : Array Oper} {o : Oper} {a : Act} {w : World} {K : Act → World → Prop} {Q : Exit → Act → World → Prop} {E : Prop}
    (hg : o.guard = none) (d x : Operand) (dT sT : TypeId) (hop : o.op = Op.call { callee := Callee.builtin Builtin.copy, args := #[d, x], argTypes := #[dT, sT] })
    (v u : Value) (hd : a.eval d = v) (hx : a.eval x = u) {v' : Value} {w' : World} (hr : (Builtin.copy_ #[dT, sT] o.type #[v, u]).run P w = .ok v' w') (hK : K (a.put o.dst v') w') :
    if Region.wanted o (yielded ops a.tmps) = true then Oper.wp P o a w K Q else E := by
  have hw : Region.wanted o (yielded ops a.tmps) = true := by simp [Region.wanted, hg]
  rw [if_pos hw]
  exact wp_copy_run w d x dT sT hop v u hd hx hr hK
end
end Go.Proofs.YtoekdiklbfdpiaaDoor
/- Arrays of bytes as values: ids. Their cells, and == on them. No condition. -/
namespace Go.Proofs.YtoekdiklbfdpiaaDoor
open Go.RowKit

def u8s (l : List UInt8) : Array Value := (l.map u8v).toArray
theorem u8s_size (l : List UInt8) : (u8s l).size = l.length := by simp [u8s]
theorem u8s_get (l : List UInt8) (i : Nat) (h : i < l.length) : (u8s l)[i]? = some (.int .u8 ((l.getD i 0).toNat : Nat)) := by
  simp [u8s, u8v, List.getD, List.getElem?_eq_getElem h]
theorem u8s_set (l : List UInt8) (i n : Nat) (h : n < 256) : (u8s l).setIfInBounds i (.int .u8 (n : Nat)) = u8s (l.set i n.toUInt8) := by
  apply Array.ext'
  simp only [u8s, Array.toList_setIfInBounds, List.map_set]
  rw [show u8v n.toUInt8 = .int .u8 (n : Nat) from u8v_ofNat n h]
theorem u8s_one (l : List UInt8) : (u8s l).all (·.oneCell') = true :=
  Array.all_eq_true_iff_forall_mem.2 fun v hv => u8v_one l v (by simpa [u8s] using hv)
theorem u8v_inj {a b : UInt8} (h : u8v a = u8v b) : a = b := by
  simp only [u8v, Value.int.injEq, true_and] at h
  exact UInt8.toNat_inj.1 (by omega)
theorem map_u8v_inj {a b : List UInt8} (h : a.map u8v = b.map u8v) : a = b := by
  induction a generalizing b with
  | nil => cases b with
    | nil => rfl
    | cons => cases h
  | cons x a ih => cases b with
    | nil => cases h
    | cons y b =>
      simp only [List.map_cons, List.cons.injEq] at h
      rw [u8v_inj h.1, ih h.2]
theorem u8s_inj {a b : List UInt8} (h : u8s a = u8s b) : a = b := map_u8v_inj (by simpa [u8s] using congrArg Array.toList h)
theorem sz32 : (Tryd.prog.info? 36).map (·.size) = some 32 := by kernel_rfl
theorem below_setRow {B g : Nat} {a w : World} (h : Below B a w) (hB : B ≤ g) (cs : Array Value) : Below B a (w.setRow g cs) :=
  h.trans ⟨rfl, rfl, rfl, by simp, fun k hk => setRow_other _ _ _ _ (by omega)⟩
theorem size_alloc' (w : World) (o : Obj) : (w.alloc o).heap.size = w.heap.size + 1 := by simp

section
variable {P : Program}
theorem run_part_byte (w : World) {e : TypeId} (he : P.plainKey e = true) (l : List UInt8) (i : Nat) (h : i < l.length) : (part e (u8s l) i).run P w = .ok (u8v (l.getD i 0)) w :=
  run_part_plain w he (by rw [u8s_get l i h]; rfl)
theorem run_eqItems_bytes (w : World) (d : Nat) {e : TypeId} (he : P.plainKey e = true) (hu : P.underlying e = some (.int .u8)) (hc : P.cellsOf e = 1) (a b : List UInt8) :
    ∀ is : List Nat, (∀ i ∈ is, i < a.length ∧ i < b.length) → (Op.eqItems (d + 1) e (P.cellsOf e) (u8s a) (u8s b) is).run P w = .ok (decide (∀ i ∈ is, a.getD i 0 = b.getD i 0)) w
  | [], _ => by simp [Op.eqItems]
  | i :: is, h => by
    obtain ⟨ha, hb⟩ := h i (by simp)
    have ih := run_eqItems_bytes w d he hu hc a b is (fun j hj => h j (by simp [hj]))
    simp only [Op.eqItems, Sem.run_bind, hc, Nat.mul_one, run_part_byte w he a i ha, run_part_byte w he b i hb, Result.andThen_ok]
    rw [u8v, u8v, run_equalIn_int w d e .u8 .u8 _ _ hu]
    simp only [Result.andThen_ok]
    have e1 : (((a.getD i 0).toNat : Int) == ((b.getD i 0).toNat : Int)) = decide (a.getD i 0 = b.getD i 0) := by
      rw [Bool.eq_iff_iff]
      simp only [beq_iff_eq, decide_eq_true_eq]
      exact ⟨fun h => UInt8.toNat_inj.1 (by omega), fun h => by rw [h]⟩
    rw [e1]
    by_cases hi : a.getD i 0 = b.getD i 0
    · simp only [hi, decide_true, Bool.not_true, Bool.false_eq_true, if_false]
      rw [hc] at ih
      rw [ih]
      simp only [List.forall_mem_cons, hi, true_and]
    · simp only [List.forall_mem_cons, hi, false_and, decide_false, Bool.not_false, if_true, Sem.run_pure]
theorem run_equalIn_bytes (w : World) (d : Nat) {t e : TypeId} {n : Nat} (ht : P.underlying t = some (.array n e)) (he : P.plainKey e = true) (hu : P.underlying e = some (.int .u8)) (hc : P.cellsOf e = 1) (hi : ∃ i, P.info? e = some i)
    (a b : List UInt8) (ha : a.length = n) (hb : b.length = n) : (Op.equalIn (d + 2) t (.agg (u8s a)) (.agg (u8s b))).run P w = .ok (decide (a = b)) w := by
  obtain ⟨i, hi⟩ := hi
  rw [run_equalIn_array w (d + 1) _ _ ht hi, run_eqItems_bytes w d he hu hc a b _ (fun j hj => by rw [List.mem_range] at hj; omega)]
  congr 1
  rw [Bool.eq_iff_iff]
  simp only [decide_eq_true_eq, List.mem_range]
  constructor
  · intro h
    apply List.ext_getElem (by omega)
    intro j h1 h2
    have := h j (by omega)
    simpa [List.getD, List.getElem?_eq_getElem h1, List.getElem?_eq_getElem h2] using this
  · intro h j _
    rw [h]
end
theorem run_eql_id (w : World) (a b : List UInt8) (ha : a.length = 32) (hb : b.length = 32) :
    (binOp .eql 36 (.agg (u8s a)) (.agg (u8s b))).run Tryd.prog w = .ok (.bool (decide (a = b))) w := by
  rw [run_eql_struct, run_equalIn_bytes w 9998 Tryd.underlying36 (by kernel_rfl) Tryd.underlying5 (by kernel_rfl) (Option.isSome_iff_exists.1 (by kernel_rfl)) a b ha hb]
  rfl
theorem run_neq_id (w : World) (a b : List UInt8) (ha : a.length = 32) (hb : b.length = 32) :
    (binOp .neq 36 (.agg (u8s a)) (.agg (u8s b))).run Tryd.prog w = .ok (.bool (!decide (a = b))) w := by
  rw [run_neq_struct, run_equalIn_bytes w 9998 Tryd.underlying36 (by kernel_rfl) Tryd.underlying5 (by kernel_rfl) (Option.isSome_iff_exists.1 (by kernel_rfl)) a b ha hb]
  rfl
/-- The cells of a block. -/
def RowOf (w : World) (g : Nat) : Array Value := match w.heap[g]? with | some (.cells cs _ _) => cs | _ => #[]
def HasRow (w : World) (g : Nat) (t : TypeId) (n : Nat) : Prop := ∃ cs, cs.size = n ∧ Blk w g t cs
theorem rowOf_blk {w : World} {g : Nat} {t : TypeId} {cs : Array Value} (h : Blk w g t cs) : RowOf w g = cs := by
  unfold Blk at h
  simp [RowOf, h]
theorem hasRow_blk {w : World} {g : Nat} {t : TypeId} {cs : Array Value} {n : Nat} (h : Blk w g t cs) (hn : cs.size = n) : HasRow w g t n := ⟨cs, hn, h⟩
/-- The load and the store of an id, not to be opened by the walk. -/
def ldvI (p : Addr) : Sem Value := loadVar 36 p
def stvI (p : Addr) (v : Value) : Sem Unit := storeVar 36 p v
theorem ldvI_eq (p : Addr) : loadVar 36 p = ldvI p := rfl
theorem stvI_eq (p : Addr) (v : Value) : storeVar 36 p v = stvI p v := rfl
theorem run_ldvI (w : World) (g : Nat) (hh : HasRow w g 36 32) : (ldvI ⟨g, 0, none⟩).run Tryd.prog w = .ok (.agg (RowOf w g)) w := by
  obtain ⟨cs, hn, h⟩ := hh
  rw [rowOf_blk h]
  exact run_loadVar_row w g _ _ _ _ _ h Tryd.underlying36 rfl (by rw [hn]; exact sz32)
theorem hasRow_id {w : World} {g : Nat} {l : List UInt8} (h : Blk w g 36 (u8s l)) (hl : l.length = 32) : HasRow w g 36 32 := hasRow_blk h (by rw [u8s_size, hl])
/-- An id's 32 bytes. -/
abbrev IdL := List UInt8
def zeroId : List UInt8 := List.replicate 32 0
theorem zeroId_length : zeroId.length = 32 := by simp [zeroId]
section
variable {P : Program}
/-- An aggregate is stored into a variable that was laid just now: the world behind it is a new one. -/
theorem wpList_store_new {W : World} {ops : Array Oper} {rest : List Oper} {o : Oper} {a : Act} {Q : Exit → Act → World → Prop} (hgd : o.guard = none) (ty : TypeId) (x y : Operand) (ho : o.op = .store ty x y)
    (cells zs : Array Value) (hx : a.eval x = .pointer (some ⟨W.heap.size, 0, none⟩)) (hy : a.eval y = .agg cells) (hi : (P.info? ty).map (·.size) = some cells.size) (hold : zs.size = cells.size) (h1 : cells.all (·.oneCell') = true)
    (h : ∀ W1, Blk W1 W.heap.size ty cells → Below W.heap.size W W1 → wpList P ops Q rest (a.put o.dst undef) W1) : wpList P ops Q (o :: rest) a (W.alloc (.cells zs ty)) :=
  wpList_store_row hgd ty x y ho W.heap.size cells hx hy ty zs (Blk.new W ty zs) hi hold h1
    (h _ (setRow_heap _ _ _ _ _ _ (Blk.new W ty zs)) (below_setRow ((Below.refl _ _).alloc (Nat.le_refl _) _) (Nat.le_refl _) _))
end
theorem wpList_store_newId {W : World} {ops : Array Oper} {rest : List Oper} {o : Oper} {a : Act} {Q : Exit → Act → World → Prop} (hgd : o.guard = none) (x y : Operand) (ho : o.op = .store 36 x y)
    (u : List UInt8) (lu : u.length = 32) (zs : Array Value) (hx : a.eval x = .pointer (some ⟨W.heap.size, 0, none⟩)) (hy : a.eval y = .agg (u8s u)) (hz : zs.size = 32)
    (h : ∀ W1, Blk W1 W.heap.size 36 (u8s u) → Below W.heap.size W W1 → wpList Tryd.prog ops Q rest (a.put o.dst undef) W1) : wpList Tryd.prog ops Q (o :: rest) a (W.alloc (.cells zs 36)) :=
  wpList_store_new hgd _ x y ho (u8s u) zs hx hy (by rw [u8s_size, lu]; exact sz32) (by rw [u8s_size, lu]; exact hz) (u8s_one u) h
end Go.Proofs.YtoekdiklbfdpiaaDoor
/- What a call leaves as it was: all blocks but some. No condition; no program. -/
namespace Go.Proofs.YtoekdiklbfdpiaaDoor
open Go.RowKit
/-- All blocks of w but those of S are as they were; there may be new ones. -/
structure Far (S : List (Option Nat)) (w w' : World) : Prop where
  os : w'.os = w.os
  tape : w'.tape = w.tape
  output : w'.output = w.output
  size : w.heap.size ≤ w'.heap.size
  block : ∀ k, k < w.heap.size → some k ∉ S → w'.heap[k]? = w.heap[k]?
/-- The slice value v' lies where v lay, or in a new block. -/
def Newer (w : World) (v v' : Value) : Prop := v'.ownBlock = v.ownBlock ∨ ∀ k, v'.ownBlock = some k → w.heap.size ≤ k
section
variable {S T : List (Option Nat)} {w w0 w1 w2 w' : World} {g B : Nat} {t : TypeId} {cs : Array Value}
theorem Far.refl (S : List (Option Nat)) (w : World) : Far S w w := ⟨rfl, rfl, rfl, Nat.le_refl _, fun _ _ _ => rfl⟩
theorem Far.of_below (h : Below w.heap.size w w') : Far S w w' := ⟨h.os, h.tape, h.output, h.size, fun k hk _ => h.block k hk⟩
theorem Far.of_grown {row : Option Nat} (h : w.grownBy w' row) : Far [row] w w' := ⟨h.os, h.tape, h.output, h.size, fun k hk hn => h.block k hk (fun e => hn (by simp [e]))⟩
theorem Far.grown {row : Option Nat} (h : Far S w w') (hs : ∀ k, some k ∈ S → some k = row) : w.grownBy w' row := ⟨h.os, h.tape, h.output, h.size, fun k hk hn => h.block k hk (fun e => hn (hs k e))⟩
theorem Far.mono (h : Far S w w') (hs : ∀ k, some k ∈ S → some k ∈ T) : Far T w w' := ⟨h.os, h.tape, h.output, h.size, fun k hk hn => h.block k hk (fun e => hn (hs k e))⟩
theorem Far.then_ (h : Far S w w1) (h2 : Far T w1 w2) (hT : ∀ k, some k ∈ T → some k ∈ S ∨ w.heap.size ≤ k) : Far S w w2 :=
  ⟨h2.os.trans h.os, h2.tape.trans h.tape, h2.output.trans h.output, Nat.le_trans h.size h2.size, fun k hk hn => by
    refine (h2.block k (Nat.lt_of_lt_of_le hk h.size) fun e => ?_).trans (h.block k hk hn)
    rcases hT k e with h3 | h3
    · exact hn h3
    · omega⟩
theorem Far.trans (h : Far S w w1) (h2 : Far S w1 w2) : Far S w w2 := h.then_ h2 fun _ hk => .inl hk
theorem Far.more (h : Far S w w1) (h2 : Below w1.heap.size w1 w2) : Far S w w2 := h.trans (Far.of_below h2)
theorem Far.blk (h : Far S w w') (hb : Blk w g t cs) (hg : some g ∉ S) : Blk w' g t cs := (h.block g hb.lt hg).trans hb
theorem Far.own {base size n : Nat} {e : TypeId} {v : Value} {xs : List Value} (h : Far S w w') (ho : w.ownsRow base e size v n xs) (hv : ∀ k, v.ownBlock = some k → some k ∉ S) : w'.ownsRow base e size v n xs := by
  have hlt := World.ownsRow.lt ho
  refine ⟨ho.1, ?_⟩
  rcases ho.2 with hn | ⟨g, cap, cur, rfl, hb, hgg, rest⟩
  · exact .inl hn
  · exact .inr ⟨g, cap, cur, rfl, hb, (h.block g (hlt g rfl).2 (hv g rfl)).trans hgg, rest⟩
theorem Far.range {o : Nat} {cs : List Value} (h : Far S w w') (hr : w.rangeAt g o cs) (hlt : g < w.heap.size) (hg : some g ∉ S) : w'.rangeAt g o cs := fun j u hu => by
  rw [World.cell?_of_block (w := w) (h.block g hlt hg)]
  exact hr j u hu
theorem Far.below (h : Far S w w') (hB : B ≤ w.heap.size) (hS : ∀ k, some k ∈ S → B ≤ k) : Below B w w' :=
  ⟨h.os, h.tape, h.output, h.size, fun k hk => h.block k (Nat.lt_of_lt_of_le hk hB) fun e => by have := hS k e; omega⟩
theorem Far.drew (h : Far S w w') : Far S w w'.drew := ⟨h.os, h.tape, h.output, h.size, h.block⟩
theorem Far.drewN (h : Far S w w') (n : Nat) : Far S w (w'.drewN n) := ⟨h.os, h.tape, h.output, h.size, h.block⟩
theorem Far.alloc (h : Far S w w') (o : Obj) : Far S w (w'.alloc o) := h.more ((Below.refl _ _).alloc (Nat.le_refl _) o)
theorem Far.set_ (h : Far S w w') {p : Addr} (hp : some p.block ∈ S ∨ w.heap.size ≤ p.block) (v : Value) : Far S w (w'.setCell p v) :=
  ⟨h.os, h.tape, h.output, by rw [World.size_setCell]; exact h.size, fun k hk hn => by
    refine (Below.heap_setCell w' p v k fun e => ?_).trans (h.block k hk hn)
    rcases hp with hp | hp
    · exact hn (e ▸ hp)
    · omega⟩
theorem Far.cells (hg : some g ∈ S ∨ w.heap.size ≤ g) : ∀ (vs : List Value) (o : Nat) (w' : World), Far S w w' → Far S w (w'.setCells g o vs)
  | [], _, _, h => h
  | v :: r, o, w', h => Far.cells hg r (o + 1) _ (h.set_ (p := ⟨g, o, none⟩) hg v)
theorem Newer.refl (w : World) (v : Value) : Newer w v v := .inl rfl
theorem Newer.then_ {v v1 v2 : Value} (h : Newer w v v1) (h2 : Newer w1 v1 v2) (hs : w.heap.size ≤ w1.heap.size) : Newer w v v2 := by
  rcases h2 with h2 | h2
  · rcases h with h | h
    · exact .inl (h2.trans h)
    · exact .inr fun k hk => h k (h2 ▸ hk)
  · exact .inr fun k hk => Nat.le_trans hs (h2 k hk)
/-- A block that was there is no block of v', if it was none of v. -/
theorem Newer.ne {v v' : Value} (h : Newer w v v') (hg : g < w.heap.size) (hne : v.ownBlock ≠ some g) : v'.ownBlock ≠ some g := by
  rcases h with h | h
  · rwa [h]
  · intro e
    have := h g e
    omega
end
/-- append of a block's cells, and where the new slice lies. -/
theorem lit_append_at {P : Program} {ops : Array Oper} {rest : List Oper} {a : Act} {w : World} {Q : Exit → Act → World → Prop} {d : Option Tmp} {rt : TypeId} {pos : String} {af : Array Edge}
    (s x : Operand) (c : Nat) (t : TypeId) {e : TypeId} {z : Value} {size bytes : Nat} (hT : SliceTy P t e z size bytes) {base n : Nat} {v : Value} {xs : List Value} (hown : w.ownsRow base e size v n xs)
    {k m : Nat} {t' : TypeId} {cs : Array Value} (hcs : Blk w k t' cs) (hl : cs.size = m * size) (h1 : ∀ u ∈ cs.toList, u.oneCell' = true)
    (h63 : n + m ≤ 9223372036854775807) (hbytes : (n + m) * bytes ≤ 140737488355328) (hbase : base ≤ w.heap.size) (hs : a.eval s = v) (hx : a.eval x = .slice (some ⟨k, 0, none⟩) m c)
    (h : ∀ v' w', w'.ownsRow base e size v' (n + m) (xs ++ cs.toList) → w.grownBy w' v.ownBlock → Newer w v v' → wpList P ops Q rest (a.put d v') w') :
    wpList P ops Q ({ dst := d, op := .call { callee := .builtin .append, args := #[s, x], argTypes := #[t, t] }, type := rt, pos := pos, after := af, guard := none } :: rest) a w := by
  obtain ⟨i, i1, i2, i3, i4⟩ := hT.hi
  refine wpList_append_own_at w rfl s x t rfl base e i z size bytes hT.ht i1 i2 i3 i4 hT.hzs hT.hsz v n xs hs hown ⟨k, 0, none⟩ m c cs.toList hx (by simpa using hl) (news_of_blk hcs) h1 (by simp only [maxLen]; omega) hbytes hbase ?_
  intro v' w' hown' hg _ hat
  refine h v' w' hown' hg ?_
  rcases hat with hat | hat
  · exact .inl hat
  · refine .inr fun k hk => ?_
    rw [hat] at hk
    injection hk with hk
    omega
theorem grown_of_below {w w' : World} (h : Below w.heap.size w w') (row : Option Nat) : w.grownBy w' row := ⟨h.os, h.tape, h.output, h.size, fun k hk _ => h.block k hk⟩
/-- A variable just laid is given a whole value. -/
theorem lit_new {P : Program} {ops : Array Oper} {rest : List Oper} {a : Act} {w : World} {Q : Exit → Act → World → Prop} {d : Option Tmp} {rt : TypeId} {pos : String} {af : Array Edge}
    (ty : TypeId) (x y : Operand) (cs : Array Value) (k : Nat) (hk : (P.info? ty).map (·.size) = some k) (hcs : cs.size = k) (h1 : cs.all (·.oneCell') = true) (zs : Array Value) (hz : zs.size = k) (hx : a.eval x = .pointer (some ⟨w.heap.size, 0, none⟩)) (hy : a.eval y = .agg cs)
    (h : ∀ W1, Blk W1 w.heap.size ty cs → Below w.heap.size w W1 → wpList P ops Q rest (a.put d undef) W1) :
    wpList P ops Q ({ dst := d, op := .store ty x y, type := rt, pos := pos, after := af, guard := none } :: rest) a (w.alloc (.cells zs ty)) :=
  wpList_store_new rfl ty x y rfl cs zs hx hy (by rw [hcs]; exact hk) (hz.trans hcs.symm) h1 h
/-- A whole value in mid-block is loaded. -/
theorem lit_load {P : Program} {ops : Array Oper} {rest : List Oper} {a : Act} {w : World} {Q : Exit → Act → World → Prop} {d : Option Tmp} {rt : TypeId} {pos : String} {af : Array Edge}
    (ty : TypeId) (x : Operand) (b o : Nat) (cs : List Value) (td : TypeDesc) (hc : w.rangeAt b o cs) (hu : P.underlying ty = some td) (hag : td.isRow = true) (hk : (P.info? ty).map (·.size) = some cs.length) (hx : a.eval x = .pointer (some ⟨b, o, none⟩))
    (h : wpList P ops Q rest (a.put d (.agg cs.toArray)) w) : wpList P ops Q ({ dst := d, op := .load ty x, type := rt, pos := pos, after := af, guard := none } :: rest) a w :=
  wpList_load_mid rfl ty x rfl b o hx cs td hc hu hag hk h
theorem wpList_append_slice {P : Program} {w : World} {ops : Array Oper} {rest : List Oper} {o : Oper} {a : Act} {Q : Exit → Act → World → Prop} (hgd : o.guard = none) (s x : Operand) (t : TypeId)
    (ho : o.op = .call { callee := .builtin .append, args := #[s, x], argTypes := #[t, t] })
    (e : TypeId) (z : Value) (size bytes : Nat) (hT : SliceTy P t e z size bytes) (base : Nat) (v : Value) (n : Nat) (xs : List Value) (hs : a.eval s = v) (hown : w.ownsRow base e size v n xs)
    (ad : Addr) (m c : Nat) (news : List Value) (hx : a.eval x = .slice (some ad) m c) (hl : news.length = m * size) (hnews : ∀ j u, news[j]? = some u → w.cell? (ad.add j) = some u) (h1 : ∀ u ∈ news, u.oneCell' = true)
    (h63 : n + m ≤ 9223372036854775807) (hbytes : (n + m) * bytes ≤ 140737488355328) (w0 : World) (hb : Below base w0 w) (hbase : base ≤ w.heap.size)
    (h : ∀ v' w', w'.ownsRow base e size v' (n + m) (xs ++ news) → Below base w0 w' → wpList P ops Q rest (a.put o.dst v') w') : wpList P ops Q (o :: rest) a w :=
  wpList_plain hgd fun _ hK => by
    obtain ⟨i, i1, i2, i3, i4⟩ := hT.hi
    refine wp_append_own w s x t ho base e i z size bytes hT.ht i1 i2 i3 i4 hT.hzs hT.hsz v n xs hs hown ad m c news hx hl hnews h1 h63 hbytes hbase ?_
    intro v' w' hown' hg _
    exact hK _ _ (h v' w' hown' (hb.grown hg hbase (fun k hk => (World.ownsRow.lt hown k hk).1)))
end Go.Proofs.YtoekdiklbfdpiaaDoor
/- Structs and slices written out, at operations written out. No condition; no program. -/
namespace Go.Proofs.YtoekdiklbfdpiaaDoor
open Go.RowKit
theorem lit_build {P : Program} {w : World} {ops : Array Oper} {rest : List Oper} {a : Act} {Q : Exit → Act → World → Prop} {d : Option Tmp} {T rt : TypeId} {pos : String} {af : Array Edge} {fs : Array (Nat × Operand)} (vals : List (Nat × Value)) (cs : Array Value) (hb : P.built T vals = some cs)
    (hv : (fs.map fun (i, x) => (i, a.eval x)).toList = vals) (h : wpList P ops Q rest (a.put d (.agg cs)) w) : wpList P ops Q ({ dst := d, op := .build T fs, type := rt, pos := pos, after := af, guard := none } :: rest) a w :=
  wpList_plain rfl fun _ hK => wp_build _ _ rfl (by rw [hv, hb]; rfl) (by rw [hv, hb]; exact hK _ _ h)
theorem lit_build1 {P : Program} {w : World} {ops : Array Oper} {rest : List Oper} {a : Act} {Q : Exit → Act → World → Prop} {d : Option Tmp} {T rt : TypeId} {pos : String} {af : Array Edge} {i0 : Nat} {x0 : Operand} {v0 : Value} {cs : Array Value} (hb : P.built T [(i0, v0)] = some cs)
    (h0 : a.eval x0 = v0) (h : wpList P ops Q rest (a.put d (.agg cs)) w) : wpList P ops Q ({ dst := d, op := .build T #[(i0, x0)], type := rt, pos := pos, after := af, guard := none } :: rest) a w :=
  lit_build [(i0, v0)] cs hb (by simp [h0]) h
theorem lit_build2 {P : Program} {w : World} {ops : Array Oper} {rest : List Oper} {a : Act} {Q : Exit → Act → World → Prop} {d : Option Tmp} {T rt : TypeId} {pos : String} {af : Array Edge} {i0 i1 : Nat} {x0 x1 : Operand} {v0 v1 : Value} {cs : Array Value} (hb : P.built T [(i0, v0), (i1, v1)] = some cs)
    (h0 : a.eval x0 = v0) (h1 : a.eval x1 = v1) (h : wpList P ops Q rest (a.put d (.agg cs)) w) : wpList P ops Q ({ dst := d, op := .build T #[(i0, x0), (i1, x1)], type := rt, pos := pos, after := af, guard := none } :: rest) a w :=
  lit_build [(i0, v0), (i1, v1)] cs hb (by simp [h0, h1]) h
theorem lit_build3 {P : Program} {w : World} {ops : Array Oper} {rest : List Oper} {a : Act} {Q : Exit → Act → World → Prop} {d : Option Tmp} {T rt : TypeId} {pos : String} {af : Array Edge} {i0 i1 i2 : Nat} {x0 x1 x2 : Operand} {v0 v1 v2 : Value} {cs : Array Value} (hb : P.built T [(i0, v0), (i1, v1), (i2, v2)] = some cs)
    (h0 : a.eval x0 = v0) (h1 : a.eval x1 = v1) (h2 : a.eval x2 = v2) (h : wpList P ops Q rest (a.put d (.agg cs)) w) : wpList P ops Q ({ dst := d, op := .build T #[(i0, x0), (i1, x1), (i2, x2)], type := rt, pos := pos, after := af, guard := none } :: rest) a w :=
  lit_build [(i0, v0), (i1, v1), (i2, v2)] cs hb (by simp [h0, h1, h2]) h
/-- A slice of one element of several cells. -/
theorem lit_slice1 {P : Program} {w : World} {ops : Array Oper} {rest : List Oper} {a : Act} {Q : Exit → Act → World → Prop} {d : Option Tmp} {rt : TypeId} {pos : String} {af : Array Edge} (x : Operand) {t e : TypeId} {z : Value} {size bytes : Nat} (hT : SliceTy P t e z size bytes) (cs : Array Value) (hcs : cs.size = size) (hsm : size ≤ 1000) (hx : a.eval x = .agg cs)
    (h : wpList P ops Q rest (a.put d (.slice (some ⟨w.heap.size, 0, none⟩) 1 1)) (w.alloc (.cells cs e))) :
    wpList P ops Q ({ dst := d, op := .buildSlice t 1 #[(0, x)], type := rt, pos := pos, after := af, guard := none } :: rest) a w :=
  wpList_plain rfl fun _ hK => by
    have e1 : ((#[(0, x)] : Array (Nat × Operand)).map fun (i, x) => (i, a.eval x)) = #[(0, .agg cs)] := by simp [hx]
    have hrun : (Instr.buildSlice t 1 #[(0, .agg cs)]).run P w = .ok (.slice (some ⟨w.heap.size, 0, none⟩) 1 1) (w.alloc (.cells cs e)) := by
      obtain ⟨it, hi, hz, hs, hb⟩ := hT.hi
      have h0 := hT.hsz
      refine run_buildSlice w _ _ 1 _ _ it _ hT.ht hi hz (by rw [hs]; omega) (by rw [hs]; omega) ?_
      rw [hs]
      have := Great.fill_whole (s := size) (by omega) [Value.agg cs] ((Array.range (1 * size)).map (z.cells[· % z.cells.size]!)) (by
        intro v hv
        simp at hv
        subst hv
        exact hcs) (by simp)
      simpa [Value.cells] using this
    unfold Oper.wp execOp
    simp only [Sem.run_bind, e1, hrun, Result.andThen_ok]
    exact hK _ _ h
/-- append of one element that was just laid. -/
theorem lit_append_new {P : Program} {ops : Array Oper} {rest : List Oper} {a : Act} {W : World} {Q : Exit → Act → World → Prop} {d : Option Tmp} {rt : TypeId} {pos : String} {af : Array Edge}
    (s x : Operand) (c : Nat) (t : TypeId) {e : TypeId} {z : Value} {size bytes : Nat} (hT : SliceTy P t e z size bytes) {base n : Nat} {v : Value} {xs : List Value} (hown : W.ownsRow base e size v n xs)
    (cs : Array Value) {t' : TypeId} (hl : cs.size = 1 * size) (h1 : ∀ u ∈ cs.toList, u.oneCell' = true) (h63 : n + 1 ≤ 9223372036854775807) (hbytes : (n + 1) * bytes ≤ 140737488355328) (hbase : base ≤ W.heap.size)
    (hs : a.eval s = v) (hx : a.eval x = .slice (some ⟨W.heap.size, 0, none⟩) 1 c)
    (h : ∀ v' w', w'.ownsRow base e size v' (n + 1) (xs ++ cs.toList) → Below base W w' → W.grownBy w' v.ownBlock → Newer W v v' → wpList P ops Q rest (a.put d v') w') :
    wpList P ops Q ({ dst := d, op := .call { callee := .builtin .append, args := #[s, x], argTypes := #[t, t] }, type := rt, pos := pos, after := af, guard := none } :: rest) a (W.alloc (.cells cs t')) := by
  have hb0 : Below W.heap.size W (W.alloc (.cells cs t')) := (Below.refl _ _).alloc (Nat.le_refl _) _
  have hown' := own_below hown hb0
  refine lit_append_at s x c t hT hown' (Blk.new W t' cs) hl h1 h63 hbytes (Nat.le_trans hbase hb0.size) hs hx ?_
  intro v' w' ho hg hn
  have hbel : Below base W w' := (hb0.mono hbase).grown hg (Nat.le_trans hbase hb0.size) (fun k hk => (World.ownsRow.lt hown' k hk).1)
  have hg' : W.grownBy w' v.ownBlock := ⟨hbel.os, hbel.tape, hbel.output, hbel.size, fun k hk hne => (hg.block k (Nat.lt_of_lt_of_le hk hb0.size) hne).trans (hb0.block k hk)⟩
  exact h v' w' ho hbel hg' ((Newer.refl W v).then_ hn hb0.size)
end Go.Proofs.YtoekdiklbfdpiaaDoor
/- Regions that draw their order and end in 'x.F = append(x.F, y)': what lies there at each stage. No condition; no program. -/
namespace Go.Proofs.YtoekdiklbfdpiaaDoor
open Go.RowKit
/-- Ahead of operation ap; behind it; behind operation st. -/
def Stage (ap st : Nat) (P1 P2 P3 : World → Prop) (listed : Array Bool) (w : World) : Prop :=
  if listed.getD st false = true then P3 w else if listed.getD ap false = true then P2 w else P1 w
section
variable {ap st i n : Nat} {P1 P2 P3 : World → Prop} {listed : Array Bool} {w w' : World}
theorem getD_other {l : Array Bool} {i j : Nat} (h : i ≠ j) : (l.setIfInBounds i true).getD j false = l.getD j false := by
  simp only [Array.getD_eq_getD_getElem?, Array.getElem?_setIfInBounds]
  rw [if_neg h]
theorem getD_here {l : Array Bool} {i : Nat} (h : i < l.size) : (l.setIfInBounds i true).getD i false = true := by
  simp [Array.getD_eq_getD_getElem?, Array.getElem?_setIfInBounds, h]
theorem getD_none (n i : Nat) : (Array.replicate n false).getD i false = false := by
  simp only [Array.getD_eq_getD_getElem?, Array.getElem?_replicate]
  split <;> rfl
theorem Stage.same (h : Stage ap st P1 P2 P3 listed w) (h1 : i ≠ ap) (h2 : i ≠ st) : Stage ap st P1 P2 P3 (listed.setIfInBounds i true) w := by
  unfold Stage at *
  rwa [getD_other h1, getD_other h2]
theorem Stage.start (h : P1 w) : Stage ap st P1 P2 P3 (Array.replicate n false) w := by
  unfold Stage
  rw [getD_none, getD_none, if_neg (by simp), if_neg (by simp)]
  exact h
theorem Stage.one (h : Stage ap st P1 P2 P3 listed w) (ha : listed.getD ap false = false) (hs : listed.getD st false = false) : P1 w := by
  unfold Stage at h
  rwa [ha, hs, if_neg (by simp), if_neg (by simp)] at h
theorem Stage.two (h : Stage ap st P1 P2 P3 listed w) (ha : listed.getD ap false = true) (hs : listed.getD st false = false) : P2 w := by
  unfold Stage at h
  rwa [ha, hs, if_neg (by simp), if_pos rfl] at h
theorem Stage.three (h : Stage ap st P1 P2 P3 listed w) (hs : listed.getD st false = true) : P3 w := by
  unfold Stage at h
  rwa [hs, if_pos rfl] at h
theorem Stage.to1 (h : P1 w) (ha : listed.getD ap false = false) (hs : listed.getD st false = false) (h1 : i ≠ ap) (h2 : i ≠ st) : Stage ap st P1 P2 P3 (listed.setIfInBounds i true) w := by
  unfold Stage
  rw [getD_other h1, getD_other h2, ha, hs, if_neg (by simp), if_neg (by simp)]
  exact h
theorem Stage.to2 (h : P2 w) (hs : listed.getD st false = false) (hi : ap < listed.size) (hne : ap ≠ st) : Stage ap st P1 P2 P3 (listed.setIfInBounds ap true) w := by
  unfold Stage
  rw [getD_other hne, getD_here hi, hs, if_neg (by simp), if_pos rfl]
  exact h
theorem Stage.to3 (h : P3 w) (hi : st < listed.size) : Stage ap st P1 P2 P3 (listed.setIfInBounds st true) w := by
  unfold Stage
  rw [getD_here hi, if_pos rfl]
  exact h
end
/-- What each operation leaves: a slice written out (li), what append gives (ap), else a value. -/
def StR (V : Nat → Value) (li ap : Nat) (L Q : Value → World → Prop) (i : Nat) (v : Value) (w : World) : Prop := if i = li then L v w else if i = ap then Q v w else v = V i
section
variable {V : Nat → Value} {li ap i : Nat} {L Q : Value → World → Prop} {v : Value} {w w' : World}
theorem StR.at_ (h : StR V li ap L Q i v w) (h1 : i ≠ li) (h2 : i ≠ ap) : v = V i := by
  unfold StR at h
  rwa [if_neg h1, if_neg h2] at h
theorem StR.mk (h1 : i ≠ li) (h2 : i ≠ ap) (h : v = V i) : StR V li ap L Q i v w := by
  unfold StR
  rwa [if_neg h1, if_neg h2]
theorem StR.lit (h : StR V li ap L Q li v w) : L v w := by
  unfold StR at h
  rwa [if_pos rfl] at h
theorem StR.mkLit (h : L v w) : StR V li ap L Q li v w := by
  unfold StR
  rwa [if_pos rfl]
theorem StR.app (h : StR V li ap L Q ap v w) (hne : ap ≠ li) : Q v w := by
  unfold StR at h
  rwa [if_neg hne, if_pos rfl] at h
theorem StR.mkApp (h : Q v w) (hne : ap ≠ li) : StR V li ap L Q ap v w := by
  unfold StR
  rwa [if_neg hne, if_pos rfl]
theorem StR.keepL (hL : ∀ v, L v w → L v w') (hne : i ≠ ap) (h : StR V li ap L Q i v w) : StR V li ap L Q i v w' := by
  unfold StR at *
  split
  · rename_i hj; rw [if_pos hj] at h; exact hL v h
  · rename_i hj
    rw [if_neg hj, if_neg hne] at h
    first
      | exact h
      | (rw [if_neg hne]; exact h)
theorem StR.keepN (h1 : i ≠ li) (h2 : i ≠ ap) (h : StR V li ap L Q i v w) : StR V li ap L Q i v w' := by
  unfold StR at *
  rwa [if_neg h1, if_neg h2] at *
theorem StR.keep (hL : ∀ v, L v w → L v w') (hQ : ∀ v, Q v w → Q v w') (j : Nat) (u : Value) (h : StR V li ap L Q j u w) : StR V li ap L Q j u w' := by
  unfold StR at *
  split
  · rename_i hj; rw [if_pos hj] at h; exact hL u h
  · rename_i hj
    rw [if_neg hj] at h
    split
    · rename_i hj2; rw [if_pos hj2] at h; exact hQ u h
    · rename_i hj2; rwa [if_neg hj2] at h
end
theorem wp_skip {P : Program} {o : Oper} {a : Act} {w w' : World} {K : Act → World → Prop} {Q : Exit → Act → World → Prop} (hrun : (execOp a.eval o).run P w = .ok .skip w') (hK : K (a.put o.dst undef) w') : o.wp P a w K Q := by
  unfold Oper.wp
  rw [hrun]
  exact hK
theorem map0 {a : Act} : (#[] : Array Operand).map a.eval = #[] := by simp
theorem map1 {a : Act} {x : Operand} {v : Value} (h : a.eval x = v) : #[x].map a.eval = #[v] := by simp [h]
theorem map2 {a : Act} {x y : Operand} {v u : Value} (h : a.eval x = v) (h2 : a.eval y = u) : #[x, y].map a.eval = #[v, u] := by simp [h, h2]
theorem map3 {a : Act} {x y z : Operand} {v u t : Value} (h : a.eval x = v) (h2 : a.eval y = u) (h3 : a.eval z = t) : #[x, y, z].map a.eval = #[v, u, t] := by simp [h, h2, h3]
/-- A call of a function whose contract is known. -/
theorem call_step {P : Program} {o : Oper} {a : Act} {w : World} {K : Act → World → Prop} {Q : Exit → Act → World → Prop} {f : FuncId} {args : Array Operand} {tys : Array TypeId} (ho : o.op = .call { callee := .value (.func f), args := args, argTypes := tys })
    {vals : Array Value} (hv : args.map a.eval = vals) (hcf : (callFunc f vals).run P w = .ok (.enter f vals) w) {R : Ending → World → Prop} (hc : Calls P f vals w R) (hK : ∀ e w', R e w' → ∃ v, e = .returned v ∧ K (a.put o.dst v) w') : o.wp P a w K Q := by
  subst hv
  unfold Oper.wp execOp
  simp only [ho]
  go_simp
  refine hc.mono ?_
  intro e w' hR
  obtain ⟨v, rfl, hk⟩ := hK e w' hR
  exact hk
/-- A struct is written out. -/
theorem build_step {P : Program} {o : Oper} {a : Act} {w : World} {K : Act → World → Prop} {Q : Exit → Act → World → Prop} {T : TypeId} {fs : Array (Nat × Operand)} (ho : o.op = .build T fs) {vals : List (Nat × Value)} {cs : Array Value} (hb : P.built T vals = some cs)
    (hv : (fs.map fun (i, x) => (i, a.eval x)).toList = vals) (h : K (a.put o.dst (.agg cs)) w) : o.wp P a w K Q :=
  wp_build _ _ ho (by rw [hv, hb]; rfl) (by rw [hv, hb]; exact h)
theorem parts1 {a : Act} {i : Nat} {x : Operand} {v : Value} (h : a.eval x = v) : ((#[(i, x)] : Array (Nat × Operand)).map fun (i, x) => (i, a.eval x)).toList = [(i, v)] := by simp [h]
theorem parts2 {a : Act} {i j : Nat} {x y : Operand} {v u : Value} (h : a.eval x = v) (h2 : a.eval y = u) : ((#[(i, x), (j, y)] : Array (Nat × Operand)).map fun (i, x) => (i, a.eval x)).toList = [(i, v), (j, u)] := by simp [h, h2]
theorem parts3 {a : Act} {i j k : Nat} {x y z : Operand} {v u t : Value} (h : a.eval x = v) (h2 : a.eval y = u) (h3 : a.eval z = t) : ((#[(i, x), (j, y), (k, z)] : Array (Nat × Operand)).map fun (i, x) => (i, a.eval x)).toList = [(i, v), (j, u), (k, t)] := by simp [h, h2, h3]
theorem slot_is {a : Act} {t : Nat} {v : Value} (h : a.tmps[t]?.getD undef = v) : a.eval (.tmp t) = v := (slot_eval a t).symm.trans h
/-- A field's block, the slice that it holds, and what else lies there. -/
structure F1 (B gO : Nat) (TO : TypeId) (cO : Array Value) (e : TypeId) (k : Nat) (ve : Value) (n : Nat) (xs : List Value) (I J : World → Prop) (w : World) : Prop where
  blk : Blk w gO TO cO
  own : w.ownsRow B e k ve n xs
  inv : I w
  pre : J w
  size : B ≤ w.heap.size
structure F2 (B gO : Nat) (TO : TypeId) (cO : Array Value) (I : World → Prop) (w : World) : Prop where
  blk : Blk w gO TO cO
  inv : I w
  size : B ≤ w.heap.size
def F3 (B gO off : Nat) (TO : TypeId) (cO : Array Value) (e : TypeId) (k : Nat) (n : Nat) (xs ys : List Value) (I : World → Prop) (w : World) : Prop :=
  ∃ v', Blk w gO TO (cO.setIfInBounds off v') ∧ w.ownsRow B e k v' (n + 1) (xs ++ ys) ∧ I w ∧ B ≤ w.heap.size
def LitR (B : Nat) (e : TypeId) (ve : Value) (ys : List Value) (v : Value) (w : World) : Prop := ∃ b, v = .slice (some ⟨b, 0, none⟩) 1 1 ∧ Blk w b e ys.toArray ∧ B ≤ b ∧ ve.ownBlock ≠ some b
def AppR (B : Nat) (e : TypeId) (k n : Nat) (xs ys : List Value) (v : Value) (w : World) : Prop := w.ownsRow B e k v (n + 1) (xs ++ ys)
section
variable {B gO off : Nat} {TO e : TypeId} {cO : Array Value} {k : Nat} {ve : Value} {n : Nat} {xs ys : List Value} {I J : World → Prop} {w w' : World}
theorem F1.below (h : F1 B gO TO cO e k ve n xs I J w) (hb : Below w.heap.size w w') (hI : I w') (hJ : J w') : F1 B gO TO cO e k ve n xs I J w' :=
  ⟨h.blk.below hb h.blk.lt, own_below h.own hb, hI, hJ, Nat.le_trans h.size hb.size⟩
theorem F1.far {S : List (Option Nat)} (h : F1 B gO TO cO e k ve n xs I J w) (hf : Far S w w') (hO : some gO ∉ S) (hS : ∀ k, some k ∈ S → k < B) (hI : I w') (hJ : J w') : F1 B gO TO cO e k ve n xs I J w' :=
  ⟨hf.blk h.blk hO, hf.own h.own (fun k hk hm => by have h1 := (World.ownsRow.lt h.own k hk).1; have h2 := hS k hm; omega), hI, hJ, Nat.le_trans h.size hf.size⟩
theorem LitR.below {v : Value} (h : LitR B e ve ys v w) (hb : Below w.heap.size w w') : LitR B e ve ys v w' := by
  obtain ⟨b, h1, h2, h3, h4⟩ := h
  exact ⟨b, h1, h2.below hb h2.lt, h3, h4⟩
theorem AppR.below {v : Value} (h : AppR B e k n xs ys v w) (hb : Below w.heap.size w w') : AppR B e k n xs ys v w' := own_below h hb
/-- Far-reaching: a block that is neither. -/
theorem LitR.set_ {v : Value} {p : Addr} (h : LitR B e ve ys v w) (hp : p.block < B) (u : Value) : LitR B e ve ys v (w.setCell p u) := by
  obtain ⟨b, h1, h2, h3, h4⟩ := h
  exact ⟨b, h1, h2.far (by omega) u, h3, h4⟩
theorem own_set {v : Value} {m : Nat} {zs : List Value} {p : Addr} (h : w.ownsRow B e k v m zs) (hp : p.block < B) (u : Value) : (w.setCell p u).ownsRow B e k v m zs := by
  refine Far.own (S := [some p.block]) ((Far.refl _ w).set_ (.inl (by simp)) u) h ?_
  intro q hq
  have := (World.ownsRow.lt h q hq).1
  simp; omega
variable {P : Program}
/-- The slice is written out. -/
theorem slice_step {a : Act} {o : Oper} {K : Act → World → Prop} {Q : Exit → Act → World → Prop} {x : Operand} {t : TypeId} {z : Value} {size bytes : Nat} (ho : o.op = .buildSlice t 1 #[(0, x)]) (hT : SliceTy P t e z size bytes) (hle : size ≤ 65536) (hy : ys.length = size) (hx : a.eval x = .agg ys.toArray ∨ (size = 1 ∧ ys = [a.eval x] ∧ (a.eval x).cells = #[a.eval x]))
    (h : K (a.put o.dst (.slice (some ⟨w.heap.size, 0, none⟩) 1 1)) (w.alloc (.cells ys.toArray e))) : o.wp P a w K Q := by
  obtain ⟨v, hv, hc⟩ : ∃ v, a.eval x = v ∧ v.cells.toList = ys := by
    rcases hx with hx | ⟨_, h2, h3⟩
    · exact ⟨_, hx, by simp [Value.cells]⟩
    · exact ⟨_, rfl, by rw [h3, h2]⟩
  have e1 : ((#[(0, x)] : Array (Nat × Operand)).map fun (i, x) => (i, a.eval x)) = #[(0, v)] := by simp [hv]
  have hrun : (Instr.buildSlice t 1 #[(0, v)]).run P w = .ok (.slice (some ⟨w.heap.size, 0, none⟩) 1 1) (w.alloc (.cells ys.toArray e)) := by
    obtain ⟨it, hi, hz, hs, hb⟩ := hT.hi
    have h0 := hT.hsz
    refine run_buildSlice w _ _ 1 _ _ it _ hT.ht hi hz (by rw [hs]; omega) (by rw [hs]; omega) ?_
    rw [hs]
    have := Great.fill_whole (s := size) (by omega) [v] ((Array.range (1 * size)).map (z.cells[· % z.cells.size]!)) (by
      intro u hu
      simp at hu
      subst hu
      rw [← Array.length_toList, hc]
      exact hy) (by simp)
    simpa [hc] using this
  unfold Oper.wp execOp
  simp only [ho, Sem.run_bind, e1, hrun, Result.andThen_ok]
  exact h
/-- It is appended. -/
theorem app_step {a : Act} {o : Oper} {K : Act → World → Prop} {Q : Exit → Act → World → Prop} {s x : Operand} {t : TypeId} {z : Value} {bytes : Nat} (ho : o.op = .call { callee := .builtin .append, args := #[s, x], argTypes := #[t, t] }) (hT : SliceTy P t e z k bytes)
    (h : F1 B gO TO cO e k ve n xs I J w) (hgO : gO < B) {v : Value} (hl : LitR B e ve ys v w) (hy : ys.length = k) (h1 : ∀ u ∈ ys, u.oneCell' = true) (h63 : n + 1 ≤ 9223372036854775807) (hbytes : (n + 1) * bytes ≤ 140737488355328)
    (hI : ∀ w', Below B w w' → I w') (hs : a.eval s = ve) (hx : a.eval x = v)
    (hK : ∀ v' w', F2 B gO TO cO I w' → AppR B e k n xs ys v' w' → (∀ u, LitR B e ve ys u w → LitR B e ve ys u w') → Below B w w' → K (a.put o.dst v') w') : o.wp P a w K Q := by
  obtain ⟨b, rfl, hb, hB, hne⟩ := hl
  refine wp_append_blk s x t ho e z k bytes hT B ve n xs hs h.own b 1 1 e ys.toArray hx hb (by simpa using hy) (by simpa using h1) h63 hbytes w (Below.refl _ _) h.size ?_
  intro v' w' hown hbel hgr
  refine hK v' w' ⟨(hbel.block gO hgO).trans h.blk, hI w' hbel, Nat.le_trans h.size hgr.size⟩ (by simpa [AppR] using hown) ?_ hbel
  rintro u ⟨b2, g1, g2, g3, g4⟩
  exact ⟨b2, g1, g2.grown hgr (fun e => g4 e.symm), g3, g4⟩
/-- It is stored. -/
theorem F2.stored (h : F2 B gO TO cO I w) {v : Value} (hv : AppR B e k n xs ys v w) (hgO : gO < B) (hI : I (w.setCell ⟨gO, off, none⟩ v)) : F3 B gO off TO cO e k n xs ys I (w.setCell ⟨gO, off, none⟩ v) :=
  ⟨v, h.blk.set_ off v, own_set hv hgO v, hI, by rw [World.size_setCell]; exact h.size⟩
theorem AppR.set_ {v : Value} {p : Addr} (h : AppR B e k n xs ys v w) (hp : p.block < B) (u : Value) : AppR B e k n xs ys v (w.setCell p u) := own_set h hp u
end
end Go.Proofs.YtoekdiklbfdpiaaDoor
/- == of an id and the empty one, as the walk meets it. No condition. -/
namespace Go.Proofs.YtoekdiklbfdpiaaDoor
open Go.RowKit
theorem zero_cells : (#[.int .u8 0, .int .u8 0, .int .u8 0, .int .u8 0, .int .u8 0, .int .u8 0, .int .u8 0, .int .u8 0, .int .u8 0, .int .u8 0, .int .u8 0, .int .u8 0, .int .u8 0, .int .u8 0, .int .u8 0, .int .u8 0, .int .u8 0, .int .u8 0, .int .u8 0, .int .u8 0, .int .u8 0, .int .u8 0, .int .u8 0, .int .u8 0, .int .u8 0, .int .u8 0, .int .u8 0, .int .u8 0, .int .u8 0, .int .u8 0, .int .u8 0, .int .u8 0] : Array Value) = u8s (List.replicate 32 0) := by kernel_rfl
theorem equalIn_zero (l : List UInt8) (hl : l.length = 32) (w : World) :
    (Op.equalIn 10000 36 (.agg (u8s l)) (.agg #[.int .u8 0, .int .u8 0, .int .u8 0, .int .u8 0, .int .u8 0, .int .u8 0, .int .u8 0, .int .u8 0, .int .u8 0, .int .u8 0, .int .u8 0, .int .u8 0, .int .u8 0, .int .u8 0, .int .u8 0, .int .u8 0, .int .u8 0, .int .u8 0, .int .u8 0, .int .u8 0, .int .u8 0, .int .u8 0, .int .u8 0, .int .u8 0, .int .u8 0, .int .u8 0, .int .u8 0, .int .u8 0, .int .u8 0, .int .u8 0, .int .u8 0, .int .u8 0])).run Tryd.prog w = .ok (decide (l = List.replicate 32 0)) w := by
  rw [zero_cells]
  exact run_equalIn_bytes w 9998 Tryd.underlying36 (by kernel_rfl) Tryd.underlying5 (by kernel_rfl) (Option.isSome_iff_exists.1 (by kernel_rfl)) l (List.replicate 32 0) hl (by simp)
end Go.Proofs.YtoekdiklbfdpiaaDoor
/- Small words: two blocks, a result of an id and a bool. No condition. -/
namespace Go.Proofs.YtoekdiklbfdpiaaDoor
open Go.RowKit
theorem blk_at2 (w : World) (o : Obj) (t : TypeId) (cs : Array Value) : Blk ((w.alloc o).alloc (.cells cs t)) (w.heap.size + 1) t cs := by
  have := Blk.new (w.alloc o) t cs
  rwa [show (w.alloc o).heap.size = w.heap.size + 1 from by simp] at this
theorem results_row_tmp {P : Program} {fn : Func} {p q : Tmp} {ty : TypeId} (h : fn.results = #[.cell p ty, .tmp q]) (tmps : Array Value) (w : World) (g : Nat) (t : TypeId) (cs : Array Value) (fr : Nat × Nat) (d : TypeDesc)
    (hp : tmps.getD p undef = .pointer (some ⟨g, 0, none⟩)) (hg : w.heap[g]? = some (.cells cs t fr))
    (hu : P.underlying ty = some d) (hd : (match d with | .struct _ | .array _ _ => true | _ => false) = true) (hi : (P.info? ty).map (·.size) = some cs.size) :
    (results fn tmps).run P w = .ok (.tuple #[.agg cs, tmps.getD q undef]) w := by
  have hp' : tmps[p]?.getD undef = .pointer (some ⟨g, 0, none⟩) := by simpa using hp
  simp [results, h, hp', asAddr, run_loadVar_row w g t ty cs fr d hg hu hd hi]
theorem sized32 {l : List UInt8} (h : l.length = 32) : (Tryd.prog.info? 36).map (·.size) = some (u8s l).size := by rw [u8s_size, h]; exact sz32
theorem same32 {a b : List UInt8} (ha : a.length = 32) (hb : b.length = 32) : (u8s a).size = (u8s b).size := by rw [u8s_size, u8s_size, ha, hb]
theorem zeros32 : (List.replicate 32 (0 : UInt8)).length = 32 := by simp
end Go.Proofs.YtoekdiklbfdpiaaDoor
/- What a call leaves as it was: more of it. No condition; no program. -/
namespace Go.Proofs.YtoekdiklbfdpiaaDoor
open Go.RowKit
section
variable {S T : List (Option Nat)} {w w0 w1 w2 w' : World} {g B : Nat} {t : TypeId} {cs : Array Value}
theorem Far.row (h : Far S w w') (hg : some g ∈ S ∨ w.heap.size ≤ g) (cs : Array Value) : Far S w (w'.setRow g cs) :=
  h.then_ (T := [some g]) ⟨rfl, rfl, rfl, by simp, fun k _ hn => setRow_other _ _ _ _ (fun e => hn (by rw [e]; simp))⟩ fun k hk => by
    simp only [List.mem_singleton, Option.some.injEq] at hk
    exact hk ▸ hg
theorem Far.low (h : Far S w w1) (hb : Below w.heap.size w1 w2) : Far S w w2 :=
  ⟨hb.os.trans h.os, hb.tape.trans h.tape, hb.output.trans h.output, Nat.le_trans h.size hb.size, fun k hk hn => (hb.block k hk).trans (h.block k hk hn)⟩
end
end Go.Proofs.YtoekdiklbfdpiaaDoor
/- Cells of a block are written, one behind the other. No condition; no program. -/
namespace Go.Proofs.YtoekdiklbfdpiaaDoor
open Go.RowKit
section
variable {w : World} {g : Nat} {t : TypeId}
theorem Blk.splice : ∀ (vs : List Value) (o : Nat) (w : World) (pre mid post : List Value), Blk w g t (pre ++ (mid ++ post)).toArray → pre.length = o → mid.length = vs.length → Blk (w.setCells g o vs) g t (pre ++ (vs ++ post)).toArray
  | [], o, w, pre, mid, post, h, _, hm => by
    have : mid = [] := List.length_eq_zero_iff.1 (by simpa using hm)
    subst this
    exact h
  | v :: r, o, w, pre, [], post, _, _, hm => by simp at hm
  | v :: r, o, w, pre, m :: mid, post, h, hp, hm => by
    have h1 := h.set_ o v
    have e : (pre ++ (m :: mid ++ post)).toArray.setIfInBounds o v = ((pre ++ [v]) ++ (mid ++ post)).toArray := by
      rw [List.setIfInBounds_toArray]
      congr 1
      rw [List.set_append_right _ _ (by omega), hp, Nat.sub_self]
      simp
    rw [e] at h1
    have h2 := Blk.splice r (o + 1) _ (pre ++ [v]) mid post h1 (by simp [hp]) (by simpa using hm)
    have e2 : (pre ++ [v]) ++ (r ++ post) = pre ++ (v :: r ++ post) := by simp
    rwa [e2] at h2
theorem Blk.there {cs : Array Value} (h : Blk w g t cs) {o n : Nat} (hn : o + n ≤ cs.size) : w.there g o n := fun j hj => by
  refine ⟨?_, h.frozen _⟩
  rw [h.cell, Array.getElem?_eq_getElem (by omega)]
  rfl
end
end Go.Proofs.YtoekdiklbfdpiaaDoor
/- Layer 15 (pack): the words: items, places, in memory. No condition. -/
namespace Go.Proofs.YtoekdiklbfdpiaaDoor
open Go.RowKit
def pitC (x : PItL) : List Value := .int .i64 x.kind :: .int .i64 x.back :: ((u8s x.base).toList ++ [.string (B x.data)])
def plC (p : Pl) : List Value := [.int .i64 p.2.1, .int .i64 p.2.2]
structure PItOk (x : PItL) : Prop where
  base : x.base.length = 32
  k1 : -9223372036854775808 ≤ x.kind
  k2 : x.kind ≤ 9223372036854775807
  b1 : -9223372036854775808 ≤ x.back
  b2 : x.back ≤ 9223372036854775807
  data : x.data.length ≤ 9223372036854775807
theorem u8s_len' (l : Txt) : (u8s l).toList.length = l.length := by simp [u8s]
theorem pitC_len {x : PItL} (h : x.base.length = 32) : (pitC x).length = 35 := by unfold pitC; simp [u8s_size, h]
theorem pitC_one (x : PItL) : ∀ u ∈ pitC x, u.oneCell' = true := by
  intro u hu
  unfold pitC at hu
  simp only [List.mem_cons, List.mem_append, u8s, List.toList_toArray, List.mem_map, List.mem_nil_iff, or_false] at hu
  rcases hu with rfl | rfl | ⟨c, _, rfl⟩ | rfl <;> rfl
theorem pitC_all (x : PItL) : (pitC x).toArray.all (·.oneCell') = true := all_oneCell_toArray (pitC_one x)
theorem pitC_size {x : PItL} (h : x.base.length = 32) : (pitC x).toArray.size = 35 := by rw [List.size_toArray, pitC_len h]
def zPit : PItL := ⟨0, 0, noId', []⟩
theorem Tryd.pitTy : SliceTy Tryd.prog 22 54 (.agg (pitC zPit).toArray) 35 64 := ⟨Tryd.underlying22, info_parts (by kernel_rfl), by kernel_rfl, by omega⟩
theorem Tryd.plTy : SliceTy Tryd.prog 39 43 (.agg #[.int .i64 0, .int .i64 0]) 2 16 := ⟨Tryd.underlying39, info_parts (by kernel_rfl), rfl, by omega⟩
theorem szPit : (Tryd.prog.info? 54).map (·.size) = some 35 := by kernel_rfl
theorem built_zPit : Tryd.prog.built 54 [] = some (pitC zPit).toArray := by kernel_rfl
theorem built_kPit (k : Int) : Tryd.prog.built 54 [(0, .int .i64 k)] = some (pitC ⟨k, 0, noId', []⟩).toArray := by kernel_rfl
theorem built_pl (a b : Int) : Tryd.prog.built 43 [(0, .int .i64 a), (1, .int .i64 b)] = some #[.int .i64 a, .int .i64 b] := by kernel_rfl
theorem zeroPit (W : World) : (zeroValue 54).run Tryd.prog W = .ok (.agg (pitC zPit).toArray) W := by
  have h : (Tryd.prog.info? 54).map (·.zero) = some (some (.agg (pitC zPit).toArray)) := by kernel_rfl
  obtain ⟨i, h1, h2⟩ := Option.map_eq_some_iff.1 h
  simp [zeroValue, typeInfo, h1, h2]
/-- The load of an item, not to be opened by the walk. -/
def ldvP (p : Addr) : Sem Value := loadVar 54 p
theorem ldvP_eq (p : Addr) : loadVar 54 p = ldvP p := rfl
theorem run_ldvP {w : World} {g o : Nat} {x : PItL} (h : w.rangeAt g o (pitC x)) (hx : x.base.length = 32) : (ldvP ⟨g, o, none⟩).run Tryd.prog w = .ok (.agg (pitC x).toArray) w :=
  run_loadVar_mid (P := Tryd.prog) w g o 54 (pitC x) _ h Tryd.underlying54 rfl (by rw [pitC_len hx]; exact szPit)
/-- A block holds an item. -/
structure PitB (w : World) (g : Nat) (x : PItL) : Prop where
  blk : Blk w g 54 (pitC x).toArray
  base : x.base.length = 32
section
variable {w w' : World} {g : Nat} {x : PItL}
theorem PitB.below (h : PitB w g x) (hb : Below w.heap.size w w') : PitB w' g x := ⟨h.blk.below hb h.blk.lt, h.base⟩
theorem PitB.drewN (h : PitB w g x) (n : Nat) : PitB (w.drewN n) g x := ⟨h.blk.drewN n, h.base⟩
theorem PitB.far {S : List (Option Nat)} (h : PitB w g x) (hf : Far S w w') (hg : some g ∉ S) : PitB w' g x := ⟨hf.blk h.blk hg, h.base⟩
theorem PitB.range (h : PitB w g x) : w.rangeAt g 0 (pitC x) := by
  have := range_blk h.blk
  simpa using this
theorem PitB.load (h : PitB w g x) : (ldvP ⟨g, 0, none⟩).run Tryd.prog w = .ok (.agg (pitC x).toArray) w := run_ldvP h.range h.base
theorem PitB.kind (h : PitB w g x) : w.cell? ⟨g, 0, none⟩ = some (.int .i64 x.kind) := by rw [h.blk.cell]; rfl
theorem PitB.back (h : PitB w g x) : w.cell? ⟨g, 1, none⟩ = some (.int .i64 x.back) := by rw [h.blk.cell]; rfl
theorem PitB.data (h : PitB w g x) : w.cell? ⟨g, 34, none⟩ = some (.string (B x.data)) := by
  rw [h.blk.cell, List.getElem?_toArray]
  show ((u8s x.base).toList ++ [Value.string (B x.data)])[32]? = _
  rw [List.getElem?_append_right (by rw [u8s_len', h.base]; omega), u8s_len', h.base]; rfl
theorem PitB.fr (h : PitB w g x) (i : Nat) : w.frozen? ⟨g, i, none⟩ = false := h.blk.frozen i
theorem PitB.baseR (h : PitB w g x) : w.rangeAt g 2 (u8s x.base).toList := fun j u hu => by
  have := h.range (2 + j) u (by
    unfold pitC
    rw [show 2 + j = (j + 1) + 1 from by omega, List.getElem?_cons_succ, List.getElem?_cons_succ, List.getElem?_append_left (List.getElem?_eq_some_iff.1 hu).1]
    exact hu)
  rwa [Nat.zero_add] at this
theorem PitB.setBack (h : PitB w g x) (n : Int) : PitB (w.setCell ⟨g, 1, none⟩ (.int .i64 n)) g { x with back := n } := by
  refine ⟨?_, h.base⟩
  have := h.blk.set_ 1 (.int .i64 n)
  rwa [List.setIfInBounds_toArray] at this
theorem PitB.setData (h : PitB w g x) (s : Txt) : PitB (w.setCell ⟨g, 34, none⟩ (.string (B s))) g { x with data := s } := by
  refine ⟨?_, h.base⟩
  have := h.blk.set_ 34 (.string (B s))
  rw [List.setIfInBounds_toArray] at this
  have e : (pitC x).set 34 (.string (B s)) = pitC { x with data := s } := by
    show _ :: _ :: ((u8s x.base).toList ++ [Value.string (B x.data)]).set 32 _ = _
    rw [List.set_append_right _ _ (by rw [u8s_len', h.base]; omega), u8s_len', h.base]
    rfl
  rwa [e] at this
theorem PitB.setBase (h : PitB w g x) (i : Txt) (hi : i.length = 32) : PitB (w.setCells g 2 (u8s i).toList) g { x with base := i } := by
  refine ⟨?_, hi⟩
  have hb : Blk w g 54 ([Value.int .i64 x.kind, Value.int .i64 x.back] ++ ((u8s x.base).toList ++ [Value.string (B x.data)])).toArray := h.blk
  exact Blk.splice (u8s i).toList 2 w _ _ _ hb rfl (by rw [u8s_len', u8s_len', h.base, hi])
theorem PitB.there (h : PitB w g x) (i n : Nat) (hn : i + n ≤ 35) : w.there g i n := h.blk.there (by rw [pitC_size h.base]; exact hn)
end
theorem results_row_tmp2 {P : Program} {fn : Func} {p q r : Tmp} {ty : TypeId} (h : fn.results = #[.cell p ty, .tmp q, .tmp r]) (tmps : Array Value) (w : World) (g : Nat) (t : TypeId) (cs : Array Value) (fr : Nat × Nat) (d : TypeDesc)
    (hp : tmps.getD p undef = .pointer (some ⟨g, 0, none⟩)) (hg : w.heap[g]? = some (.cells cs t fr))
    (hu : P.underlying ty = some d) (hd : (match d with | .struct _ | .array _ _ => true | _ => false) = true) (hi : (P.info? ty).map (·.size) = some cs.size) :
    (results fn tmps).run P w = .ok (.tuple #[.agg cs, tmps.getD q undef, tmps.getD r undef]) w := by
  have hp' : tmps[p]?.getD undef = .pointer (some ⟨g, 0, none⟩) := by simpa using hp
  simp [results, h, hp', asAddr, run_loadVar_row w g t ty cs fr d hg hu hd hi]
end Go.Proofs.YtoekdiklbfdpiaaDoor
/- Layer 15's document: the words: items with their places. No condition. -/
namespace Go.Proofs.YtoekdiklbfdpiaaDoor
open Go.RowKit
def ritC (p : Pl) : List Value := .int .i64 p.1.kind :: .int .i64 p.1.back :: ((u8s p.1.base).toList ++ [.string (B p.1.data), .int .i64 p.2.1, .int .i64 p.2.2])
theorem ritC_len {p : Pl} (h : p.1.base.length = 32) : (ritC p).length = 37 := by unfold ritC; simp [u8s_size, h]
theorem ritC_one (p : Pl) : ∀ u ∈ ritC p, u.oneCell' = true := by
  intro u hu
  unfold ritC at hu
  simp only [List.mem_cons, List.mem_append, u8s, List.toList_toArray, List.mem_map, List.mem_nil_iff, or_false] at hu
  rcases hu with rfl | rfl | ⟨c, _, rfl⟩ | rfl | rfl | rfl <;> rfl
theorem ritC_all (p : Pl) : (ritC p).toArray.all (·.oneCell') = true := all_oneCell_toArray (ritC_one p)
theorem ritC_size {p : Pl} (h : p.1.base.length = 32) : (ritC p).toArray.size = 37 := by rw [List.size_toArray, ritC_len h]
def zRit : Pl := (zPit, 0, 0)
theorem Tryd.ritTy : SliceTy Tryd.prog 26 45 (.agg (ritC zRit).toArray) 37 80 := ⟨Tryd.underlying26, info_parts (by kernel_rfl), by kernel_rfl, by omega⟩
theorem szRit : (Tryd.prog.info? 45).map (·.size) = some 37 := by kernel_rfl
theorem built_zRit : Tryd.prog.built 45 [] = some (ritC zRit).toArray := by kernel_rfl
theorem zeroRit (W : World) : (zeroValue 45).run Tryd.prog W = .ok (.agg (ritC zRit).toArray) W := by
  have h : (Tryd.prog.info? 45).map (·.zero) = some (some (.agg (ritC zRit).toArray)) := by kernel_rfl
  obtain ⟨i, h1, h2⟩ := Option.map_eq_some_iff.1 h
  simp [zeroValue, typeInfo, h1, h2]
/-- The load of the document's item, not to be opened by the walk. -/
def ldvR15 (p : Addr) : Sem Value := loadVar 45 p
theorem ldvR15_eq (p : Addr) : loadVar 45 p = ldvR15 p := rfl
theorem run_ldvR15 {w : World} {g o : Nat} {p : Pl} (h : w.rangeAt g o (ritC p)) (hx : p.1.base.length = 32) : (ldvR15 ⟨g, o, none⟩).run Tryd.prog w = .ok (.agg (ritC p).toArray) w :=
  run_loadVar_mid (P := Tryd.prog) w g o 45 (ritC p) _ h Tryd.underlying45 rfl (by rw [ritC_len hx]; exact szRit)
/-- A block holds the document's item. -/
structure RitB (w : World) (g : Nat) (p : Pl) : Prop where
  blk : Blk w g 45 (ritC p).toArray
  base : p.1.base.length = 32
section
variable {w w' : World} {g : Nat} {p : Pl}
theorem RitB.below (h : RitB w g p) (hb : Below w.heap.size w w') : RitB w' g p := ⟨h.blk.below hb h.blk.lt, h.base⟩
theorem RitB.drewN (h : RitB w g p) (n : Nat) : RitB (w.drewN n) g p := ⟨h.blk.drewN n, h.base⟩
theorem RitB.far {S : List (Option Nat)} (h : RitB w g p) (hf : Far S w w') (hg : some g ∉ S) : RitB w' g p := ⟨hf.blk h.blk hg, h.base⟩
theorem RitB.range (h : RitB w g p) : w.rangeAt g 0 (ritC p) := by
  have := range_blk h.blk
  simpa using this
theorem RitB.load (h : RitB w g p) : (ldvR15 ⟨g, 0, none⟩).run Tryd.prog w = .ok (.agg (ritC p).toArray) w := run_ldvR15 h.range h.base
theorem RitB.kind (h : RitB w g p) : w.cell? ⟨g, 0, none⟩ = some (.int .i64 p.1.kind) := by rw [h.blk.cell]; rfl
theorem RitB.back (h : RitB w g p) : w.cell? ⟨g, 1, none⟩ = some (.int .i64 p.1.back) := by rw [h.blk.cell]; rfl
theorem RitB.tail (h : RitB w g p) (i : Nat) : w.cell? ⟨g, 34 + i, none⟩ = [Value.string (B p.1.data), .int .i64 p.2.1, .int .i64 p.2.2][i]? := by
  rw [h.blk.cell, List.getElem?_toArray]
  unfold ritC
  rw [show 34 + i = (32 + i + 1) + 1 from by omega, List.getElem?_cons_succ, List.getElem?_cons_succ, List.getElem?_append_right (by rw [u8s_len', h.base]; omega), u8s_len', h.base, Nat.add_sub_cancel_left]
theorem RitB.data (h : RitB w g p) : w.cell? ⟨g, 34, none⟩ = some (.string (B p.1.data)) := h.tail 0
theorem RitB.at_ (h : RitB w g p) : w.cell? ⟨g, 35, none⟩ = some (.int .i64 p.2.1) := h.tail 1
theorem RitB.len (h : RitB w g p) : w.cell? ⟨g, 36, none⟩ = some (.int .i64 p.2.2) := h.tail 2
theorem RitB.byte (h : RitB w g p) (i : Nat) (hi : i < 32) : w.cell? ⟨g, 2 + i, none⟩ = some (.int .u8 ((p.1.base.getD i 0).toNat : Nat)) := by
  rw [h.blk.cell, List.getElem?_toArray]
  unfold ritC
  rw [show 2 + i = (i + 1) + 1 from by omega, List.getElem?_cons_succ, List.getElem?_cons_succ, List.getElem?_append_left (by rw [u8s_len', h.base]; omega), Array.getElem?_toList, u8s_get _ _ (by rw [h.base]; omega)]
theorem RitB.fr (h : RitB w g p) (i : Nat) : w.frozen? ⟨g, i, none⟩ = false := h.blk.frozen i
theorem RitB.baseR (h : RitB w g p) : w.rangeAt g 2 (u8s p.1.base).toList := fun j u hu => by
  have := h.range (2 + j) u (by
    unfold ritC
    rw [show 2 + j = (j + 1) + 1 from by omega, List.getElem?_cons_succ, List.getElem?_cons_succ, List.getElem?_append_left (List.getElem?_eq_some_iff.1 hu).1]
    exact hu)
  rwa [Nat.zero_add] at this
theorem RitB.setBack (h : RitB w g p) (n : Int) : RitB (w.setCell ⟨g, 1, none⟩ (.int .i64 n)) g ({ p.1 with back := n }, p.2) := by
  refine ⟨?_, h.base⟩
  have := h.blk.set_ 1 (.int .i64 n)
  rwa [List.setIfInBounds_toArray] at this
theorem RitB.setTail (h : RitB w g p) (i : Nat) (v : Value) {q : Pl} (hq : p.1.kind = q.1.kind ∧ p.1.back = q.1.back ∧ p.1.base = q.1.base) (he : [Value.string (B p.1.data), .int .i64 p.2.1, .int .i64 p.2.2].set i v = [Value.string (B q.1.data), .int .i64 q.2.1, .int .i64 q.2.2]) : RitB (w.setCell ⟨g, 34 + i, none⟩ v) g q := by
  refine ⟨?_, hq.2.2 ▸ h.base⟩
  have := h.blk.set_ (34 + i) v
  rw [List.setIfInBounds_toArray] at this
  have e : (ritC p).set (34 + i) v = ritC q := by
    unfold ritC
    rw [← he, ← hq.1, ← hq.2.1, ← hq.2.2, show 34 + i = (32 + i + 1) + 1 from by omega, List.set_cons_succ, List.set_cons_succ, List.set_append_right _ _ (by rw [u8s_len', h.base]; omega), u8s_len', h.base, Nat.add_sub_cancel_left]
  rwa [e] at this
theorem RitB.setData (h : RitB w g p) (s : Txt) : RitB (w.setCell ⟨g, 34, none⟩ (.string (B s))) g ({ p.1 with data := s }, p.2) := h.setTail 0 _ ⟨rfl, rfl, rfl⟩ rfl
theorem RitB.setLen (h : RitB w g p) (n : Nat) : RitB (w.setCell ⟨g, 36, none⟩ (.int .i64 n)) g (p.1, p.2.1, n) := h.setTail 2 _ ⟨rfl, rfl, rfl⟩ rfl
theorem RitB.setByte (h : RitB w g p) (i : Nat) (hi : i < 32) (c : UInt8) : RitB (w.setCell ⟨g, 2 + i, none⟩ (.int .u8 (c.toNat : Nat))) g ({ p.1 with base := p.1.base.set i c }, p.2) := by
  refine ⟨?_, by simp [h.base]⟩
  have := h.blk.set_ (2 + i) (.int .u8 (c.toNat : Nat))
  rw [List.setIfInBounds_toArray] at this
  have e : (ritC p).set (2 + i) (.int .u8 (c.toNat : Nat)) = ritC ({ p.1 with base := p.1.base.set i c }, p.2) := by
    unfold ritC
    rw [show 2 + i = (i + 1) + 1 from by omega, List.set_cons_succ, List.set_cons_succ, List.set_append_left _ _ (by rw [u8s_len', h.base]; omega)]
    congr 2
    show _ = (u8s (p.1.base.set i c)).toList ++ _
    congr 1
    simp [u8s, List.map_set, u8v]
  rwa [e] at this
theorem RitB.there (h : RitB w g p) (i n : Nat) (hn : i + n ≤ 37) : w.there g i n := h.blk.there (by rw [ritC_size h.base]; exact hn)
end
theorem built_kRit' (k a : Nat) : Tryd.prog.built 45 [(0, .int .i64 k), (4, .int .i64 a)] = some (ritC (⟨k, 0, noId', []⟩, a, 0)).toArray := by kernel_rfl
end Go.Proofs.YtoekdiklbfdpiaaDoor
/- The walks of layer 1 (varint) and of its reference: Put and Get, each once. No condition. -/
namespace Go.Proofs.YtoekdiklbfdpiaaDoor
open Go.RowKit

/-- What the reference's Get returns. -/
def getPair : Option (Nat × Nat) → Value
  | some (n, k) => .tuple #[.int .u64 n, .int .i64 k]
  | none => .tuple #[.int .u64 0, .int .i64 0]

/-- What Get returns. -/
def getTriple (l : List UInt8) : Option (Nat × Nat) → Value
  | some (n, k) => .tuple #[.int .u64 n, .string (B (l.drop k)), .int .i64 0]
  | none => .tuple #[.int .u64 0, .string (B []), .int .i64 2]

theorem or128 (k : Nat) : bits .or .u8 ((k : Int) % 256) 128 = 128 + (k : Int) % 128 := by
  have h : ∀ m : Fin 256, bits .or .u8 ((m.val : Nat) : Int) 128 = 128 + ((m.val : Nat) : Int) % 128 := by decide +kernel
  have := h ⟨k % 256, by omega⟩
  simp only at this
  rw [show ((k % 256 : Nat) : Int) = (k : Int) % 256 from by omega] at this
  rw [this]
  omega

set_option maxRecDepth 100000 in
set_option maxHeartbeats 400000 in
theorem refPut_calls (n : Nat) (hn : n ≤ 18446744073709551615) (w : World) :
    Calls Tryd.prog 18 #[.int .u64 n] w fun e w' => e = .returned (.string (B (put n))) ∧ Below w.heap.size w w' := by
  have hc := fun (wx : World) (x : Int) => Tryd.str_of_one wx x
  go_enter Tryd.func18, Tryd.ntmps18
  go_wp2
  go_loopw [0, 3] (fun m s wr => ∃ (f k : Nat) (acc : List UInt8), m = .int .u64 k ∧ s = .string (B acc) ∧ Hid (acc ++ putF f k = put n) ∧ acc.length ≤ 9 ∧ acc.length + f ≤ 9 ∧ Hid (Fits f k) ∧ Below w.heap.size w wr) (fun m _ _ => (intOf m).toNat)
  case atStart => exact ⟨9, n, [], rfl, rfl, rfl, by simp, by simp, Lib.hid (Fits.of64 hn), Below.refl _ _⟩
  case round =>
    obtain ⟨f, k, acc, rfl, rfl, h1, h3, h4, h2, hb⟩ := hrel
    have hle := h2.out.le (by omega)
    go_wp2
    · have hk : 128 ≤ k := by omega
      obtain ⟨f, rfl⟩ := h2.out.pos hk
      go_roundw
      case rel => exact ⟨f, k / 128, acc ++ [UInt8.ofNat (128 + k % 128)], by go_num, by rw [ofNat_add_u8]; rfl, Lib.hid (by rw [← h1.out, putF_big f k hk]; simp), by simp; omega, by simp; omega, Lib.hid h2.out.next, hb.alloc hb.size _⟩
      case measure => simp [intOf]; omega
    · have hk : k < 128 := by omega
      go_ret
      refine ⟨?_, hb.alloc hb.size _⟩
      rw [← h1.out, putF_small f k hk]
      rfl

set_option maxRecDepth 100000 in
set_option maxHeartbeats 400000 in
theorem put_calls (n : Nat) (hn : n ≤ 18446744073709551615) (w : World) :
    Calls Tryd.prog 27 #[.int .u64 n] w fun e w' => e = .returned (.string (B (put n))) ∧ Below w.heap.size w w' := by
  go_enter Tryd.func27, Tryd.ntmps27
  go_wp2
  go_loopw [0, 3] (fun m v wr => ∃ (f k : Nat) (acc : List UInt8), m = .int .u64 k ∧ OwnB wr w.heap.size 5 v acc ∧ Hid (acc ++ putF f k = put n) ∧ acc.length ≤ 9 ∧ acc.length + f ≤ 9 ∧ Hid (Fits f k) ∧ Below w.heap.size w wr) (fun m _ _ => (intOf m).toNat)
  case atStart => exact ⟨9, n, [], rfl, OwnB.nil _ _ _, rfl, by simp, by simp, Lib.hid (Fits.of64 hn), Below.refl _ _⟩
  case round =>
    obtain ⟨f, k, acc, rfl, hown, h1, h3, h4, h2, hb⟩ := hrel
    have hor := or128 k
    have hle := h2.out.le (by omega)
    go_wp2_with (at_builtin; go_must (refine wpList_append_byte rfl _ _ _ rfl _ Tryd.bytesTy w.heap.size _ _ rfl (hown.alloc _) wr.heap.size _ rfl (cell_new1 _ _ _) (by omega) (by omega) (by omega) w (hb.alloc hb.size _) (by simp; have := hb.size; omega) ?_); intro v1 w1 hown1 hb1 _; have hcv := Tryd.str_of_own w1 hown1)
    · have hk : 128 ≤ k := by omega
      obtain ⟨f, rfl⟩ := h2.out.pos hk
      rw [show (128 + (k : Int) % 128).toNat = 128 + k % 128 from by omega] at hown1
      go_roundw
      case rel => exact ⟨f, k / 128, _, by go_num, hown1, Lib.hid (by rw [← h1.out, putF_big f k hk]; simp), by simp; omega, by simp; omega, Lib.hid h2.out.next, hb1⟩
      case measure => simp [intOf]; omega
    · have hk : k < 128 := by omega
      go_ret
      refine ⟨?_, hb1⟩
      rw [← h1.out, putF_small f k hk]
      rfl

set_option maxRecDepth 100000 in
set_option maxHeartbeats 800000 in
theorem refGet_calls (l : List UInt8) (hl : l.length ≤ 4611686018427387904) (w : World) :
    Calls Tryd.prog 22 #[.string (B l)] w fun e w' => e = .returned (getPair (get l)) ∧ w' = w := by
  go_enter Tryd.func22, Tryd.ntmps22
  go_wp2
  go_loop [4] (fun e => ∃ k : Nat, e = .int .i64 k ∧ k ≤ 10 ∧ k ≤ l.length ∧ Hid (k ≤ lead l)) (fun e => 10 - (intOf e).toNat)
  case atStart => exact ⟨0, rfl, by omega, by omega, Nat.zero_le _⟩
  case round =>
    obtain ⟨e, rfl, h1, h2, h3⟩ := hrel
    by_cases ha : e < l.length
    · by_cases hb : e < 10
      · obtain ⟨c, hc⟩ : ∃ c, l[e] = c := ⟨_, rfl⟩
        by_cases hd : 128 ≤ c.toNat
        · have hn : Hid (e + 1 ≤ lead l) := lead_next h3.out ha (by rw [hc]; exact hd)
          go_wp2
          go_round
          case rel => exact ⟨e + 1, by go_num, by omega, by omega, hn⟩
          case measure => simp [intOf]; omega
        · have hle : Hid (lead l = e) := lead_here h3.out ha (by rw [hc]; omega)
          by_cases h9 : e = 9 ∧ 1 < c.toNat
          · obtain ⟨rfl, h9'⟩ := h9
            have hfin : Hid (get l = none) := get_nine ha hle.out (by rw [hc]; exact h9')
            go_wp2
            all_goals first | (exfalso; omega) | (go_ret2; exact ⟨by rw [hfin.out]; rfl, rfl⟩)
          · by_cases h0 : 0 < e ∧ c.toNat = 0
            · obtain ⟨h0', h0c⟩ := h0
              have hfin : Hid (get l = none) := get_zero ha hle.out h0' (by rw [hc]; exact h0c)
              have h0d : ((c.toNat : Int) == 0) = true := by simp [h0c]
              have h9' : ¬ 1 < c.toNat := by omega
              have h0c' := Lib.hid h0c
              clear h9 h0c
              by_cases he9 : e = 9
              · subst he9
                go_wp2
                all_goals first | (exfalso; omega) | (go_ret2; exact ⟨by rw [hfin.out]; rfl, rfl⟩)
              · go_wp2
                all_goals first | (exfalso; omega) | (go_ret2; exact ⟨by rw [hfin.out]; rfl, rfl⟩)
            · obtain ⟨V, hfin0, hV00, hVs0, hVb⟩ := get_seq ha hle.out hb (fun h => by rw [hc]; omega) (fun h => by rw [hc]; omega)
              have hfin := Lib.hid hfin0
              have hV0 := Lib.hid hV00
              have hVs := Lib.hid hVs0
              clear hfin0 hV00 hVs0
              have hVb' := Lib.hid hVb
              clear hVb
              have hcz : 0 < e → ((c.toNat : Int) == 0) = false := by intro h; simp; omega
              by_cases he9 : e = 9
              · subst he9
                have hcz' := hcz (by omega)
                have hc1 : ¬ 1 < c.toNat := by omega
                clear hcz
                go_wp2
                all_goals first | (exfalso; omega) | (exfalso; simp at ha; done) | (exfalso; rename_i hnil _; subst hnil; simp at ha; done) | skip
                all_goals
                  go_loop [5, 6] (fun n i => ∃ j : Nat, j ≤ 9 + 1 ∧ i = .int .i64 ((j : Int) - 1) ∧ n = .int .u64 (V j)) (fun _ i => (intOf i + 1).toNat)
                  case atStart => exact ⟨9 + 1, by omega, by go_num, by rw [hV0.out]; rfl⟩
                  case round =>
                    obtain ⟨j, hj, rfl, rfl⟩ := hrel
                    cases j with
                    | zero =>
                      go_wp2
                      all_goals first | (exfalso; omega) | skip
                      go_ret2
                      exact ⟨by rw [hfin.out]; rfl, rfl⟩
                    | succ m =>
                      have hm : m < l.length := by omega
                      have hs := hVs.out m hm (by omega)
                      have hb1 := hVb'.out m
                      have hji : ((m + 1 : Nat) : Int) - 1 = (m : Int) := by omega
                      have hx : 128 * (V (m + 1) : Int) + ((l[m]).toNat : Int) % 128 ≤ 18446744073709551615 := by omega
                      have hs' : Hid ((V m : Int) = 128 * (V (m + 1) : Int) + ((l[m]).toNat : Int) % 128) := by rw [hs]; show (_ : Int) = _; omega
                      clear hs
                      rw [hji]
                      generalize V (m + 1) = N at *
                      go_wp2
                      all_goals first | (exfalso; omega) | skip
                      go_round
                      case rel => exact ⟨m, by omega, by go_num, by rw [hs'.out]⟩
                      case measure => simp [intOf]
              · by_cases he0 : e = 0
                · subst he0
                  clear hcz
                  go_wp2
                  all_goals first | (exfalso; omega) | (exfalso; simp at ha; done) | (exfalso; rename_i hnil _; subst hnil; simp at ha; done) | skip
                  all_goals
                    go_loop [5, 6] (fun n i => ∃ j : Nat, j ≤ 0 + 1 ∧ i = .int .i64 ((j : Int) - 1) ∧ n = .int .u64 (V j)) (fun _ i => (intOf i + 1).toNat)
                    case atStart => exact ⟨0 + 1, by omega, by go_num, by rw [hV0.out]; rfl⟩
                    case round =>
                      obtain ⟨j, hj, rfl, rfl⟩ := hrel
                      cases j with
                      | zero =>
                        go_wp2
                        all_goals first | (exfalso; omega) | skip
                        go_ret2
                        exact ⟨by rw [hfin.out]; rfl, rfl⟩
                      | succ m =>
                        have hm : m < l.length := by omega
                        have hs := hVs.out m hm (by omega)
                        have hb1 := hVb'.out m
                        have hji : ((m + 1 : Nat) : Int) - 1 = (m : Int) := by omega
                        have hx : 128 * (V (m + 1) : Int) + ((l[m]).toNat : Int) % 128 ≤ 18446744073709551615 := by omega
                        have hs' : Hid ((V m : Int) = 128 * (V (m + 1) : Int) + ((l[m]).toNat : Int) % 128) := by rw [hs]; show (_ : Int) = _; omega
                        clear hs
                        rw [hji]
                        generalize V (m + 1) = N at *
                        go_wp2
                        all_goals first | (exfalso; omega) | skip
                        go_round
                        case rel => exact ⟨m, by omega, by go_num, by rw [hs'.out]⟩
                        case measure => simp [intOf]
                · have hcz' := hcz (by omega)
                  clear hcz
                  go_wp2
                  all_goals first | (exfalso; omega) | (exfalso; simp at ha; done) | (exfalso; rename_i hnil _; subst hnil; simp at ha; done) | skip
                  all_goals
                    go_loop [5, 6] (fun n i => ∃ j : Nat, j ≤ e + 1 ∧ i = .int .i64 ((j : Int) - 1) ∧ n = .int .u64 (V j)) (fun _ i => (intOf i + 1).toNat)
                    case atStart => exact ⟨e + 1, by omega, by go_num, by rw [hV0.out]; rfl⟩
                    case round =>
                      obtain ⟨j, hj, rfl, rfl⟩ := hrel
                      cases j with
                      | zero =>
                        go_wp2
                        all_goals first | (exfalso; omega) | skip
                        go_ret2
                        exact ⟨by rw [hfin.out]; rfl, rfl⟩
                      | succ m =>
                        have hm : m < l.length := by omega
                        have hs := hVs.out m hm (by omega)
                        have hb1 := hVb'.out m
                        have hji : ((m + 1 : Nat) : Int) - 1 = (m : Int) := by omega
                        have hx : 128 * (V (m + 1) : Int) + ((l[m]).toNat : Int) % 128 ≤ 18446744073709551615 := by omega
                        have hs' : Hid ((V m : Int) = 128 * (V (m + 1) : Int) + ((l[m]).toNat : Int) % 128) := by rw [hs]; show (_ : Int) = _; omega
                        clear hs
                        rw [hji]
                        generalize V (m + 1) = N at *
                        go_wp2
                        all_goals first | (exfalso; omega) | skip
                        go_round
                        case rel => exact ⟨m, by omega, by go_num, by rw [hs'.out]⟩
                        case measure => simp [intOf]
      · have hfin : Hid (get l = none) := get_ten (by have := h3.out; omega)
        have hb' : e = 10 := by omega
        subst hb'
        go_wp2
        all_goals first | (exfalso; omega) | (go_ret2; exact ⟨by rw [hfin.out]; rfl, rfl⟩)
    · have hfin : Hid (get l = none) := get_end (by have := h3.out; omega)
      go_wp2
      all_goals first | (exfalso; omega) | (go_ret2; exact ⟨by rw [hfin.out]; rfl, rfl⟩)
end Go.Proofs.YtoekdiklbfdpiaaDoor
/- The walk of layer 1's Get. No condition. -/
namespace Go.Proofs.YtoekdiklbfdpiaaDoor
open Go.RowKit

theorem and127 (c : UInt8) : bits .and .u8 (c.toNat : Int) 127 = ((c.toNat % 128 : Nat) : Int) := by
  have h : ∀ m : Fin 256, bits .and .u8 ((m.val : Nat) : Int) 127 = ((m.val % 128 : Nat) : Int) := by decide +kernel
  exact h ⟨c.toNat, c.toNat_lt⟩
theorem or_shl (N k : Nat) (c : UInt8) (hN : N < 128 ^ k) (hf : N + 128 ^ k * (c.toNat % 128) ≤ 18446744073709551615) :
    bits .or .u64 (N : Int) (IntKind.u64.wrap (IntKind.u64.wrap (bits .and .u8 (c.toNat : Int) 127) * 2 ^ (7 * k))) = ((N + 128 ^ k * (c.toNat % 128) : Nat) : Int) := by
  have hp : (128 : Nat) ^ k = 2 ^ (7 * k) := by rw [Nat.pow_mul]
  rw [hp] at hN hf ⊢
  rw [and127, IntWalk.u64_in ((c.toNat % 128 : Nat) : Int) (by omega)]
  have h1 : ((c.toNat % 128 : Nat) : Int) * 2 ^ (7 * k) = ((2 ^ (7 * k) * (c.toNat % 128) : Nat) : Int) := by
    rw [Int.natCast_mul, Int.mul_comm]; simp
  rw [h1, IntWalk.u64_in _ (by omega)]
  have h2 := u64_or_nat N (2 ^ (7 * k) * (c.toNat % 128)) (by omega) (by omega)
  rw [h2, Nat.or_comm, ← Nat.two_pow_add_eq_or_of_lt hN, Nat.add_comm]

set_option maxRecDepth 100000 in
set_option maxHeartbeats 800000 in
theorem get_calls (l : List UInt8) (hl : l.length ≤ 4611686018427387904) (w : World) :
    Calls Tryd.prog 46 #[.string (B l)] w fun e w' => e = .returned (getTriple l (get l)) ∧ ∃ n, w' = w.drewN n := by
  obtain ⟨M, hmin, hM1, hM2, hM3⟩ : ∃ M : Nat, (if (10 : Int) < (l.length : Int) then (10 : Int) else (l.length : Int)) = (M : Int) ∧ M ≤ 10 ∧ M ≤ l.length ∧ Hid (M = 10 ∨ M = l.length) := by
    refine ⟨min l.length 10, ?_, by omega, by omega, ?_⟩
    · split <;> omega
    · show _ ∨ _; omega
  go_enter Tryd.func46, Tryd.ntmps46
  go_wp2
  go_loop [5, 11] (fun n i => ∃ k : Nat, i = .int .i64 k ∧ k ≤ M ∧ n = .int .u64 (val7 (l.take k)) ∧ Hid (k ≤ lead l)) (fun _ i => 10 - (intOf i).toNat)
  case atStart => exact ⟨0, rfl, by omega, rfl, Nat.zero_le _⟩
  case round =>
    obtain ⟨k, rfl, h1, rfl, h3⟩ := hrel
    by_cases hk : k < M
    · obtain ⟨c, hc⟩ : ∃ c, l[k] = c := ⟨_, rfl⟩
      have hts := val7_take_succ l k (by omega)
      have hN := val7_lt (l.take k)
      rw [List.length_take, Nat.min_eq_left (by omega)] at hN
      rw [hc] at hts
      by_cases h9 : k = 9
      · subst h9
        by_cases hc1 : 1 < c.toNat
        · have hfin : Hid (get l = none) := by
            by_cases hbig : 128 ≤ c.toNat
            · exact get_ten (lead_next h3.out (by omega) (by rw [hc]; exact hbig))
            · exact get_nine (by omega) (lead_here h3.out (by omega) (by rw [hc]; omega)) (by rw [hc]; exact hc1)
          clear hts hN
          go_wp2
          all_goals first | (exfalso; omega) | skip
          go_ret3
          exact ⟨by rw [hfin.out]; rfl, 0, rfl⟩
        · have hle : Hid (lead l = 9) := lead_here h3.out (by omega) (by rw [hc]; omega)
          have hor0 := or_shl (val7 (l.take 9)) 9 c hN (by omega)
          rw [← hts] at hor0
          have hor : bits .or .u64 (val7 (List.take 9 l) : Int) (IntKind.u64.wrap (IntKind.u64.wrap (bits .and .u8 (c.toNat : Int) 127) * 9223372036854775808)) = ((val7 (List.take 10 l) : Nat) : Int) := by
            rw [show (9223372036854775808 : Int) = 2 ^ (7 * 9) from by decide]
            exact hor0
          clear hor0
          clear hts hN
          by_cases h0 : c.toNat = 0
          · have hfin : Hid (get l = none) := get_zero (by omega) hle.out (by omega) (by rw [hc]; exact h0)
            have h0' : ((c.toNat : Int) == 0) = true := by simp [h0]
            have h0h := Lib.hid h0
            clear h0
            go_wp2
            all_goals first | (exfalso; omega) | skip
            go_ret3
            exact ⟨by rw [hfin.out]; rfl, 0, rfl⟩
          · have hfin : Hid (get l = some (val7 (l.take (9 + 1)), 9 + 1)) := get_yes (by omega) hle.out (by omega) (fun _ => by rw [hc]; omega) (fun _ => by rw [hc]; exact h0)
            have h0' : ((c.toNat : Int) == 0) = false := by simp; omega
            go_wp2
            all_goals first | (exfalso; omega) | skip
            go_quiet (fail)
            go_wp2
            go_ret3
            exact ⟨by rw [hfin.out]; rfl, _, rfl⟩
      · by_cases hd : 128 ≤ c.toNat
        · have hn : Hid (k + 1 ≤ lead l) := lead_next h3.out (by omega) (by rw [hc]; exact hd)
          have hor := or_shl (val7 (l.take k)) k c hN (by
            have : 128 ^ k * (c.toNat % 128) ≤ 128 ^ k * 127 := Nat.mul_le_mul_left _ (by omega)
            have : 128 ^ k ≤ 128 ^ 8 := Nat.pow_le_pow_right (by omega) (by omega)
            omega)
          rw [← hts] at hor
          clear hts hN
          go_wp2
          all_goals first | (exfalso; omega) | skip
          go_round
          case rel => exact ⟨k + 1, by go_num, by omega, rfl, hn⟩
          case measure => simp [intOf]; omega
        · have hle : Hid (lead l = k) := lead_here h3.out (by omega) (by rw [hc]; omega)
          have hor := or_shl (val7 (l.take k)) k c hN (by
            have : 128 ^ k * (c.toNat % 128) ≤ 128 ^ k * 127 := Nat.mul_le_mul_left _ (by omega)
            have : 128 ^ k ≤ 128 ^ 8 := Nat.pow_le_pow_right (by omega) (by omega)
            omega)
          rw [← hts] at hor
          clear hts hN
          by_cases h0 : 0 < k ∧ c.toNat = 0
          · obtain ⟨h0k, h0c⟩ := h0
            have hfin : Hid (get l = none) := get_zero (by omega) hle.out h0k (by rw [hc]; exact h0c)
            have h0' : ((c.toNat : Int) == 0) = true := by simp [h0c]
            have h0h := Lib.hid h0c
            clear h0c
            go_wp2
            all_goals first | (exfalso; omega) | skip
            go_ret3
            exact ⟨by rw [hfin.out]; rfl, 0, rfl⟩
          · have hfin : Hid (get l = some (val7 (l.take (k + 1)), k + 1)) := get_yes (by omega) hle.out (by omega) (fun _ => by omega) (fun h => by rw [hc]; omega)
            by_cases h0k : ¬ 0 < k
            · by_cases h0c : c.toNat = 0
              · have h0' : ((c.toNat : Int) == 0) = true := by simp [h0c]
                have h0h := Lib.hid h0c
                clear h0c h0
                go_wp2
                all_goals first | (exfalso; omega) | skip
                go_quiet (fail)
                go_wp2
                go_ret3
                exact ⟨by rw [hfin.out]; rfl, _, rfl⟩
              · have h0' : ((c.toNat : Int) == 0) = false := by simp; omega
                go_wp2
                all_goals first | (exfalso; omega) | skip
                go_quiet (fail)
                go_wp2
                go_ret3
                exact ⟨by rw [hfin.out]; rfl, _, rfl⟩
            · have h0' : ((c.toNat : Int) == 0) = false := by simp; omega
              go_wp2
              all_goals first | (exfalso; omega) | skip
              go_quiet (fail)
              go_wp2
              go_ret3
              exact ⟨by rw [hfin.out]; rfl, _, rfl⟩
    · have hfin : Hid (get l = none) := by
        have h3' := h3.out
        rcases hM3.out with h | h
        · exact get_ten (by omega)
        · exact get_end (by omega)
      go_wp2
      all_goals first | (exfalso; omega) | skip
      go_ret3
      exact ⟨by rw [hfin.out]; rfl, 0, rfl⟩
end Go.Proofs.YtoekdiklbfdpiaaDoor
/- The walks of layer 5 (lz) and of its reference: read, Unpack. No condition but sizes that every memory has. -/
namespace Go.Proofs.YtoekdiklbfdpiaaDoor
open Go.RowKit

theorem get_some {l : List UInt8} {n k : Nat} (h : get l = some (n, k)) (hl : l.length ≤ 4611686018427387904) (w : World) :
    Calls Tryd.prog 46 #[.string (B l)] w fun e w' => e = .returned (.tuple #[.int .u64 n, .string (B (l.drop k)), .int .i64 0]) ∧ ∃ n, w' = w.drewN n :=
  (get_calls l hl w).mono fun e w' ⟨he, hw⟩ => ⟨by rw [he, h]; rfl, hw⟩
theorem get_non {l : List UInt8} (h : get l = none) (hl : l.length ≤ 4611686018427387904) (w : World) :
    Calls Tryd.prog 46 #[.string (B l)] w fun e w' => e = .returned (.tuple #[.int .u64 0, .string (B []), .int .i64 2]) ∧ ∃ n, w' = w.drewN n :=
  (get_calls l hl w).mono fun e w' ⟨he, hw⟩ => ⟨by rw [he, h]; rfl, hw⟩

/-- What read returns. -/
def rdVal : Option (Nat × Nat × List UInt8) → Value
  | some (n, f, r) => .tuple #[.agg #[.int .u64 n, .int .u64 f], .string (B r), .int .i64 0]
  | none => .tuple #[.agg #[.int .u64 0, .int .u64 0], .string (B []), .int .i64 2]

theorem below_two (w : World) (o : Obj) (n : Nat) (u v : Value) : Below w.heap.size w ((((w.alloc o).drewN n).setCell ⟨w.heap.size, 0, none⟩ u).setCell ⟨w.heap.size, 1, none⟩ v) :=
  ((bdrewN ((Below.refl _ _).alloc (Nat.le_refl _) _) _).setCell (Nat.le_refl _) _).setCell (Nat.le_refl _) _

set_option maxRecDepth 100000 in
set_option maxHeartbeats 800000 in
theorem read_calls (l : List UInt8) (hv : Nat) (hl : l.length ≤ 4611686018427387904) (hh : hv ≤ 4611686018427387904) (w : World) :
    Calls Tryd.prog 63 #[.string (B l), .int .i64 hv] w fun e w' => e = .returned (rdVal (rd l hv)) ∧ Below w.heap.size w w' := by
  rcases hg : get l with _ | ⟨n, k⟩
  · have hG := Lib.hid hg
    have hR := Lib.hid (rd_none (hv := hv) hg)
    clear hg
    go_enter Tryd.func63, Tryd.ntmps63
    go_wp2_with (go_at_call 46; go_must (refine (get_non hG.out hl _).mono ?_); rintro e w' ⟨rfl, nq, rfl⟩)
    refine bodyPost_ret (v := .tuple #[.agg #[.int .u64 0, .int .u64 0], .string (B []), .int .i64 2]) (by simp [results, Tryd.results63, go_sem]; rfl) rfl ⟨by rw [hR.out]; rfl, ?_⟩
    exact below_two _ _ _ _ _
  · obtain ⟨hn, hk0, hkl⟩ := get_bounds hg
    have hG := Lib.hid hg
    clear hg
    have hlr : (l.drop k).length ≤ 4611686018427387904 := by rw [List.length_drop]; omega
    by_cases h2 : n % 2 = 0
    · have h2h := Lib.hid h2
      have h2i : ((n : Int) % 2 == 0) = true := by simp; omega
      clear h2
      by_cases h0 : n = 0
      · have hR := Lib.hid (rd_plain_bad (hv := hv) hG.out h2h.out (.inl h0))
        subst h0
        go_enter Tryd.func63, Tryd.ntmps63
        go_wp2_with (go_at_call 46; go_must (refine (get_some hG.out hl _).mono ?_); rintro e w' ⟨rfl, nq, rfl⟩)
        refine bodyPost_ret (v := .tuple #[.agg #[.int .u64 0, .int .u64 0], .string (B []), .int .i64 2]) (by simp [results, Tryd.results63, go_sem]; rfl) rfl ⟨by rw [hR.out]; rfl, ?_⟩
        exact below_two _ _ _ _ _
      · have h0i : ((n : Int) == 0) = false := by simp; omega
        by_cases h3 : (l.drop k).length < n / 2
        · have hR := Lib.hid (rd_plain_bad (hv := hv) hG.out h2h.out (.inr h3))
          rw [List.length_drop] at h3
          go_enter Tryd.func63, Tryd.ntmps63
          go_wp2_with (go_at_call 46; go_must (refine (get_some hG.out hl _).mono ?_); rintro e w' ⟨rfl, nq, rfl⟩)
          all_goals first | (exfalso; omega) | skip
          refine bodyPost_ret (v := .tuple #[.agg #[.int .u64 0, .int .u64 0], .string (B []), .int .i64 2]) (by simp [results, Tryd.results63, go_sem]; rfl) rfl ⟨by rw [hR.out]; rfl, ?_⟩
          exact below_two _ _ _ _ _
        · have hR := Lib.hid (rd_plain (hv := hv) hG.out h2h.out h0 (by omega))
          rw [List.length_drop] at h3
          go_enter Tryd.func63, Tryd.ntmps63
          go_wp2_with (go_at_call 46; go_must (refine (get_some hG.out hl _).mono ?_); rintro e w' ⟨rfl, nq, rfl⟩)
          all_goals first | (exfalso; omega) | skip
          refine bodyPost_ret (v := rdVal (some (n / 2, 0, l.drop k))) (by simp [results, rdVal, Tryd.results63, go_sem]) rfl ⟨by rw [hR.out], ?_⟩
          exact below_two _ _ _ _ _
    · have h2h : Hid (n % 2 = 1) := by show n % 2 = 1; omega
      have h2i : ((n : Int) % 2 == 0) = false := by simp; omega
      clear h2
      rcases hg2 : get (l.drop k) with _ | ⟨f, m⟩
      · have hG2 := Lib.hid hg2
        have hR := Lib.hid (rd_far_none (hv := hv) hG.out h2h.out hg2)
        clear hg2
        go_enter Tryd.func63, Tryd.ntmps63
        go_wp2_with (go_at_call 46; go_must (first | with_reducible refine (get_some hG.out hl _).mono ?_ | with_reducible refine (get_non hG2.out hlr _).mono ?_); rintro e w' ⟨rfl, nq, rfl⟩)
        all_goals first | (exfalso; omega) | skip
        refine bodyPost_ret (v := .tuple #[.agg #[.int .u64 0, .int .u64 0], .string (B []), .int .i64 2]) (by simp [results, Tryd.results63, go_sem]; rfl) rfl ⟨by rw [hR.out]; rfl, ?_⟩
        exact below_two _ _ _ _ _
      · obtain ⟨hf, hm0, hml⟩ := get_bounds hg2
        have hG2 := Lib.hid hg2
        clear hg2
        by_cases hb : n / 2 < 4 ∨ f < 1 ∨ 65535 < f ∨ hv < f
        · have hR := Lib.hid (rd_far_bad (hv := hv) hG.out h2h.out hG2.out hb)
          have hbh := Lib.hid hb
          clear hb
          go_enter Tryd.func63, Tryd.ntmps63
          go_wp2_with (go_at_call 46; go_must (first | with_reducible refine (get_some hG.out hl _).mono ?_ | with_reducible refine (get_some hG2.out hlr _).mono ?_); rintro e w' ⟨rfl, nq, rfl⟩)
          all_goals first
            | (exfalso; have := hbh.out; omega)
            | (refine bodyPost_ret (v := .tuple #[.agg #[.int .u64 0, .int .u64 0], .string (B []), .int .i64 2]) (by simp [results, Tryd.results63, go_sem]; rfl) rfl ⟨by rw [hR.out]; rfl, ?_⟩
               exact below_two _ _ _ _ _)
        · have hR := Lib.hid (rd_far (hv := hv) hG.out h2h.out hG2.out (by omega) (by omega) (by omega) (by omega))
          have hb1 : 4 ≤ n / 2 := by omega
          have hb2 : 1 ≤ f := by omega
          have hb3 : f ≤ 65535 := by omega
          have hb4 : f ≤ hv := by omega
          clear hb
          go_enter Tryd.func63, Tryd.ntmps63
          go_wp2_with (go_at_call 46; go_must (first | with_reducible refine (get_some hG.out hl _).mono ?_ | with_reducible refine (get_some hG2.out hlr _).mono ?_); rintro e w' ⟨rfl, nq, rfl⟩)
          all_goals first | (exfalso; omega) | skip
          refine bodyPost_ret (v := rdVal (some (n / 2, f, (l.drop k).drop m))) (by simp [results, rdVal, Tryd.results63, go_sem]) rfl ⟨by rw [hR.out], ?_⟩
          exact below_two _ _ _ _ _
end Go.Proofs.YtoekdiklbfdpiaaDoor
