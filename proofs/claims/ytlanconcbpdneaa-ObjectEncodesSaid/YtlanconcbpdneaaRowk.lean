/- Rows of the call's own whose elements have several cells: written, element by element, and many at once; copy, clear, append of a make. No condition; no program. -/
import Derived.Test.YtlanconcbpdneaaElem
import Derived.Deep.MidRow
import Derived.Lib.AppendZerosOnto
namespace Go.Proofs.Ytlanconcbpdneaa
open Go.RowKit
section
variable {P : Program} {w w' : World} {g : Nat} {e : TypeId}
theorem Blk.setCells : ∀ (vs : List Value) (o : Nat) (w : World) (cur : Array Value), Blk w g e cur → ∃ cur', Blk (w.setCells g o vs) g e cur' ∧ cur'.size = cur.size
  | [], _, _, cur, h => ⟨cur, h, rfl⟩
  | v :: r, o, w, cur, h => by
    obtain ⟨cur', h1, h2⟩ := Blk.setCells r (o + 1) _ _ (h.set_ o v)
    exact ⟨cur', h1, by rw [h2, Array.size_setIfInBounds]⟩
theorem Blk.setCells_far {g' : Nat} (hne : g' ≠ g) : ∀ (vs : List Value) (o : Nat) (w : World) {cur : Array Value}, Blk w g' e cur → Blk (w.setCells g o vs) g' e cur
  | [], _, _, _, h => h
  | v :: r, o, w, _, h => Blk.setCells_far hne r (o + 1) _ (h.far (p := ⟨g, o, none⟩) hne v)
theorem below_setCells : ∀ (vs : List Value) (o : Nat) (w0 w : World) {base : Nat}, Below base w0 w → base ≤ g → Below base w0 (w.setCells g o vs)
  | [], _, _, _, _, h, _ => h
  | v :: r, o, w0, w, base, h, hg => below_setCells r (o + 1) w0 _ (h.setCell (p := ⟨g, o, none⟩) hg v) hg
theorem size_setCells : ∀ (vs : List Value) (o : Nat) (w : World), (w.setCells g o vs).heap.size = w.heap.size
  | [], _, _ => rfl
  | v :: r, o, w => by rw [World.setCells, size_setCells r]; exact World.size_setCell _ _ _
end
section
variable {α : Type} {P : Program} {w w' : World} {g : Nat} {e : TypeId} {k : Nat} {enc : α → List Value} {cap : Nat} {s t : List α}
/-- A row of the call's own: block g holds the elements' cells, one behind the other, and has room for cap. -/
structure Row (w : World) (g : Nat) (e : TypeId) (k : Nat) (enc : α → List Value) (cap : Nat) (s : List α) : Prop where
  blk : ∃ cur, Blk w g e cur ∧ cur.size = cap * k
  at_ : ∀ i x, s[i]? = some x → w.rangeAt g (i * k) (enc x)
  le : s.length ≤ cap
  top : cap ≤ maxLen
theorem Row.lt (h : Row w g e k enc cap s) : g < w.heap.size := by obtain ⟨cur, hb, _⟩ := h.blk; exact hb.lt
theorem Row.drew (h : Row w g e k enc cap s) : Row w.drew g e k enc cap s := ⟨h.blk, h.at_, h.le, h.top⟩
theorem Row.below (h : Row w g e k enc cap s) (hb : Below w.heap.size w w') : Row w' g e k enc cap s := by
  have hlt := h.lt
  obtain ⟨cur, hc, hs⟩ := h.blk
  exact ⟨⟨cur, hc.below hb hlt, hs⟩, fun i x hx => rangeAt_below (h.at_ i x hx) hlt hb, h.le, h.top⟩
theorem Row.alloc (h : Row w g e k enc cap s) (o : Obj) : Row (w.alloc o) g e k enc cap s := h.below ((Below.refl _ _).alloc (Nat.le_refl _) _)
theorem Row.cut (h : Row w g e k enc cap s) (n : Nat) : Row w g e k enc cap (s.take n) :=
  ⟨h.blk, fun i x hx => h.at_ i x (by rw [List.getElem?_take] at hx; split at hx; exact hx; cases hx), by have := h.le; simp; omega, h.top⟩
theorem Row.there (h : Row w g e k enc cap s) {o n : Nat} (hn : o + n ≤ cap * k) : w.there g o n := by
  obtain ⟨cur, hc, hs⟩ := h.blk
  intro j hj
  refine ⟨?_, hc.frozen _⟩
  rw [hc.cell, Array.getElem?_eq_getElem (by omega)]
  rfl
theorem Row.top63 (h : Row w g e k enc cap s) : cap ≤ 9223372036854775807 := by have := h.top; simpa [maxLen] using this
theorem Row.slice (h : Row w g e k enc cap s) : SliceAt w k enc (.slice (some ⟨g, 0, none⟩) s.length cap) s :=
  ⟨_, cap, rfl, h.le, h.top63, fun _ => ⟨g, 0, rfl, h.lt, fun i x hx => by rw [Nat.zero_add]; exact h.at_ i x hx⟩⟩
/-- Elements are written from place i on. -/
theorem Row.put (hk : ∀ x ∈ s, (enc x).length = k) (hkt : ∀ x ∈ t, (enc x).length = k) (h : Row w g e k enc cap s) {i : Nat} (hi : i ≤ s.length) (ht : i + t.length ≤ cap) :
    Row (w.setCells g (i * k) (rowsOf enc t)) g e k enc cap (s.take i ++ t ++ s.drop (i + t.length)) := by
  have hlen := rowsOf_length hkt
  obtain ⟨cur, hc, hs⟩ := h.blk
  obtain ⟨cur', hc', hs'⟩ := hc.setCells (rowsOf enc t) (i * k)
  have hroom : i * k + (rowsOf enc t).length ≤ cap * k := by
    rw [hlen, ← Nat.add_mul]
    exact Nat.mul_le_mul_right _ ht
  have hth : w.there g (i * k) (rowsOf enc t).length := h.there hroom
  refine ⟨⟨cur', hc', hs'.trans hs⟩, fun j x hx => ?_, ?_, h.top⟩
  · by_cases h1 : j < i
    · have hx' : s[j]? = some x := by
        rw [List.append_assoc, List.getElem?_append_left (by simp; omega), List.getElem?_take, if_pos h1] at hx
        exact hx
      refine World.rangeAt_setCells_apart (h.at_ j x hx') _ _ _ (.inr (.inl ?_))
      rw [hk x (List.mem_of_getElem? hx'), ← Nat.succ_mul]
      exact Nat.mul_le_mul_right _ h1
    · by_cases h2 : j < i + t.length
      · have hx' : t[j - i]? = some x := by
          rw [List.append_assoc, List.getElem?_append_right (by simp; omega), List.getElem?_append_left (by simp; omega)] at hx
          simpa [List.length_take, Nat.min_eq_left hi] using hx
        intro q u hu
        have hq := rowsOf_get hkt hx' hu
        have := World.rangeAt_setCells_same w g (i * k) (rowsOf enc t) hth _ u hq
        have e1 : i * k + ((j - i) * k + q) = j * k + q := by
          rw [← Nat.add_assoc, ← Nat.add_mul, show i + (j - i) = j from by omega]
        rwa [e1] at this
      · have hx' : s[j]? = some x := by
          rw [List.getElem?_append_right (by simp; omega), List.getElem?_drop] at hx
          rw [← hx]
          congr 1
          simp
          omega
        refine World.rangeAt_setCells_apart (h.at_ j x hx') _ _ _ (.inr (.inr ?_))
        rw [hlen, ← Nat.add_mul]
        exact Nat.mul_le_mul_right _ (by omega)
  · have := h.le
    simp
    omega
theorem Row.set (hk : ∀ x ∈ s, (enc x).length = k) (h : Row w g e k enc cap s) {i : Nat} (hi : i < s.length) {x : α} (hx : (enc x).length = k) : Row (w.setCells g (i * k) (enc x)) g e k enc cap (s.set i x) := by
  have := h.put hk (t := [x]) (fun y hy => by simp at hy; subst hy; exact hx) (i := i) (by omega) (by have := h.le; simp; omega)
  rw [rowsOf_one] at this
  rw [List.set_eq_take_append_cons_drop, if_pos hi]
  simpa using this
/-- Cells behind the first i elements are overwritten. -/
theorem Row.shed (hk : ∀ x ∈ s, (enc x).length = k) (h : Row w g e k enc cap s) (i : Nat) (zs : List Value) : Row (w.setCells g (i * k) zs) g e k enc cap (s.take i) := by
  obtain ⟨cur, hc, hs⟩ := h.blk
  obtain ⟨cur', hc', hs'⟩ := hc.setCells zs (i * k)
  refine ⟨⟨cur', hc', hs'.trans hs⟩, fun j x hx => ?_, ?_, h.top⟩
  · rw [List.getElem?_take] at hx
    split at hx
    · rename_i h1
      refine World.rangeAt_setCells_apart (h.at_ j x hx) _ _ _ (.inr (.inl ?_))
      rw [hk x (List.mem_of_getElem? hx), ← Nat.succ_mul]
      exact Nat.mul_le_mul_right _ h1
    · cases hx
  · have := h.le
    simp
    omega
theorem take_of_ranges (hk : ∀ x ∈ s, (enc x).length = k) {c : List Value} (hc : s.length * k ≤ c.length) (h : ∀ i x, s[i]? = some x → ∀ j u, (enc x)[j]? = some u → c[i * k + j]? = some u) : c.take (s.length * k) = rowsOf enc s := by
  induction s generalizing c with
  | nil => simp [rowsOf]
  | cons x s ih =>
    have hx := hk x (by simp)
    have h1 : c.take k = enc x := by
      refine List.ext_getElem? fun j => ?_
      rw [List.getElem?_take]
      split
      · rename_i hj
        have := h 0 x (by simp) j (enc x)[j] (List.getElem?_eq_getElem (by omega))
        rw [Nat.zero_mul, Nat.zero_add] at this
        rw [this, List.getElem?_eq_getElem (by omega)]
      · rw [List.getElem?_eq_none (by omega)]
    have h2 := ih (fun y hy => hk y (by simp [hy])) (c := c.drop k) (by simp only [List.length_cons, Nat.succ_mul] at hc; rw [List.length_drop]; omega) (fun i y hy j u hu => by
      rw [List.getElem?_drop]
      have := h (i + 1) y (by simpa using hy) j u hu
      rw [← this]
      congr 1
      rw [Nat.succ_mul]
      omega)
    simp only [List.length_cons, Nat.succ_mul, rowsOf, List.flatMap_cons] at *
    rw [Nat.add_comm, List.take_add, h1, h2]
theorem Row.own (hk : ∀ x ∈ s, (enc x).length = k) (h : Row w g e k enc cap s) {base : Nat} (hg : base ≤ g) : w.ownsRow base e k (.slice (some ⟨g, 0, none⟩) s.length cap) s.length (rowsOf enc s) := by
  obtain ⟨cur, hc, hs⟩ := h.blk
  have hle : s.length * k ≤ cap * k := Nat.mul_le_mul_right _ h.le
  refine ⟨rowsOf_length hk, .inr ⟨g, cap, cur, rfl, hg, hc, h.le, h.top, hs, take_of_ranges hk (by simpa [hs] using hle) fun i x hx j u hu => ?_⟩⟩
  have := h.at_ i x hx j u hu
  rw [hc.cell] at this
  rw [Array.getElem?_toList]
  exact this
/-- .. and back. -/
theorem Row.of_own {base : Nat} {v : Value} (hk : ∀ x ∈ s, (enc x).length = k) (h : w.ownsRow base e k v s.length (rowsOf enc s)) :
    (v = .slice none 0 0 ∧ s = []) ∨ ∃ g cap, v = .slice (some ⟨g, 0, none⟩) s.length cap ∧ base ≤ g ∧ Row w g e k enc cap s := by
  rcases h.2 with ⟨h1, h2⟩ | ⟨g, cap, cur, h1, h2, h3, h4, h5, h6, h7⟩
  · exact .inl ⟨h1, List.eq_nil_of_length_eq_zero h2⟩
  · refine .inr ⟨g, cap, h1, h2, ⟨cur, h3, h6⟩, fun i x hx j u hu => ?_, h4, h5⟩
    have hrow := rowsOf_get hk hx hu
    have hb : Blk w g e cur := h3
    rw [hb.cell, ← Array.getElem?_toList]
    rw [← h7, List.getElem?_take] at hrow
    split at hrow
    · exact hrow
    · cases hrow
/-- A row just laid, whose first cells are the elements'. -/
theorem Row.of_new (hk : ∀ x ∈ s, (enc x).length = k) (w : World) (zs : Array Value) (hs : s.length * k + zs.size = cap * k) (hle : s.length ≤ cap) (htop : cap ≤ maxLen) :
    Row (w.alloc (.cells ((rowsOf enc s).toArray ++ zs) e)) w.heap.size e k enc cap s := by
  have hb := Blk.new w e ((rowsOf enc s).toArray ++ zs)
  refine ⟨⟨_, hb, by rw [Array.size_append, List.size_toArray, rowsOf_length hk]; exact hs⟩, fun i x hx j u hu => ?_, hle, htop⟩
  have hrow := rowsOf_get hk hx hu
  have hlt : i * k + j < (rowsOf enc s).length := (List.getElem?_eq_some_iff.1 hrow).1
  rw [hb.cell, Array.getElem?_append_left (by simpa using hlt)]
  simpa using hrow
/-- copy, whatever the elements' size. -/
theorem run_copy_rows (w : World) (dT sT ty elem : TypeId) (b o dLen dCap : Nat) (a : Addr) (sLen sCap n : Nat) (cs : List Value)
    (hu : P.underlying dT = some (.slice elem)) (hs : (P.info? elem).map (·.size) = some k) (hn : n = Nat.min sLen dLen) (hl : cs.length = n * k)
    (hsrc : ∀ j v, cs[j]? = some v → w.cell? (a.add j) = some v) (ht : w.there b o cs.length) (h1 : ∀ v ∈ cs, v.oneCell' = true) :
    (Builtin.copy_ #[dT, sT] ty #[.slice (some ⟨b, o, none⟩) dLen dCap, .slice (some a) sLen sCap]).run P w = .ok (goInt n) (w.setCells b o cs) := by
  have hl' := run_loadCells_list (P := P) w a cs hsrc
  have hst := run_storeCells_cells (P := P) b o cs 0 w (fun j hj => (ht j hj).1) (fun j hj => (ht j hj).2) h1
  cases hq : P.info? elem with
  | none => simp [hq] at hs
  | some i =>
    have hi : i.size = k := by simpa [hq] using hs
    rw [hl] at hl'
    simp [Builtin.copy_, run_underlying hu, Builtin.lenOf, Builtin.firstCells, sizeOf, typeInfo, hq, hi, ← hn, hl', hst]
theorem run_clear_rows (w : World) (dT ty elem : TypeId) (z : Value) (b o n dCap : Nat) (hu : P.underlying dT = some (.slice elem)) (hz : (P.info? elem).map (·.zero) = some (some z)) (h0 : 0 < n)
    (ht : w.there b o (Builtin.zeroCells z.cells n).size) (h1 : ∀ v ∈ (Builtin.zeroCells z.cells n).toList, v.oneCell' = true) :
    (Builtin.clear_ #[dT] ty #[.slice (some ⟨b, o, none⟩) n dCap]).run P w = .ok (.tuple #[]) (w.setCells b o (Builtin.zeroCells z.cells n).toList) := by
  have hst := run_storeCells_cells (P := P) b o (Builtin.zeroCells z.cells n).toList 0 w (fun j hj => (ht j (by simpa using hj)).1) (fun j hj => (ht j (by simpa using hj)).2) h1
  obtain ⟨m, rfl⟩ : ∃ m, n = m + 1 := ⟨n - 1, by omega⟩
  cases hq : P.info? elem with
  | none => simp [hq] at hz
  | some i =>
    have hi : i.zero = some z := by simpa [hq] using hz
    rw [Nat.add_zero] at hst
    simp [Builtin.clear_, run_underlying hu, zeroValue, typeInfo, hq, hi]
    rw [hst]
    rfl
theorem rowsOf_find (hk : ∀ x ∈ s, (enc x).length = k) {j : Nat} {u : Value} (h : (rowsOf enc s)[j]? = some u) : ∃ i x q, s[i]? = some x ∧ (enc x)[q]? = some u ∧ j = i * k + q := by
  induction s generalizing j with
  | nil => simp [rowsOf] at h
  | cons y s ih =>
    have hy := hk y (by simp)
    simp only [rowsOf, List.flatMap_cons] at h
    by_cases hj : j < k
    · rw [List.getElem?_append_left (by omega)] at h
      exact ⟨0, y, j, rfl, h, by omega⟩
    · rw [List.getElem?_append_right (by omega), hy] at h
      obtain ⟨i, x, q, h1, h2, h3⟩ := ih (fun z hz => hk z (by simp [hz])) h
      exact ⟨i + 1, x, q, by simpa using h1, h2, by rw [Nat.succ_mul]; omega⟩
theorem SliceAt.news {v : Value} (hk : ∀ x ∈ s, (enc x).length = k) (h : SliceAt w k enc v s) {a : Addr} {n c : Nat} (hv : v = .slice (some a) n c) : ∀ j u, (rowsOf enc s)[j]? = some u → w.cell? (a.add j) = some u := by
  intro j u hu
  obtain ⟨i, x, q, h1, h2, h3⟩ := rowsOf_find hk hu
  obtain ⟨A, cap, rfl, _, _, hc⟩ := h
  have hi := (List.getElem?_eq_some_iff.1 h1).1
  obtain ⟨g, o, rfl, hg, hat⟩ := hc (by omega)
  injection hv with e1 _ _
  injection e1 with e1
  subst e1
  have := hat i x h1 q u h2
  rw [Addr.add_mid, h3, ← Nat.add_assoc]
  exact this
theorem rowsOf_one' (ho : ∀ x ∈ s, ∀ u ∈ enc x, u.oneCell' = true) : ∀ u ∈ rowsOf enc s, u.oneCell' = true := by
  intro u hu
  obtain ⟨x, hx, hux⟩ := List.mem_flatMap.1 hu
  exact ho x hx u hux
theorem zeroCells_one {z : Array Value} (hz : ∀ u ∈ z.toList, u.oneCell' = true) (n : Nat) : ∀ u ∈ (Builtin.zeroCells z n).toList, u.oneCell' = true := by
  intro u hu
  simp only [Builtin.zeroCells, Array.toList_map, List.mem_map] at hu
  obtain ⟨i, hi, rfl⟩ := hu
  have hlt : i % z.size < z.size := Nat.mod_lt _ (by
    rcases Nat.eq_zero_or_pos z.size with h0 | h0
    · rw [h0] at hi; simp at hi
    · exact h0)
  rw [getElem!_pos z _ hlt]
  exact hz _ (Array.getElem_mem_toList _)
theorem wp_clear_run (w : World) {o : Oper} {a : Act} {K : Act → World → Prop} {Q : Exit → Act → World → Prop} (d : Operand) (t : TypeId)
    (ho : o.op = .call { callee := .builtin .clear, args := #[d], argTypes := #[t] }) (v : Value) (hd : a.eval d = v) {v' : Value} {w' : World}
    (hr : (Builtin.clear_ #[t] o.type #[v]).run P w = .ok v' w') (h : K (a.put o.dst v') w') : o.wp P a w K Q := by
  unfold Oper.wp execOp
  simp only [ho, resolve, invoke, builtin, Sem.run_bind, Sem.run_pure, Result.andThen_ok, List.map_toArray, List.map_cons, List.map_nil, hd, hr]
  exact h
theorem wpList_clear_run (w : World) {ops : Array Oper} {rest : List Oper} {o : Oper} {a : Act} {Q : Exit → Act → World → Prop} (hgd : o.guard = none) (d : Operand) (t : TypeId)
    (ho : o.op = .call { callee := .builtin .clear, args := #[d], argTypes := #[t] }) (v : Value) (hd : a.eval d = v) {v' : Value} {w' : World}
    (hr : (Builtin.clear_ #[t] o.type #[v]).run P w = .ok v' w') (h : wpList P ops Q rest (a.put o.dst v') w') : wpList P ops Q (o :: rest) a w :=
  wpList_plain hgd fun _ hK => wp_clear_run w d t ho v hd hr (hK _ _ h)
theorem wp_copy_run (w : World) {o : Oper} {a : Act} {K : Act → World → Prop} {Q : Exit → Act → World → Prop} (d x : Operand) (t t' : TypeId)
    (ho : o.op = .call { callee := .builtin .copy, args := #[d, x], argTypes := #[t, t'] }) (v u : Value) (hd : a.eval d = v) (hs : a.eval x = u) {v' : Value} {w' : World}
    (hr : (Builtin.copy_ #[t, t'] o.type #[v, u]).run P w = .ok v' w') (h : K (a.put o.dst v') w') : o.wp P a w K Q := by
  unfold Oper.wp execOp
  simp only [ho, resolve, invoke, builtin, Sem.run_bind, Sem.run_pure, Result.andThen_ok, List.map_toArray, List.map_cons, List.map_nil, hd, hs, hr]
  exact h
theorem wpList_copy_run (w : World) {ops : Array Oper} {rest : List Oper} {o : Oper} {a : Act} {Q : Exit → Act → World → Prop} (hgd : o.guard = none) (d x : Operand) (t t' : TypeId)
    (ho : o.op = .call { callee := .builtin .copy, args := #[d, x], argTypes := #[t, t'] }) (v u : Value) (hd : a.eval d = v) (hs : a.eval x = u) {v' : Value} {w' : World}
    (hr : (Builtin.copy_ #[t, t'] o.type #[v, u]).run P w = .ok v' w') (h : wpList P ops Q rest (a.put o.dst v') w') : wpList P ops Q (o :: rest) a w :=
  wpList_plain hgd fun _ hK => wp_copy_run w d x t t' ho v u hd hs hr (hK _ _ h)
theorem step_copy_run {ops : Array Oper} {o : Oper} {a : Act} {w : World} {K : Act → World → Prop} {Q : Exit → Act → World → Prop} {E : Prop}
    (hg : o.guard = none) (d x : Operand) (dT sT : TypeId) (hop : o.op = Op.call { callee := Callee.builtin Builtin.copy, args := #[d, x], argTypes := #[dT, sT] })
    (v u : Value) (hd : a.eval d = v) (hx : a.eval x = u) {v' : Value} {w' : World} (hr : (Builtin.copy_ #[dT, sT] o.type #[v, u]).run P w = .ok v' w') (hK : K (a.put o.dst v') w') :
    if Region.wanted o (yielded ops a.tmps) = true then Oper.wp P o a w K Q else E := by
  have hw : Region.wanted o (yielded ops a.tmps) = true := by simp [Region.wanted, hg]
  rw [if_pos hw]
  exact wp_copy_run w d x dT sT hop v u hd hx hr hK
end
end Go.Proofs.Ytlanconcbpdneaa
