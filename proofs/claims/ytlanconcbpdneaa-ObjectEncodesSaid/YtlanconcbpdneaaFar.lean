/- What a call leaves as it was: all blocks but some. No condition; no program. -/
import Derived.Test.YtlanconcbpdneaaRowk
import Derived.Test.YtlanconcbpdneaaId
import Derived.Maps.AppendAt
namespace Go.Proofs.Ytlanconcbpdneaa
open Go.RowKit
/-- All blocks of w but those of S are as they were; there may be new ones. -/
structure Far (S : List (Option Nat)) (w w' : World) : Prop where
  os : w'.os = w.os
  tape : w'.tape = w.tape
  output : w'.output = w.output
  size : w.heap.size ≤ w'.heap.size
  block : ∀ k, k < w.heap.size → some k ∉ S → w'.heap[k]? = w.heap[k]?
/-- The slice value v' lies where v lay, or in a new block. -/
def Newer (w : World) (v v' : Value) : Prop := v'.ownBlock = v.ownBlock ∨ ∀ k, v'.ownBlock = some k → w.heap.size ≤ k
section
variable {S T : List (Option Nat)} {w w0 w1 w2 w' : World} {g B : Nat} {t : TypeId} {cs : Array Value}
theorem Far.refl (S : List (Option Nat)) (w : World) : Far S w w := ⟨rfl, rfl, rfl, Nat.le_refl _, fun _ _ _ => rfl⟩
theorem Far.of_below (h : Below w.heap.size w w') : Far S w w' := ⟨h.os, h.tape, h.output, h.size, fun k hk _ => h.block k hk⟩
theorem Far.of_grown {row : Option Nat} (h : w.grownBy w' row) : Far [row] w w' := ⟨h.os, h.tape, h.output, h.size, fun k hk hn => h.block k hk (fun e => hn (by simp [e]))⟩
theorem Far.grown {row : Option Nat} (h : Far S w w') (hs : ∀ k, some k ∈ S → some k = row) : w.grownBy w' row := ⟨h.os, h.tape, h.output, h.size, fun k hk hn => h.block k hk (fun e => hn (hs k e))⟩
theorem Far.mono (h : Far S w w') (hs : ∀ k, some k ∈ S → some k ∈ T) : Far T w w' := ⟨h.os, h.tape, h.output, h.size, fun k hk hn => h.block k hk (fun e => hn (hs k e))⟩
theorem Far.then_ (h : Far S w w1) (h2 : Far T w1 w2) (hT : ∀ k, some k ∈ T → some k ∈ S ∨ w.heap.size ≤ k) : Far S w w2 :=
  ⟨h2.os.trans h.os, h2.tape.trans h.tape, h2.output.trans h.output, Nat.le_trans h.size h2.size, fun k hk hn => by
    refine (h2.block k (Nat.lt_of_lt_of_le hk h.size) fun e => ?_).trans (h.block k hk hn)
    rcases hT k e with h3 | h3
    · exact hn h3
    · omega⟩
theorem Far.trans (h : Far S w w1) (h2 : Far S w1 w2) : Far S w w2 := h.then_ h2 fun _ hk => .inl hk
theorem Far.more (h : Far S w w1) (h2 : Below w1.heap.size w1 w2) : Far S w w2 := h.trans (Far.of_below h2)
theorem Far.blk (h : Far S w w') (hb : Blk w g t cs) (hg : some g ∉ S) : Blk w' g t cs := (h.block g hb.lt hg).trans hb
theorem Far.own {base size n : Nat} {e : TypeId} {v : Value} {xs : List Value} (h : Far S w w') (ho : w.ownsRow base e size v n xs) (hv : ∀ k, v.ownBlock = some k → some k ∉ S) : w'.ownsRow base e size v n xs := by
  have hlt := World.ownsRow.lt ho
  refine ⟨ho.1, ?_⟩
  rcases ho.2 with hn | ⟨g, cap, cur, rfl, hb, hgg, rest⟩
  · exact .inl hn
  · exact .inr ⟨g, cap, cur, rfl, hb, (h.block g (hlt g rfl).2 (hv g rfl)).trans hgg, rest⟩
theorem Far.range {o : Nat} {cs : List Value} (h : Far S w w') (hr : w.rangeAt g o cs) (hlt : g < w.heap.size) (hg : some g ∉ S) : w'.rangeAt g o cs := fun j u hu => by
  rw [World.cell?_of_block (w := w) (h.block g hlt hg)]
  exact hr j u hu
theorem Far.below (h : Far S w w') (hB : B ≤ w.heap.size) (hS : ∀ k, some k ∈ S → B ≤ k) : Below B w w' :=
  ⟨h.os, h.tape, h.output, h.size, fun k hk => h.block k (Nat.lt_of_lt_of_le hk hB) fun e => by have := hS k e; omega⟩
theorem Far.drew (h : Far S w w') : Far S w w'.drew := ⟨h.os, h.tape, h.output, h.size, h.block⟩
theorem Far.drewN (h : Far S w w') (n : Nat) : Far S w (w'.drewN n) := ⟨h.os, h.tape, h.output, h.size, h.block⟩
theorem Far.alloc (h : Far S w w') (o : Obj) : Far S w (w'.alloc o) := h.more ((Below.refl _ _).alloc (Nat.le_refl _) o)
theorem Far.set_ (h : Far S w w') {p : Addr} (hp : some p.block ∈ S ∨ w.heap.size ≤ p.block) (v : Value) : Far S w (w'.setCell p v) :=
  ⟨h.os, h.tape, h.output, by rw [World.size_setCell]; exact h.size, fun k hk hn => by
    refine (Below.heap_setCell w' p v k fun e => ?_).trans (h.block k hk hn)
    rcases hp with hp | hp
    · exact hn (e ▸ hp)
    · omega⟩
theorem Far.cells (hg : some g ∈ S ∨ w.heap.size ≤ g) : ∀ (vs : List Value) (o : Nat) (w' : World), Far S w w' → Far S w (w'.setCells g o vs)
  | [], _, _, h => h
  | v :: r, o, w', h => Far.cells hg r (o + 1) _ (h.set_ (p := ⟨g, o, none⟩) hg v)
theorem Newer.refl (w : World) (v : Value) : Newer w v v := .inl rfl
theorem Newer.then_ {v v1 v2 : Value} (h : Newer w v v1) (h2 : Newer w1 v1 v2) (hs : w.heap.size ≤ w1.heap.size) : Newer w v v2 := by
  rcases h2 with h2 | h2
  · rcases h with h | h
    · exact .inl (h2.trans h)
    · exact .inr fun k hk => h k (h2 ▸ hk)
  · exact .inr fun k hk => Nat.le_trans hs (h2 k hk)
/-- A block that was there is no block of v', if it was none of v. -/
theorem Newer.ne {v v' : Value} (h : Newer w v v') (hg : g < w.heap.size) (hne : v.ownBlock ≠ some g) : v'.ownBlock ≠ some g := by
  rcases h with h | h
  · rwa [h]
  · intro e
    have := h g e
    omega
end
/-- append of a block's cells, and where the new slice lies. -/
theorem lit_append_at {P : Program} {ops : Array Oper} {rest : List Oper} {a : Act} {w : World} {Q : Exit → Act → World → Prop} {d : Option Tmp} {rt : TypeId} {pos : String} {af : Array Edge}
    (s x : Operand) (c : Nat) (t : TypeId) {e : TypeId} {z : Value} {size bytes : Nat} (hT : SliceTy P t e z size bytes) {base n : Nat} {v : Value} {xs : List Value} (hown : w.ownsRow base e size v n xs)
    {k m : Nat} {t' : TypeId} {cs : Array Value} (hcs : Blk w k t' cs) (hl : cs.size = m * size) (h1 : ∀ u ∈ cs.toList, u.oneCell' = true)
    (h63 : n + m ≤ 9223372036854775807) (hbytes : (n + m) * bytes ≤ 140737488355328) (hbase : base ≤ w.heap.size) (hs : a.eval s = v) (hx : a.eval x = .slice (some ⟨k, 0, none⟩) m c)
    (h : ∀ v' w', w'.ownsRow base e size v' (n + m) (xs ++ cs.toList) → w.grownBy w' v.ownBlock → Newer w v v' → wpList P ops Q rest (a.put d v') w') :
    wpList P ops Q ({ dst := d, op := .call { callee := .builtin .append, args := #[s, x], argTypes := #[t, t] }, type := rt, pos := pos, after := af, guard := none } :: rest) a w := by
  obtain ⟨i, i1, i2, i3, i4⟩ := hT.hi
  refine wpList_append_own_at w rfl s x t rfl base e i z size bytes hT.ht i1 i2 i3 i4 hT.hzs hT.hsz v n xs hs hown ⟨k, 0, none⟩ m c cs.toList hx (by simpa using hl) (news_of_blk hcs) h1 (by simp only [maxLen]; omega) hbytes hbase ?_
  intro v' w' hown' hg _ hat
  refine h v' w' hown' hg ?_
  rcases hat with hat | hat
  · exact .inl hat
  · refine .inr fun k hk => ?_
    rw [hat] at hk
    injection hk with hk
    omega
theorem grown_of_below {w w' : World} (h : Below w.heap.size w w') (row : Option Nat) : w.grownBy w' row := ⟨h.os, h.tape, h.output, h.size, fun k hk _ => h.block k hk⟩
/-- A variable just laid is given a whole value. -/
theorem lit_new {P : Program} {ops : Array Oper} {rest : List Oper} {a : Act} {w : World} {Q : Exit → Act → World → Prop} {d : Option Tmp} {rt : TypeId} {pos : String} {af : Array Edge}
    (ty : TypeId) (x y : Operand) (cs : Array Value) (k : Nat) (hk : (P.info? ty).map (·.size) = some k) (hcs : cs.size = k) (h1 : cs.all (·.oneCell') = true) (zs : Array Value) (hz : zs.size = k) (hx : a.eval x = .pointer (some ⟨w.heap.size, 0, none⟩)) (hy : a.eval y = .agg cs)
    (h : ∀ W1, Blk W1 w.heap.size ty cs → Below w.heap.size w W1 → wpList P ops Q rest (a.put d undef) W1) :
    wpList P ops Q ({ dst := d, op := .store ty x y, type := rt, pos := pos, after := af, guard := none } :: rest) a (w.alloc (.cells zs ty)) :=
  wpList_store_new rfl ty x y rfl cs zs hx hy (by rw [hcs]; exact hk) (hz.trans hcs.symm) h1 h
/-- A whole value in mid-block is loaded. -/
theorem lit_load {P : Program} {ops : Array Oper} {rest : List Oper} {a : Act} {w : World} {Q : Exit → Act → World → Prop} {d : Option Tmp} {rt : TypeId} {pos : String} {af : Array Edge}
    (ty : TypeId) (x : Operand) (b o : Nat) (cs : List Value) (td : TypeDesc) (hc : w.rangeAt b o cs) (hu : P.underlying ty = some td) (hag : td.isRow = true) (hk : (P.info? ty).map (·.size) = some cs.length) (hx : a.eval x = .pointer (some ⟨b, o, none⟩))
    (h : wpList P ops Q rest (a.put d (.agg cs.toArray)) w) : wpList P ops Q ({ dst := d, op := .load ty x, type := rt, pos := pos, after := af, guard := none } :: rest) a w :=
  wpList_load_mid rfl ty x rfl b o hx cs td hc hu hag hk h
theorem wpList_append_slice {P : Program} {w : World} {ops : Array Oper} {rest : List Oper} {o : Oper} {a : Act} {Q : Exit → Act → World → Prop} (hgd : o.guard = none) (s x : Operand) (t : TypeId)
    (ho : o.op = .call { callee := .builtin .append, args := #[s, x], argTypes := #[t, t] })
    (e : TypeId) (z : Value) (size bytes : Nat) (hT : SliceTy P t e z size bytes) (base : Nat) (v : Value) (n : Nat) (xs : List Value) (hs : a.eval s = v) (hown : w.ownsRow base e size v n xs)
    (ad : Addr) (m c : Nat) (news : List Value) (hx : a.eval x = .slice (some ad) m c) (hl : news.length = m * size) (hnews : ∀ j u, news[j]? = some u → w.cell? (ad.add j) = some u) (h1 : ∀ u ∈ news, u.oneCell' = true)
    (h63 : n + m ≤ 9223372036854775807) (hbytes : (n + m) * bytes ≤ 140737488355328) (w0 : World) (hb : Below base w0 w) (hbase : base ≤ w.heap.size)
    (h : ∀ v' w', w'.ownsRow base e size v' (n + m) (xs ++ news) → Below base w0 w' → wpList P ops Q rest (a.put o.dst v') w') : wpList P ops Q (o :: rest) a w :=
  wpList_plain hgd fun _ hK => by
    obtain ⟨i, i1, i2, i3, i4⟩ := hT.hi
    refine wp_append_own w s x t ho base e i z size bytes hT.ht i1 i2 i3 i4 hT.hzs hT.hsz v n xs hs hown ad m c news hx hl hnews h1 h63 hbytes hbase ?_
    intro v' w' hown' hg _
    exact hK _ _ (h v' w' hown' (hb.grown hg hbase (fun k hk => (World.ownsRow.lt hown k hk).1)))
end Go.Proofs.Ytlanconcbpdneaa
