/- Disks, ours and the document's, side by side; acts. No condition. -/
import Derived.Test.YtejaeclcgkcklaaDiskX
import Derived.Test.YtejaeclcgkcklaaInvW
namespace Go.Proofs.Ytejaeclcgkcklaa
open Go.RowKit
/-- Two rows of unlike types lie in unlike blocks. -/
theorem own_apart {w : World} {base base' n n' size size' : Nat} {e e' : TypeId} {v v' : Value} {xs xs' : List Value} (h : w.ownsRow base e size v n xs) (h' : w.ownsRow base' e' size' v' n' xs') (hne : e ≠ e') {k : Nat} (hk : v.ownBlock = some k) : v'.ownBlock ≠ some k := by
  intro hk'
  rcases h.2 with ⟨rfl, _⟩ | ⟨g, cap, cur, rfl, _, hb, _⟩
  · cases hk
  rcases h'.2 with ⟨rfl, _⟩ | ⟨g', cap', cur', rfl, _, hb', _⟩
  · cases hk'
  simp only [Value.ownBlock, Option.map_some, Option.some.injEq] at hk hk'
  subst hk
  subst hk'
  rw [hb] at hb'
  injection hb' with hb'
  injection hb' with _ h1
  exact hne h1
structure ActL where
  what : Nat
  name : Txt
  data : Txt
  n : Int
  part : Int
def actC (a : ActL) : List Value := [.int .u8 a.what, .string (B a.name), .string (B a.data), .int .i64 a.n, .int .i64 a.part]
structure ActOk (a : ActL) : Prop where
  what : a.what < 256
  name : a.name.length ≤ 9223372036854775807
  data : a.data.length ≤ 9223372036854775807
  n : I64 a.n
  part : I64 a.part
theorem actC_one (a : ActL) : ∀ u ∈ actC a, u.oneCell' = true := by
  intro u hu
  simp only [actC, List.mem_cons, List.not_mem_nil, or_false] at hu
  rcases hu with rfl | rfl | rfl | rfl | rfl <;> rfl
theorem szAct : (Try.prog.info? 33).map (·.size) = some 5 := by kernel_rfl
/-- What an act makes of a disk. -/
def actS (s : DiskL) (a : ActL) : DiskL :=
  if a.what % 6 < 2 then writeS s a.name a.data false else if a.what % 6 = 2 then writeS s a.name [] true else if a.what % 6 = 3 then failS s a.n a.part else if a.what % 6 = 4 then upS s else s
/-- Both disks, some time behind w0, at which they had the slices vl and vm. -/
structure Pair (w0 w : World) (base p q : Nat) (vl vm : Value) (s m : DiskL) : Prop where
  ours : ∃ vl', DiskAt w base p vl' s ∧ Newer w0 vl vl'
  theirs : ∃ vm', RDiskAt w base q vm' m ∧ Newer w0 vm vm'
  far : Far [some p, vl.ownBlock, some q, vm.ownBlock] w0 w
section
variable {w0 w w' : World} {base p q : Nat} {vl vm : Value} {s m : DiskL}
theorem Pair.start (h1 : DiskAt w base p vl s) (h2 : RDiskAt w base q vm m) : Pair w w base p q vl vm s m := ⟨⟨vl, h1, Newer.refl _ _⟩, ⟨vm, h2, Newer.refl _ _⟩, Far.refl _ _⟩
theorem Pair.drew (h : Pair w0 w base p q vl vm s m) : Pair w0 w.drew base p q vl vm s m := by
  obtain ⟨⟨a, h1, h2⟩, ⟨b, h3, h4⟩, h5⟩ := h
  exact ⟨⟨a, h1.drew, h2⟩, ⟨b, h3.drew, h4⟩, h5.drew⟩
theorem Pair.more (h : Pair w0 w base p q vl vm s m) (hb : Below w.heap.size w w') : Pair w0 w' base p q vl vm s m := by
  obtain ⟨⟨a, h1, h2⟩, ⟨b, h3, h4⟩, h5⟩ := h
  exact ⟨⟨a, h1.below hb, h2⟩, ⟨b, h3.below hb, h4⟩, h5.more hb⟩
theorem Newer.in_ {v v' : Value} (h : Newer w0 v v') {k : Nat} (hk : v'.ownBlock = some k) : v.ownBlock = some k ∨ w0.heap.size ≤ k := by
  rcases h with h | h
  · exact .inl (h ▸ hk)
  · exact .inr (h k hk)
theorem Pair.our {s' : DiskL} (h : Pair w0 w base p q vl vm s m) {vl' vl'' : Value} (hD : DiskAt w base p vl' s) (hn : Newer w0 vl vl') (hD' : DiskAt w' base p vl'' s') (hF : Far [some p, vl'.ownBlock] w w') (hN : Newer w vl' vl'') : Pair w0 w' base p q vl vm s' m := by
  obtain ⟨_, ⟨vm', h3, h4⟩, h5⟩ := h
  refine ⟨⟨vl'', hD', hn.then_ hN h5.size⟩, ⟨vm', h3.far hF ?_ ?_, h4⟩, h5.then_ hF ?_⟩
  · intro hk
    rcases List.mem_cons.1 hk with e | hk
    · injection e with e
      exact (h3.blk.ne_ hD.blk (by decide)) e
    · rw [List.mem_singleton] at hk
      exact own_blk_ne hD.own h3.blk (by decide) hk
  · intro k hk hm
    rcases List.mem_cons.1 hm with e | hm
    · injection e with e
      subst e
      exact own_blk_ne h3.own hD.blk (by decide) hk.symm
    · rw [List.mem_singleton] at hm
      exact own_apart h3.own hD.own (by decide) hk hm.symm
  · intro k hk
    rcases List.mem_cons.1 hk with e | hk
    · exact .inl (by rw [e]; simp)
    · rw [List.mem_singleton] at hk
      rcases hn.in_ hk.symm with h6 | h6
      · exact .inl (by rw [← h6]; simp)
      · exact .inr h6
theorem Pair.their {m' : DiskL} (h : Pair w0 w base p q vl vm s m) {vm' vm'' : Value} (hD : RDiskAt w base q vm' m) (hn : Newer w0 vm vm') (hD' : RDiskAt w' base q vm'' m') (hF : Far [some q] w w') (hN : Newer w vm' vm'') : Pair w0 w' base p q vl vm s m' := by
  obtain ⟨⟨vl', h3, h4⟩, _, h5⟩ := h
  refine ⟨⟨vl', h3.far hF ?_ ?_, h4⟩, ⟨vm'', hD', hn.then_ hN h5.size⟩, h5.then_ hF ?_⟩
  · intro hk
    rw [List.mem_singleton] at hk
    injection hk with e
    exact (h3.blk.ne_ hD.blk (by decide)) e
  · intro k hk hm
    rw [List.mem_singleton] at hm
    injection hm with e
    subst e
    exact own_blk_ne h3.own hD.blk (by decide) hk.symm
  · intro k hk
    rw [List.mem_singleton] at hk
    exact .inl (by rw [hk]; simp)
end
end Go.Proofs.Ytejaeclcgkcklaa
