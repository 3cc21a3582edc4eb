/- Arguments that are slices of refs, and of updates, in the walk's words. No condition. -/
import Derived.Test.YtlpiefopegjgjaaOpenId
import Derived.Test.YtlpiefopegjgjaaUpdI
namespace Go.Proofs.Ytlpiefopegjgjaa
open Go.ChangeShapes Go.WideShapes Go.ChangeAt Go.RowKit
section
variable {H : Type} {enc : TypeId × Value → H} {P : Program} {w : World} {base : Nat} {sp : Nat → Bool} {held : Bool}
open Go.Deep in
theorem open_elems {α : Type} (en : α → List Value) (k : Nat) (hk0 : 0 < k) (Ok : α → Prop) {t e : TypeId} {fuel : Nat} {v : Value} {x : DataW H × List MemPlace} (ht : P.underlying t = some (.slice e)) (hk : P.cellsOf e = k)
    (hen : ∀ y, Ok y → (en y).length = k) (key : ∀ fuel cs x, DataW.trod enc P w base sp held fuel e cs = some x → cs.length = k → ∃ y : α, cs = en y ∧ Ok y) (h : DataW.trod enc P w base sp held fuel t [v] = some x) :
    ∃ l : List α, SliceAt w k en v l ∧ ∀ y ∈ l, Ok y := by
  rcases open_slice ht h with ⟨h0, _⟩ | ⟨a, len, cap, m, n, D, Pl, hcs, hb, hl, hm, hmm, hx, hi⟩
  · injection h0 with h0
    subst h0
    exact ⟨[], SliceAt.nil, fun y hy => by simp at hy⟩
  · injection hcs with hcs
    subst hcs
    have hlm : len ≤ m := by rw [hmm]; split <;> omega
    have per : ∀ i, i < len → ∃ y : α, (∀ j u, (en y)[j]? = some u → w.cell? ((a.add (i * k)).add j) = some u) ∧ Ok y := by
      intro i hil
      obtain ⟨cs', hc, ht'⟩ := hi i (by omega)
      rw [hk] at hc
      obtain ⟨_, hcl, hat⟩ := World.cells?_some hc
      obtain ⟨y, rfl, hok⟩ := key _ _ _ ht' hcl
      refine ⟨y, fun j u hu => ?_, hok⟩
      have hj := (List.getElem?_eq_some_iff.1 hu).1
      rw [hat j (by omega)]
      exact hu
    obtain ⟨l, hll, hp⟩ := list_of len _ per
    subst hll
    have hcm : cap ≤ 9223372036854775807 := by unfold maxLen at hm; omega
    refine ⟨l, ⟨some a, cap, rfl, hl, hcm, fun h0 => ?_⟩, fun y hy => ?_⟩
    · have hy0 := (hp 0 h0).1
      have hlen0 := hen _ (hp 0 h0).2
      have hc0 := hy0 0 _ (List.getElem?_eq_getElem (by omega))
      simp only [Nat.zero_mul] at hc0
      have e00 : (a.add 0).add 0 = a := by simp [Addr.add]
      rw [e00] at hc0
      obtain ⟨ha, hlt⟩ := addr_form hc0
      refine ⟨a.block, a.off, by rw [← ha], hlt, fun i y hy j u hu => ?_⟩
      obtain ⟨hi', he⟩ := List.getElem?_eq_some_iff.1 hy
      have hc := (hp i hi').1 j u (by rw [he]; exact hu)
      rw [ha] at hc
      simp only [addr_add] at hc
      exact hc
    · obtain ⟨i, hi', rfl⟩ := List.getElem_of_mem hy
      exact (hp i hi').2
end
section
variable {H : Type} {enc : TypeId × Value → H} {w : World} {base : Nat} {sp : Nat → Bool} {held : Bool}
theorem elem_ref (fuel : Nat) (cs : List Value) (x : DataW H × List MemPlace) (h : DataW.trod enc Try.prog w base sp held fuel 54 cs = some x) (hl : cs.length = 33) : ∃ r : RefL, cs = refC r ∧ RefOk r := by
  obtain ⟨ys, n', hn', hy, hlen, hyl, hf⟩ := DataW.trod_struct Try.underlying54 h
  have hyl : ys.length = 2 := hyl
  have h0 := hf 0 _ rfl
  have h1 := hf 1 _ rfl
  rw [List.getElem?_eq_getElem (show 0 < ys.length by omega)] at h0
  rw [List.getElem?_eq_getElem (show 1 < ys.length by omega)] at h1
  obtain ⟨s, e0, _, w0⟩ := DataW.trod_string Try.underlying9 h0
  obtain ⟨l, hl32, e1⟩ := trod_bytes Try.underlying37 Try.underlying5 (by kernel_rfl) (by kernel_rfl) h1
  have c0 : Try.prog.cellsOf 9 = 1 := by kernel_rfl
  have c1 : Try.prog.cellsOf 37 = 32 := by kernel_rfl
  obtain ⟨b, rfl⟩ := B_mk s
  refine ⟨⟨b, l⟩, ?_, hl32, by unfold maxLen at w0; rw [size_B] at w0; show b.length ≤ _; omega⟩
  have e0' : (cs.drop 0).take 1 = [.string (B b)] := by rw [← c0]; exact e0
  have e1' : (cs.drop 1).take 32 = l.map u8v := by rw [← c1]; exact e1
  have hd : (cs.drop 1).take 32 = cs.drop 1 := List.take_of_length_le (by simp; omega)
  rw [hd] at e1'
  rw [← List.take_append_drop 1 cs, e1']
  rw [List.drop_zero] at e0'
  rw [e0']
  rfl
theorem elem_upd (fuel : Nat) (cs : List Value) (x : DataW H × List MemPlace) (h : DataW.trod enc Try.prog w base sp held fuel 39 cs = some x) (hl : cs.length = 65) : ∃ r : UpdL, cs = updC r ∧ UpdOk r := by
  obtain ⟨ys, n', hn', hy, hlen, hyl, hf⟩ := DataW.trod_struct Try.underlying39 h
  have hyl : ys.length = 3 := hyl
  have h0 := hf 0 _ rfl
  have h1 := hf 1 _ rfl
  have h2 := hf 2 _ rfl
  rw [List.getElem?_eq_getElem (show 0 < ys.length by omega)] at h0
  rw [List.getElem?_eq_getElem (show 1 < ys.length by omega)] at h1
  rw [List.getElem?_eq_getElem (show 2 < ys.length by omega)] at h2
  obtain ⟨s, e0, _, w0⟩ := DataW.trod_string Try.underlying9 h0
  obtain ⟨l, hl32, e1⟩ := trod_bytes Try.underlying37 Try.underlying5 (by kernel_rfl) (by kernel_rfl) h1
  obtain ⟨l2, hl2, e2⟩ := trod_bytes Try.underlying37 Try.underlying5 (by kernel_rfl) (by kernel_rfl) h2
  have c0 : Try.prog.cellsOf 9 = 1 := by kernel_rfl
  have c1 : Try.prog.cellsOf 37 = 32 := by kernel_rfl
  obtain ⟨b, rfl⟩ := B_mk s
  refine ⟨⟨b, l, l2⟩, ?_, hl32, hl2, by unfold maxLen at w0; rw [size_B] at w0; show b.length ≤ _; omega⟩
  have e0' : (cs.drop 0).take 1 = [.string (B b)] := by rw [← c0]; exact e0
  have e1' : (cs.drop 1).take 32 = l.map u8v := by rw [← c1]; exact e1
  have e2' : (cs.drop 33).take 32 = l2.map u8v := by rw [← c1]; exact e2
  have hd : (cs.drop 33).take 32 = cs.drop 33 := List.take_of_length_le (by simp; omega)
  rw [hd] at e2'
  rw [← List.take_append_drop 1 cs, ← List.take_append_drop 32 (cs.drop 1), e1', List.drop_drop]
  rw [List.drop_zero] at e0'
  rw [e0', show 1 + 32 = 33 from rfl, e2']
  simp [updC]
theorem open_refs {v : Value} {d : DataW H} {p : List MemPlace} (h : DataW.Trod enc Try.prog w base sp held 22 v d p) (hc : v.cells.toList = [v]) : ∃ l : List RefL, Refs w v l ∧ RefsOk l := by
  obtain ⟨fuel, hf⟩ := h
  rw [hc] at hf
  exact open_elems refC 33 (by omega) RefOk Try.underlying22 (by kernel_rfl) (fun y hy => refC_len hy) elem_ref hf
theorem open_upds {v : Value} {d : DataW H} {p : List MemPlace} (h : DataW.Trod enc Try.prog w base sp held 23 v d p) (hc : v.cells.toList = [v]) : ∃ l : List UpdL, Upds w v l ∧ UpdsOk l := by
  obtain ⟨fuel, hf⟩ := h
  rw [hc] at hf
  exact open_elems updC 65 (by omega) UpdOk Try.underlying23 (by kernel_rfl) (fun y hy => updC_len hy) elem_upd hf
end
end Go.Proofs.Ytlpiefopegjgjaa
