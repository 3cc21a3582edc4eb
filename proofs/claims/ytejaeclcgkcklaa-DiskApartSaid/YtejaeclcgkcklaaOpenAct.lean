/- Arguments that are acts, in the walk's words. No condition. -/
import Derived.Test.YtejaeclcgkcklaaOpenE
import Derived.Test.YtejaeclcgkcklaaDiskL
namespace Go.Proofs.Ytejaeclcgkcklaa
open Go.ChangeShapes Go.WideShapes Go.ChangeAt Go.RowKit
section
variable {H : Type} {enc : TypeId × Value → H} {w : World} {base : Nat} {sp : Nat → Bool} {held : Bool}
theorem elem_act (fuel : Nat) (cs : List Value) (x : DataW H × List MemPlace) (h : DataW.trod enc Try.prog w base sp held fuel 33 cs = some x) (hl : cs.length = 5) : ∃ r : ActL, cs = actC r ∧ ActOk r := by
  obtain ⟨ys, n', hn', hy, hlen, hyl, hf⟩ := DataW.trod_struct Try.underlying33 h
  have hyl : ys.length = 5 := hyl
  have h0 := hf 0 _ rfl
  have h1 := hf 1 _ rfl
  have h2 := hf 2 _ rfl
  have h3 := hf 3 _ rfl
  have h4 := hf 4 _ rfl
  rw [List.getElem?_eq_getElem (show 0 < ys.length by omega)] at h0
  rw [List.getElem?_eq_getElem (show 1 < ys.length by omega)] at h1
  rw [List.getElem?_eq_getElem (show 2 < ys.length by omega)] at h2
  rw [List.getElem?_eq_getElem (show 3 < ys.length by omega)] at h3
  rw [List.getElem?_eq_getElem (show 4 < ys.length by omega)] at h4
  obtain ⟨n0, e0, _, w0⟩ := DataW.trod_int Try.underlying5 h0
  obtain ⟨s1, e1, _, w1⟩ := DataW.trod_string Try.underlying9 h1
  obtain ⟨s2, e2, _, w2⟩ := DataW.trod_string Try.underlying9 h2
  obtain ⟨n3, e3, _, w3⟩ := DataW.trod_int Try.underlying3 h3
  obtain ⟨n4, e4, _, w4⟩ := DataW.trod_int Try.underlying3 h4
  have c0 : Try.prog.cellsOf 5 = 1 := by kernel_rfl
  have c1 : Try.prog.cellsOf 9 = 1 := by kernel_rfl
  have c3 : Try.prog.cellsOf 3 = 1 := by kernel_rfl
  obtain ⟨a1, rfl⟩ := B_mk s1
  obtain ⟨a2, rfl⟩ := B_mk s2
  have b0 := bounds_u8 w0
  have b3 := bounds_i64 w3
  have b4 := bounds_i64 w4
  obtain ⟨k0, rfl⟩ := Int.eq_ofNat_of_zero_le b0.1
  have e0' : (cs.drop 0).take 1 = [.int .u8 k0] := by rw [← c0]; exact e0
  have e1' : (cs.drop 1).take 1 = [.string (B a1)] := by rw [← c1]; exact e1
  have e2' : (cs.drop 2).take 1 = [.string (B a2)] := by rw [← c1]; exact e2
  have e3' : (cs.drop 3).take 1 = [.int .i64 n3] := by rw [← c3]; exact e3
  have e4' : (cs.drop 4).take 1 = [.int .i64 n4] := by rw [← c3]; exact e4
  refine ⟨⟨k0, a1, a2, n3, n4⟩, ?_, by show k0 < 256; omega, by unfold maxLen at w1; rw [size_B] at w1; show a1.length ≤ _; omega, by unfold maxLen at w2; rw [size_B] at w2; show a2.length ≤ _; omega, b3, b4⟩
  match cs, hl with
  | [u0, u1, u2, u3, u4], _ =>
    simp only [List.drop_zero, List.drop_succ_cons, List.take_succ_cons, List.take_zero, List.cons.injEq, and_true] at e0' e1' e2' e3' e4'
    rw [e0', e1', e2', e3', e4']
    rfl
theorem open_acts {v : Value} {d : DataW H} {p : List MemPlace} (h : DataW.Trod enc Try.prog w base sp held 22 v d p) (hc : v.cells.toList = [v]) : ∃ l : List ActL, Acts w v l ∧ ActsOk l := by
  obtain ⟨fuel, hf⟩ := h
  rw [hc] at hf
  exact open_elems actC 5 (by omega) ActOk Try.underlying22 (by kernel_rfl) (fun y hy => rfl) elem_act hf
theorem open_act {base0 : Nat} {v : Value} {d : DataW H} {p : List MemPlace} (hv : Value.okWide Try.prog w .any base0 33 v) (h : DataW.Trod enc Try.prog w base sp held 33 v d p) : ∃ r : ActL, ActOk r ∧ v = .agg (actC r).toArray := by
  simp only [Value.okWide, Try.underlying33] at hv
  obtain ⟨cs, rfl, hsz, _⟩ := hv
  obtain ⟨fuel, hf⟩ := h
  have h5 : Try.prog.cellsOf 33 = 5 := by kernel_rfl
  obtain ⟨r, hr, hok⟩ := elem_act _ _ _ hf (by simp only [Value.cells]; rw [Array.length_toList, hsz, h5])
  refine ⟨r, hok, ?_⟩
  congr 1
  apply Array.ext'
  simpa [Value.cells] using hr
end
end Go.Proofs.Ytejaeclcgkcklaa
