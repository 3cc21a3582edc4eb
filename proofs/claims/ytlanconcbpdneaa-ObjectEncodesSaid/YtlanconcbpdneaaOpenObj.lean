/- Arguments that are objects, in the walk's words. No condition. -/
import Derived.Test.YtlanconcbpdneaaOpenE
import Derived.Test.YtlanconcbpdneaaOpenId
import Derived.Test.YtlanconcbpdneaaObjW
namespace Go.Proofs.Ytlanconcbpdneaa
open Go.ChangeShapes Go.WideShapes Go.ChangeAt Go.RowKit
section
variable {H : Type} {enc : TypeId × Value → H} {w : World} {base : Nat} {sp : Nat → Bool} {held : Bool}
theorem idC_map (l : Txt) : idC l = l.map u8v := by simp [idC, u8s]
theorem elem_id (fuel : Nat) (cs : List Value) (x : DataW H × List MemPlace) (h : DataW.trod enc Try.prog w base sp held fuel 24 cs = some x) (_ : cs.length = 32) : ∃ r : Txt, cs = idC r ∧ r.length = 32 := by
  obtain ⟨l, hl32, e1⟩ := trod_bytes Try.underlying24 Try.underlying5 (by kernel_rfl) (by kernel_rfl) h
  exact ⟨l, by rw [e1, idC_map], hl32⟩
theorem chain {cs a : List Value} {n k m : Nat} (h : (cs.drop n).take k = a) (hm : n + k = m) : cs.drop n = a ++ cs.drop m := by
  rw [← h, ← hm, ← List.drop_drop]
  exact (List.take_append_drop k _).symm
theorem elem_ent (fuel : Nat) (cs : List Value) (x : DataW H × List MemPlace) (h : DataW.trod enc Try.prog w base sp held fuel 45 cs = some x) (hl : cs.length = 34) : ∃ r : EntL, cs = entC r ∧ EntOk r := by
  obtain ⟨ys, n', hn', hy, hlen, hyl, hf⟩ := DataW.trod_struct Try.underlying45 h
  have hyl : ys.length = 3 := hyl
  have h0 := hf 0 _ rfl
  have h1 := hf 1 _ rfl
  have h2 := hf 2 _ rfl
  rw [List.getElem?_eq_getElem (show 0 < ys.length by omega)] at h0
  rw [List.getElem?_eq_getElem (show 1 < ys.length by omega)] at h1
  rw [List.getElem?_eq_getElem (show 2 < ys.length by omega)] at h2
  obtain ⟨s, e0, _, w0⟩ := DataW.trod_string Try.underlying9 h0
  obtain ⟨k, e1, _, w1⟩ := DataW.trod_int Try.underlying3 h1
  obtain ⟨l, hl32, e2⟩ := trod_bytes Try.underlying24 Try.underlying5 (by kernel_rfl) (by kernel_rfl) h2
  have c0 : Try.prog.cellsOf 9 = 1 := by kernel_rfl
  have c1 : Try.prog.cellsOf 3 = 1 := by kernel_rfl
  have c2 : Try.prog.cellsOf 24 = 32 := by kernel_rfl
  obtain ⟨a, rfl⟩ := B_mk s
  have b1 := bounds_i64 w1
  have e0' : (cs.drop 0).take 1 = [.string (B a)] := by rw [← c0]; exact e0
  have e1' : (cs.drop 1).take 1 = [.int .i64 k] := by rw [← c1]; exact e1
  have e2' : (cs.drop 2).take 32 = l.map u8v := by rw [← c2]; exact e2
  refine ⟨⟨a, k, l⟩, ?_, ⟨hl32, by unfold maxLen at w0; rw [size_B] at w0; show a.length ≤ _; omega, b1.1, b1.2⟩⟩
  have := chain e0' (m := 1) rfl
  rw [List.drop_zero, chain e1' (m := 2) rfl, chain e2' (m := 34) rfl, List.drop_of_length_le (by omega)] at this
  rw [this]
  simp [entC, u8s]
theorem trod_slice_one {fuel : Nat} {t : TypeId} {cs : List Value} {x : DataW H × List MemPlace} (hc : cs.length = 1) (h : DataW.trod enc Try.prog w base sp held fuel t cs = some x) : ∃ v, cs = [v] ∧ DataW.trod enc Try.prog w base sp held fuel t [v] = some x := by
  match cs, hc with
  | [v], _ => exact ⟨v, rfl, h⟩
set_option maxRecDepth 20000 in
theorem elem_obj (fuel : Nat) (cs : List Value) (x : DataW H × List MemPlace) (h : DataW.trod enc Try.prog w base sp held fuel 28 cs = some x) (hl : cs.length = 72) : ∃ (o : ObjL) (ve vp : Value), cs = objC o ve vp ∧ ObjV w ve vp o := by
  obtain ⟨ys, n', hn', hy, hlen, hyl, hf⟩ := DataW.trod_struct Try.underlying28 h
  have hyl : ys.length = 10 := hyl
  have h0 := hf 0 _ rfl
  have h1 := hf 1 _ rfl
  have h2 := hf 2 _ rfl
  have h3 := hf 3 _ rfl
  have h4 := hf 4 _ rfl
  have h5 := hf 5 _ rfl
  have h6 := hf 6 _ rfl
  have h7 := hf 7 _ rfl
  have h8 := hf 8 _ rfl
  have h9 := hf 9 _ rfl
  rw [List.getElem?_eq_getElem (show 0 < ys.length by omega)] at h0
  rw [List.getElem?_eq_getElem (show 1 < ys.length by omega)] at h1
  rw [List.getElem?_eq_getElem (show 2 < ys.length by omega)] at h2
  rw [List.getElem?_eq_getElem (show 3 < ys.length by omega)] at h3
  rw [List.getElem?_eq_getElem (show 4 < ys.length by omega)] at h4
  rw [List.getElem?_eq_getElem (show 5 < ys.length by omega)] at h5
  rw [List.getElem?_eq_getElem (show 6 < ys.length by omega)] at h6
  rw [List.getElem?_eq_getElem (show 7 < ys.length by omega)] at h7
  rw [List.getElem?_eq_getElem (show 8 < ys.length by omega)] at h8
  rw [List.getElem?_eq_getElem (show 9 < ys.length by omega)] at h9
  have ci : Try.prog.cellsOf 3 = 1 := by kernel_rfl
  have cs1 : Try.prog.cellsOf 9 = 1 := by kernel_rfl
  have cE : Try.prog.cellsOf 22 = 1 := by kernel_rfl
  have cP : Try.prog.cellsOf 25 = 1 := by kernel_rfl
  have cI : Try.prog.cellsOf 24 = 32 := by kernel_rfl
  have cU : Try.prog.cellsOf 26 = 1 := by kernel_rfl
  obtain ⟨n0, e0, _, w0⟩ := DataW.trod_int Try.underlying3 h0
  obtain ⟨s1, e1, _, w1⟩ := DataW.trod_string Try.underlying9 h1
  obtain ⟨l3, hl3, e3⟩ := trod_bytes Try.underlying24 Try.underlying5 (by kernel_rfl) (by kernel_rfl) h3
  obtain ⟨n5, e5, _, w5⟩ := DataW.trod_int Try.underlying26 h5
  obtain ⟨s6, e6, _, w6⟩ := DataW.trod_string Try.underlying9 h6
  obtain ⟨l7, hl7, e7⟩ := trod_bytes Try.underlying24 Try.underlying5 (by kernel_rfl) (by kernel_rfl) h7
  obtain ⟨n8, e8, _, w8⟩ := DataW.trod_int Try.underlying3 h8
  obtain ⟨s9, e9, _, w9⟩ := DataW.trod_string Try.underlying9 h9
  obtain ⟨v2, e2, t2⟩ := trod_slice_one (by
    show ((cs.drop 2).take (Try.prog.cellsOf 22)).length = 1
    rw [cE, List.length_take, List.length_drop]; omega) h2
  obtain ⟨v4, e4, t4⟩ := trod_slice_one (by
    show ((cs.drop 35).take (Try.prog.cellsOf 25)).length = 1
    rw [cP, List.length_take, List.length_drop]; omega) h4
  obtain ⟨le, hle, heok⟩ := open_elems entC 34 (by omega) EntOk Try.underlying22 (by kernel_rfl) (fun y hy => entC_len hy) elem_ent t2
  obtain ⟨lp, hlp, hpok⟩ := open_elems idC 32 (by omega) (fun (l : Txt) => l.length = 32) Try.underlying25 (by kernel_rfl) (fun y hy => idC_len hy) elem_id t4
  obtain ⟨a1, rfl⟩ := B_mk s1
  obtain ⟨a6, rfl⟩ := B_mk s6
  obtain ⟨a9, rfl⟩ := B_mk s9
  have b0 := bounds_i64 w0
  have b8 := bounds_i64 w8
  have b5 := bounds_u32 w5
  obtain ⟨k5, rfl⟩ := Int.eq_ofNat_of_zero_le b5.1
  have e0' : (cs.drop 0).take 1 = [.int .i64 n0] := by rw [← ci]; exact e0
  have e1' : (cs.drop 1).take 1 = [.string (B a1)] := by rw [← cs1]; exact e1
  have e2' : (cs.drop 2).take 1 = [v2] := by rw [← cE]; exact e2
  have e3' : (cs.drop 3).take 32 = l3.map u8v := by rw [← cI]; exact e3
  have e4' : (cs.drop 35).take 1 = [v4] := by rw [← cP]; exact e4
  have e5' : (cs.drop 36).take 1 = [.int .u32 k5] := by rw [← cU]; exact e5
  have e6' : (cs.drop 37).take 1 = [.string (B a6)] := by rw [← cs1]; exact e6
  have e7' : (cs.drop 38).take 32 = l7.map u8v := by rw [← cI]; exact e7
  have e8' : (cs.drop 70).take 1 = [.int .i64 n8] := by rw [← ci]; exact e8
  have e9' : (cs.drop 71).take 1 = [.string (B a9)] := by rw [← cs1]; exact e9
  refine ⟨⟨n0, a1, le, l3, lp, k5, a6, l7, n8, a9⟩, v2, v4, ?_, ⟨⟨hl3, hl7, heok, hpok, ?_, ?_, ?_, by show k5 < _; omega, b0.1, b0.2, b8.1, b8.2⟩, hle, hlp⟩⟩
  · have := chain e0' (m := 1) rfl
    rw [List.drop_zero, chain e1' (m := 2) rfl, chain e2' (m := 3) rfl, chain e3' (m := 35) rfl, chain e4' (m := 36) rfl, chain e5' (m := 37) rfl, chain e6' (m := 38) rfl, chain e7' (m := 70) rfl, chain e8' (m := 71) rfl, chain e9' (m := 72) rfl, List.drop_of_length_le (by omega)] at this
    rw [this]
    simp [objC, u8s]
  · unfold maxLen at w1; rw [size_B] at w1; show a1.length ≤ _; omega
  · unfold maxLen at w6; rw [size_B] at w6; show a6.length ≤ _; omega
  · unfold maxLen at w9; rw [size_B] at w9; show a9.length ≤ _; omega
theorem open_obj {base0 : Nat} {v : Value} {d : DataW H} {p : List MemPlace} (hv : Value.okWide Try.prog w .any base0 28 v) (h : DataW.Trod enc Try.prog w base sp held 28 v d p) : ∃ (o : ObjL) (A1 A2 : Option Addr) (k1 k2 : Nat), v = .agg (objC o (.slice A1 o.ents.length k1) (.slice A2 o.pars.length k2)).toArray ∧ ObjV w (.slice A1 o.ents.length k1) (.slice A2 o.pars.length k2) o := by
  simp only [Value.okWide, Try.underlying28] at hv
  obtain ⟨cs, rfl, hsz, _⟩ := hv
  obtain ⟨fuel, hf⟩ := h
  have h72 : Try.prog.cellsOf 28 = 72 := by kernel_rfl
  obtain ⟨o, ve, vp, hr, hov⟩ := elem_obj _ _ _ hf (by simp only [Value.cells]; rw [Array.length_toList, hsz, h72])
  obtain ⟨A1, k1, rfl, _⟩ := hov.ents
  obtain ⟨A2, k2, rfl, _⟩ := hov.pars
  refine ⟨o, A1, A2, k1, k2, ?_, hov⟩
  congr 1
  apply Array.ext'
  simpa [Value.cells] using hr
end
end Go.Proofs.Ytlanconcbpdneaa
