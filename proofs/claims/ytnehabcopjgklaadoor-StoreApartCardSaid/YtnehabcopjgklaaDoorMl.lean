/- Lemmas and walks of this seat, laid together: OpenObj, Seed, Pick, MkB, MkT, MkC, GoA, MkE. -/
import Derived.Test.YtnehabcopjgklaaDoorMk
import Derived.Deep.CutBlock
/- Arguments that are objects, in the walk's words. No condition. -/
namespace Go.Proofs.YtnehabcopjgklaaDoor
open Go.ChangeShapes Go.WideShapes Go.ChangeAt Go.RowKit
section
variable {H : Type} {enc : TypeId × Value → H} {w : World} {base : Nat} {sp : Nat → Bool} {held : Bool}
theorem idC_map (l : Txt) : idC l = l.map u8v := by simp [idC, u8s]
theorem elem_id (fuel : Nat) (cs : List Value) (x : DataW H × List MemPlace) (h : DataW.trod enc Tryd.prog w base sp held fuel 24 cs = some x) (_ : cs.length = 32) : ∃ r : Txt, cs = idC r ∧ r.length = 32 := by
  obtain ⟨l, hl32, e1⟩ := trod_bytes Tryd.underlying24 Tryd.underlying5 (by kernel_rfl) (by kernel_rfl) h
  exact ⟨l, by rw [e1, idC_map], hl32⟩
theorem chain {cs a : List Value} {n k m : Nat} (h : (cs.drop n).take k = a) (hm : n + k = m) : cs.drop n = a ++ cs.drop m := by
  rw [← h, ← hm, ← List.drop_drop]
  exact (List.take_append_drop k _).symm
set_option maxRecDepth 200000 in
theorem elem_ent (fuel : Nat) (cs : List Value) (x : DataW H × List MemPlace) (h : DataW.trod enc Tryd.prog w base sp held fuel 76 cs = some x) (hl : cs.length = 34) : ∃ r : EntL, cs = entC r ∧ EntOk r := by
  obtain ⟨ys, n', hn', hy, hlen, hyl, hf⟩ := DataW.trod_struct Tryd.underlying76 h
  have hyl : ys.length = 3 := hyl
  have h0 := hf 0 _ rfl
  have h1 := hf 1 _ rfl
  have h2 := hf 2 _ rfl
  rw [List.getElem?_eq_getElem (show 0 < ys.length by omega)] at h0
  rw [List.getElem?_eq_getElem (show 1 < ys.length by omega)] at h1
  rw [List.getElem?_eq_getElem (show 2 < ys.length by omega)] at h2
  obtain ⟨s, e0, _, w0⟩ := DataW.trod_string Tryd.underlying9 h0
  obtain ⟨k, e1, _, w1⟩ := DataW.trod_int Tryd.underlying3 h1
  obtain ⟨l, hl32, e2⟩ := trod_bytes Tryd.underlying24 Tryd.underlying5 (by kernel_rfl) (by kernel_rfl) h2
  have c0 : Tryd.prog.cellsOf 9 = 1 := by kernel_rfl
  have c1 : Tryd.prog.cellsOf 3 = 1 := by kernel_rfl
  have c2 : Tryd.prog.cellsOf 24 = 32 := by kernel_rfl
  obtain ⟨a, rfl⟩ := B_mk s
  have b1 := bounds_i64 w1
  have e0' : (cs.drop 0).take 1 = [.string (B a)] := by rw [← c0]; exact e0
  have e1' : (cs.drop 1).take 1 = [.int .i64 k] := by rw [← c1]; exact e1
  have e2' : (cs.drop 2).take 32 = l.map u8v := by rw [← c2]; exact e2
  refine ⟨⟨a, k, l⟩, ?_, ⟨hl32, by unfold maxLen at w0; rw [size_B] at w0; show a.length ≤ _; omega, b1.1, b1.2⟩⟩
  have := chain e0' (m := 1) rfl
  rw [List.drop_zero, chain e1' (m := 2) rfl, chain e2' (m := 34) rfl, List.drop_of_length_le (by omega)] at this
  rw [this]
  simp [entC, u8s]
theorem trod_slice_one {fuel : Nat} {t : TypeId} {cs : List Value} {x : DataW H × List MemPlace} (hc : cs.length = 1) (h : DataW.trod enc Tryd.prog w base sp held fuel t cs = some x) : ∃ v, cs = [v] ∧ DataW.trod enc Tryd.prog w base sp held fuel t [v] = some x := by
  match cs, hc with
  | [v], _ => exact ⟨v, rfl, h⟩
set_option maxRecDepth 200000 in
theorem elem_obj (fuel : Nat) (cs : List Value) (x : DataW H × List MemPlace) (h : DataW.trod enc Tryd.prog w base sp held fuel 41 cs = some x) (hl : cs.length = 72) : ∃ (o : ObjL) (ve vp : Value), cs = objC o ve vp ∧ ObjV w ve vp o := by
  obtain ⟨ys, n', hn', hy, hlen, hyl, hf⟩ := DataW.trod_struct Tryd.underlying41 h
  have hyl : ys.length = 10 := hyl
  have h0 := hf 0 _ rfl
  have h1 := hf 1 _ rfl
  have h2 := hf 2 _ rfl
  have h3 := hf 3 _ rfl
  have h4 := hf 4 _ rfl
  have h5 := hf 5 _ rfl
  have h6 := hf 6 _ rfl
  have h7 := hf 7 _ rfl
  have h8 := hf 8 _ rfl
  have h9 := hf 9 _ rfl
  rw [List.getElem?_eq_getElem (show 0 < ys.length by omega)] at h0
  rw [List.getElem?_eq_getElem (show 1 < ys.length by omega)] at h1
  rw [List.getElem?_eq_getElem (show 2 < ys.length by omega)] at h2
  rw [List.getElem?_eq_getElem (show 3 < ys.length by omega)] at h3
  rw [List.getElem?_eq_getElem (show 4 < ys.length by omega)] at h4
  rw [List.getElem?_eq_getElem (show 5 < ys.length by omega)] at h5
  rw [List.getElem?_eq_getElem (show 6 < ys.length by omega)] at h6
  rw [List.getElem?_eq_getElem (show 7 < ys.length by omega)] at h7
  rw [List.getElem?_eq_getElem (show 8 < ys.length by omega)] at h8
  rw [List.getElem?_eq_getElem (show 9 < ys.length by omega)] at h9
  have ci : Tryd.prog.cellsOf 3 = 1 := by kernel_rfl
  have cs1 : Tryd.prog.cellsOf 9 = 1 := by kernel_rfl
  have cE : Tryd.prog.cellsOf 37 = 1 := by kernel_rfl
  have cP : Tryd.prog.cellsOf 38 = 1 := by kernel_rfl
  have cI : Tryd.prog.cellsOf 24 = 32 := by kernel_rfl
  have cU : Tryd.prog.cellsOf 39 = 1 := by kernel_rfl
  obtain ⟨n0, e0, _, w0⟩ := DataW.trod_int Tryd.underlying3 h0
  obtain ⟨s1, e1, _, w1⟩ := DataW.trod_string Tryd.underlying9 h1
  obtain ⟨l3, hl3, e3⟩ := trod_bytes Tryd.underlying24 Tryd.underlying5 (by kernel_rfl) (by kernel_rfl) h3
  obtain ⟨n5, e5, _, w5⟩ := DataW.trod_int Tryd.underlying39 h5
  obtain ⟨s6, e6, _, w6⟩ := DataW.trod_string Tryd.underlying9 h6
  obtain ⟨l7, hl7, e7⟩ := trod_bytes Tryd.underlying24 Tryd.underlying5 (by kernel_rfl) (by kernel_rfl) h7
  obtain ⟨n8, e8, _, w8⟩ := DataW.trod_int Tryd.underlying3 h8
  obtain ⟨s9, e9, _, w9⟩ := DataW.trod_string Tryd.underlying9 h9
  obtain ⟨v2, e2, t2⟩ := trod_slice_one (by
    show ((cs.drop 2).take (Tryd.prog.cellsOf 37)).length = 1
    rw [cE, List.length_take, List.length_drop]; omega) h2
  obtain ⟨v4, e4, t4⟩ := trod_slice_one (by
    show ((cs.drop 35).take (Tryd.prog.cellsOf 38)).length = 1
    rw [cP, List.length_take, List.length_drop]; omega) h4
  obtain ⟨le, hle, heok⟩ := open_elems entC 34 (by omega) EntOk Tryd.underlying37 (by kernel_rfl) (fun y hy => entC_len hy) elem_ent t2
  obtain ⟨lp, hlp, hpok⟩ := open_elems idC 32 (by omega) (fun (l : Txt) => l.length = 32) Tryd.underlying38 (by kernel_rfl) (fun y hy => idC_len hy) elem_id t4
  obtain ⟨a1, rfl⟩ := B_mk s1
  obtain ⟨a6, rfl⟩ := B_mk s6
  obtain ⟨a9, rfl⟩ := B_mk s9
  have b0 := bounds_i64 w0
  have b8 := bounds_i64 w8
  have b5 := bounds_u32 w5
  obtain ⟨k5, rfl⟩ := Int.eq_ofNat_of_zero_le b5.1
  have e0' : (cs.drop 0).take 1 = [.int .i64 n0] := by rw [← ci]; exact e0
  have e1' : (cs.drop 1).take 1 = [.string (B a1)] := by rw [← cs1]; exact e1
  have e2' : (cs.drop 2).take 1 = [v2] := by rw [← cE]; exact e2
  have e3' : (cs.drop 3).take 32 = l3.map u8v := by rw [← cI]; exact e3
  have e4' : (cs.drop 35).take 1 = [v4] := by rw [← cP]; exact e4
  have e5' : (cs.drop 36).take 1 = [.int .u32 k5] := by rw [← cU]; exact e5
  have e6' : (cs.drop 37).take 1 = [.string (B a6)] := by rw [← cs1]; exact e6
  have e7' : (cs.drop 38).take 32 = l7.map u8v := by rw [← cI]; exact e7
  have e8' : (cs.drop 70).take 1 = [.int .i64 n8] := by rw [← ci]; exact e8
  have e9' : (cs.drop 71).take 1 = [.string (B a9)] := by rw [← cs1]; exact e9
  refine ⟨⟨n0, a1, le, l3, lp, k5, a6, l7, n8, a9⟩, v2, v4, ?_, ⟨⟨hl3, hl7, heok, hpok, ?_, ?_, ?_, by show k5 < _; omega, b0.1, b0.2, b8.1, b8.2⟩, hle, hlp⟩⟩
  · have := chain e0' (m := 1) rfl
    rw [List.drop_zero, chain e1' (m := 2) rfl, chain e2' (m := 3) rfl, chain e3' (m := 35) rfl, chain e4' (m := 36) rfl, chain e5' (m := 37) rfl, chain e6' (m := 38) rfl, chain e7' (m := 70) rfl, chain e8' (m := 71) rfl, chain e9' (m := 72) rfl, List.drop_of_length_le (by omega)] at this
    rw [this]
    simp [objC, u8s]
  · unfold maxLen at w1; rw [size_B] at w1; show a1.length ≤ _; omega
  · unfold maxLen at w6; rw [size_B] at w6; show a6.length ≤ _; omega
  · unfold maxLen at w9; rw [size_B] at w9; show a9.length ≤ _; omega
set_option maxRecDepth 200000 in
theorem open_obj {base0 : Nat} {v : Value} {d : DataW H} {p : List MemPlace} (hv : Value.okWide Tryd.prog w .any base0 41 v) (h : DataW.Trod enc Tryd.prog w base sp held 41 v d p) : ∃ (o : ObjL) (A1 A2 : Option Addr) (k1 k2 : Nat), v = .agg (objC o (.slice A1 o.ents.length k1) (.slice A2 o.pars.length k2)).toArray ∧ ObjV w (.slice A1 o.ents.length k1) (.slice A2 o.pars.length k2) o := by
  simp only [Value.okWide, Tryd.underlying41] at hv
  obtain ⟨cs, rfl, hsz, _⟩ := hv
  obtain ⟨fuel, hf⟩ := h
  have h72 : Tryd.prog.cellsOf 41 = 72 := by kernel_rfl
  obtain ⟨o, ve, vp, hr, hov⟩ := elem_obj _ _ _ hf (by simp only [Value.cells]; rw [Array.length_toList, hsz, h72])
  obtain ⟨A1, k1, rfl, _⟩ := hov.ents
  obtain ⟨A2, k2, rfl, _⟩ := hov.pars
  refine ⟨o, A1, A2, k1, k2, ?_, hov⟩
  congr 1
  apply Array.ext'
  simpa [Value.cells] using hr
end
end Go.Proofs.YtnehabcopjgklaaDoor
/- Layer 11's seeds: as arguments; Few, name. No condition. -/
namespace Go.Proofs.YtnehabcopjgklaaDoor
open Go.ChangeShapes Go.WideShapes Go.ChangeAt Go.RowKit
structure SdL where
  kind : UInt8
  refs : Txt
  time : Nat
  text : Txt
  vr : Value
def sdC (e : SdL) : List Value := [u8v e.kind, e.vr, .int .u16 e.time, .string (B e.text)]
def byC (c : UInt8) : List Value := [u8v c]
structure SdOk (w : World) (e : SdL) : Prop where
  refs : SliceAt w 1 byC e.vr e.refs
  time : e.time < 65536
  text : e.text.length ≤ 9223372036854775807
theorem SdOk.below {w w' : World} {e : SdL} (h : SdOk w e) (hb : Below w.heap.size w w') : SdOk w' e := ⟨h.refs.below hb, h.time, h.text⟩
structure Seeds (w : World) (v : Value) (l : List SdL) : Prop where
  at_ : SliceAt w 4 sdC v l
  each : ∀ e ∈ l, SdOk w e
theorem Seeds.below {w w' : World} {v : Value} {l : List SdL} (h : Seeds w v l) (hb : Below w.heap.size w w') : Seeds w' v l := ⟨h.at_.below hb, fun e he => (h.each e he).below hb⟩
section
variable {H : Type} {enc : TypeId × Value → H} {w : World} {base : Nat} {sp : Nat → Bool} {held : Bool}
theorem elem_byte (fuel : Nat) (cs : List Value) (x : DataW H × List MemPlace) (h : DataW.trod enc Tryd.prog w base sp held fuel 5 cs = some x) (hl : cs.length = 1) : ∃ c : UInt8, cs = byC c ∧ True := by
  obtain ⟨n, e, _, w0⟩ := DataW.trod_int Tryd.underlying5 h
  have hb := bounds_u8 w0
  obtain ⟨k, rfl⟩ := Int.eq_ofNat_of_zero_le hb.1
  refine ⟨UInt8.ofNat k, ?_, trivial⟩
  rw [e]
  unfold byC
  rw [u8v_ofNat k (by omega)]
set_option maxRecDepth 200000 in
theorem elem_seed (fuel : Nat) (cs : List Value) (x : DataW H × List MemPlace) (h : DataW.trod enc Tryd.prog w base sp held fuel 80 cs = some x) (hl : cs.length = 4) : ∃ r : SdL, cs = sdC r ∧ SdOk w r := by
  obtain ⟨ys, n', hn', hy, hlen, hyl, hf⟩ := DataW.trod_struct Tryd.underlying80 h
  have hyl : ys.length = 4 := hyl
  have h0 := hf 0 _ rfl
  have h1 := hf 1 _ rfl
  have h2 := hf 2 _ rfl
  have h3 := hf 3 _ rfl
  rw [List.getElem?_eq_getElem (show 0 < ys.length by omega)] at h0
  rw [List.getElem?_eq_getElem (show 1 < ys.length by omega)] at h1
  rw [List.getElem?_eq_getElem (show 2 < ys.length by omega)] at h2
  rw [List.getElem?_eq_getElem (show 3 < ys.length by omega)] at h3
  have cU : Tryd.prog.cellsOf 5 = 1 := by kernel_rfl
  have cB : Tryd.prog.cellsOf 77 = 1 := by kernel_rfl
  have cT : Tryd.prog.cellsOf 78 = 1 := by kernel_rfl
  have cS : Tryd.prog.cellsOf 9 = 1 := by kernel_rfl
  obtain ⟨n0, e0, _, w0⟩ := DataW.trod_int Tryd.underlying5 h0
  obtain ⟨n2, e2, _, w2⟩ := DataW.trod_int Tryd.underlying78 h2
  obtain ⟨s3, e3, _, w3⟩ := DataW.trod_string Tryd.underlying9 h3
  obtain ⟨v1, e1, t1⟩ := trod_slice_one (by
    show ((cs.drop 1).take (Tryd.prog.cellsOf 77)).length = 1
    rw [cB, List.length_take, List.length_drop]; omega) h1
  obtain ⟨lr, hlr, _⟩ := open_elems byC 1 (by omega) (fun _ => True) Tryd.underlying77 cU (fun y _ => rfl) elem_byte t1
  obtain ⟨a3, rfl⟩ := B_mk s3
  have b0 := bounds_u8 w0
  have b2 := bounds_u16 w2
  obtain ⟨k0, rfl⟩ := Int.eq_ofNat_of_zero_le b0.1
  obtain ⟨k2, rfl⟩ := Int.eq_ofNat_of_zero_le b2.1
  have e0' : (cs.drop 0).take 1 = [u8v (UInt8.ofNat k0)] := by rw [u8v_ofNat k0 (by omega), ← cU]; exact e0
  have e1' : (cs.drop 1).take 1 = [v1] := by rw [← cB]; exact e1
  have e2' : (cs.drop 2).take 1 = [.int .u16 k2] := by rw [← cT]; exact e2
  have e3' : (cs.drop 3).take 1 = [.string (B a3)] := by rw [← cS]; exact e3
  refine ⟨⟨UInt8.ofNat k0, lr, k2, a3, v1⟩, ?_, ⟨hlr, by show k2 < _; omega, by unfold maxLen at w3; rw [size_B] at w3; exact w3⟩⟩
  have := chain e0' (m := 1) rfl
  rw [List.drop_zero, chain e1' (m := 2) rfl, chain e2' (m := 3) rfl, chain e3' (m := 4) rfl, List.drop_of_length_le (by omega)] at this
  rw [this]
  rfl
theorem open_seeds {v : Value} {d : DataW H} {p : List MemPlace} (h : DataW.Trod enc Tryd.prog w base sp held 51 v d p) (hc : v.cells.toList = [v]) : ∃ l : List SdL, Seeds w v l := by
  obtain ⟨fuel, hf⟩ := h
  rw [hc] at hf
  obtain ⟨l, h1, h2⟩ := open_elems sdC 4 (by omega) (SdOk w) Tryd.underlying51 (by kernel_rfl) (fun y _ => rfl) elem_seed hf
  exact ⟨l, h1, h2⟩
end
section
variable {w : World} {g o : Nat} {e : SdL}
theorem sd_kind (h : w.rangeAt g o (sdC e)) : w.cell? ⟨g, o, none⟩ = some (.int .u8 e.kind.toNat) := h 0 _ rfl
theorem sd_refs (h : w.rangeAt g o (sdC e)) : w.cell? ⟨g, o + 1, none⟩ = some e.vr := h 1 _ rfl
theorem sd_time (h : w.rangeAt g o (sdC e)) : w.cell? ⟨g, o + 2, none⟩ = some (.int .u16 e.time) := h 2 _ rfl
theorem sd_text (h : w.rangeAt g o (sdC e)) : w.cell? ⟨g, o + 3, none⟩ = some (.string (B e.text)) := h 3 _ rfl
end
theorem szSeed : (Tryd.prog.info? 80).map (·.size) = some 4 := by kernel_rfl
/-- What Few tells. -/
def FewB (l : List SdL) (most : Nat) (e : Ending) : Prop := ∃ b, e = .returned (.bool b) ∧ (b = true → l.length ≤ most ∧ ∀ x ∈ l, x.refs.length ≤ 10 ∧ x.text.length ≤ 300)
set_option maxRecDepth 100000 in
set_option maxHeartbeats 4000000 in
theorem few_calls11 (l : List SdL) (most : Nat) (hm : most ≤ 1000) (va : Value) (w : World) (h : Seeds w va l) : Calls Tryd.prog 17 #[va, .int .i64 most] w fun e w' => FewB l most e ∧ Below w.heap.size w w' := by
  have hla := h.at_.len
  have heach := h.each
  obtain ⟨A, capa, rfl, ha1, ha2, hata⟩ := h.at_
  clear h
  go_enter Tryd.func17, Tryd.ntmps17
  go_wp2
  go_loopw [5] (fun i wr => ∃ k : Nat, i = .int .i64 k ∧ k ≤ l.length ∧ k ≤ most ∧ (∀ j x, j < k → l[j]? = some x → x.refs.length ≤ 10 ∧ x.text.length ≤ 300) ∧ Below w.heap.size w wr) (fun i _ => l.length - (intOf i).toNat)
  case atStart => exact ⟨0, rfl, by omega, by omega, fun j x hj => by omega, Below.refl _ _⟩
  case round =>
    obtain ⟨k, rfl, hk, hkm, hall, hbel⟩ := hrel
    by_cases hlt : k < l.length
    · have hki : (k : Int) < (l.length : Int) := by omega
      by_cases h20 : k < most
      · have hk2 : (k : Int) < (most : Int) := by omega
        obtain ⟨ga, oa, rfl, hga, hca⟩ := hata (by omega)
        obtain ⟨x, hx⟩ : ∃ x, l[k]? = some x := ⟨_, List.getElem?_eq_getElem hlt⟩
        obtain ⟨A2, cap2, hvr, _⟩ := (heach x (List.mem_of_getElem? hx)).refs
        have q1 := sd_refs (rangeAt_below (hca k x hx) hga hbel)
        rw [hvr] at q1
        have q3 := sd_text (rangeAt_below (hca k x hx) hga hbel)
        by_cases hd : x.refs.length ≤ 10
        · have d1 : ¬ (10 : Int) < (x.refs.length : Int) := by omega
          by_cases hd2 : x.text.length ≤ 300
          · have d2 : ¬ (300 : Int) < (x.text.length : Int) := by omega
            have hall2 : ∀ j y, j < k + 1 → l[j]? = some y → y.refs.length ≤ 10 ∧ y.text.length ≤ 300 := fun j y hj hy => by
              by_cases e : j = k
              · rw [e, hx] at hy
                injection hy with hy
                rw [← hy]; exact ⟨hd, hd2⟩
              · exact hall j y (by omega) hy
            clear hx hata hca hd hd2 hall heach hvr
            go_wp2
            all_goals try (exfalso; omega)
            go_roundw
            case rel => exact ⟨k + 1, by go_num, by omega, by omega, hall2, hbel⟩
            case measure => simp [intOf]; omega
          · have d2 : (300 : Int) < (x.text.length : Int) := by omega
            clear hx hata hca hd hd2 hall heach hvr
            go_wp2
            all_goals try (exfalso; omega)
            go_ret
            exact ⟨⟨false, rfl, fun h => by cases h⟩, hbel⟩
        · have d1 : (10 : Int) < (x.refs.length : Int) := by omega
          clear hx hata hca hd hall heach hvr
          go_wp2
          all_goals try (exfalso; omega)
          go_ret
          exact ⟨⟨false, rfl, fun h => by cases h⟩, hbel⟩
      · have hk2 : ¬ (k : Int) < (most : Int) := by omega
        have hno : ¬ (l.length : Int) ≤ (most : Int) := by omega
        clear hata hall heach
        go_wp2
        all_goals try (exfalso; omega)
        go_ret
        exact ⟨⟨_, rfl, fun h => by simp at h⟩, hbel⟩
    · have hki : ¬ (k : Int) < (l.length : Int) := by omega
      have h20 : (l.length : Int) ≤ (most : Int) := by omega
      have hall2 := Lib.hid hall
      clear hata hall heach
      go_wp2
      all_goals try (exfalso; omega)
      go_ret
      refine ⟨⟨_, rfl, fun _ => ⟨by omega, fun x hx => ?_⟩⟩, hbel⟩
      obtain ⟨j, hj, rfl⟩ := List.getElem_of_mem hx
      exact hall2.out j _ (by omega) (List.getElem?_eq_getElem hj)
set_option maxRecDepth 100000 in
theorem name_calls11 (k : Nat) (hk : k ≤ 1000) (w : World) : Calls Tryd.prog 56 #[.int .i64 k] w fun e w' => (∃ c : UInt8, e = .returned (.string (B [c]))) ∧ Below w.heap.size w w' := by
  have h1 : IntKind.i64.wrap ((97 : Int) + (k : Int) % 20) = 97 + (k : Int) % 20 := IntWalk.i64_in _ (by omega)
  have hs := Tryd.str_of_one w ((97 : Int) + (k : Int) % 20)
  go_enter Tryd.func56, Tryd.ntmps56
  go_wp2
  go_ret
  exact ⟨⟨_, rfl⟩, (Below.refl _ _).alloc (Nat.le_refl _) _⟩
end Go.Proofs.YtnehabcopjgklaaDoor
/- The walk of layer 11's document: pick. No condition. -/
namespace Go.Proofs.YtnehabcopjgklaaDoor
open Go.RowKit
attribute [local go_sem ↓] ldvI_eq ldvS_eq stvI_eq
/-- What pick tells: some id. -/
def PickR (e : Ending) : Prop := ∃ x b, e = .returned (.tuple #[.agg (u8s x), .bool b]) ∧ x.length = 32
set_option maxRecDepth 100000 in
set_option maxHeartbeats 8000000 in
theorem pick_calls {w : World} {vm : Value} {es : List DiL} (h : DocSt w vm es) (ids : List Txt) (hok : ∀ x ∈ ids, x.length = 32) (hil : ids.length ≤ 1000) (vi : Value) (hi : Ids w vi ids) (n : Nat) (hn : n ≤ 100000) (kind : Int) :
    Calls Tryd.prog 55 #[.agg #[vm], vi, .int .i64 n, .int .i64 kind] w fun e w' => PickR e ∧ Below w.heap.size w w' := by
  have hzI := zeroIdV
  have hrb := fun W => run_build (P := Tryd.prog) W _ _ _ built_zId
  have hZ32 : (u8s noId).size = 32 := by rw [u8s_size, noId_len]
  have hZone := u8s_one noId
  obtain ⟨W1, hW1⟩ : ∃ W1, w.alloc (.cells #[vm] 30) = W1 := ⟨_, rfl⟩
  have s1 : Blk W1 w.heap.size 30 #[vm] := by rw [← hW1]; exact Blk.new _ _ _
  have b1 : Below w.heap.size w W1 := by rw [← hW1]; exact (Below.refl _ _).alloc (Nat.le_refl _) _
  obtain ⟨W2, hW2⟩ : ∃ W2, W1.alloc (.cells (u8s noId) 24) = W2 := ⟨_, rfl⟩
  have z2 : Blk W2 W1.heap.size 24 (u8s noId) := by rw [← hW2]; exact Blk.new _ _ _
  have bb2 : Below W1.heap.size W1 W2 := by rw [← hW2]; exact (Below.refl _ _).alloc (Nat.le_refl _) _
  have s2 := s1.below bb2 s1.lt
  have b2 := bthen b1 b1.size bb2
  have hsz : (Tryd.prog.info? 24).map (·.size) = some (u8s noId).size := by rw [hZ32]; exact sz32
  have hle := b1.size
  have hle2 := b2.size
  have hkc := fun (x : Txt) (hx : x.length = 32) W (hW : Below W2.heap.size W2 W) => docKind_calls (h.below (bthen b2 b2.size hW)) x hx
  have l2 := fun W (hW : Below W2.heap.size W2 W) => run_ldvS (s2.below hW s2.lt)
  obtain ⟨A, cap, rfl, hcap1, hcap2, hat⟩ := hi
  clear h
  obtain ⟨Z, hZ⟩ : ∃ Z, u8s noId = Z := ⟨_, rfl⟩
  rw [hZ] at z2 hW2 hsz hZ32 hZone hrb hzI
  have hZ := Lib.hid hZ
  go_enter Tryd.func55, Tryd.ntmps55
  go_wp2
  go_loopw [10, 11] (fun vo vi wr => ∃ (k : Nat) (acc : List Txt), vi = .int .i64 k ∧ k ≤ ids.length ∧ acc.length ≤ k ∧ Hid (∀ x ∈ acc, x.length = 32) ∧ OwnIds wr W2.heap.size vo acc ∧ Below W2.heap.size W2 wr) (fun _ vi _ => ids.length - (intOf vi).toNat)
  case atStart => exact ⟨0, [], rfl, by omega, by simp, Lib.hid (fun x hx => by simp at hx), World.ownsRow_nil _ _ _ _, Below.refl _ _⟩
  case round =>
    obtain ⟨k, acc, rfl, hk, hal, hall, hown, hbel⟩ := hrel
    by_cases hlt : k < ids.length
    · have hki : (k : Int) < (ids.length : Int) := by omega
      obtain ⟨ga, oa, rfl, hga, hca⟩ := hat (by omega)
      obtain ⟨x, hx⟩ : ∃ x, ids[k]? = some x := ⟨_, List.getElem?_eq_getElem hlt⟩
      have hxi := hok x (List.mem_of_getElem? hx)
      have hlx : ∀ W, Below W2.heap.size W2 W → (ldvI ⟨ga, oa + k * 32, none⟩).run Tryd.prog W = .ok (.agg (u8s x)) W := fun W hW => by
        have hr := rangeAt_below (hca k x hx) hga (bthen b2 b2.size hW)
        exact run_ldvI_at (show World.rangeAt W ga (oa + k * 32) (u8s x).toList from hr) hxi
      have hkx := hkc x hxi
      obtain ⟨K, hK⟩ : ∃ K, kindS (es.map (·.st)) x = K := ⟨_, rfl⟩
      simp only [hK] at hkx
      have hkl : acc.length + 1 ≤ 9223372036854775807 := by omega
      have hm2 : (acc.length + 1) * 32 ≤ 140737488355328 := by omega
      have hid32 : (idC x).toArray.size = 32 := by rw [List.size_toArray, idC_len hxi]
      have hidl : (idC x).toArray.size = 1 * 32 := hid32
      have hid1 : ∀ u ∈ (idC x).toArray.toList, u.oneCell' = true := by rw [List.toList_toArray]; exact idC_one x
      have hXC : (idC x).toArray = u8s x := by simp [idC]
      rw [hXC] at hid32 hidl hid1
      have hall2 : Hid (∀ y ∈ acc ++ [x], y.length = 32) := Lib.hid fun y hy => by
        rcases List.mem_append.1 hy with hy | hy
        · exact hall.out y hy
        · rw [List.mem_singleton.1 hy]; exact hxi
      have hXC := Lib.hid hXC
      have hrow : Hid (rowsOf idC (acc ++ [x]) = rowsOf idC acc ++ (u8s x).toList) := Lib.hid (by rw [rowsOf_append, rowsOf_one]; rfl)
      generalize u8s x = XC at *
      clear hx hca hat hok hK hkc
      go_wp2
      refine wp_region_go0 7 (by kernel_rfl) (by kernel_rfl) (by kernel_rfl) (by kernel_rfl) ?_
      simp only [exSp]
      iterate 7 apply Exists.intro
      repeat
        first
          | ((with_reducible apply lx0_ex)
             · (go_simp; done)
             apply Exists.intro
             apply And.intro
             · apply Eq.refl
             apply And.intro
             · intro W hW hD
               have hW2 := hbel.trans (hW.mono hbel.size)
               have q0 := l2 W hW2
               have q1 := hlx W hW2
               have q2 := hkx W hW2
               go_simp
               first
                 | rfl
                 | (with_reducible exact q2)
             simp only [Act.put, List.setIfInBounds_toArray, List.set_cons_zero, List.set_cons_succ])
          | ((with_reducible apply lx0_pass)
             · (first | rfl | (go_simp; done))
             · apply Eq.refl
             simp only [Act.put, List.setIfInBounds_toArray, List.set_cons_zero, List.set_cons_succ])
      refine lx0_nil ?_ fun w5 hW5 hD5 => ?_
      · exact List.nodup_nil
      have b5 := hbel.trans (hW5.mono hbel.size)
      have own5 := own_below hown hW5
      have sz5 := b5.size
      have lx5 := hlx _ b5
      clear hD5 hkx hlx l2
      have kk := Lib.hid hki
      cases e1 : (K == kind) <;> cases e2 : (kind == (0 : Int)) <;> cases e3 : (kind == (9 : Int)) <;> cases e4 : decide (K < 3)
      all_goals
        go_wp2_with (first
          | ((with_reducible refine lit_slice1 (.tmp 44) Tryd.idsTy XC hid32 (by omega) ?_ ?_); rfl)
          | (at_builtin
             (with_reducible refine lit_append_new (.tmp 40) (.tmp 45) 1 _ Tryd.idsTy own5 XC hidl hid1 hkl hm2 sz5 ?_ ?_ ?_); rfl; rfl
             intro v6 w6 hv6 hb6 hg6 hn6
             have b6 := b5.trans hb6
             clear hg6 hn6))
        go_roundw
        case rel => first
          | exact ⟨k + 1, acc, by go_num, by omega, by omega, hall, own5, b5⟩
          | exact ⟨k + 1, acc ++ [x], by go_num, by omega, by simp; omega, hall2, by unfold OwnIds; rw [List.length_append, hrow.out]; exact hv6, b6⟩
        case measure => simp [intOf]; omega
    · have hki : ¬ (k : Int) < (ids.length : Int) := by omega
      have hz3 := z2.below hbel z2.lt
      have b3 := bthen b2 b2.size hbel
      clear hat hok hkc l2
      cases acc with
      | nil =>
        obtain ⟨A3, c3, rfl⟩ := own_form' hown
        have hl0 : (([] : List Txt).length : Int) = 0 := rfl
        go_wp2_with (first
          | (refine wpList_store_row rfl 24 (.tmp 8) (.tmp 50) rfl W1.heap.size Z rfl rfl _ _ hz3 hsz rfl hZone ?_))
        refine bodyPost_ret (results_row_tmp rfl _ _ W1.heap.size _ _ _ _ rfl (setRow_heap _ _ _ _ _ _ hz3) Tryd.underlying24 rfl hsz) rfl ⟨⟨noId, _, by rw [hZ.out]; rfl, noId_len⟩, below_setRow b3 hle _⟩
      | cons y ys =>
        obtain ⟨m, hm⟩ : ∃ m : Nat, ((y :: ys).length : Int) - 1 - (n : Int) % ((y :: ys).length : Int) = (m : Int) := by
          refine Int.eq_ofNat_of_zero_le ?_
          have := Int.emod_lt_of_pos (n : Int) (show (0 : Int) < ((y :: ys).length : Int) by simp only [List.length_cons]; omega)
          omega
        have hmn := Int.emod_nonneg (n : Int) (show ((y :: ys).length : Int) ≠ 0 by simp only [List.length_cons]; omega)
        have hml : m < (y :: ys).length := by omega
        have hL0 : 0 < (y :: ys).length := by simp
        have hLi : (0 : Int) < ((y :: ys).length : Int) := by omega
        have hLn : ¬ ((y :: ys).length : Int) = 0 := by omega
        have hLb : (((y :: ys).length : Int) == 0) = false := by simpa using hLn
        obtain ⟨x, hx⟩ : ∃ x, (y :: ys)[m]? = some x := ⟨_, List.getElem?_eq_getElem hml⟩
        have hxi := hall.out x (List.mem_of_getElem? hx)
        have hsl := SliceAt.of_own (fun e h => idC_len (hall.out e h)) hown
        obtain ⟨A3, c3, rfl, hc31, hc32, hat3⟩ := hsl
        obtain ⟨g3, o3, rfl, hg3, hc3⟩ := hat3 hL0
        have hlx : (ldvI ⟨g3, o3 + m * 32, none⟩).run Tryd.prog wr = .ok (.agg (u8s x)) wr := run_ldvI_at (show World.rangeAt wr g3 (o3 + m * 32) (u8s x).toList from hc3 m x hx) hxi
        have hx32 : (u8s x).size = 32 := by rw [u8s_size, hxi]
        have hxs : (Tryd.prog.info? 24).map (·.size) = some (u8s x).size := by rw [hx32]; exact sz32
        have hxo := u8s_one x
        have hzx : Z.size = (u8s x).size := by rw [hZ32, hx32]
        have hmi : (m : Int) < ((y :: ys).length : Int) := by omega
        have hLm : ((y :: ys).length : Int) ≤ 1000 := by omega
        generalize (y :: ys).length = LN at *
        have hw1 : IntKind.i64.wrap ((LN : Int) - 1) = (LN : Int) - 1 := IntWalk.i64_in _ (by omega)
        have hw2 : IntKind.i64.wrap ((n : Int) % (LN : Int)) = (n : Int) % (LN : Int) := IntWalk.i64_in _ (by have := Int.emod_lt_of_pos (n : Int) hLi; omega)
        have hw3 : IntKind.i64.wrap ((m : Int)) = (m : Int) := IntWalk.i64_in _ (by omega)
        clear hx hc3 hat3 hown hall hal
        go_wp2_with (first
          | (refine wpList_store_row rfl 24 (.tmp 8) (.tmp 61) rfl W1.heap.size (u8s x) rfl rfl _ _ hz3 hxs hzx hxo ?_))
        refine bodyPost_ret (results_row_tmp rfl _ _ W1.heap.size _ _ _ _ rfl (setRow_heap _ _ _ _ _ _ hz3) Tryd.underlying24 rfl hxs) rfl ⟨⟨x, _, rfl, hxi⟩, below_setRow b3 hle _⟩
end Go.Proofs.YtnehabcopjgklaaDoor
/- Objects written out, an id among their fields. No condition. -/
namespace Go.Proofs.YtnehabcopjgklaaDoor
open Go.RowKit
theorem len32 {x : List UInt8} (h : x.length = 32) : ∃ f : Fin 32 → UInt8, x = List.ofFn f :=
  ⟨fun i => x[i.1]'(by omega), by
    apply List.ext_getElem
    · rw [List.length_ofFn, h]
    · intro i h1 h2
      rw [List.getElem_ofFn]⟩
set_option maxRecDepth 100000 in
theorem built_commit (x : Txt) (hx : x.length = 32) (n : Nat) (t : Txt) : Tryd.prog.built 41 [(0, .int .i64 3), (3, .agg (u8s x)), (5, .int .u32 n), (6, .string (B t))] = some (objC ⟨3, [], [], x, [], n, t, noId, 0, []⟩ (.slice none 0 0) (.slice none 0 0)).toArray := by
  obtain ⟨f, rfl⟩ := len32 hx
  kernel_rfl
set_option maxRecDepth 100000 in
theorem built_tag (x : Txt) (hx : x.length = 32) (k : Int) (t : Txt) : Tryd.prog.built 41 [(0, .int .i64 4), (7, .agg (u8s x)), (8, .int .i64 k), (9, .string (B t))] = some (objC ⟨4, [], [], noId, [], 0, [], x, k, t⟩ (.slice none 0 0) (.slice none 0 0)).toArray := by
  obtain ⟨f, rfl⟩ := len32 hx
  kernel_rfl
theorem built_blob (t : Txt) : Tryd.prog.built 41 [(0, .int .i64 1), (1, .string (B t))] = some (objC ⟨1, t, [], noId, [], 0, [], noId, 0, []⟩ (.slice none 0 0) (.slice none 0 0)).toArray := by kernel_rfl
end Go.Proofs.YtnehabcopjgklaaDoor
/- The walk of layer 11's document: make1: a blob, a tag. No condition. -/
namespace Go.Proofs.YtnehabcopjgklaaDoor
open Go.RowKit
attribute [local go_sem ↓] ldvI_eq ldvS_eq stvI_eq ldvO_eq
/-- What make1 tells: some object; its slices are new. -/
def MkR (w : World) (e : Ending) (w' : World) : Prop := ∃ o A1 A2 k1 k2, e = .returned (.agg (objC o (.slice A1 o.ents.length k1) (.slice A2 o.pars.length k2)).toArray) ∧ Small o ∧ ObjOk o ∧ OwnEnts w' w.heap.size (.slice A1 o.ents.length k1) o.ents ∧ OwnIds w' w.heap.size (.slice A2 o.pars.length k2) o.pars
theorem MkR.bare {w w' : World} (o : ObjL) (he : o.ents = []) (hp : o.pars = []) (hs : Small o) (ho : ObjOk o) : MkR w (.returned (.agg (objC o (.slice none 0 0) (.slice none 0 0)).toArray)) w' := by
  refine ⟨o, none, none, 0, 0, ?_, hs, ho, ?_, ?_⟩
  · rw [he, hp]; rfl
  · rw [he]; exact World.ownsRow_nil _ _ _ _
  · rw [hp]; exact World.ownsRow_nil _ _ _ _
def PickV (v : Value) : Prop := ∃ x b, v = .tuple #[.agg (u8s x), .bool b] ∧ x.length = 32
theorem kindS_bounds {s : List StL} (n : Txt) : 0 ≤ kindS s n ∧ kindS s n ≤ 255 := by
  unfold kindS
  split
  · split
    · rename_i o ho
      obtain ⟨c, q, _, hk⟩ := dec_kind ho
      have := c.toNat_lt
      omega
    · omega
  · omega
theorem zeroO_small : Small zeroO := ⟨by decide, by simp [zeroO], by decide, by decide, by decide, by decide⟩
theorem zeroO_ok : ObjOk zeroO := ⟨noId_len, noId_len, by simp [zeroO], by simp [zeroO], by decide, by decide, by decide, by decide, by decide, by decide, by decide, by decide⟩
set_option maxRecDepth 100000 in
set_option maxHeartbeats 8000000 in
theorem make_blob {w : World} {vm : Value} {es : List DiL} (h : DocSt w vm es) (ids : List Txt) (hok : ∀ x ∈ ids, x.length = 32) (hil : ids.length ≤ 1000) (vi : Value) (hi : Ids w vi ids) (x : SdL) (hx : SdOk w x) (hr : x.refs.length ≤ 10) (ht : x.text.length ≤ 300) (hk : (x.kind.toNat : Int) % 4 = 0) :
    Calls Tryd.prog 34 #[.agg #[vm], vi, .agg (sdC x).toArray] w fun e w' => MkR w e w' ∧ Below w.heap.size w w' := by
  have hzo := zeroObj
  have hz72 := zObj_size
  have hzone : zObj.all (·.oneCell') = true := objC_all zeroO none none 0 0 0 0
  have hsz : ∀ cs : Array Value, cs.size = 72 → (Tryd.prog.info? 41).map (·.size) = some cs.size := fun cs h => by rw [h]; exact szObj
  obtain ⟨W1, hW1⟩ : ∃ W1, w.alloc (.cells #[vm] 30) = W1 := ⟨_, rfl⟩
  have s1 : Blk W1 w.heap.size 30 #[vm] := by rw [← hW1]; exact Blk.new _ _ _
  have b1 : Below w.heap.size w W1 := by rw [← hW1]; exact (Below.refl _ _).alloc (Nat.le_refl _) _
  obtain ⟨W2, hW2⟩ : ∃ W2, W1.alloc (.cells (sdC x).toArray 80) = W2 := ⟨_, rfl⟩
  have d2 : Blk W2 W1.heap.size 80 (sdC x).toArray := by rw [← hW2]; exact Blk.new _ _ _
  have bb2 : Below W1.heap.size W1 W2 := by rw [← hW2]; exact (Below.refl _ _).alloc (Nat.le_refl _) _
  obtain ⟨W3, hW3⟩ : ∃ W3, W2.alloc (.cells zObj 41) = W3 := ⟨_, rfl⟩
  have z3 : Blk W3 W2.heap.size 41 zObj := by rw [← hW3]; exact Blk.new _ _ _
  have bb3 : Below W2.heap.size W2 W3 := by rw [← hW3]; exact (Below.refl _ _).alloc (Nat.le_refl _) _
  have b2 := bthen b1 b1.size bb2
  have b3 := bthen b2 b2.size bb3
  have s3 := (s1.below bb2 s1.lt).below bb3 (s1.below bb2 s1.lt).lt
  have d3 := d2.below bb3 d2.lt
  have hle2 : w.heap.size ≤ W2.heap.size := b2.size
  have hlt0 := s1.lt
  have hlt1 := d2.lt
  have hlt2 := z3.lt
  have fL := fun W (hW : Below W3.heap.size W3 W) => run_ldvS (s3.below hW s3.lt)
  have fK : ∀ W, Below W3.heap.size W3 W → W.cell? ⟨W1.heap.size, 0, none⟩ = some (.int .u8 x.kind.toNat) := fun W hW => (d3.below hW d3.lt).cell 0
  have fR : ∀ W, Below W3.heap.size W3 W → W.cell? ⟨W1.heap.size, 1, none⟩ = some x.vr := fun W hW => (d3.below hW d3.lt).cell 1
  have fT : ∀ W, Below W3.heap.size W3 W → W.cell? ⟨W1.heap.size, 2, none⟩ = some (.int .u16 x.time) := fun W hW => (d3.below hW d3.lt).cell 2
  have fX : ∀ W, Below W3.heap.size W3 W → W.cell? ⟨W1.heap.size, 3, none⟩ = some (.string (B x.text)) := fun W hW => (d3.below hW d3.lt).cell 3
  have k3 := fK W3 (Below.refl _ _)
  have hkb : (x.kind.toNat : Int) < 256 := by have := x.kind.toNat_lt; omega
  have hbd := built_blob x.text
  have hcs : (objC ⟨1, x.text, [], noId, [], 0, [], noId, 0, []⟩ (.slice none 0 0) (.slice none 0 0)).toArray.size = 72 := by rw [List.size_toArray]; exact objC_len ⟨noId_len, noId_len, by simp, by simp, hx.text, by simp, by simp, by simp, by simp, by simp, by simp, by simp⟩ _ _
  have hc1 := objC_all ⟨1, x.text, [], noId, [], 0, [], noId, 0, []⟩ none none 0 0 0 0
  have x3 := fX W3 (Below.refl _ _)
  have hfin : ∀ w', MkR w (.returned (.agg (objC ⟨1, x.text, [], noId, [], 0, [], noId, 0, []⟩ (.slice none 0 0) (.slice none 0 0)).toArray)) w' := fun w' => MkR.bare _ rfl rfl ⟨by simp, by simp, by simp, by show x.text.length ≤ _; omega, by simp, by simp⟩ ⟨noId_len, noId_len, by simp, by simp, hx.text, by simp, by simp, by simp, by simp, by simp, by simp, by simp⟩
  clear h hi hx fL fK fR fT fX hok
  generalize (objC ⟨1, x.text, [], noId, [], 0, [], noId, 0, []⟩ (.slice none 0 0) (.slice none 0 0)).toArray = OC at *
  generalize (sdC x).toArray = SC at *
  generalize zObj = ZO at *
  go_enter Tryd.func34, Tryd.ntmps34
  go_wp2_with (first
    | ((with_reducible refine lit_build2 hbd ?_ ?_ ?_); rfl; rfl)
    | (refine wpList_store_row rfl 41 (.tmp 6) (.tmp 165) rfl W2.heap.size OC rfl rfl _ _ z3 (hsz _ hcs) (hz72.trans hcs.symm) hc1 ?_))
  refine bodyPost_ret (results_cell_row rfl _ _ W2.heap.size _ _ _ _ rfl (setRow_heap _ _ _ _ _ _ z3) Tryd.underlying41 rfl (hsz _ hcs)) rfl ⟨hfin _, below_setRow b3 hle2 _⟩
set_option maxRecDepth 100000 in
set_option maxHeartbeats 8000000 in
theorem make_tag {w : World} {vm : Value} {es : List DiL} (h : DocSt w vm es) (ids : List Txt) (hok : ∀ x ∈ ids, x.length = 32) (hil : ids.length ≤ 1000) (vi : Value) (hi : Ids w vi ids) (x : SdL) (hx : SdOk w x) (hr : x.refs.length ≤ 10) (ht : x.text.length ≤ 300) (hk : (x.kind.toNat : Int) % 4 = 3) :
    Calls Tryd.prog 34 #[.agg #[vm], vi, .agg (sdC x).toArray] w fun e w' => MkR w e w' ∧ Below w.heap.size w w' := by
  have hzo := zeroObj
  have hz72 := zObj_size
  have hzone : zObj.all (·.oneCell') = true := objC_all zeroO none none 0 0 0 0
  have hsz : ∀ cs : Array Value, cs.size = 72 → (Tryd.prog.info? 41).map (·.size) = some cs.size := fun cs h => by rw [h]; exact szObj
  obtain ⟨W1, hW1⟩ : ∃ W1, w.alloc (.cells #[vm] 30) = W1 := ⟨_, rfl⟩
  have s1 : Blk W1 w.heap.size 30 #[vm] := by rw [← hW1]; exact Blk.new _ _ _
  have b1 : Below w.heap.size w W1 := by rw [← hW1]; exact (Below.refl _ _).alloc (Nat.le_refl _) _
  obtain ⟨W2, hW2⟩ : ∃ W2, W1.alloc (.cells (sdC x).toArray 80) = W2 := ⟨_, rfl⟩
  have d2 : Blk W2 W1.heap.size 80 (sdC x).toArray := by rw [← hW2]; exact Blk.new _ _ _
  have bb2 : Below W1.heap.size W1 W2 := by rw [← hW2]; exact (Below.refl _ _).alloc (Nat.le_refl _) _
  obtain ⟨W3, hW3⟩ : ∃ W3, W2.alloc (.cells zObj 41) = W3 := ⟨_, rfl⟩
  have z3 : Blk W3 W2.heap.size 41 zObj := by rw [← hW3]; exact Blk.new _ _ _
  have bb3 : Below W2.heap.size W2 W3 := by rw [← hW3]; exact (Below.refl _ _).alloc (Nat.le_refl _) _
  have b2 := bthen b1 b1.size bb2
  have b3 := bthen b2 b2.size bb3
  have s3 := (s1.below bb2 s1.lt).below bb3 (s1.below bb2 s1.lt).lt
  have d3 := d2.below bb3 d2.lt
  have hle2 : w.heap.size ≤ W2.heap.size := b2.size
  have hlt0 := s1.lt
  have hlt1 := d2.lt
  have hlt2 := z3.lt
  have fL := fun W (hW : Below W3.heap.size W3 W) => run_ldvS (s3.below hW s3.lt)
  have fK : ∀ W, Below W3.heap.size W3 W → W.cell? ⟨W1.heap.size, 0, none⟩ = some (.int .u8 x.kind.toNat) := fun W hW => (d3.below hW d3.lt).cell 0
  have fR : ∀ W, Below W3.heap.size W3 W → W.cell? ⟨W1.heap.size, 1, none⟩ = some x.vr := fun W hW => (d3.below hW d3.lt).cell 1
  have fT : ∀ W, Below W3.heap.size W3 W → W.cell? ⟨W1.heap.size, 2, none⟩ = some (.int .u16 x.time) := fun W hW => (d3.below hW d3.lt).cell 2
  have fX : ∀ W, Below W3.heap.size W3 W → W.cell? ⟨W1.heap.size, 3, none⟩ = some (.string (B x.text)) := fun W hW => (d3.below hW d3.lt).cell 3
  have k3 := fK W3 (Below.refl _ _)
  have hkb : (x.kind.toNat : Int) < 256 := by have := x.kind.toNat_lt; omega
  have hsI : (Tryd.prog.info? 24).map (·.size) = some (u8s noId).size := by rw [u8s_size, noId_len]; exact sz32
  have hrb := fun W => run_build (P := Tryd.prog) W _ _ _ built_zObj
  obtain ⟨A, cap, hvr, hcap1, hcap2, hat⟩ := hx.refs
  rw [hvr] at fR
  have r3 := fR W3 (Below.refl _ _)
  have hfz : ∀ w', MkR w (.returned (.agg zObj)) w' := fun w' => MkR.bare zeroO rfl rfl zeroO_small zeroO_ok
  have hkc := fun (y : Txt) (hy : y.length = 32) W (hW : Below W3.heap.size W3 W) => docKind_calls (h.below (bthen b3 b3.size hW)) y hy
  rcases Nat.eq_zero_or_pos x.refs.length with hrl | hrl
  · skip
    have hl0 : (x.refs.length : Int) = 0 := by omega
    clear h hi hx fL fK fR fT fX hok hkc hat hvr hrl
    generalize (sdC x).toArray = SC at *
    generalize zObj = ZO at *
    go_enter Tryd.func34, Tryd.ntmps34
    go_wp2_with (first
      | (refine wpList_store_row rfl 41 (.tmp 6) (.tmp 128) rfl W2.heap.size ZO rfl rfl _ _ z3 (hsz _ hz72) rfl hzone ?_))
    refine bodyPost_ret (results_cell_row rfl _ _ W2.heap.size _ _ _ _ rfl (setRow_heap _ _ _ _ _ _ z3) Tryd.underlying41 rfl (hsz _ hz72)) rfl ⟨hfz _, below_setRow b3 hle2 _⟩
  · have hlb : ((x.refs.length : Int) == 0) = false := by rw [beq_eq_false_iff_ne]; omega
    have hl0 : ¬ (x.refs.length : Int) = 0 := by omega
    have hlp : (0 : Int) < (x.refs.length : Int) := by omega
    obtain ⟨ga, oa, rfl, hga, hca⟩ := hat (by omega)
    obtain ⟨c0, hc0⟩ : ∃ c, x.refs[0]? = some c := ⟨_, List.getElem?_eq_getElem hrl⟩
    have fB : ∀ W, Below W3.heap.size W3 W → W.cell? ⟨ga, oa, none⟩ = some (.int .u8 c0.toNat) := fun W hW => by
      have := rangeAt_below (hca 0 c0 hc0) hga (bthen b3 b3.size hW) 0 _ rfl
      simpa [byC, u8v] using this
    have hc0b : (c0.toNat : Int) < 256 := by have := c0.toNat_lt; omega
    have hc0w : IntKind.i64.wrap (c0.toNat : Int) = (c0.toNat : Int) := IntWalk.i64_in _ (by omega)
    have hpk := fun W (hW : Below W3.heap.size W3 W) => (pick_calls (h.below (bthen b3 b3.size hW)) ids hok hil vi (hi.below (bthen b3 b3.size hW)) c0.toNat (by omega) 0)
    have fB1 : 1 < x.refs.length → ∃ c1 : UInt8, ∀ W, Below W3.heap.size W3 W → W.cell? ⟨ga, oa + 1, none⟩ = some (.int .u8 c1.toNat) := fun h1 => by
      obtain ⟨c1, hc1⟩ : ∃ c, x.refs[1]? = some c := ⟨_, List.getElem?_eq_getElem h1⟩
      refine ⟨c1, fun W hW => ?_⟩
      have := rangeAt_below (hca 1 c1 hc1) hga (bthen b3 b3.size hW) 0 _ rfl
      simpa [byC, u8v] using this
    clear h hi hx fK fT fX hok hvr hca hc0 hat
    generalize (sdC x).toArray = SC at *
    generalize zObj = ZO at *
    go_enter Tryd.func34, Tryd.ntmps34
    go_wp2
    --STOP1
    refine wp_region_go0 14 (by kernel_rfl) (by kernel_rfl) (by kernel_rfl) (by kernel_rfl) ?_
    simp only [exSp]
    iterate 14 apply Exists.intro
    repeat
      first
        | ((with_reducible apply lx0_ex)
           · (go_simp; done)
           apply Exists.intro
           apply And.intro
           · apply Eq.refl
           apply And.intro
           · intro W hW hD
             have hW2 := hW
             have q0 := fL W hW2
             have q1 := fR W hW2
             have q2 := fB W hW2
             go_simp
             rfl
           simp only [Act.put, List.setIfInBounds_toArray, List.set_cons_zero, List.set_cons_succ])
        | ((with_reducible apply lx0_pass)
           · (first | rfl | (go_simp; done))
           · apply Eq.refl
           simp only [Act.put, List.setIfInBounds_toArray, List.set_cons_zero, List.set_cons_succ])
        | ((with_reducible refine lx0_new (fun v _ _ => PickV v) rfl ?_ (stab_pure PickV) ?_ ?_)
           · (go_simp; done)
           · intro W hW hD
             have hW2 := hW
             unfold doesAt Oper.wp execOp
             go_simp
             (with_reducible refine (hpk W hW2).mono ?_)
             rintro e w' ⟨⟨y, b, rfl, hy⟩, hb⟩
             exact ⟨hb, fun _ _ _ _ => ⟨y, b, rfl, hy⟩⟩
           intro v
           simp only [Act.put, List.setIfInBounds_toArray, List.set_cons_zero, List.set_cons_succ])
        | (first | (with_reducible apply lx_move') | (with_reducible apply lx_assign')
           · apply Eq.refl
           apply Exists.intro
           apply And.intro
           · (go_simp; rfl)
           simp only [Act.put, List.setIfInBounds_toArray, List.set_cons_zero, List.set_cons_succ])
        | ((with_reducible apply lx_extr')
           · apply Eq.refl
           apply Exists.intro
           apply And.intro
           · (go_simp; rfl)
           refine ⟨fun W hW hD => ?_, ?_⟩
           · obtain ⟨F, y, b, rfl, hy⟩ := hD.at 0 rfl (by kernel_rfl)
             exact ⟨_, rfl, by simp⟩
           simp only [Act.put, List.setIfInBounds_toArray, List.set_cons_zero, List.set_cons_succ])
        | ((with_reducible apply lx_al 24 (u8s noId) zeroIdV)
           · apply Eq.refl
           intro v
           simp only [Act.put, List.setIfInBounds_toArray, List.set_cons_zero, List.set_cons_succ])
        | ((with_reducible apply lx_st' 11 24 (u8s noId) hsI (by kernel_rfl))
           · exact rfl
           · apply Eq.refl
           apply Exists.intro
           apply Exists.intro
           apply And.intro
           · (go_simp; rfl)
           apply And.intro
           · (go_simp; rfl)
           refine ⟨?_, fun W hW hD => ?_, ?_⟩
           · first | exact List.Mem.head _ | exact List.Mem.tail _ (List.Mem.head _) | exact List.Mem.tail _ (List.Mem.tail _ (List.Mem.head _)) | exact List.Mem.tail _ (List.Mem.tail _ (List.Mem.tail _ (List.Mem.head _)))
           · obtain ⟨F, y, b, rfl, hy⟩ := hD.at 1 rfl (by kernel_rfl)
             exact ⟨_, rfl, by rw [u8s_size, u8s_size, hy, noId_len], u8s_one y⟩)
    refine lx0_nil ?_ fun w5 hW5 hD5 => ?_
    · exact (by simp [stsOf])
    obtain ⟨_, y, b, rfl, hy⟩ := hD5 _ (.tail _ (.tail _ (.head _)))
    obtain ⟨_, g, cs, rfl, hcs, hg1, _, hg2⟩ := hD5 _ (.head _)
    obtain rfl : u8s y = cs := by injection hcs
    clear hcs hD5
    simp only [extr2_0, extr2_1]
    have b5 := bthen b3 b3.size hW5
    have z5 := z3.below hW5 z3.lt
    have hgI := run_ldvI_at (range_blk hg2) hy
    have r5 := fR _ hW5
    have l5 := fL _ hW5
    have hk5 := hkc y hy _ hW5
    clear hpk hkc
    cases b
    · clear hk5
      go_wp2_with (first
        | (refine wpList_store_row rfl 41 (.tmp 6) (.tmp 142) rfl W2.heap.size ZO rfl rfl _ _ z5 (hsz _ hz72) rfl hzone ?_))
      refine bodyPost_ret (results_cell_row rfl _ _ W2.heap.size _ _ _ _ rfl (setRow_heap _ _ _ _ _ _ z5) Tryd.underlying41 rfl (hsz _ hz72)) rfl ⟨hfz _, below_setRow b5 hle2 _⟩
    · obtain ⟨K, hK⟩ : ∃ K, kindS (es.map (·.st)) y = K := ⟨_, rfl⟩
      have hKb := kindS_bounds (s := es.map (·.st)) y
      rw [hK] at hKb hk5
      have hk5 := Lib.hid hk5
      have hbd := fun k => built_tag y hy k [116]
      have hcs : ∀ k : Int, (objC ⟨4, [], [], noId, [], 0, [], y, k, [116]⟩ (.slice none 0 0) (.slice none 0 0)).toArray.size = 72 := fun k => by
        rw [List.size_toArray]
        unfold objC
        simp [u8s_size, noId_len, hy]
      have hc1 := fun k : Int => objC_all ⟨4, [], [], noId, [], 0, [], y, k, [116]⟩ none none 0 0 0 0
      have hfin : ∀ (k : Int) w', -9223372036854775808 ≤ k → k ≤ 9223372036854775807 → MkR w (.returned (.agg (objC ⟨4, [], [], noId, [], 0, [], y, k, [116]⟩ (.slice none 0 0) (.slice none 0 0)).toArray)) w' := fun k w' h1 h2 => MkR.bare _ rfl rfl ⟨by simp, by simp, by simp, by simp, by simp, by simp⟩ ⟨noId_len, hy, by simp, by simp, by simp, by simp, by simp, by simp, by simp, by simp, h1, h2⟩
      have hfa : ∀ (W : World), Below w5.heap.size w5 W → (ldvI ⟨g, 0, none⟩).run Tryd.prog W = .ok (.agg (u8s y)) W := fun W hW => run_ldvI_at (range_blk (hg2.below hW hg2.lt)) hy
      have hw4 : IntKind.i64.wrap (1 + K % 4) = 1 + K % 4 := IntWalk.i64_in _ (by omega)
      have hK0 := hKb.1
      have hK1 := hKb.2
      have hfinK := hfin K
      have hfin4 := hfin (1 + K % 4)
      have hbdK : Tryd.prog.built 41 [(0, .int .i64 4), (7, .agg (u8s y)), (8, .int .i64 K), (9, .string ⟨#[116]⟩)] = some _ := hbd K
      have hbd4 : Tryd.prog.built 41 [(0, .int .i64 4), (7, .agg (u8s y)), (8, .int .i64 (1 + K % 4)), (9, .string ⟨#[116]⟩)] = some _ := hbd (1 + K % 4)
      have hcsK := hcs K
      have hcs4 := hcs (1 + K % 4)
      have hc1K := hc1 K
      have hc14 := hc1 (1 + K % 4)
      clear hbd hcs hc1 hfin hK hKb hgI
      generalize (objC ⟨4, [], [], noId, [], 0, [], y, K, [116]⟩ (.slice none 0 0) (.slice none 0 0)).toArray = OK at *
      generalize (objC ⟨4, [], [], noId, [], 0, [], y, 1 + K % 4, [116]⟩ (.slice none 0 0) (.slice none 0 0)).toArray = O4 at *
      have hgI := hfa _ (Below.refl _ _)
      have main : 1 < x.refs.length ∨ ¬ 1 < x.refs.length := by omega
      rcases main with h1 | h1
      · have h1i : (1 : Int) < (x.refs.length : Int) := by omega
        obtain ⟨c1, f1⟩ := fB1 h1
        cases hc : ((c1.toNat : Int) == 250)
        all_goals
          go_wp2_with (first
            | ((with_reducible refine hk5.out.mono ?_); rintro e w6 ⟨rfl, hb6⟩
               have b6 := bthen b5 b5.size hb6
               have z6 := z5.below hb6 z5.lt
               have hgI6 := hfa _ hb6
               have r6 := fR _ (bthen hW5 hW5.size hb6)
               have q6 := f1 _ (bthen hW5 hW5.size hb6))
            | ((with_reducible refine lit_build4 hbdK ?_ ?_ ?_ ?_ ?_); rfl; rfl; rfl; rfl)
            | ((with_reducible refine lit_build4 hbd4 ?_ ?_ ?_ ?_ ?_); rfl; rfl; rfl; rfl)
            | (refine wpList_store_row rfl 41 (.tmp 6) (.tmp 162) rfl W2.heap.size OK rfl rfl _ _ z6 (hsz _ hcsK) (hz72.trans hcsK.symm) hc1K ?_)
            | (refine wpList_store_row rfl 41 (.tmp 6) (.tmp 162) rfl W2.heap.size O4 rfl rfl _ _ z6 (hsz _ hcs4) (hz72.trans hcs4.symm) hc14 ?_))
          first
            | refine bodyPost_ret (results_cell_row rfl _ _ W2.heap.size _ _ _ _ rfl (setRow_heap _ _ _ _ _ _ z6) Tryd.underlying41 rfl (hsz _ hcsK)) rfl ⟨hfinK _ (by omega) (by omega), below_setRow b6 hle2 _⟩
            | refine bodyPost_ret (results_cell_row rfl _ _ W2.heap.size _ _ _ _ rfl (setRow_heap _ _ _ _ _ _ z6) Tryd.underlying41 rfl (hsz _ hcs4)) rfl ⟨hfin4 _ (by omega) (by omega), below_setRow b6 hle2 _⟩
      · have h1i : ¬ (1 : Int) < (x.refs.length : Int) := by omega
        go_wp2_with (first
          | ((with_reducible refine hk5.out.mono ?_); rintro e w6 ⟨rfl, hb6⟩
             have b6 := bthen b5 b5.size hb6
             have z6 := z5.below hb6 z5.lt
             have hgI6 := hfa _ hb6
             have r6 := fR _ (bthen hW5 hW5.size hb6))
          | ((with_reducible refine lit_build4 hbdK ?_ ?_ ?_ ?_ ?_); rfl; rfl; rfl; rfl)
          | (refine wpList_store_row rfl 41 (.tmp 6) (.tmp 162) rfl W2.heap.size OK rfl rfl _ _ z6 (hsz _ hcsK) (hz72.trans hcsK.symm) hc1K ?_))
        refine bodyPost_ret (results_cell_row rfl _ _ W2.heap.size _ _ _ _ rfl (setRow_heap _ _ _ _ _ _ z6) Tryd.underlying41 rfl (hsz _ hcsK)) rfl ⟨hfinK _ (by omega) (by omega), below_setRow b6 hle2 _⟩
end Go.Proofs.YtnehabcopjgklaaDoor
/- The walk of layer 11's document: make1: a commit. No condition. -/
namespace Go.Proofs.YtnehabcopjgklaaDoor
open Go.RowKit
attribute [local go_sem ↓] ldvI_eq ldvS_eq stvI_eq ldvO_eq
set_option maxRecDepth 100000 in
set_option maxHeartbeats 8000000 in
theorem make_commit {w : World} {vm : Value} {es : List DiL} (h : DocSt w vm es) (ids : List Txt) (hok : ∀ x ∈ ids, x.length = 32) (hil : ids.length ≤ 1000) (vi : Value) (hi : Ids w vi ids) (x : SdL) (hx : SdOk w x) (hr : x.refs.length ≤ 10) (ht : x.text.length ≤ 300) (hk : (x.kind.toNat : Int) % 4 = 2) :
    Calls Tryd.prog 34 #[.agg #[vm], vi, .agg (sdC x).toArray] w fun e w' => MkR w e w' ∧ Below w.heap.size w w' := by
  have hzo := zeroObj
  have hz72 := zObj_size
  have hzone : zObj.all (·.oneCell') = true := objC_all zeroO none none 0 0 0 0
  have hsz : ∀ cs : Array Value, cs.size = 72 → (Tryd.prog.info? 41).map (·.size) = some cs.size := fun cs h => by rw [h]; exact szObj
  obtain ⟨W1, hW1⟩ : ∃ W1, w.alloc (.cells #[vm] 30) = W1 := ⟨_, rfl⟩
  have s1 : Blk W1 w.heap.size 30 #[vm] := by rw [← hW1]; exact Blk.new _ _ _
  have b1 : Below w.heap.size w W1 := by rw [← hW1]; exact (Below.refl _ _).alloc (Nat.le_refl _) _
  obtain ⟨W2, hW2⟩ : ∃ W2, W1.alloc (.cells (sdC x).toArray 80) = W2 := ⟨_, rfl⟩
  have d2 : Blk W2 W1.heap.size 80 (sdC x).toArray := by rw [← hW2]; exact Blk.new _ _ _
  have bb2 : Below W1.heap.size W1 W2 := by rw [← hW2]; exact (Below.refl _ _).alloc (Nat.le_refl _) _
  obtain ⟨W3, hW3⟩ : ∃ W3, W2.alloc (.cells zObj 41) = W3 := ⟨_, rfl⟩
  have z3 : Blk W3 W2.heap.size 41 zObj := by rw [← hW3]; exact Blk.new _ _ _
  have bb3 : Below W2.heap.size W2 W3 := by rw [← hW3]; exact (Below.refl _ _).alloc (Nat.le_refl _) _
  have b2 := bthen b1 b1.size bb2
  have b3 := bthen b2 b2.size bb3
  have s3 := (s1.below bb2 s1.lt).below bb3 (s1.below bb2 s1.lt).lt
  have d3 := d2.below bb3 d2.lt
  have hle2 : w.heap.size ≤ W2.heap.size := b2.size
  have hlt0 := s1.lt
  have hlt1 := d2.lt
  have hlt2 := z3.lt
  have fL := fun W (hW : Below W3.heap.size W3 W) => run_ldvS (s3.below hW s3.lt)
  have fK : ∀ W, Below W3.heap.size W3 W → W.cell? ⟨W1.heap.size, 0, none⟩ = some (.int .u8 x.kind.toNat) := fun W hW => (d3.below hW d3.lt).cell 0
  have fR : ∀ W, Below W3.heap.size W3 W → W.cell? ⟨W1.heap.size, 1, none⟩ = some x.vr := fun W hW => (d3.below hW d3.lt).cell 1
  have fT : ∀ W, Below W3.heap.size W3 W → W.cell? ⟨W1.heap.size, 2, none⟩ = some (.int .u16 x.time) := fun W hW => (d3.below hW d3.lt).cell 2
  have fX : ∀ W, Below W3.heap.size W3 W → W.cell? ⟨W1.heap.size, 3, none⟩ = some (.string (B x.text)) := fun W hW => (d3.below hW d3.lt).cell 3
  have k3 := fK W3 (Below.refl _ _)
  have hkb : (x.kind.toNat : Int) < 256 := by have := x.kind.toNat_lt; omega
  have hsI : (Tryd.prog.info? 24).map (·.size) = some (u8s noId).size := by rw [u8s_size, noId_len]; exact sz32
  have hrb := fun W => run_build (P := Tryd.prog) W _ _ _ built_zObj
  have hzI := zeroIdV
  have hZ32 : (u8s noId).size = 32 := by rw [u8s_size, noId_len]
  obtain ⟨A, cap, hvr, hcap1, hcap2, hat⟩ := hx.refs
  rw [hvr] at fR
  have htm := hx.time
  have htw : IntKind.i64.wrap (x.time : Int) = (x.time : Int) := IntWalk.i64_in _ (by omega)
  have htu : IntKind.u32.wrap (x.time : Int) = (x.time : Int) := by
    unfold IntKind.wrap
    simp [IntKind.bits, IntKind.signed]
    omega
  have t3 := fT W3 (Below.refl _ _)
  have l3 := fL W3 (Below.refl _ _)
  have hp2 := Lib.hid (pick_calls (h.below b3) ids hok hil vi (hi.below b3) x.time (by omega) 2)
  have hfz : ∀ w', MkR w (.returned (.agg zObj)) w' := fun w' => MkR.bare zeroO rfl rfl zeroO_small zeroO_ok
  have hpk := fun (c : UInt8) W (hW : Below W3.heap.size W3 W) => (pick_calls (h.below (bthen b3 b3.size hW)) ids hok hil vi (hi.below (bthen b3 b3.size hW)) c.toNat (by have := c.toNat_lt; omega) 3)
  have fBk : ∀ k, k < x.refs.length → ∃ (ga oa : Nat) (c : UInt8), A = some ⟨ga, oa, none⟩ ∧ ∀ W, Below W3.heap.size W3 W → W.cell? ⟨ga, oa + k, none⟩ = some (.int .u8 c.toNat) := fun k hk => by
    obtain ⟨ga, oa, rfl, hga, hca⟩ := hat (by omega)
    refine ⟨ga, oa, x.refs[k], rfl, fun W hW => ?_⟩
    have := rangeAt_below (hca k _ (List.getElem?_eq_getElem hk)) hga (bthen b3 b3.size hW) 0 _ rfl
    simpa [byC, u8v] using this
  have htx := hx.text
  clear h hi hx fK hok hat hvr
  generalize (sdC x).toArray = SC at *
  obtain ⟨ZO, hZO⟩ : ∃ ZO, zObj = ZO := ⟨_, rfl⟩
  rw [hZO] at hzo hz72 hzone hW3 z3 hrb hfz
  go_enter Tryd.func34, Tryd.ntmps34
  go_upto_region 13 with (first
    | ((with_reducible refine hp2.out.mono ?_); rintro e w4 ⟨⟨y, b, rfl, hy⟩, hb4⟩
       have b4 := bthen b3 b3.size hb4
       have z4 := z3.below hb4 z3.lt
       have hy32 : (u8s y).size = 32 := by rw [u8s_size, hy]
       have hyo := u8s_one y)
    | ((with_reducible refine lit_new 24 (.tmp 11) (.tmp 72) (u8s y) 32 sz32 hy32 hyo _ ?_ ?_ ?_ ?_)
       · first | exact hZ32 | rfl
       · rfl
       · rfl
       intro W5 n5 hbl5
       have b5 := bthen b4 b4.size hbl5
       have b35 := bthen hb4 hb4.size hbl5
       have z5 := z4.below hbl5 z4.lt
       have ln5 := run_ldvI_at (range_blk n5) hy))
  cases b
  · clear hpk fBk fL fR
    go_wp2_with (first
      | (refine wpList_store_row rfl 41 (.tmp 6) (.tmp 76) rfl W2.heap.size ZO rfl rfl _ _ z5 (hsz _ hz72) rfl hzone ?_))
    refine bodyPost_ret (results_cell_row rfl _ _ W2.heap.size _ _ _ _ rfl (setRow_heap _ _ _ _ _ _ z5) Tryd.underlying41 rfl (hsz _ hz72)) rfl ⟨hfz _, below_setRow b5 hle2 _⟩
  · have hbd := built_commit y hy x.time x.text
    have hcs : (objC ⟨3, [], [], y, [], x.time, x.text, noId, 0, []⟩ (.slice none 0 0) (.slice none 0 0)).toArray.size = 72 := by
      rw [List.size_toArray]
      unfold objC
      simp [u8s_size, noId_len, hy]
    have hc1 := objC_all ⟨3, [], [], y, [], x.time, x.text, noId, 0, []⟩ none none 0 0 0 0
    have t5 := fT _ b35
    have x5 := fX _ b35
    obtain ⟨OC, hOC⟩ : ∃ OC, (objC ⟨3, [], [], y, [], x.time, x.text, noId, 0, []⟩ (.slice none 0 0) (.slice none 0 0)).toArray = OC := ⟨_, rfl⟩
    rw [hOC] at hbd hcs hc1
    have hOC := Lib.hid hOC
    go_wp2_with (first
      | ((with_reducible refine lit_build4 hbd ?_ ?_ ?_ ?_ ?_); rfl; rfl; rfl; rfl)
      | ((with_reducible refine lit_new 41 (.tmp 13) (.tmp 83) OC 72 szObj hcs hc1 _ ?_ ?_ ?_ ?_)
         · first | exact hz72 | rfl
         · rfl
         · rfl
         intro W6 n6 hbl6
         have b36 := bthen b35 b35.size hbl6))
    have hgs : W3.heap.size ≤ W5.heap.size := b35.size
    have hO6 : ObjB W6 W5.heap.size ⟨3, [], [], y, [], x.time, x.text, noId, 0, []⟩ (.slice none 0 0) (.slice none 0 0) := ⟨by rw [hOC.out]; exact n6, hy, noId_len⟩
    clear n6 hbd hcs hc1 t5 x5 ln5 n5 hp2 l3 t3 z5 z4 hrb hfz fT fX
    go_loopw [14] (fun vi wr => ∃ (k : Nat) (acc : List Txt) (vp : Value), vi = .int .i64 k ∧ k ≤ x.refs.length ∧ k ≤ 4 ∧ acc.length ≤ k ∧ Hid (∀ x ∈ acc, x.length = 32) ∧ ObjB wr W5.heap.size ⟨3, [], [], y, acc, x.time, x.text, noId, 0, []⟩ (.slice none 0 0) vp ∧ OwnIds wr W3.heap.size vp acc ∧ Below W3.heap.size W3 wr) (fun vi _ => x.refs.length - (intOf vi).toNat)
    case atStart => exact ⟨0, [], _, rfl, by omega, by omega, by simp, Lib.hid (fun x hx => by simp at hx), hO6, World.ownsRow_nil _ _ _ _, b36⟩
    case round =>
      obtain ⟨k, acc, vp, rfl, hk, hk4, hal, hall, hO, hown, hbel⟩ := hrel
      have r6 := fR _ hbel
      by_cases hlt : k < x.refs.length
      · have hki : (k : Int) < (x.refs.length : Int) := by omega
        by_cases hk5 : k < 4
        · have hki4 : (k : Int) < 4 := by omega
          obtain ⟨ga, oa, c, rfl, fB⟩ := fBk k hlt
          have hcb : (c.toNat : Int) < 256 := by have := c.toNat_lt; omega
          have hcw : IntKind.i64.wrap (c.toNat : Int) = (c.toNat : Int) := IntWalk.i64_in _ (by omega)
          have hpk := hpk c
          clear fBk
          go_wp2
          refine wp_region_go0 15 (by kernel_rfl) (by kernel_rfl) (by kernel_rfl) (by kernel_rfl) ?_
          simp only [exSp]
          iterate 15 apply Exists.intro
          repeat
            first
              | ((with_reducible apply lx0_ex)
                 · (go_simp; done)
                 apply Exists.intro
                 apply And.intro
                 · apply Eq.refl
                 apply And.intro
                 · intro W hW hD
                   have hW2 := hbel.trans (hW.mono hbel.size)
                   have q0 := fL W hW2
                   have q1 := fR W hW2
                   have q2 := fB W hW2
                   go_simp
                   rfl
                 simp only [Act.put, List.setIfInBounds_toArray, List.set_cons_zero, List.set_cons_succ])
              | ((with_reducible apply lx0_pass)
                 · (first | rfl | (go_simp; done))
                 · apply Eq.refl
                 simp only [Act.put, List.setIfInBounds_toArray, List.set_cons_zero, List.set_cons_succ])
              | ((with_reducible refine lx0_new (fun v _ _ => PickV v) rfl ?_ (stab_pure PickV) ?_ ?_)
                 · (go_simp; done)
                 · intro W hW hD
                   have hW2 := hbel.trans (hW.mono hbel.size)
                   unfold doesAt Oper.wp execOp
                   go_simp
                   (with_reducible refine (hpk W hW2).mono ?_)
                   rintro e w' ⟨⟨y, b, rfl, hy⟩, hb⟩
                   exact ⟨hb, fun _ _ _ _ => ⟨y, b, rfl, hy⟩⟩
                 intro v
                 simp only [Act.put, List.setIfInBounds_toArray, List.set_cons_zero, List.set_cons_succ])
              | (first | (with_reducible apply lx_move') | (with_reducible apply lx_assign')
                 · apply Eq.refl
                 apply Exists.intro
                 apply And.intro
                 · (go_simp; rfl)
                 simp only [Act.put, List.setIfInBounds_toArray, List.set_cons_zero, List.set_cons_succ])
              | ((with_reducible apply lx_extr')
                 · apply Eq.refl
                 apply Exists.intro
                 apply And.intro
                 · (go_simp; rfl)
                 refine ⟨fun W hW hD => ?_, ?_⟩
                 · obtain ⟨F, y, b, rfl, hy⟩ := hD.at 0 rfl (by kernel_rfl)
                   exact ⟨_, rfl, by simp⟩
                 simp only [Act.put, List.setIfInBounds_toArray, List.set_cons_zero, List.set_cons_succ])
              | ((with_reducible apply lx_al 24 (u8s noId) zeroIdV)
                 · apply Eq.refl
                 intro v
                 simp only [Act.put, List.setIfInBounds_toArray, List.set_cons_zero, List.set_cons_succ])
              | ((with_reducible apply lx_st' 12 24 (u8s noId) hsI (by kernel_rfl))
                 · exact rfl
                 · apply Eq.refl
                 apply Exists.intro
                 apply Exists.intro
                 apply And.intro
                 · (go_simp; rfl)
                 apply And.intro
                 · (go_simp; rfl)
                 refine ⟨?_, fun W hW hD => ?_, ?_⟩
                 · first | exact List.Mem.head _ | exact List.Mem.tail _ (List.Mem.head _) | exact List.Mem.tail _ (List.Mem.tail _ (List.Mem.head _)) | exact List.Mem.tail _ (List.Mem.tail _ (List.Mem.tail _ (List.Mem.head _)))
                 · obtain ⟨F, y, b, rfl, hy⟩ := hD.at 1 rfl (by kernel_rfl)
                   exact ⟨_, rfl, by rw [u8s_size, u8s_size, hy, noId_len], u8s_one y⟩)
          refine lx0_nil ?_ fun w7 hW7 hD7 => ?_
          · exact (by simp [stsOf])
          obtain ⟨_, y7, b, rfl, hy7⟩ := hD7 _ (.tail _ (.tail _ (.head _)))
          obtain ⟨_, g, cs, rfl, hcs, hg1, _, hg2⟩ := hD7 _ (.head _)
          obtain rfl : u8s y7 = cs := by injection hcs
          clear hcs hD7
          simp only [extr2_0, extr2_1]
          have b7 := hbel.trans (hW7.mono hbel.size)
          have own7 := own_below hown hW7
          have hO7 := hO.below hW7
          have hgI := run_ldvI_at (range_blk hg2) hy7
          clear hpk fB hcw
          cases b
          · go_wp2
            go_roundw
            case rel => exact ⟨k + 1, acc, vp, by go_num, by omega, by omega, by omega, hall, hO7, own7, b7⟩
            case measure => simp [intOf]; omega
          · obtain ⟨A3, c3, rfl⟩ := own_form' hown
            have hpc : w7.cell? ⟨W5.heap.size, 35, none⟩ = some (.slice A3 acc.length c3) := hO7.pars
            by_cases ha : acc.length = k
            · have hai : ((acc.length : Int) == (k : Int)) = true := by simp; omega
              clear ha
              have hid32 : (idC y7).toArray.size = 32 := by rw [List.size_toArray, idC_len hy7]
              have hidl : (idC y7).toArray.size = 1 * 32 := hid32
              have hid1 : ∀ u ∈ (idC y7).toArray.toList, u.oneCell' = true := by rw [List.toList_toArray]; exact idC_one y7
              have hXC : (idC y7).toArray = u8s y7 := by simp [idC]
              rw [hXC] at hid32 hidl hid1
              have hall2 : Hid (∀ z ∈ acc ++ [y7], z.length = 32) := Lib.hid fun z hz => by
                rcases List.mem_append.1 hz with hz | hz
                · exact hall.out z hz
                · rw [List.mem_singleton.1 hz]; exact hy7
              have hrow : Hid (rowsOf idC (acc ++ [y7]) = rowsOf idC acc ++ (u8s y7).toList) := Lib.hid (by rw [rowsOf_append, rowsOf_one]; rfl)
              have hkl : acc.length + 1 ≤ 9223372036854775807 := by omega
              have hm2 : (acc.length + 1) * 32 ≤ 140737488355328 := by omega
              have sz7 := b7.size
              have hgO := own_blk_ne own7 hO7.blk (by decide)
              clear hXC
              generalize u8s y7 = XC at *
              go_wp2_with (first
                | ((with_reducible refine lit_slice1 (.tmp 117) Tryd.idsTy XC hid32 (by omega) ?_ ?_); rfl)
                | (at_builtin
                   (with_reducible refine lit_append_new (.tmp 116) (.tmp 118) 1 _ Tryd.idsTy own7 XC hidl hid1 hkl hm2 sz7 ?_ ?_ ?_); rfl; rfl
                   intro v8 w8 hv8 hb8 hg8 hn8
                   have b8 := b7.trans hb8
                   have hO8 : ObjB w8 W5.heap.size ⟨3, [], [], y, acc, x.time, x.text, noId, 0, []⟩ (.slice none 0 0) (.slice A3 acc.length c3) := ⟨hO7.blk.grown hg8 hgO, hO7.tr, hO7.ta⟩
                   have hf8 := hO8.fr 35
                   have hp8 := hO8.pars
                   obtain ⟨A8, c8, rfl⟩ := own_form' hv8
                   clear hg8 hn8))
              have hne8 := own_blk_ne hv8 hO8.blk (by decide)
              have own9 : OwnIds (w8.setCell ⟨W5.heap.size, 35, none⟩ (.slice A8 (acc.length + 1) c8)) W3.heap.size (.slice A8 (acc.length + 1) c8) (acc ++ [y7]) := by
                unfold OwnIds
                rw [List.length_append, hrow.out]
                exact own_same hv8 fun k hk => Below.heap_setCell _ _ _ _ (fun e => hne8 (by rw [hk]; exact congrArg some e.symm))
              go_roundw
              case rel => exact ⟨k + 1, acc ++ [y7], _, by go_num, by omega, by omega, by simp; omega, hall2, hO8.setPars _ _, own9, b8.setCell hgs _⟩
              case measure => simp [intOf]; omega
            · have hai : ((acc.length : Int) == (k : Int)) = false := by rw [beq_eq_false_iff_ne]; omega
              go_wp2
              go_roundw
              case rel => exact ⟨k + 1, acc, _, by go_num, by omega, by omega, by omega, hall, hO7, own7, b7⟩
              case measure => simp [intOf]; omega
        · have hki4 : ¬ (k : Int) < 4 := by omega
          clear fBk hpk
          obtain ⟨A3, c3, rfl⟩ := own_form' hown
          have hz9 := z3.below hbel z3.lt
          have hokO : ObjOk ⟨3, [], [], y, acc, x.time, x.text, noId, 0, []⟩ := ⟨hy, noId_len, by simp, hall.out, by simp, htx, by simp, by show x.time < _; omega, by simp, by simp, by simp, by simp⟩
          have ld := run_ldvO hO hokO
          have hcs : (objC ⟨3, [], [], y, acc, x.time, x.text, noId, 0, []⟩ (.slice none 0 0) (.slice A3 acc.length c3)).toArray.size = 72 := by rw [List.size_toArray]; exact objC_len hokO _ _
          have hc1 := objC_all ⟨3, [], [], y, acc, x.time, x.text, noId, 0, []⟩ none A3 0 0 acc.length c3
          have hfin : Hid (∀ w', OwnIds w' W3.heap.size (.slice A3 acc.length c3) acc → MkR w (.returned (.agg (objC ⟨3, [], [], y, acc, x.time, x.text, noId, 0, []⟩ (.slice none 0 0) (.slice A3 acc.length c3)).toArray)) w') := Lib.hid fun w' ho => ⟨_, none, A3, 0, c3, rfl, ⟨by simp, by simp, by show acc.length ≤ _; omega, by simp, by show x.text.length ≤ _; omega, by simp⟩, hokO, World.ownsRow_nil _ _ _ _, own_low' ho b3.size⟩
          have b9 := bthen b3 b3.size hbel
          generalize (objC ⟨3, [], [], y, acc, x.time, x.text, noId, 0, []⟩ (.slice none 0 0) (.slice A3 acc.length c3)).toArray = OR at *
          go_wp2_with (first
            | (refine wpList_store_row rfl 41 (.tmp 6) (.tmp 121) rfl W2.heap.size OR rfl rfl _ _ hz9 (hsz _ hcs) (hz72.trans hcs.symm) hc1 ?_))
          refine bodyPost_ret (results_cell_row rfl _ _ W2.heap.size _ _ _ _ rfl (setRow_heap _ _ _ _ _ _ hz9) Tryd.underlying41 rfl (hsz _ hcs)) rfl ⟨hfin.out _ (own_row hown hlt2 OR), below_setRow b9 hle2 _⟩
      · have hki : ¬ (k : Int) < (x.refs.length : Int) := by omega
        clear fBk hpk
        obtain ⟨A3, c3, rfl⟩ := own_form' hown
        have hz9 := z3.below hbel z3.lt
        have hokO : ObjOk ⟨3, [], [], y, acc, x.time, x.text, noId, 0, []⟩ := ⟨hy, noId_len, by simp, hall.out, by simp, htx, by simp, by show x.time < _; omega, by simp, by simp, by simp, by simp⟩
        have ld := run_ldvO hO hokO
        have hcs : (objC ⟨3, [], [], y, acc, x.time, x.text, noId, 0, []⟩ (.slice none 0 0) (.slice A3 acc.length c3)).toArray.size = 72 := by rw [List.size_toArray]; exact objC_len hokO _ _
        have hc1 := objC_all ⟨3, [], [], y, acc, x.time, x.text, noId, 0, []⟩ none A3 0 0 acc.length c3
        have hfin : Hid (∀ w', OwnIds w' W3.heap.size (.slice A3 acc.length c3) acc → MkR w (.returned (.agg (objC ⟨3, [], [], y, acc, x.time, x.text, noId, 0, []⟩ (.slice none 0 0) (.slice A3 acc.length c3)).toArray)) w') := Lib.hid fun w' ho => ⟨_, none, A3, 0, c3, rfl, ⟨by simp, by simp, by show acc.length ≤ _; omega, by simp, by show x.text.length ≤ _; omega, by simp⟩, hokO, World.ownsRow_nil _ _ _ _, own_low' ho b3.size⟩
        have b9 := bthen b3 b3.size hbel
        generalize (objC ⟨3, [], [], y, acc, x.time, x.text, noId, 0, []⟩ (.slice none 0 0) (.slice A3 acc.length c3)).toArray = OR at *
        go_wp2_with (first
          | (refine wpList_store_row rfl 41 (.tmp 6) (.tmp 121) rfl W2.heap.size OR rfl rfl _ _ hz9 (hsz _ hcs) (hz72.trans hcs.symm) hc1 ?_))
        refine bodyPost_ret (results_cell_row rfl _ _ W2.heap.size _ _ _ _ rfl (setRow_heap _ _ _ _ _ _ hz9) Tryd.underlying41 rfl (hsz _ hcs)) rfl ⟨hfin.out _ (own_row hown hlt2 OR), below_setRow b9 hle2 _⟩
end Go.Proofs.YtnehabcopjgklaaDoor
/- Laws for regions by XGo: append of one element that is laid amid the region. No condition; no program. -/
namespace Go.Proofs.YtnehabcopjgklaaDoor
open Go.RowKit
/-- One element that was laid. -/
def sliR (e : TypeId) (Φ : Array Value → Prop) (v : Value) (F : Foot) (w : World) : Prop := ∃ g cs, v = .slice (some ⟨g, 0, none⟩) 1 1 ∧ F g ∧ Blk w g e cs ∧ Φ cs
theorem sliR_stab (e : TypeId) (Φ : Array Value → Prop) (v : Value) : Stab (sliR e Φ v) := fun _ _ _ _ hf ha ⟨g, cs, h1, h2, h3, h4⟩ => ⟨g, cs, h1, hf g h2, (ha.same g h3.lt h2).trans h3, h4⟩
/-- A slice that was grown. -/
def appR (B : Nat) (e : TypeId) (size n : Nat) (Ψ : List Value → Prop) (v : Value) (F : Foot) (w : World) : Prop := ∃ xs, Ψ xs ∧ ownR B e size n xs v F w
theorem appR_stab (B : Nat) (e : TypeId) (size n : Nat) (Ψ : List Value → Prop) (v : Value) : Stab (appR B e size n Ψ v) := fun F F' w w' hf ha ⟨xs, h1, h2⟩ => ⟨xs, h1, ownR_stab B e size n xs v F F' w w' hf ha h2⟩
section
variable {P : Program} {ops : Array Oper} {W : World} {w0 : World} {rows : List (Option Nat)} {pres : Pres} {sps : List Sp} {E : Act → Facts → Prop} {i : Nat} {o : Oper} {rest : List Oper} {s : Sp} {ss : List Sp} {a : Act} {D : Facts} {w : World}
theorem does_slice1 {post : Value → World → Prop} {d : Option Tmp} {rt : TypeId} {pos : String} {af : Array Edge} {gd : Option (Nat × Bool)} {x : Operand} {t e : TypeId} {z : Value} {size bytes : Nat} (hT : SliceTy P t e z size bytes) (cs : Array Value) (hcs : cs.size = size) (hsm : size ≤ 1000) (hx : a.eval x = .agg cs)
    (h : post (.slice (some ⟨w.heap.size, 0, none⟩) 1 1) (w.alloc (.cells cs e))) : doesAt P { dst := d, op := .buildSlice t 1 #[(0, x)], type := rt, pos := pos, after := af, guard := gd } a w post := by
  have e1 : ((#[(0, x)] : Array (Nat × Operand)).map fun (i, x) => (i, a.eval x)) = #[(0, .agg cs)] := by simp [hx]
  have hrun : (Instr.buildSlice t 1 #[(0, .agg cs)]).run P w = .ok (.slice (some ⟨w.heap.size, 0, none⟩) 1 1) (w.alloc (.cells cs e)) := by
    obtain ⟨it, hi, hz, hs, hb⟩ := hT.hi
    have h0 := hT.hsz
    refine run_buildSlice w _ _ 1 _ _ it _ hT.ht hi hz (by rw [hs]; omega) (by rw [hs]; omega) ?_
    rw [hs]
    have := Great.fill_whole (s := size) (by omega) [Value.agg cs] ((Array.range (1 * size)).map (z.cells[· % z.cells.size]!)) (by
      intro v hv
      simp at hv
      subst hv
      exact hcs) (by simp)
    simpa [Value.cells] using this
  refine does_val (v := .slice (some ⟨w.heap.size, 0, none⟩) 1 1) (w' := w.alloc (.cells cs e)) ?_ h
  unfold execOp
  simp only [Sem.run_bind, e1, hrun, Result.andThen_ok]
  rfl
theorem lx_slice1 {d : Option Tmp} {rt : TypeId} {pos : String} {af : Array Edge} {x : Operand} {t e : TypeId} {z : Value} {size bytes : Nat} (hT : SliceTy P t e z size bytes) (Φ : Array Value → Prop) (hsm : size ≤ 1000) (hs : s = .new fun _ => sliR e Φ)
    (h : ∃ v, a.eval x = v ∧ (∀ w, Far rows w0 w → Have ops pres i D w → ∃ cs : Array Value, v = .agg cs ∧ cs.size = size ∧ Φ cs) ∧ ∀ v, LxL P ops w0 rows pres sps E (i + 1) rest ss (a.put d v) ((i, sliR e Φ v) :: D)) :
    LxL P ops w0 rows pres sps E i ({ dst := d, op := .buildSlice t 1 #[(0, x)], type := rt, pos := pos, after := af, guard := none } :: rest) (s :: ss) a D := by
  obtain ⟨_, rfl, hc, h⟩ := h
  refine lx_new (fun _ => sliR e Φ) hs (by simp [Region.wanted]) (fun _ => sliR_stab e Φ) (fun w hw hh => ?_) h
  obtain ⟨cs, hx, hcs, hp⟩ := hc w hw hh
  refine does_slice1 hT cs hcs hsm hx ⟨(Below.refl _ _).alloc (Nat.le_refl _) _, fun F _ _ h3 => ⟨w.heap.size, cs, rfl, h3 _ (Nat.le_refl _) (by rw [size_alloc']; omega), Blk.new _ _ _, hp⟩⟩
/-- append(s, x), x one element that was laid amid the region; s was there. -/
theorem lx_append1 {d : Option Tmp} {rt : TypeId} {pos : String} {af : Array Edge} {sl x : Operand} {t e : TypeId} {z : Value} {size bytes : Nat} (hT : SliceTy P t e z size bytes) (B : Nat) (ve : Value) (n : Nat) (xs : List Value) (Ψ : List Value → Prop) (h63 : n + 1 ≤ 9223372036854775807) (hby : (n + 1) * bytes ≤ 140737488355328)
    (hB : B ≤ w0.heap.size) (hp : (i, ve.ownBlock, fun w => World.ownsRow w B e size ve n xs) ∈ pres) (hs : s = .wr fun _ => appR B e size (n + 1) Ψ)
    (h : ∃ v1 v2, a.eval sl = v1 ∧ a.eval x = v2 ∧ v1 = ve ∧ (∀ w, Far rows w0 w → Have ops pres i D w → ∃ g cs, v2 = .slice (some ⟨g, 0, none⟩) 1 1 ∧ Blk w g e cs ∧ cs.size = size ∧ (∀ u ∈ cs.toList, u.oneCell' = true) ∧ Ψ (xs ++ cs.toList)) ∧ ∀ v, LxL P ops w0 rows pres sps E (i + 1) rest ss (a.put d v) ((i, appR B e size (n + 1) Ψ v) :: D)) :
    LxL P ops w0 rows pres sps E i ({ dst := d, op := .call { callee := .builtin .append, args := #[sl, x], argTypes := #[t, t] }, type := rt, pos := pos, after := af, guard := none } :: rest) (s :: ss) a D := by
  obtain ⟨_, _, rfl, rfl, hv, hc, h⟩ := h
  refine lx_wr ve.ownBlock _ (fun _ => appR B e size (n + 1) Ψ) hs hp (by simp [Region.wanted]) (fun _ => appR_stab B e size (n + 1) Ψ) (fun w hw hh hown => ?_) h
  obtain ⟨g, cs, hx, hk, hcs, h1, hps⟩ := hc w hw hh
  obtain ⟨it, i1, i2, i3, i4⟩ := hT.hi
  have hbase : B ≤ w.heap.size := Nat.le_trans hB hw.size
  obtain ⟨v', w', hrun, hown', hg, _, hat⟩ := run_append_own_at (P := P) w B t rt e it z size bytes hT.ht i1 i2 i3 i4 hT.hzs hT.hsz ve n xs hown ⟨g, 0, none⟩ 1 1 cs.toList (by simp [hcs]) (news_of_blk hk) h1 (by simp only [maxLen]; omega) hby hbase
  refine does_val (v := v') (w' := w') ?_ ⟨hg, fun F _ hF2 hF3 => ⟨_, hps, hown', fun k hk => ?_⟩⟩
  · unfold execOp
    simp only [resolve, invoke, builtin, Sem.run_bind, Sem.run_pure, Result.andThen_ok, List.map_toArray, List.map_cons, List.map_nil, hv, hx, hrun]
  rcases hat with hat | hat
  · rw [hat] at hk; exact hF2 k hk.symm
  · rw [hat] at hk
    injection hk with hk
    subst hk
    exact hF3 _ (Nat.le_refl _) (World.ownsRow.lt hown' _ hat).2
theorem does_put {post : Value → World → Prop} {rt : TypeId} {pos : String} {af : Array Edge} {gd : Option (Nat × Bool)} {x y : Operand} {T T' : TypeId} {g off n c : Nat} {A : Option Addr} {cs : Array Value} (hsz : ∀ w, (sizeOf T).run P w = .ok 1 w) (hx : a.eval x = .pointer (some ⟨g, off, none⟩)) (hy : a.eval y = .slice A n c) (hk : Blk w g T' cs) (ho : off < cs.size)
    (h : post undef (w.setCell ⟨g, off, none⟩ (.slice A n c))) : doesAt P { dst := none, op := .store T x y, type := rt, pos := pos, after := af, guard := gd } a w post := by
  have hf := hk.frozen off
  have hc : w.cell? ⟨g, off, none⟩ = some cs[off] := by rw [hk.cell, Array.getElem?_eq_getElem ho]
  unfold doesAt Oper.wp execOp
  simp only [hx, hy]
  go_simp
  exact ⟨_, h⟩
/-- A slice is put into a cell of a block that was there. -/
def putR (g off : Nat) (T : TypeId) (cs : Array Value) (ρ : List Value) (_ : Value) (F : Foot) (w : World) : Prop := F g ∧ Blk w g T (cs.setIfInBounds off (ρ.getD 1 undef))
theorem putR_stab (g off : Nat) (T : TypeId) (cs : Array Value) (ρ : List Value) (v : Value) : Stab (putR g off T cs ρ v) := fun _ _ _ _ hf ha ⟨h1, h2⟩ => ⟨hf g h1, (ha.same g h2.lt h1).trans h2⟩
theorem lx_put {rt : TypeId} {pos : String} {af : Array Edge} {x y : Operand} {T : TypeId} (g off : Nat) (cs : Array Value) (T' : TypeId) (hsz : ∀ w, (sizeOf T).run P w = .ok 1 w) (ho : off < cs.size) (hp : (i, some g, fun w => Blk w g T' cs) ∈ pres) (hs : s = .wr (putR g off T' cs))
    (h : ∃ v1 v2, a.eval x = v1 ∧ a.eval y = v2 ∧ v1 = .pointer (some ⟨g, off, none⟩) ∧ (∀ w, Far rows w0 w → Have ops pres i D w → ∃ A n c, v2 = .slice A n c) ∧ LxL P ops w0 rows pres sps E (i + 1) rest ss a ((i, fun F w => F g ∧ Blk w g T' (cs.setIfInBounds off v2)) :: D)) :
    LxL P ops w0 rows pres sps E i ({ dst := none, op := .store T x y, type := rt, pos := pos, after := af, guard := none } :: rest) (s :: ss) a D := by
  obtain ⟨_, _, rfl, rfl, hx, hc, h⟩ := h
  refine lx_wr (some g) _ (putR g off T' cs) hs hp (by simp [Region.wanted]) (putR_stab g off T' cs) (fun w hw hh hk => ?_) (fun v => h)
  obtain ⟨A, n, c, hy⟩ := hc w hw hh
  refine does_put hsz hx hy hk ho ⟨⟨rfl, rfl, rfl, by simp, fun k hk2 hn => Below.heap_setCell _ _ _ _ fun e => hn (by rw [e])⟩, fun F _ h2 _ => ⟨h2 g rfl, ?_⟩⟩
  show Blk _ g T' (cs.setIfInBounds off (a.eval y))
  rw [hy]
  exact hk.set_ off _
end
/-- A struct that is written out. -/
def aggR (Φ : Array Value → Prop) (v : Value) : Prop := ∃ cs, v = .agg cs ∧ Φ cs
section
variable {P : Program} {ops : Array Oper} {w0 : World} {rows : List (Option Nat)} {pres : Pres} {sps : List Sp} {E : Act → Facts → Prop} {i : Nat} {rest : List Oper} {s : Sp} {ss : List Sp} {a : Act} {D : Facts} {w : World}
theorem does_build {post : Value → World → Prop} {d : Option Tmp} {T rt : TypeId} {pos : String} {af : Array Edge} {gd : Option (Nat × Bool)} {fs : Array (Nat × Operand)} (vals : List (Nat × Value)) (cs : Array Value) (hb : P.built T vals = some cs)
    (hv : (fs.map fun (i, x) => (i, a.eval x)).toList = vals) (h : post (.agg cs) w) : doesAt P { dst := d, op := .build T fs, type := rt, pos := pos, after := af, guard := gd } a w post := by
  unfold doesAt
  exact wp_build _ _ rfl (by rw [hv, hb]; rfl) (by rw [hv, hb]; exact ⟨_, rfl, h⟩)
theorem lx_build3 {d : Option Tmp} {T rt : TypeId} {pos : String} {af : Array Edge} {i0 i1 i2 : Nat} {x0 x1 x2 : Operand} (Φ : Array Value → Prop) (hs : s = .new fun _ v _ _ => aggR Φ v)
    (h : ∃ v0 v1 v2, a.eval x0 = v0 ∧ a.eval x1 = v1 ∧ a.eval x2 = v2 ∧ (∀ w, Far rows w0 w → Have ops pres i D w → ∃ cs, P.built T [(i0, v0), (i1, v1), (i2, v2)] = some cs ∧ Φ cs) ∧ ∀ v, LxL P ops w0 rows pres sps E (i + 1) rest ss (a.put d v) ((i, fun _ _ => aggR Φ v) :: D)) :
    LxL P ops w0 rows pres sps E i ({ dst := d, op := .build T #[(i0, x0), (i1, x1), (i2, x2)], type := rt, pos := pos, after := af, guard := none } :: rest) (s :: ss) a D := by
  obtain ⟨v0, v1, v2, h0, h1, h2, hc, h⟩ := h
  refine lx_new (fun _ v _ _ => aggR Φ v) hs (by simp [Region.wanted]) (fun _ => stab_pure (aggR Φ)) (fun w hw hh => ?_) h
  obtain ⟨cs, hb, hp⟩ := hc w hw hh
  exact does_build [(i0, v0), (i1, v1), (i2, v2)] cs hb (by simp [h0, h1, h2]) ⟨Below.refl _ _, fun _ _ _ _ => ⟨cs, rfl, hp⟩⟩
end
/-- A slice and a block, both the call's own, both written. -/
theorem preOk2 {w : World} {B : Nat} {e T : TypeId} {size n g i j : Nat} {v : Value} {xs : List Value} {cs : Array Value} (h1 : w.ownsRow B e size v n xs) (h2 : Blk w g T cs) (hne : e ≠ T) :
    PreOk w [(i, v.ownBlock, fun w => World.ownsRow w B e size v n xs), (j, some g, fun w => Blk w g T cs)] := by
  have hd := own_blk_ne h1 h2 hne
  refine PreOk.cons (PreOk.cons (PreOk.nil w) (fun q hq => by simp at hq) (fun k hk => ?_) h2 fun w' _ hs => ?_) (fun q hq k hk => ?_) (fun k hk => (World.ownsRow.lt h1 k hk).2) h1 fun w' _ hs => own_same h1 hs
  · injection hk with hk; subst hk; exact h2.lt
  · exact (hs g rfl).trans h2
  · rw [List.mem_singleton] at hq
    subst hq
    intro e
    injection e with e
    subst e
    exact hd hk.symm
theorem rows2 {B i j g : Nat} {v : Value} {p q : World → Prop} (h1 : ∀ k, v.ownBlock = some k → B ≤ k) (h2 : B ≤ g) : ∀ k, some k ∈ rowsOfP [(i, v.ownBlock, p), (j, some g, q)] → B ≤ k := fun k hk => by
  simp only [rowsOfP, List.map_cons, List.map_nil, List.mem_cons, List.not_mem_nil, or_false] at hk
  rcases hk with hk | hk
  · exact h1 k hk.symm
  · injection hk with hk; omega
end Go.Proofs.YtnehabcopjgklaaDoor
/- The walk of layer 11's document: make1: a tree. No condition. -/
namespace Go.Proofs.YtnehabcopjgklaaDoor
open Go.RowKit
attribute [local go_sem ↓] ldvI_eq ldvS_eq stvI_eq ldvO_eq
def NameV (v : Value) : Prop := ∃ c : UInt8, v = .string (B [c])
def EntV (K : Int) (y : Txt) (v : Value) : Prop := ∃ c : UInt8, v = .agg (entC ⟨[c], K, y⟩).toArray
structure EntS (e : EntL) : Prop where
  id : e.id.length = 32
  name : e.name.length = 1
  k0 : 0 ≤ e.kind
  k1 : e.kind ≤ 255
theorem EntS.ok {e : EntL} (h : EntS e) : EntOk e := ⟨h.id, by have := h.name; omega, by have := h.k0; omega, by have := h.k1; omega⟩
def oT : ObjL := ⟨2, [], [], noId, [], 0, [], noId, 0, []⟩
def oTC (ve : Value) : Array Value := (objC oT ve (.slice none 0 0)).toArray
theorem entC_lenS {y : Txt} (hy : y.length = 32) {n : Txt} {K : Int} : (entC ⟨n, K, y⟩).length = 34 := by
  unfold entC
  simp [u8s_size, hy]
set_option maxRecDepth 100000 in
theorem built_ent3 (n : Txt) (k : Int) (x : Txt) (hx : x.length = 32) : Tryd.prog.built 76 [(0, .string (B n)), (1, .int .i64 k), (2, .agg (u8s x))] = some (entC ⟨n, k, x⟩).toArray := by
  obtain ⟨f, rfl⟩ := len32 hx
  kernel_rfl
set_option maxRecDepth 100000 in
set_option maxHeartbeats 8000000 in
theorem make_tree {w : World} {vm : Value} {es : List DiL} (h : DocSt w vm es) (ids : List Txt) (hok : ∀ x ∈ ids, x.length = 32) (hil : ids.length ≤ 1000) (vi : Value) (hi : Ids w vi ids) (x : SdL) (hx : SdOk w x) (hr : x.refs.length ≤ 10) (ht : x.text.length ≤ 300) (hk : (x.kind.toNat : Int) % 4 = 1) :
    Calls Tryd.prog 34 #[.agg #[vm], vi, .agg (sdC x).toArray] w fun e w' => MkR w e w' ∧ Below w.heap.size w w' := by
  have hzo := zeroObj
  have hz72 := zObj_size
  have hzone : zObj.all (·.oneCell') = true := objC_all zeroO none none 0 0 0 0
  have hsz : ∀ cs : Array Value, cs.size = 72 → (Tryd.prog.info? 41).map (·.size) = some cs.size := fun cs h => by rw [h]; exact szObj
  obtain ⟨W1, hW1⟩ : ∃ W1, w.alloc (.cells #[vm] 30) = W1 := ⟨_, rfl⟩
  have s1 : Blk W1 w.heap.size 30 #[vm] := by rw [← hW1]; exact Blk.new _ _ _
  have b1 : Below w.heap.size w W1 := by rw [← hW1]; exact (Below.refl _ _).alloc (Nat.le_refl _) _
  obtain ⟨W2, hW2⟩ : ∃ W2, W1.alloc (.cells (sdC x).toArray 80) = W2 := ⟨_, rfl⟩
  have d2 : Blk W2 W1.heap.size 80 (sdC x).toArray := by rw [← hW2]; exact Blk.new _ _ _
  have bb2 : Below W1.heap.size W1 W2 := by rw [← hW2]; exact (Below.refl _ _).alloc (Nat.le_refl _) _
  obtain ⟨W3, hW3⟩ : ∃ W3, W2.alloc (.cells zObj 41) = W3 := ⟨_, rfl⟩
  have z3 : Blk W3 W2.heap.size 41 zObj := by rw [← hW3]; exact Blk.new _ _ _
  have bb3 : Below W2.heap.size W2 W3 := by rw [← hW3]; exact (Below.refl _ _).alloc (Nat.le_refl _) _
  have b2 := bthen b1 b1.size bb2
  have b3 := bthen b2 b2.size bb3
  have s3 := (s1.below bb2 s1.lt).below bb3 (s1.below bb2 s1.lt).lt
  have d3 := d2.below bb3 d2.lt
  have hle2 : w.heap.size ≤ W2.heap.size := b2.size
  have hlt0 := s1.lt
  have hlt1 := d2.lt
  have hlt2 := z3.lt
  have fL := fun W (hW : Below W3.heap.size W3 W) => run_ldvS (s3.below hW s3.lt)
  have fK : ∀ W, Below W3.heap.size W3 W → W.cell? ⟨W1.heap.size, 0, none⟩ = some (.int .u8 x.kind.toNat) := fun W hW => (d3.below hW d3.lt).cell 0
  have fR : ∀ W, Below W3.heap.size W3 W → W.cell? ⟨W1.heap.size, 1, none⟩ = some x.vr := fun W hW => (d3.below hW d3.lt).cell 1
  have fT : ∀ W, Below W3.heap.size W3 W → W.cell? ⟨W1.heap.size, 2, none⟩ = some (.int .u16 x.time) := fun W hW => (d3.below hW d3.lt).cell 2
  have fX : ∀ W, Below W3.heap.size W3 W → W.cell? ⟨W1.heap.size, 3, none⟩ = some (.string (B x.text)) := fun W hW => (d3.below hW d3.lt).cell 3
  have k3 := fK W3 (Below.refl _ _)
  have hkb : (x.kind.toNat : Int) < 256 := by have := x.kind.toNat_lt; omega
  have hsI : (Tryd.prog.info? 24).map (·.size) = some (u8s noId).size := by rw [u8s_size, noId_len]; exact sz32
  obtain ⟨A, cap, hvr, hcap1, hcap2, hat⟩ := hx.refs
  rw [hvr] at fR
  have hkc := fun (y : Txt) (hy : y.length = 32) W (hW : Below W3.heap.size W3 W) => docKind_calls (h.below (bthen b3 b3.size hW)) y hy
  have hpk := fun (c : UInt8) W (hW : Below W3.heap.size W3 W) => (pick_calls (h.below (bthen b3 b3.size hW)) ids hok hil vi (hi.below (bthen b3 b3.size hW)) c.toNat (by have := c.toNat_lt; omega) 9)
  have fBk : ∀ k, k < x.refs.length → ∃ (ga oa : Nat) (c : UInt8), A = some ⟨ga, oa, none⟩ ∧ ∀ W, Below W3.heap.size W3 W → W.cell? ⟨ga, oa + k, none⟩ = some (.int .u8 c.toNat) := fun k hk => by
    obtain ⟨ga, oa, rfl, hga, hca⟩ := hat (by omega)
    refine ⟨ga, oa, x.refs[k], rfl, fun W hW => ?_⟩
    have := rangeAt_below (hca k _ (List.getElem?_eq_getElem hk)) hga (bthen b3 b3.size hW) 0 _ rfl
    simpa [byC, u8v] using this
  clear h hi hx fK fT fX hok hat hvr
  generalize (sdC x).toArray = SC at *
  obtain ⟨ZO, hZO⟩ : ∃ ZO, zObj = ZO := ⟨_, rfl⟩
  rw [hZO] at hzo hz72 hzone hW3 z3
  have hbd := built_kobj 2
  have hcs : (oTC (.slice none 0 0)).size = 72 := rfl
  have hc1 : (oTC (.slice none 0 0)).all (·.oneCell') = true := objC_all oT none none 0 0 0 0
  have hbd : Tryd.prog.built 41 [(0, .int .i64 2)] = some (oTC (.slice none 0 0)) := hbd
  obtain ⟨OC, hOC⟩ : ∃ OC, oTC (.slice none 0 0) = OC := ⟨_, rfl⟩
  rw [hOC] at hbd hcs hc1
  have hOC := Lib.hid hOC
  go_enter Tryd.func34, Tryd.ntmps34
  go_wp2_with (first
    | ((with_reducible refine lit_build1 hbd ?_ ?_); rfl)
    | ((with_reducible refine lit_new 41 (.tmp 7) (.tmp 25) OC 72 szObj hcs hc1 _ ?_ ?_ ?_ ?_)
       · first | exact hz72 | rfl
       · rfl
       · rfl
       intro W4 n4 b34))
  have hO4 : Blk W4 W3.heap.size 41 (oTC (.slice none 0 0)) := by rw [hOC.out]; exact n4
  clear n4 hbd hcs hc1
  go_loopw [8] (fun vi wr => ∃ (k : Nat) (acc : List EntL) (ve : Value), vi = .int .i64 k ∧ k ≤ x.refs.length ∧ k ≤ 5 ∧ acc.length ≤ k ∧ Hid (∀ e ∈ acc, EntS e) ∧ Blk wr W3.heap.size 41 (oTC ve) ∧ OwnEnts wr W3.heap.size ve acc ∧ Below W3.heap.size W3 wr) (fun vi _ => x.refs.length - (intOf vi).toNat)
  case atStart => exact ⟨0, [], _, rfl, by omega, by omega, by simp, Lib.hid (fun x hx => by simp at hx), hO4, World.ownsRow_nil _ _ _ _, b34⟩
  case round =>
    obtain ⟨k, acc, ve, rfl, hk, hk5, hal, hall, hO, hown, hbel⟩ := hrel
    have r6 := fR _ hbel
    by_cases hlt : k < x.refs.length
    · have hki : (k : Int) < (x.refs.length : Int) := by omega
      by_cases hk6 : k < 5
      · have hki5 : (k : Int) < 5 := by omega
        obtain ⟨ga, oa, c, rfl, fB⟩ := fBk k hlt
        have hcb : (c.toNat : Int) < 256 := by have := c.toNat_lt; omega
        have hcw : IntKind.i64.wrap (c.toNat : Int) = (c.toNat : Int) := IntWalk.i64_in _ (by omega)
        have hpk := hpk c
        clear fBk
        go_wp2
        refine wp_region_go0 15 (by kernel_rfl) (by kernel_rfl) (by kernel_rfl) (by kernel_rfl) ?_
        simp only [exSp]
        iterate 15 apply Exists.intro
        repeat
          first
            | ((with_reducible apply lx0_ex)
               · (go_simp; done)
               apply Exists.intro
               apply And.intro
               · apply Eq.refl
               apply And.intro
               · intro W hW hD
                 have hW2 := hbel.trans (hW.mono hbel.size)
                 have q0 := fL W hW2
                 have q1 := fR W hW2
                 have q2 := fB W hW2
                 go_simp
                 rfl
               simp only [Act.put, List.setIfInBounds_toArray, List.set_cons_zero, List.set_cons_succ])
            | ((with_reducible apply lx0_pass)
               · (first | rfl | (go_simp; done))
               · apply Eq.refl
               simp only [Act.put, List.setIfInBounds_toArray, List.set_cons_zero, List.set_cons_succ])
            | ((with_reducible refine lx0_new (fun v _ _ => PickV v) rfl ?_ (stab_pure PickV) ?_ ?_)
               · (go_simp; done)
               · intro W hW hD
                 have hW2 := hbel.trans (hW.mono hbel.size)
                 unfold doesAt Oper.wp execOp
                 go_simp
                 (with_reducible refine (hpk W hW2).mono ?_)
                 rintro e w' ⟨⟨y, b, rfl, hy⟩, hb⟩
                 exact ⟨hb, fun _ _ _ _ => ⟨y, b, rfl, hy⟩⟩
               intro v
               simp only [Act.put, List.setIfInBounds_toArray, List.set_cons_zero, List.set_cons_succ])
            | (first | (with_reducible apply lx_move') | (with_reducible apply lx_assign')
               · apply Eq.refl
               apply Exists.intro
               apply And.intro
               · (go_simp; rfl)
               simp only [Act.put, List.setIfInBounds_toArray, List.set_cons_zero, List.set_cons_succ])
            | ((with_reducible apply lx_extr')
               · apply Eq.refl
               apply Exists.intro
               apply And.intro
               · (go_simp; rfl)
               refine ⟨fun W hW hD => ?_, ?_⟩
               · obtain ⟨F, y, b, rfl, hy⟩ := hD.at 0 rfl (by kernel_rfl)
                 exact ⟨_, rfl, by simp⟩
               simp only [Act.put, List.setIfInBounds_toArray, List.set_cons_zero, List.set_cons_succ])
            | ((with_reducible apply lx_al 24 (u8s noId) zeroIdV)
               · apply Eq.refl
               intro v
               simp only [Act.put, List.setIfInBounds_toArray, List.set_cons_zero, List.set_cons_succ])
            | ((with_reducible apply lx_st' 12 24 (u8s noId) hsI (by kernel_rfl))
               · exact rfl
               · apply Eq.refl
               apply Exists.intro
               apply Exists.intro
               apply And.intro
               · (go_simp; rfl)
               apply And.intro
               · (go_simp; rfl)
               refine ⟨?_, fun W hW hD => ?_, ?_⟩
               · first | exact List.Mem.head _ | exact List.Mem.tail _ (List.Mem.head _) | exact List.Mem.tail _ (List.Mem.tail _ (List.Mem.head _)) | exact List.Mem.tail _ (List.Mem.tail _ (List.Mem.tail _ (List.Mem.head _)))
               · obtain ⟨F, y, b, rfl, hy⟩ := hD.at 1 rfl (by kernel_rfl)
                 exact ⟨_, rfl, by rw [u8s_size, u8s_size, hy, noId_len], u8s_one y⟩)
        refine lx0_nil ?_ fun w7 hW7 hD7 => ?_
        · exact (by simp [stsOf])
        obtain ⟨_, y7, b, rfl, hy7⟩ := hD7 _ (.tail _ (.tail _ (.head _)))
        obtain ⟨_, g, cs, rfl, hcs, hg1, _, hg2⟩ := hD7 _ (.head _)
        obtain rfl : u8s y7 = cs := by injection hcs
        clear hcs hD7
        simp only [extr2_0, extr2_1]
        have b7 := hbel.trans (hW7.mono hbel.size)
        have own7 := own_below hown hW7
        have hO7 := hO.below hW7 hO.lt
        clear hpk fB hcw
        cases b
        · go_wp2
          go_roundw
          case rel => exact ⟨k + 1, acc, ve, by go_num, by omega, by omega, by omega, hall, hO7, own7, b7⟩
          case measure => simp [intOf]; omega
        · obtain ⟨K, hK⟩ : ∃ K, kindS (es.map (·.st)) y7 = K := ⟨_, rfl⟩
          have hKb := kindS_bounds (s := es.map (·.st)) y7
          have hkc := hkc y7 hy7
          simp only [hK] at hKb hkc
          have hOV2 : (oTC ve)[2]? = some ve := rfl
          have hOVs : (2 : Nat) < (oTC ve).size := by show 2 < (objC oT ve _).toArray.size; rw [List.size_toArray]; simp [objC]
          have hOVp : ∀ v, (oTC ve).setIfInBounds 2 v = oTC v := fun v => rfl
          have hpre := preOk2 (i := 10) (j := 12) own7 hO7 (by decide)
          have hrB := rows2 (i := 10) (j := 12) (p := fun w => World.ownsRow w W3.heap.size 76 34 ve acc.length (rowsOf entC acc)) (q := fun w => Blk w W3.heap.size 41 (oTC ve)) (v := ve) (fun k hk => (World.ownsRow.lt own7 k hk).1) (Nat.le_refl W3.heap.size)
          have sz7 := b7.size
          have hno1 := own_blk_ne own7 hg2 (by decide)
          have hno2 : W3.heap.size ≠ g := fun e => Blk.ne_ hO7 (e ▸ hg2) (by decide) rfl
          have hgI := fun W (hF : Far (rowsOfP [(10, ve.ownBlock, fun w => World.ownsRow w W3.heap.size 76 34 ve acc.length (rowsOf entC acc)), (12, some W3.heap.size, fun w => Blk w W3.heap.size 41 (oTC ve))]) w7 W) => run_ldvI_at (range_blk (hF.blk hg2 (by simp [rowsOfP]; exact ⟨hno1, fun e => hno2 e.symm⟩))) hy7
          have hkl : acc.length + 1 ≤ 9223372036854775807 := by omega
          have hby : (acc.length + 1) * 56 ≤ 140737488355328 := by omega
          obtain ⟨A3, c3, rfl⟩ := own_form' hown
          obtain ⟨OV, hOV⟩ : ∃ OV, oTC (.slice A3 acc.length c3) = OV := ⟨_, rfl⟩
          rw [hOV] at hpre hrB hgI hOV2 hOVs hOVp hO7
          have hnm := fun W => name_calls11 k (by omega) W
          clear hOV hK hno1 hno2
          go_wp2
          refine wp_region_goP 13 [(10, (Value.slice A3 acc.length c3).ownBlock, fun w => World.ownsRow w W3.heap.size 76 34 (.slice A3 acc.length c3) acc.length (rowsOf entC acc)), (12, some W3.heap.size, fun w => Blk w W3.heap.size 41 OV)] hpre (by kernel_rfl) (by kernel_rfl) (by kernel_rfl) (by kernel_rfl) ?_
          simp only [exSp]
          iterate 13 apply Exists.intro
          repeat
            first
              | ((with_reducible apply lx_ex)
                 · (go_simp; done)
                 apply Exists.intro
                 apply And.intro
                 · apply Eq.refl
                 apply And.intro
                 · intro W hF hD
                   first
                     | (have hf := far_drew hF
                        have hW2 := b7.trans (hf.below sz7 hrB)
                        have q0 := fL W hW2
                        have q1 : W.cell? ⟨W3.heap.size, 2, none⟩ = some (.slice A3 acc.length c3) := by rw [(hD.was 1 rfl (by kernel_rfl)).cell]; exact hOV2
                        have q2 := hgI W hf
                        have q3 := hkc W hW2
                        go_simp
                        first
                          | rfl
                          | (with_reducible exact q3))
                     | (have hf := far_drew hF
                        have hW2 := b7.trans (hf.below sz7 hrB)
                        have q0 := fL W hW2
                        have q2 := hgI W hf
                        have q3 := hkc W hW2
                        go_simp
                        first
                          | rfl
                          | (with_reducible exact q3))
                 simp only [Act.put, List.setIfInBounds_toArray, List.set_cons_zero, List.set_cons_succ])
              | ((with_reducible apply lx_pass)
                 · (first | rfl | (go_simp; done))
                 · apply Eq.refl
                 simp only [Act.put, List.setIfInBounds_toArray, List.set_cons_zero, List.set_cons_succ])
              | ((with_reducible refine lx_new (fun _ v _ _ => NameV v) rfl ?_ (fun _ => stab_pure NameV) ?_ ?_)
                 · (go_simp; done)
                 · intro W hF hD
                   unfold doesAt Oper.wp execOp
                   go_simp
                   (with_reducible refine (hnm W).mono ?_)
                   rintro e w' ⟨⟨cc, rfl⟩, hb⟩
                   exact ⟨hb, fun _ _ _ _ => ⟨cc, rfl⟩⟩
                 intro v
                 simp only [Act.put, List.setIfInBounds_toArray, List.set_cons_zero, List.set_cons_succ])
              | (first | (with_reducible apply lx_move') | (with_reducible apply lx_assign')
                 · apply Eq.refl
                 apply Exists.intro
                 apply And.intro
                 · (go_simp; rfl)
                 simp only [Act.put, List.setIfInBounds_toArray, List.set_cons_zero, List.set_cons_succ])
              | ((with_reducible apply lx_build3 (fun cs => ∃ cc : UInt8, cs = (entC ⟨[cc], K, y7⟩).toArray))
                 · apply Eq.refl
                 iterate 3 apply Exists.intro
                 iterate 3
                   apply And.intro
                   · (go_simp; rfl)
                 refine ⟨fun W hF hD => ?_, ?_⟩
                 · obtain ⟨F, cc, rfl⟩ := hD.at 0 rfl (by kernel_rfl)
                   exact ⟨_, built_ent3 [cc] K y7 hy7, cc, rfl⟩
                 intro v
                 simp only [Act.put, List.setIfInBounds_toArray, List.set_cons_zero, List.set_cons_succ])
              | ((with_reducible apply lx_slice1 Tryd.entTy (fun cs => ∃ cc : UInt8, cs = (entC ⟨[cc], K, y7⟩).toArray) (by omega))
                 · apply Eq.refl
                 apply Exists.intro
                 apply And.intro
                 · (go_simp; rfl)
                 refine ⟨fun W hF hD => ?_, ?_⟩
                 · obtain ⟨F, cs, rfl, cc, rfl⟩ := hD.at 0 rfl (by kernel_rfl)
                   exact ⟨_, rfl, by rw [List.size_toArray, entC_lenS hy7], cc, rfl⟩
                 intro v
                 simp only [Act.put, List.setIfInBounds_toArray, List.set_cons_zero, List.set_cons_succ])
              | ((with_reducible apply lx_append1 Tryd.entTy W3.heap.size (.slice A3 acc.length c3) acc.length (rowsOf entC acc) (fun xs => ∃ cc : UInt8, xs = rowsOf entC acc ++ entC ⟨[cc], K, y7⟩) hkl hby)
                 · exact sz7
                 · first | exact List.Mem.head _ | exact List.Mem.tail _ (List.Mem.head _) | exact List.Mem.tail _ (List.Mem.tail _ (List.Mem.head _)) | exact List.Mem.tail _ (List.Mem.tail _ (List.Mem.tail _ (List.Mem.head _)))
                 · apply Eq.refl
                 apply Exists.intro
                 apply Exists.intro
                 apply And.intro
                 · (go_simp; rfl)
                 apply And.intro
                 · (go_simp; rfl)
                 refine ⟨rfl, fun W hF hD => ?_, ?_⟩
                 · obtain ⟨F, g5, cs, rfl, _, hk5, cc, rfl⟩ := hD.at 0 rfl (by kernel_rfl)
                   exact ⟨g5, _, rfl, hk5, by rw [List.size_toArray, entC_lenS hy7], by rw [List.toList_toArray]; exact entC_one _, cc, by rw [List.toList_toArray]⟩
                 intro v
                 simp only [Act.put, List.setIfInBounds_toArray, List.set_cons_zero, List.set_cons_succ])
              | ((with_reducible apply lx_put W3.heap.size 2 OV 41)
                 · exact (fun _ => by kernel_rfl)
                 · exact hOVs
                 · first | exact List.Mem.head _ | exact List.Mem.tail _ (List.Mem.head _) | exact List.Mem.tail _ (List.Mem.tail _ (List.Mem.head _)) | exact List.Mem.tail _ (List.Mem.tail _ (List.Mem.tail _ (List.Mem.head _)))
                 · apply Eq.refl
                 apply Exists.intro
                 apply Exists.intro
                 apply And.intro
                 · (go_simp; rfl)
                 apply And.intro
                 · (go_simp; rfl)
                 refine ⟨rfl, fun W hF hD => ?_, ?_⟩
                 · obtain ⟨F, xs, _, hv, _⟩ := hD.at 0 rfl (by kernel_rfl)
                   obtain ⟨A6, c6, rfl⟩ := own_form' hv
                   exact ⟨_, _, _, rfl⟩)
          refine lxP_nil ?_ fun w9 hF9 hD9 => ?_
          · exact List.nodup_nil
          have f9 := hF9
          obtain ⟨_, hg9, hb9⟩ := hD9 _ (.head _)
          obtain ⟨_, xs, ⟨cc, rfl⟩, hv9, _⟩ := hD9 _ (.tail _ (.head _))
          rw [hOVp] at hb9
          have b9 := b7.trans (f9.below sz7 hrB)
          go_wp2
          go_roundw
          case rel => exact ⟨k + 1, acc ++ [⟨[cc], K, y7⟩], _, by go_num, by omega, by omega, by simp; omega, Lib.hid (fun e he => by
            rcases List.mem_append.1 he with he | he
            · exact hall.out e he
            · rw [List.mem_singleton.1 he]; exact ⟨hy7, rfl, hKb.1, hKb.2⟩), hb9, by unfold OwnEnts; rw [List.length_append, rowsOf_append, rowsOf_one]; exact hv9, b9⟩
          case measure => simp [intOf]; omega
      · have hki5 : ¬ (k : Int) < 5 := by omega
        clear fBk hpk hkc
        obtain ⟨A3, c3, rfl⟩ := own_form' hown
        have hz9 := z3.below hbel z3.lt
        have hokO : ObjOk ⟨2, [], acc, noId, [], 0, [], noId, 0, []⟩ := ⟨noId_len, noId_len, fun e he => (hall.out e he).ok, by simp, by simp, by simp, by simp, by simp, by simp, by simp, by simp, by simp⟩
        have hOo : ObjB wr W3.heap.size ⟨2, [], acc, noId, [], 0, [], noId, 0, []⟩ (.slice A3 acc.length c3) (.slice none 0 0) := ⟨hO, noId_len, noId_len⟩
        have ld := run_ldvO hOo hokO
        have hcs : (objC ⟨2, [], acc, noId, [], 0, [], noId, 0, []⟩ (.slice A3 acc.length c3) (.slice none 0 0)).toArray.size = 72 := by rw [List.size_toArray]; exact objC_len hokO _ _
        have hc1 := objC_all ⟨2, [], acc, noId, [], 0, [], noId, 0, []⟩ A3 none acc.length c3 0 0
        have hfin : Hid (∀ w', OwnEnts w' W3.heap.size (.slice A3 acc.length c3) acc → MkR w (.returned (.agg (objC ⟨2, [], acc, noId, [], 0, [], noId, 0, []⟩ (.slice A3 acc.length c3) (.slice none 0 0)).toArray)) w') := Lib.hid fun w' ho => ⟨_, A3, none, c3, 0, rfl, ⟨by show acc.length ≤ _; omega, fun e he => by have := (hall.out e he).name; omega, by simp, by simp, by simp, by simp⟩, hokO, own_low' ho b3.size, World.ownsRow_nil _ _ _ _⟩
        have b9 := bthen b3 b3.size hbel
        generalize (objC ⟨2, [], acc, noId, [], 0, [], noId, 0, []⟩ (.slice A3 acc.length c3) (.slice none 0 0)).toArray = OR at *
        go_wp2_with (first
          | (refine wpList_store_row rfl 41 (.tmp 6) (.tmp 62) rfl W2.heap.size OR rfl rfl _ _ hz9 (hsz _ hcs) (hz72.trans hcs.symm) hc1 ?_))
        refine bodyPost_ret (results_cell_row rfl _ _ W2.heap.size _ _ _ _ rfl (setRow_heap _ _ _ _ _ _ hz9) Tryd.underlying41 rfl (hsz _ hcs)) rfl ⟨hfin.out _ (own_row hown hlt2 OR), below_setRow b9 hle2 _⟩
    · have hki : ¬ (k : Int) < (x.refs.length : Int) := by omega
      clear fBk hpk hkc
      obtain ⟨A3, c3, rfl⟩ := own_form' hown
      have hz9 := z3.below hbel z3.lt
      have hokO : ObjOk ⟨2, [], acc, noId, [], 0, [], noId, 0, []⟩ := ⟨noId_len, noId_len, fun e he => (hall.out e he).ok, by simp, by simp, by simp, by simp, by simp, by simp, by simp, by simp, by simp⟩
      have hOo : ObjB wr W3.heap.size ⟨2, [], acc, noId, [], 0, [], noId, 0, []⟩ (.slice A3 acc.length c3) (.slice none 0 0) := ⟨hO, noId_len, noId_len⟩
      have ld := run_ldvO hOo hokO
      have hcs : (objC ⟨2, [], acc, noId, [], 0, [], noId, 0, []⟩ (.slice A3 acc.length c3) (.slice none 0 0)).toArray.size = 72 := by rw [List.size_toArray]; exact objC_len hokO _ _
      have hc1 := objC_all ⟨2, [], acc, noId, [], 0, [], noId, 0, []⟩ A3 none acc.length c3 0 0
      have hfin : Hid (∀ w', OwnEnts w' W3.heap.size (.slice A3 acc.length c3) acc → MkR w (.returned (.agg (objC ⟨2, [], acc, noId, [], 0, [], noId, 0, []⟩ (.slice A3 acc.length c3) (.slice none 0 0)).toArray)) w') := Lib.hid fun w' ho => ⟨_, A3, none, c3, 0, rfl, ⟨by show acc.length ≤ _; omega, fun e he => by have := (hall.out e he).name; omega, by simp, by simp, by simp, by simp⟩, hokO, own_low' ho b3.size, World.ownsRow_nil _ _ _ _⟩
      have b9 := bthen b3 b3.size hbel
      generalize (objC ⟨2, [], acc, noId, [], 0, [], noId, 0, []⟩ (.slice A3 acc.length c3) (.slice none 0 0)).toArray = OR at *
      go_wp2_with (first
        | (refine wpList_store_row rfl 41 (.tmp 6) (.tmp 62) rfl W2.heap.size OR rfl rfl _ _ hz9 (hsz _ hcs) (hz72.trans hcs.symm) hc1 ?_))
      refine bodyPost_ret (results_cell_row rfl _ _ W2.heap.size _ _ _ _ rfl (setRow_heap _ _ _ _ _ _ hz9) Tryd.underlying41 rfl (hsz _ hcs)) rfl ⟨hfin.out _ (own_row hown hlt2 OR), below_setRow b9 hle2 _⟩
end Go.Proofs.YtnehabcopjgklaaDoor
