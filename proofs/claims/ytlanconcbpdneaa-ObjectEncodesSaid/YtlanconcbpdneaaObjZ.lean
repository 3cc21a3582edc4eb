/- The walk of layer 4: body, at the other kinds. Condition: an object that is not great. -/
import Derived.Test.YtlanconcbpdneaaObjY
namespace Go.Proofs.Ytlanconcbpdneaa
open Go.RowKit
theorem ObjB.under {w w' : World} {B0 g : Nat} {o : ObjL} {ve vp : Value} (h : ObjB w g o ve vp) (hb : Below B0 w w') (hg : g < B0) : ObjB w' g o ve vp := ⟨(hb.block g hg).trans h.blk, h.tr, h.ta⟩
theorem lit_load_id {ops : Array Oper} {rest : List Oper} {a : Act} {w : World} {Q : Exit → Act → World → Prop} {d : Option Tmp} {rt : TypeId} {pos : String} {af : Array Edge} (x : Operand) (b o : Nat) (l : List UInt8) (hl : l.length = 32) (hc : w.rangeAt b o (u8s l).toList) (hx : a.eval x = .pointer (some ⟨b, o, none⟩))
    (h : wpList Try.prog ops Q rest (a.put d (.agg (u8s l))) w) : wpList Try.prog ops Q ({ dst := d, op := .load 24 x, type := rt, pos := pos, after := af, guard := none } :: rest) a w :=
  wpList_load_mid rfl _ x rfl b o hx _ _ hc Try.underlying24 rfl (by rw [Array.length_toList, u8s_size, hl]; exact sz32) (by rw [Array.toArray_toList]; exact h)
theorem lit_new_id {ops : Array Oper} {rest : List Oper} {a : Act} {w : World} {Q : Exit → Act → World → Prop} {d : Option Tmp} {rt : TypeId} {pos : String} {af : Array Edge} (x y : Operand) (u : List UInt8) (lu : u.length = 32) (zs : Array Value) (hz : zs.size = 32) (hx : a.eval x = .pointer (some ⟨w.heap.size, 0, none⟩)) (hy : a.eval y = .agg (u8s u))
    (h : ∀ W1, Blk W1 w.heap.size 24 (u8s u) → Below w.heap.size w W1 → wpList Try.prog ops Q rest (a.put d undef) W1) :
    wpList Try.prog ops Q ({ dst := d, op := .store 24 x y, type := rt, pos := pos, after := af, guard := none } :: rest) a (w.alloc (.cells zs 24)) :=
  wpList_store_newId rfl x y rfl u lu zs hx hy hz h
set_option maxRecDepth 100000 in
set_option maxHeartbeats 4000000 in
theorem body_calls1 (o : ObjL) (hk : o.kind = 1) (hs : Small o) (A1 A2 : Option Addr) (k1 k2 : Nat) (w : World) (hv : ObjV w (.slice A1 o.ents.length k1) (.slice A2 o.pars.length k2) o) : Calls Try.prog 18 #[.agg (objC o (.slice A1 o.ents.length k1) (.slice A2 o.pars.length k2)).toArray] w fun e w' => e = .returned (.string (B (bodyO o))) ∧ Below w.heap.size w w' := by
  have ho := hv.ok
  have hO := boxed (w := w) (ve := .slice A1 o.ents.length k1) (vp := .slice A2 o.pars.length k2) ho
  have b0 : Below w.heap.size w (w.alloc (.cells (objC o (.slice A1 o.ents.length k1) (.slice A2 o.pars.length k2)).toArray 28)) := (Below.refl _ _).alloc (Nat.le_refl _) _
  have hv0 := hv.below b0
  obtain ⟨W0, hW0⟩ : ∃ W0, w.alloc (.cells (objC o (.slice A1 o.ents.length k1) (.slice A2 o.pars.length k2)).toArray 28) = W0 := ⟨_, rfl⟩
  rw [hW0] at hO b0 hv0
  have hB0 := bld_new W0
  have b1 : Below W0.heap.size W0 (W0.alloc (.cells #[.pointer none, .slice none 0 0] 67)) := (Below.refl _ _).alloc (Nat.le_refl _) _
  have hgt : W0.heap.size < (W0.alloc (.cells #[.pointer none, .slice none 0 0] 67)).heap.size := by simp
  obtain ⟨W1, hW1⟩ : ∃ W1, W0.alloc (.cells #[.pointer none, .slice none 0 0] 67) = W1 := ⟨_, rfl⟩
  rw [hW1] at hB0 b1 hgt
  have c0 := (hO.below b1).kind
  have c2 := (hO.below b1).ents
  rw [hk] at c0
  have s0 := b0.size
  obtain ⟨r, hr⟩ : ∃ r, Hid (r = bodyO o) := ⟨_, Lib.hid rfl⟩
  rw [← hr.out]
  have hr2 : Hid (r = o.data) := by show r = _; rw [hr.out]; unfold bodyO; rw [if_pos hk]
  have c1 := (hO.below b1).data
  clear hr hv hO hk
  generalize (objC o (.slice A1 o.ents.length k1) (.slice A2 o.pars.length k2)).toArray = cs at *
  go_enter Try.func18, Try.ntmps18
  clear hs ho hv0
  go_wp2
  go_ret
  exact ⟨by rw [hr2.out]; rfl, b0.trans (b1.mono s0)⟩
set_option maxRecDepth 100000 in
set_option maxHeartbeats 4000000 in
theorem body_calls0 (o : ObjL) (hk : o.kind < 1 ∨ 4 < o.kind) (hs : Small o) (A1 A2 : Option Addr) (k1 k2 : Nat) (w : World) (hv : ObjV w (.slice A1 o.ents.length k1) (.slice A2 o.pars.length k2) o) : Calls Try.prog 18 #[.agg (objC o (.slice A1 o.ents.length k1) (.slice A2 o.pars.length k2)).toArray] w fun e w' => e = .returned (.string (B (bodyO o))) ∧ Below w.heap.size w w' := by
  have ho := hv.ok
  have hO := boxed (w := w) (ve := .slice A1 o.ents.length k1) (vp := .slice A2 o.pars.length k2) ho
  have b0 : Below w.heap.size w (w.alloc (.cells (objC o (.slice A1 o.ents.length k1) (.slice A2 o.pars.length k2)).toArray 28)) := (Below.refl _ _).alloc (Nat.le_refl _) _
  have hv0 := hv.below b0
  obtain ⟨W0, hW0⟩ : ∃ W0, w.alloc (.cells (objC o (.slice A1 o.ents.length k1) (.slice A2 o.pars.length k2)).toArray 28) = W0 := ⟨_, rfl⟩
  rw [hW0] at hO b0 hv0
  have hB0 := bld_new W0
  have b1 : Below W0.heap.size W0 (W0.alloc (.cells #[.pointer none, .slice none 0 0] 67)) := (Below.refl _ _).alloc (Nat.le_refl _) _
  have hgt : W0.heap.size < (W0.alloc (.cells #[.pointer none, .slice none 0 0] 67)).heap.size := by simp
  obtain ⟨W1, hW1⟩ : ∃ W1, W0.alloc (.cells #[.pointer none, .slice none 0 0] 67) = W1 := ⟨_, rfl⟩
  rw [hW1] at hB0 b1 hgt
  have c0 := (hO.below b1).kind
  have c2 := (hO.below b1).ents
  have s0 := b0.size
  obtain ⟨r, hr⟩ : ∃ r, Hid (r = bodyO o) := ⟨_, Lib.hid rfl⟩
  rw [← hr.out]
  have hr2 : Hid (r = []) := by show r = _; rw [hr.out]; unfold bodyO; rw [if_neg (by omega), if_neg (by omega), if_neg (by omega), if_neg (by omega)]
  have e1 : (o.kind == 1) = false := by rw [beq_eq_false_iff_ne]; omega
  have e2 : (o.kind == 2) = false := by rw [beq_eq_false_iff_ne]; omega
  have e3 : (o.kind == 3) = false := by rw [beq_eq_false_iff_ne]; omega
  have e4 : (o.kind == 4) = false := by rw [beq_eq_false_iff_ne]; omega
  have h9 := Lib.hid (str_calls (l := []) hB0)
  clear hr hv hO hk
  generalize (objC o (.slice A1 o.ents.length k1) (.slice A2 o.pars.length k2)).toArray = cs at *
  go_enter Try.func18, Try.ntmps18
  clear hs ho hv0
  go_wp2_with (first
    | ((with_reducible refine h9.out.mono ?_); rintro e w9 ⟨rfl, hb9⟩))
  go_ret
  exact ⟨by rw [hr2.out]; rfl, b0.trans ((b1.trans hb9).mono s0)⟩
set_option maxRecDepth 100000 in
set_option maxHeartbeats 4000000 in
theorem body_calls4 (o : ObjL) (hk : o.kind = 4) (hs : Small o) (A1 A2 : Option Addr) (k1 k2 : Nat) (w : World) (hv : ObjV w (.slice A1 o.ents.length k1) (.slice A2 o.pars.length k2) o) : Calls Try.prog 18 #[.agg (objC o (.slice A1 o.ents.length k1) (.slice A2 o.pars.length k2)).toArray] w fun e w' => e = .returned (.string (B (bodyO o))) ∧ Below w.heap.size w w' := by
  have ho := hv.ok
  have hO := boxed (w := w) (ve := .slice A1 o.ents.length k1) (vp := .slice A2 o.pars.length k2) ho
  have b0 : Below w.heap.size w (w.alloc (.cells (objC o (.slice A1 o.ents.length k1) (.slice A2 o.pars.length k2)).toArray 28)) := (Below.refl _ _).alloc (Nat.le_refl _) _
  have hv0 := hv.below b0
  obtain ⟨W0, hW0⟩ : ∃ W0, w.alloc (.cells (objC o (.slice A1 o.ents.length k1) (.slice A2 o.pars.length k2)).toArray 28) = W0 := ⟨_, rfl⟩
  rw [hW0] at hO b0 hv0
  have hB0 := bld_new W0
  have b1 : Below W0.heap.size W0 (W0.alloc (.cells #[.pointer none, .slice none 0 0] 67)) := (Below.refl _ _).alloc (Nat.le_refl _) _
  have hgt : W0.heap.size < (W0.alloc (.cells #[.pointer none, .slice none 0 0] 67)).heap.size := by simp
  obtain ⟨W1, hW1⟩ : ∃ W1, W0.alloc (.cells #[.pointer none, .slice none 0 0] 67) = W1 := ⟨_, rfl⟩
  rw [hW1] at hB0 b1 hgt
  have c0 := (hO.below b1).kind
  have c2 := (hO.below b1).ents
  rw [hk] at c0
  have s0 := b0.size
  obtain ⟨r, hr⟩ : ∃ r, Hid (r = bodyO o) := ⟨_, Lib.hid rfl⟩
  rw [← hr.out]
  have hr2 : Hid (r = tagE o) := by show r = _; rw [hr.out]; unfold bodyO; rw [if_neg (by omega), if_neg (by omega), if_neg (by omega), if_pos hk]
  have hO1 := hO.below b1
  have c70 := hO1.of_
  have hgW : w.heap.size < W0.heap.size := by rw [← hW0]; simp
  clear hr hv hO hk
  generalize (objC o (.slice A1 o.ents.length k1) (.slice A2 o.pars.length k2)).toArray = cs at *
  have hta := ho.target
  have htx := fun W => Lib.hid (text_calls o.name (by have := hs.name; omega) W)
  have htl : (textE o.name).length ≤ 110 := by have := put_length o.name.length; have := hs.name; unfold textE; rw [List.length_append]; omega
  have hee : Hid (tagE o = byteK o.of_ :: (o.target ++ textE o.name)) := Lib.hid rfl
  generalize textE o.name = TX at *
  have h1 := Lib.hid (wb_calls (l := []) hB0 o.of_ (by simp))
  clear hs ho hv0
  go_enter Try.func18, Try.ntmps18
  go_wp2_with (first
    | ((with_reducible refine h1.out.mono ?_); rintro e w3 ⟨rfl, hbd3, hb3, _⟩
       have hO3 := hO1.under hb3 hgW
       have bel3 := b1.trans hb3
       have h2 := Lib.hid (wr_calls hbd3 _ 38 o.target hta hO3.target (by omega) (by simp))
       clear h1 hO1)
    | ((with_reducible refine h2.out.mono ?_); rintro e w4 ⟨rfl, hbd4, hb4, _⟩
       have bel4 := bel3.trans hb4
       have c71 := (hO3.under hb4 hgW).name
       have h3 := htx w4
       clear h2 hO3 htx hbd3)
    | ((with_reducible refine h3.out.mono ?_); rintro e w5 ⟨rfl, hb5⟩
       have hbd5 := hbd4.below hb5
       have bel5 := bthen bel4 bel4.size hb5
       have h4 := Lib.hid (ws_calls hbd5 TX (by simp; omega))
       clear h3 hbd4)
    | ((with_reducible refine h4.out.mono ?_); rintro e w6 ⟨rfl, hbd6, hb6, _⟩
       have bel6 := bel5.trans hb6
       have h9 := Lib.hid (str_calls hbd6)
       clear h4 hbd5)
    | ((with_reducible refine h9.out.mono ?_); rintro e w9 ⟨rfl, hb9⟩))
  go_ret
  exact ⟨by rw [hr2.out, hee.out]; simp, b0.trans ((bel6.trans hb9).mono s0)⟩
set_option maxRecDepth 100000 in
set_option maxHeartbeats 4000000 in
theorem body_calls3 (o : ObjL) (hk : o.kind = 3) (hs : Small o) (A1 A2 : Option Addr) (k1 k2 : Nat) (w : World) (hv : ObjV w (.slice A1 o.ents.length k1) (.slice A2 o.pars.length k2) o) : Calls Try.prog 18 #[.agg (objC o (.slice A1 o.ents.length k1) (.slice A2 o.pars.length k2)).toArray] w fun e w' => e = .returned (.string (B (bodyO o))) ∧ Below w.heap.size w w' := by
  have ho := hv.ok
  have hO := boxed (w := w) (ve := .slice A1 o.ents.length k1) (vp := .slice A2 o.pars.length k2) ho
  have b0 : Below w.heap.size w (w.alloc (.cells (objC o (.slice A1 o.ents.length k1) (.slice A2 o.pars.length k2)).toArray 28)) := (Below.refl _ _).alloc (Nat.le_refl _) _
  have hv0 := hv.below b0
  obtain ⟨W0, hW0⟩ : ∃ W0, w.alloc (.cells (objC o (.slice A1 o.ents.length k1) (.slice A2 o.pars.length k2)).toArray 28) = W0 := ⟨_, rfl⟩
  rw [hW0] at hO b0 hv0
  have hB0 := bld_new W0
  have b1 : Below W0.heap.size W0 (W0.alloc (.cells #[.pointer none, .slice none 0 0] 67)) := (Below.refl _ _).alloc (Nat.le_refl _) _
  have hgt : W0.heap.size < (W0.alloc (.cells #[.pointer none, .slice none 0 0] 67)).heap.size := by simp
  obtain ⟨W1, hW1⟩ : ∃ W1, W0.alloc (.cells #[.pointer none, .slice none 0 0] 67) = W1 := ⟨_, rfl⟩
  rw [hW1] at hB0 b1 hgt
  have c0 := (hO.below b1).kind
  have c2 := (hO.below b1).ents
  rw [hk] at c0
  have s0 := b0.size
  obtain ⟨r, hr⟩ : ∃ r, Hid (r = bodyO o) := ⟨_, Lib.hid rfl⟩
  rw [← hr.out]
  have hr2 : Hid (r = commitE o) := by show r = _; rw [hr.out]; unfold bodyO; rw [if_neg (by omega), if_neg (by omega), if_pos hk]
  have hO1 := hO.below b1
  have hgW : w.heap.size < W0.heap.size := by rw [← hW0]; simp
  clear hr hv hO hk
  generalize (objC o (.slice A1 o.ents.length k1) (.slice A2 o.pars.length k2)).toArray = cs at *
  have htr := ho.tree
  have htt := ho.time
  have hp20 := hs.pars
  have htx := fun W => Lib.hid (text_calls o.text (by have := hs.text; omega) W)
  have htl : (textE o.text).length ≤ 5010 := by have := put_length o.text.length; have := hs.text; unfold textE; rw [List.length_append]; omega
  have hpn := fun W => Lib.hid (put_calls o.pars.length (by omega) W)
  have hpt := fun W => Lib.hid (put_calls o.time (by omega) W)
  have hl1 := put_length o.pars.length
  have hl2 := put_length o.time
  have hee : Hid (commitE o = o.tree ++ put o.pars.length ++ o.pars.flatten ++ put o.time ++ textE o.text) := Lib.hid rfl
  have hpE := Lib.hid ho.pars
  have hbound : Hid (∀ k, ((o.pars.take k).flatten).length ≤ 640) := fun k => by
    have := flat_len (l := o.pars.take k) (fun e he => hpE.out e (List.mem_of_mem_take he))
    rw [List.length_take] at this
    omega
  generalize textE o.text = TX at *
  generalize put o.pars.length = PN at *
  generalize put o.time = PT at *
  have hat : Hid (0 < o.pars.length → ∃ g os, A2 = some ⟨g, os, none⟩ ∧ g < W0.heap.size ∧ ∀ i x, o.pars[i]? = some x → W0.rangeAt g (os + i * 32) (idC x)) := by
    obtain ⟨A, cap, he, _, _, h⟩ := hv0.pars
    injection he with he _ _
    subst he
    exact h
  have h1 := Lib.hid (wr_calls (l := []) hB0 _ 3 o.tree htr hO1.tree (by omega) (by simp))
  clear hs ho hv0
  go_enter Try.func18, Try.ntmps18
  go_wp2_with (first
    | ((with_reducible refine h1.out.mono ?_); rintro e w3 ⟨rfl, hbd3, hb3, _⟩
       have hO3 := hO1.under hb3 hgW
       have bel3 := b1.trans hb3
       have c35 := hO3.pars
       have h2 := hpn w3
       clear h1 hO1)
    | ((with_reducible refine h2.out.mono ?_); rintro e w4 ⟨rfl, hb4⟩
       have hO4 := hO3.under hb4 (by have := hO3.blk.lt; omega)
       have hbd4 := hbd3.below hb4
       have bel4 := bthen bel3 bel3.size hb4
       have h3 := Lib.hid (ws_calls hbd4 PN (by simp; omega))
       clear h2 hO3 hbd3 c35 hpn)
    | ((with_reducible refine h3.out.mono ?_); rintro e w5 ⟨rfl, hbd5, hb5, _⟩
       have hO5 := hO4.under hb5 hgW
       have bel5 := bel4.trans hb5
       have c35' := hO5.pars
       clear h3 hO4 hbd4))
  have bs5 := bel5.size
  clear hW0 hW1 c0 c2 c35' hB0
  go_loopw [49] (fun vi wr => ∃ k : Nat, vi = .int .i64 k ∧ k ≤ o.pars.length ∧ Bld wr W0.heap.size (o.tree ++ PN ++ (o.pars.take k).flatten) ∧ Below W0.heap.size w5 wr) (fun vi _ => o.pars.length - (intOf vi).toNat)
  case atStart => exact ⟨0, rfl, by omega, by simpa using hbd5, Below.refl _ _⟩
  case round =>
    obtain ⟨k, rfl, hk, hbl, hbel⟩ := hrel
    have hsz := Nat.le_trans bs5 hbel.size
    by_cases hlt : k < o.pars.length
    · have hki : (k : Int) < (o.pars.length : Int) := by omega
      obtain ⟨gs, os, rfl, hgs, hcell⟩ := hat.out (by omega)
      obtain ⟨x, hx⟩ : ∃ x, o.pars[k]? = some x := ⟨_, List.getElem?_eq_getElem hlt⟩
      have hx32 : x.length = 32 := hpE.out x (List.mem_of_getElem? hx)
      have hx0 : wr.rangeAt gs (os + k * 32) (u8s x).toList := rangeAt_below (hcell k x hx) hgs (bel5.trans hbel)
      have hst := Lib.hid (flat_take hx)
      have hlen := hbound.out k
      have hbw := hbl.lt
      generalize (o.pars.take k).flatten = L at *
      clear hx hat hcell hpE hbound hpt htx
      go_wp2_with (first
        | ((with_reducible refine lit_load_id (.tmp 51) gs (os + k * 32) x hx32 hx0 ?_ ?_); rfl)
        | ((with_reducible refine lit_new_id (.tmp 7) (.tmp 52) x hx32 _ ?_ ?_ ?_ ?_); rfl; rfl; rfl; intro W2 hb2 hbl2
           have hbd2 := hbl.below hbl2
           have bel2 := bthen hbel (by omega) hbl2
           have h4 := Lib.hid (wr_calls hbd2 _ 0 x hx32 (range_blk hb2) (by omega) (by simp; omega))
           clear hbl hx0)
        | ((with_reducible refine h4.out.mono ?_); rintro e w6 ⟨rfl, hbd6, hb6, _⟩
           have bel6 := bel2.trans hb6
           clear h4 hbd2 hb2))
      have hbd7 : Bld w6 W0.heap.size (o.tree ++ PN ++ (o.pars.take (k + 1)).flatten) := by
        rw [hst.out]
        simpa using hbd6
      clear hbd6 hst
      go_roundw
      case rel => exact ⟨k + 1, by go_num, by omega, hbd7, bel6⟩
      case measure => simp [intOf]; omega
    · have hki : ¬ (k : Int) < (o.pars.length : Int) := by omega
      have hlen := hbound.out k
      have he : Hid ((o.pars.take k).flatten = o.pars.flatten) := by show _ = _; rw [List.take_of_length_le (by omega)]
      rw [he.out] at hbl hlen
      have hOr := hO5.under hbel hgW
      have c36 := hOr.time
      have h2 := hpt wr
      have hrr : Hid (r = o.tree ++ PN ++ o.pars.flatten ++ PT ++ TX) := by show r = _; rw [hr2.out, hee.out]
      clear hat hpE hbound hr2 he hee
      generalize o.pars.flatten = FL at *
      go_wp2_with (first
        | ((with_reducible refine h2.out.mono ?_); rintro e w6 ⟨rfl, hb6⟩
           have hO6 := hOr.under hb6 (by have := hOr.blk.lt; omega)
           have hbd6 := hbl.below hb6
           have bel6 := bthen hbel (by omega) hb6
           have h3 := Lib.hid (ws_calls hbd6 PT (by simp; omega))
           clear h2 hOr hbl)
        | ((with_reducible refine h3.out.mono ?_); rintro e w7 ⟨rfl, hbd7, hb7, _⟩
           have c37 := (hO6.under hb7 hgW).text
           have bel7 := bel6.trans hb7
           have h4 := htx w7
           clear h3 hO6 hbd6)
        | ((with_reducible refine h4.out.mono ?_); rintro e w8 ⟨rfl, hb8⟩
           have hbd8 := hbd7.below hb8
           have bel8 := bthen bel7 (by have := bel7.size; omega) hb8
           have h5 := Lib.hid (ws_calls hbd8 TX (by simp; omega))
           clear h4 hbd7)
        | ((with_reducible refine h5.out.mono ?_); rintro e w10 ⟨rfl, hbd10, hb10, _⟩
           have bel10 := bel8.trans hb10
           have h9 := Lib.hid (str_calls hbd10)
           clear h5 hbd8)
        | ((with_reducible refine h9.out.mono ?_); rintro e w9 ⟨rfl, hb9⟩))
      go_ret
      exact ⟨by rw [hrr.out]; simp, b0.trans ((bel5.trans (bel10.trans hb9)).mono s0)⟩
theorem body_calls (o : ObjL) (hs : Small o) (A1 A2 : Option Addr) (k1 k2 : Nat) (w : World) (hv : ObjV w (.slice A1 o.ents.length k1) (.slice A2 o.pars.length k2) o) : Calls Try.prog 18 #[.agg (objC o (.slice A1 o.ents.length k1) (.slice A2 o.pars.length k2)).toArray] w fun e w' => e = .returned (.string (B (bodyO o))) ∧ Below w.heap.size w w' := by
  by_cases h1 : o.kind = 1
  · exact body_calls1 o h1 hs A1 A2 k1 k2 w hv
  by_cases h2 : o.kind = 2
  · exact body_calls2 o h2 hs A1 A2 k1 k2 w hv
  by_cases h3 : o.kind = 3
  · exact body_calls3 o h3 hs A1 A2 k1 k2 w hv
  by_cases h4 : o.kind = 4
  · exact body_calls4 o h4 hs A1 A2 k1 k2 w hv
  exact body_calls0 o (by omega) hs A1 A2 k1 k2 w hv
end Go.Proofs.Ytlanconcbpdneaa
