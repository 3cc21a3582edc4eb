/- Lemmas and walks of this seat, laid together: ObjY, ObjZ, Inv, InvW, ObjC, LitB, Varint2, Unhex0, ObjK, ObjKn, Take, GsW, RdW. -/
import Derived.Test.YtlanconcbpdneaaDoorMc
import Derived.Orders
import Derived.Great.BuildSlice
import Derived.Lib.Hide
/- The walk of layer 4: body, at each kind. Condition: an object that is not great. -/
namespace Go.Proofs.YtlanconcbpdneaaDoor
open Go.RowKit
attribute [local go_sem ↓] ldvI_eq
/-- An object that is not great. -/
structure Small (o : ObjL) : Prop where
  ents : o.ents.length ≤ 70
  names : ∀ e ∈ o.ents, e.name.length ≤ 5000
  pars : o.pars.length ≤ 20
  data : o.data.length ≤ 5000
  text : o.text.length ≤ 5000
  name : o.name.length ≤ 5000
abbrev Bld (w : World) (b : Nat) (l : Txt) : Prop := Lib.IsBuilder 86 5 b b (l.map u8v) w
theorem ib_below {T e : TypeId} {B0 b : Nat} {bs : List Value} {w w' : World} (h : Lib.IsBuilder T e B0 b bs w) (hb : Below w.heap.size w w') : Lib.IsBuilder T e B0 b bs w' := by
  have key : ∀ p, Lib.BuilderAt T e B0 b p bs w → Lib.BuilderAt T e B0 b p bs w' := by
    rintro p ⟨hB, v, hh, ho, hne⟩
    have hlt : b < w.heap.size := (show Blk w b T #[p, v] from hh).lt
    exact ⟨hB, v, (hb.block b hlt).trans hh, own_below ho hb, hne⟩
  exact h.imp (key _) (key _)
theorem ib_lt {T e : TypeId} {B0 b : Nat} {bs : List Value} {w : World} (h : Lib.IsBuilder T e B0 b bs w) : b < w.heap.size := by
  rcases h with ⟨_, v, hh, _⟩ | ⟨_, v, hh, _⟩
  · exact (show Blk w b T #[_, v] from hh).lt
  · exact (show Blk w b T #[_, v] from hh).lt
theorem Bld.below {w w' : World} {b : Nat} {l : Txt} (h : Bld w b l) (hb : Below w.heap.size w w') : Bld w' b l := ib_below h hb
theorem Bld.lt {w : World} {b : Nat} {l : Txt} (h : Bld w b l) : b < w.heap.size := ib_lt h
theorem wb_calls {w : World} {b : Nat} {l : Txt} (h : Bld w b l) (k : Int) (hl : l.length ≤ 1000000) : Calls Tryd.prog 48 #[.pointer (some ⟨b, 0, none⟩), .int .u8 (k % 256)] w fun e w' => e = .returned .nilIface ∧ Bld w' b (l ++ [byteK k]) ∧ Below b w w' ∧ ∀ k T cs, Blk w k T cs → 5 ≠ T → k ≠ b → Blk w' k T cs :=
  writeByte_calls b b l (k % 256) w h (by omega) (by omega) (by omega) (Nat.le_of_lt h.lt)
theorem ws_calls {w : World} {b : Nat} {l : Txt} (h : Bld w b l) (t : Txt) (hl : l.length + t.length ≤ 70368744177664) : Calls Tryd.prog 49 #[.pointer (some ⟨b, 0, none⟩), .string (B t)] w fun e w' => e = .returned (.tuple #[.int .i64 t.length, .nilIface]) ∧ Bld w' b (l ++ t) ∧ Below b w w' ∧ ∀ k T cs, Blk w k T cs → 5 ≠ T → k ≠ b → Blk w' k T cs :=
  writeString_calls b b l t w h hl (Nat.le_of_lt h.lt)
theorem wr_calls {w : World} {b : Nat} {l : Txt} (h : Bld w b l) (g off : Nat) (t : Txt) (ht : t.length = 32) (hr : w.rangeAt g off (u8s t).toList) (hgb : g ≠ b) (hl : l.length ≤ 1000000) : Calls Tryd.prog 50 #[.pointer (some ⟨b, 0, none⟩), .slice (some ⟨g, off, none⟩) 32 32] w fun e w' => e = .returned (.tuple #[.int .i64 32, .nilIface]) ∧ Bld w' b (l ++ t) ∧ Below b w w' ∧ ∀ k T cs, Blk w k T cs → 5 ≠ T → k ≠ b → Blk w' k T cs := by
  have := write_calls b b l t w h g off 32 hr hgb (by omega) (Nat.le_of_lt h.lt)
  rw [ht] at this
  exact this
theorem str_calls {w : World} {b : Nat} {l : Txt} (h : Bld w b l) : Calls Tryd.prog 51 #[.pointer (some ⟨b, 0, none⟩)] w fun e w' => e = .returned (.string (B l)) ∧ Below b w w' := Tryd.Builder_String_any b b l w h (Nat.le_of_lt h.lt)
theorem entE_len' {e : EntL} (h : e.name.length ≤ 5000) (hi : e.id.length = 32) : (entE e).length ≤ 5050 := by
  have := put_length e.name.length
  unfold entE textE
  simp only [List.length_cons, List.length_append]
  omega
theorem entsE_len' {l : List EntL} (h : ∀ e ∈ l, e.name.length ≤ 5000 ∧ e.id.length = 32) : (entsE l).length ≤ 5050 * l.length := by
  induction l with
  | nil => simp [entsE]
  | cons e l ih =>
    have h1 := entE_len' (h e (by simp)).1 (h e (by simp)).2
    have h2 := ih fun e he => h e (by simp [he])
    have : entsE (e :: l) = entE e ++ entsE l := by simp [entsE]
    rw [this]
    simp only [List.length_append, List.length_cons]
    omega
set_option maxRecDepth 100000 in
set_option maxHeartbeats 4000000 in
theorem body_calls2 (o : ObjL) (hk : o.kind = 2) (hs : Small o) (A1 A2 : Option Addr) (k1 k2 : Nat) (w : World) (hv : ObjV w (.slice A1 o.ents.length k1) (.slice A2 o.pars.length k2) o) : Calls Tryd.prog 24 #[.agg (objC o (.slice A1 o.ents.length k1) (.slice A2 o.pars.length k2)).toArray] w fun e w' => e = .returned (.string (B (bodyO o))) ∧ Below w.heap.size w w' := by
  have ho := hv.ok
  have hO := boxed (w := w) (ve := .slice A1 o.ents.length k1) (vp := .slice A2 o.pars.length k2) ho
  have b0 : Below w.heap.size w (w.alloc (.cells (objC o (.slice A1 o.ents.length k1) (.slice A2 o.pars.length k2)).toArray 29)) := (Below.refl _ _).alloc (Nat.le_refl _) _
  have hv0 := hv.below b0
  obtain ⟨W0, hW0⟩ : ∃ W0, w.alloc (.cells (objC o (.slice A1 o.ents.length k1) (.slice A2 o.pars.length k2)).toArray 29) = W0 := ⟨_, rfl⟩
  rw [hW0] at hO b0 hv0
  have hB0 := bld_new W0
  have b1 : Below W0.heap.size W0 (W0.alloc (.cells #[.pointer none, .slice none 0 0] 86)) := (Below.refl _ _).alloc (Nat.le_refl _) _
  have hgt : W0.heap.size < (W0.alloc (.cells #[.pointer none, .slice none 0 0] 86)).heap.size := by simp
  obtain ⟨W1, hW1⟩ : ∃ W1, W0.alloc (.cells #[.pointer none, .slice none 0 0] 86) = W1 := ⟨_, rfl⟩
  rw [hW1] at hB0 b1 hgt
  have c0 := (hO.below b1).kind
  have c2 := (hO.below b1).ents
  rw [hk] at c0
  have s0 := b0.size
  obtain ⟨r, hr⟩ : ∃ r, Hid (r = bodyO o) := ⟨_, Lib.hid rfl⟩
  rw [← hr.out]
  have hr2 : Hid (r = entsE o.ents) := by show r = _; rw [hr.out]; unfold bodyO; rw [if_neg (by omega), if_pos hk]
  clear hr hv hO hk
  generalize (objC o (.slice A1 o.ents.length k1) (.slice A2 o.pars.length k2)).toArray = cs at *
  go_enter Tryd.func24, Tryd.ntmps24
  have hat : Hid (0 < o.ents.length → ∃ g os, A1 = some ⟨g, os, none⟩ ∧ g < W0.heap.size ∧ ∀ i x, o.ents[i]? = some x → W0.rangeAt g (os + i * 34) (entC x)) := by
    obtain ⟨A, cap, he, _, _, h⟩ := hv0.ents
    injection he with he _ _
    subst he
    exact h
  have hbound : ∀ k, (entsE (o.ents.take k)).length ≤ 353500 := fun k => by
    have := entsE_len' (l := o.ents.take k) (fun e he => ⟨hs.names e (List.mem_of_mem_take he), (ho.ents e (List.mem_of_mem_take he)).id⟩)
    rw [List.length_take] at this
    have := hs.ents
    omega
  have hbound := Lib.hid hbound
  have hoE := Lib.hid ho.ents
  have hnE := Lib.hid hs.names
  have hen70 := hs.ents
  clear ho hs hv0
  go_wp2
  clear hW0 hW1 c0 c2
  go_loopw [19] (fun vi wr => ∃ k : Nat, vi = .int .i64 k ∧ k ≤ o.ents.length ∧ Bld wr W0.heap.size (entsE (o.ents.take k)) ∧ Below W0.heap.size W0 wr) (fun vi _ => o.ents.length - (intOf vi).toNat)
  case atStart => exact ⟨0, rfl, by omega, hB0, b1⟩
  case round =>
    obtain ⟨k, rfl, hk, hbl, hbel⟩ := hrel
    have hsz := hbel.size
    by_cases hlt : k < o.ents.length
    · have hki : (k : Int) < (o.ents.length : Int) := by omega
      obtain ⟨gs, os, rfl, hgs, hcell⟩ := hat.out (by omega)
      obtain ⟨x, hx⟩ : ∃ x, o.ents[k]? = some x := ⟨_, List.getElem?_eq_getElem hlt⟩
      have hxok : EntOk x := hoE.out x (List.mem_of_getElem? hx)
      have hx0 := rangeAt_below (hcell k x hx) hgs hbel
      have hst := Lib.hid (entsE_take hx)
      have hxn := hnE.out x (List.mem_of_getElem? hx)
      have hlen := hbound.out k
      have hbw := hbl.lt
      generalize entsE (o.ents.take k) = L at *
      have htx := fun W => Lib.hid (text_calls x.name (by omega) W)
      have htl : (textE x.name).length ≤ 5010 := by have := put_length x.name.length; unfold textE; rw [List.length_append]; omega
      have hee : Hid (entE x = byteK x.kind :: (textE x.name ++ x.id)) := Lib.hid rfl
      generalize textE x.name = TX at *
      have hx32 := hxok.id
      clear hx hat hcell hoE hnE hbound
      go_wp2_with (first
        | ((with_reducible refine lit_load_ent (.tmp 21) gs (os + k * 34) x hxok hx0 ?_ ?_); rfl)
        | ((with_reducible refine lit_new_ent (.tmp 5) (.tmp 22) x hxok _ ?_ ?_ ?_ ?_); rfl; rfl; rfl; intro W2 hb2 hbl2
           have cn := (range_ent (range_blkEnt hb2)).1
           have ck := (range_ent (range_blkEnt hb2)).2
           have hbd2 := hbl.below hbl2
           have bel2 := bthen hbel hsz hbl2
           have h1 := Lib.hid (wb_calls hbd2 x.kind (by omega))
           clear hbl hx0)
        | ((with_reducible refine h1.out.mono ?_); rintro e w3 ⟨rfl, hbd3, hb3, hfar3⟩
           have hb33 := hfar3 _ _ _ hb2 (by decide) (by omega)
           have cn3 := (range_ent (range_blkEnt hb33)).1
           have bel3 := bel2.trans hb3
           have h2 := htx w3
           clear h1 hfar3 hb2 cn ck hbd2 htx)
        | ((with_reducible refine h2.out.mono ?_); rintro e w4 ⟨rfl, hb4⟩
           have hbd4 := hbd3.below hb4
           have hb44 := (hb4.block _ hb33.lt).trans hb33
           have bel4 := bthen bel3 bel3.size hb4
           have h3 := Lib.hid (ws_calls hbd4 TX (by simp; omega))
           clear h2 hb33 hbd3 cn3)
        | ((with_reducible refine h3.out.mono ?_); rintro e w5 ⟨rfl, hbd5, hb5, hfar5⟩
           have hb55 := hfar5 _ _ _ hb44 (by decide) (by omega)
           have bel5 := bel4.trans hb5
           have h4 := Lib.hid (wr_calls hbd5 _ 2 x.id hx32 (range_entId (range_blkEnt hb55)) (by omega) (by simp; omega))
           clear h3 hfar5 hb44 hbd4)
        | ((with_reducible refine h4.out.mono ?_); rintro e w6 ⟨rfl, hbd6, hb6, hfar6⟩
           have bel6 := bel5.trans hb6
           clear h4 hfar6 hbd5 hb55))
      have hbd7 : Bld w6 W0.heap.size (entsE (o.ents.take (k + 1))) := by
        rw [hst.out, hee.out]
        simpa using hbd6
      clear hbd6 hst hee
      go_roundw
      case rel => exact ⟨k + 1, by go_num, by omega, hbd7, bel6⟩
      case measure => simp [intOf]; omega
    · have hki : ¬ (k : Int) < (o.ents.length : Int) := by omega
      have he : Hid (r = entsE (o.ents.take k)) := by show r = _; rw [hr2.out, List.take_of_length_le (by omega)]
      generalize entsE (o.ents.take k) = L at *
      have h9 := Lib.hid (str_calls hbl)
      clear hat hoE hnE hbound hbl hr2
      go_wp2_with (first
        | ((with_reducible refine h9.out.mono ?_); rintro e w9 ⟨rfl, hb9⟩))
      go_ret
      exact ⟨by rw [he.out]; rfl, b0.trans ((hbel.trans hb9).mono s0)⟩
end Go.Proofs.YtlanconcbpdneaaDoor
/- The walk of layer 4: body, at the other kinds. Condition: an object that is not great. -/
namespace Go.Proofs.YtlanconcbpdneaaDoor
open Go.RowKit
theorem ObjB.under {w w' : World} {B0 g : Nat} {o : ObjL} {ve vp : Value} (h : ObjB w g o ve vp) (hb : Below B0 w w') (hg : g < B0) : ObjB w' g o ve vp := ⟨(hb.block g hg).trans h.blk, h.tr, h.ta⟩
theorem lit_load_id {ops : Array Oper} {rest : List Oper} {a : Act} {w : World} {Q : Exit → Act → World → Prop} {d : Option Tmp} {rt : TypeId} {pos : String} {af : Array Edge} (x : Operand) (b o : Nat) (l : List UInt8) (hl : l.length = 32) (hc : w.rangeAt b o (u8s l).toList) (hx : a.eval x = .pointer (some ⟨b, o, none⟩))
    (h : wpList Tryd.prog ops Q rest (a.put d (.agg (u8s l))) w) : wpList Tryd.prog ops Q ({ dst := d, op := .load 25 x, type := rt, pos := pos, after := af, guard := none } :: rest) a w :=
  wpList_load_mid rfl _ x rfl b o hx _ _ hc Tryd.underlying25 rfl (by rw [Array.length_toList, u8s_size, hl]; exact sz32) (by rw [Array.toArray_toList]; exact h)
theorem lit_new_id {ops : Array Oper} {rest : List Oper} {a : Act} {w : World} {Q : Exit → Act → World → Prop} {d : Option Tmp} {rt : TypeId} {pos : String} {af : Array Edge} (x y : Operand) (u : List UInt8) (lu : u.length = 32) (zs : Array Value) (hz : zs.size = 32) (hx : a.eval x = .pointer (some ⟨w.heap.size, 0, none⟩)) (hy : a.eval y = .agg (u8s u))
    (h : ∀ W1, Blk W1 w.heap.size 25 (u8s u) → Below w.heap.size w W1 → wpList Tryd.prog ops Q rest (a.put d undef) W1) :
    wpList Tryd.prog ops Q ({ dst := d, op := .store 25 x y, type := rt, pos := pos, after := af, guard := none } :: rest) a (w.alloc (.cells zs 25)) :=
  wpList_store_newId rfl x y rfl u lu zs hx hy hz h
set_option maxRecDepth 100000 in
set_option maxHeartbeats 4000000 in
theorem body_calls1 (o : ObjL) (hk : o.kind = 1) (hs : Small o) (A1 A2 : Option Addr) (k1 k2 : Nat) (w : World) (hv : ObjV w (.slice A1 o.ents.length k1) (.slice A2 o.pars.length k2) o) : Calls Tryd.prog 24 #[.agg (objC o (.slice A1 o.ents.length k1) (.slice A2 o.pars.length k2)).toArray] w fun e w' => e = .returned (.string (B (bodyO o))) ∧ Below w.heap.size w w' := by
  have ho := hv.ok
  have hO := boxed (w := w) (ve := .slice A1 o.ents.length k1) (vp := .slice A2 o.pars.length k2) ho
  have b0 : Below w.heap.size w (w.alloc (.cells (objC o (.slice A1 o.ents.length k1) (.slice A2 o.pars.length k2)).toArray 29)) := (Below.refl _ _).alloc (Nat.le_refl _) _
  have hv0 := hv.below b0
  obtain ⟨W0, hW0⟩ : ∃ W0, w.alloc (.cells (objC o (.slice A1 o.ents.length k1) (.slice A2 o.pars.length k2)).toArray 29) = W0 := ⟨_, rfl⟩
  rw [hW0] at hO b0 hv0
  have hB0 := bld_new W0
  have b1 : Below W0.heap.size W0 (W0.alloc (.cells #[.pointer none, .slice none 0 0] 86)) := (Below.refl _ _).alloc (Nat.le_refl _) _
  have hgt : W0.heap.size < (W0.alloc (.cells #[.pointer none, .slice none 0 0] 86)).heap.size := by simp
  obtain ⟨W1, hW1⟩ : ∃ W1, W0.alloc (.cells #[.pointer none, .slice none 0 0] 86) = W1 := ⟨_, rfl⟩
  rw [hW1] at hB0 b1 hgt
  have c0 := (hO.below b1).kind
  have c2 := (hO.below b1).ents
  rw [hk] at c0
  have s0 := b0.size
  obtain ⟨r, hr⟩ : ∃ r, Hid (r = bodyO o) := ⟨_, Lib.hid rfl⟩
  rw [← hr.out]
  have hr2 : Hid (r = o.data) := by show r = _; rw [hr.out]; unfold bodyO; rw [if_pos hk]
  have c1 := (hO.below b1).data
  clear hr hv hO hk
  generalize (objC o (.slice A1 o.ents.length k1) (.slice A2 o.pars.length k2)).toArray = cs at *
  go_enter Tryd.func24, Tryd.ntmps24
  clear hs ho hv0
  go_wp2
  go_ret
  exact ⟨by rw [hr2.out]; rfl, b0.trans (b1.mono s0)⟩
set_option maxRecDepth 100000 in
set_option maxHeartbeats 4000000 in
theorem body_calls0 (o : ObjL) (hk : o.kind < 1 ∨ 4 < o.kind) (hs : Small o) (A1 A2 : Option Addr) (k1 k2 : Nat) (w : World) (hv : ObjV w (.slice A1 o.ents.length k1) (.slice A2 o.pars.length k2) o) : Calls Tryd.prog 24 #[.agg (objC o (.slice A1 o.ents.length k1) (.slice A2 o.pars.length k2)).toArray] w fun e w' => e = .returned (.string (B (bodyO o))) ∧ Below w.heap.size w w' := by
  have ho := hv.ok
  have hO := boxed (w := w) (ve := .slice A1 o.ents.length k1) (vp := .slice A2 o.pars.length k2) ho
  have b0 : Below w.heap.size w (w.alloc (.cells (objC o (.slice A1 o.ents.length k1) (.slice A2 o.pars.length k2)).toArray 29)) := (Below.refl _ _).alloc (Nat.le_refl _) _
  have hv0 := hv.below b0
  obtain ⟨W0, hW0⟩ : ∃ W0, w.alloc (.cells (objC o (.slice A1 o.ents.length k1) (.slice A2 o.pars.length k2)).toArray 29) = W0 := ⟨_, rfl⟩
  rw [hW0] at hO b0 hv0
  have hB0 := bld_new W0
  have b1 : Below W0.heap.size W0 (W0.alloc (.cells #[.pointer none, .slice none 0 0] 86)) := (Below.refl _ _).alloc (Nat.le_refl _) _
  have hgt : W0.heap.size < (W0.alloc (.cells #[.pointer none, .slice none 0 0] 86)).heap.size := by simp
  obtain ⟨W1, hW1⟩ : ∃ W1, W0.alloc (.cells #[.pointer none, .slice none 0 0] 86) = W1 := ⟨_, rfl⟩
  rw [hW1] at hB0 b1 hgt
  have c0 := (hO.below b1).kind
  have c2 := (hO.below b1).ents
  have s0 := b0.size
  obtain ⟨r, hr⟩ : ∃ r, Hid (r = bodyO o) := ⟨_, Lib.hid rfl⟩
  rw [← hr.out]
  have hr2 : Hid (r = []) := by show r = _; rw [hr.out]; unfold bodyO; rw [if_neg (by omega), if_neg (by omega), if_neg (by omega), if_neg (by omega)]
  have e1 : (o.kind == 1) = false := by rw [beq_eq_false_iff_ne]; omega
  have e2 : (o.kind == 2) = false := by rw [beq_eq_false_iff_ne]; omega
  have e3 : (o.kind == 3) = false := by rw [beq_eq_false_iff_ne]; omega
  have e4 : (o.kind == 4) = false := by rw [beq_eq_false_iff_ne]; omega
  have h9 := Lib.hid (str_calls (l := []) hB0)
  clear hr hv hO hk
  generalize (objC o (.slice A1 o.ents.length k1) (.slice A2 o.pars.length k2)).toArray = cs at *
  go_enter Tryd.func24, Tryd.ntmps24
  clear hs ho hv0
  go_wp2_with (first
    | ((with_reducible refine h9.out.mono ?_); rintro e w9 ⟨rfl, hb9⟩))
  go_ret
  exact ⟨by rw [hr2.out]; rfl, b0.trans ((b1.trans hb9).mono s0)⟩
set_option maxRecDepth 100000 in
set_option maxHeartbeats 4000000 in
theorem body_calls4 (o : ObjL) (hk : o.kind = 4) (hs : Small o) (A1 A2 : Option Addr) (k1 k2 : Nat) (w : World) (hv : ObjV w (.slice A1 o.ents.length k1) (.slice A2 o.pars.length k2) o) : Calls Tryd.prog 24 #[.agg (objC o (.slice A1 o.ents.length k1) (.slice A2 o.pars.length k2)).toArray] w fun e w' => e = .returned (.string (B (bodyO o))) ∧ Below w.heap.size w w' := by
  have ho := hv.ok
  have hO := boxed (w := w) (ve := .slice A1 o.ents.length k1) (vp := .slice A2 o.pars.length k2) ho
  have b0 : Below w.heap.size w (w.alloc (.cells (objC o (.slice A1 o.ents.length k1) (.slice A2 o.pars.length k2)).toArray 29)) := (Below.refl _ _).alloc (Nat.le_refl _) _
  have hv0 := hv.below b0
  obtain ⟨W0, hW0⟩ : ∃ W0, w.alloc (.cells (objC o (.slice A1 o.ents.length k1) (.slice A2 o.pars.length k2)).toArray 29) = W0 := ⟨_, rfl⟩
  rw [hW0] at hO b0 hv0
  have hB0 := bld_new W0
  have b1 : Below W0.heap.size W0 (W0.alloc (.cells #[.pointer none, .slice none 0 0] 86)) := (Below.refl _ _).alloc (Nat.le_refl _) _
  have hgt : W0.heap.size < (W0.alloc (.cells #[.pointer none, .slice none 0 0] 86)).heap.size := by simp
  obtain ⟨W1, hW1⟩ : ∃ W1, W0.alloc (.cells #[.pointer none, .slice none 0 0] 86) = W1 := ⟨_, rfl⟩
  rw [hW1] at hB0 b1 hgt
  have c0 := (hO.below b1).kind
  have c2 := (hO.below b1).ents
  rw [hk] at c0
  have s0 := b0.size
  obtain ⟨r, hr⟩ : ∃ r, Hid (r = bodyO o) := ⟨_, Lib.hid rfl⟩
  rw [← hr.out]
  have hr2 : Hid (r = tagE o) := by show r = _; rw [hr.out]; unfold bodyO; rw [if_neg (by omega), if_neg (by omega), if_neg (by omega), if_pos hk]
  have hO1 := hO.below b1
  have c70 := hO1.of_
  have hgW : w.heap.size < W0.heap.size := by rw [← hW0]; simp
  clear hr hv hO hk
  generalize (objC o (.slice A1 o.ents.length k1) (.slice A2 o.pars.length k2)).toArray = cs at *
  have hta := ho.target
  have htx := fun W => Lib.hid (text_calls o.name (by have := hs.name; omega) W)
  have htl : (textE o.name).length ≤ 5010 := by have := put_length o.name.length; have := hs.name; unfold textE; rw [List.length_append]; omega
  have hee : Hid (tagE o = byteK o.of_ :: (o.target ++ textE o.name)) := Lib.hid rfl
  generalize textE o.name = TX at *
  have h1 := Lib.hid (wb_calls (l := []) hB0 o.of_ (by simp))
  clear hs ho hv0
  go_enter Tryd.func24, Tryd.ntmps24
  go_wp2_with (first
    | ((with_reducible refine h1.out.mono ?_); rintro e w3 ⟨rfl, hbd3, hb3, _⟩
       have hO3 := hO1.under hb3 hgW
       have bel3 := b1.trans hb3
       have h2 := Lib.hid (wr_calls hbd3 _ 38 o.target hta hO3.target (by omega) (by simp))
       clear h1 hO1)
    | ((with_reducible refine h2.out.mono ?_); rintro e w4 ⟨rfl, hbd4, hb4, _⟩
       have bel4 := bel3.trans hb4
       have c71 := (hO3.under hb4 hgW).name
       have h3 := htx w4
       clear h2 hO3 htx hbd3)
    | ((with_reducible refine h3.out.mono ?_); rintro e w5 ⟨rfl, hb5⟩
       have hbd5 := hbd4.below hb5
       have bel5 := bthen bel4 bel4.size hb5
       have h4 := Lib.hid (ws_calls hbd5 TX (by simp; omega))
       clear h3 hbd4)
    | ((with_reducible refine h4.out.mono ?_); rintro e w6 ⟨rfl, hbd6, hb6, _⟩
       have bel6 := bel5.trans hb6
       have h9 := Lib.hid (str_calls hbd6)
       clear h4 hbd5)
    | ((with_reducible refine h9.out.mono ?_); rintro e w9 ⟨rfl, hb9⟩))
  go_ret
  exact ⟨by rw [hr2.out, hee.out]; simp, b0.trans ((bel6.trans hb9).mono s0)⟩
set_option maxRecDepth 100000 in
set_option maxHeartbeats 4000000 in
theorem body_calls3 (o : ObjL) (hk : o.kind = 3) (hs : Small o) (A1 A2 : Option Addr) (k1 k2 : Nat) (w : World) (hv : ObjV w (.slice A1 o.ents.length k1) (.slice A2 o.pars.length k2) o) : Calls Tryd.prog 24 #[.agg (objC o (.slice A1 o.ents.length k1) (.slice A2 o.pars.length k2)).toArray] w fun e w' => e = .returned (.string (B (bodyO o))) ∧ Below w.heap.size w w' := by
  have ho := hv.ok
  have hO := boxed (w := w) (ve := .slice A1 o.ents.length k1) (vp := .slice A2 o.pars.length k2) ho
  have b0 : Below w.heap.size w (w.alloc (.cells (objC o (.slice A1 o.ents.length k1) (.slice A2 o.pars.length k2)).toArray 29)) := (Below.refl _ _).alloc (Nat.le_refl _) _
  have hv0 := hv.below b0
  obtain ⟨W0, hW0⟩ : ∃ W0, w.alloc (.cells (objC o (.slice A1 o.ents.length k1) (.slice A2 o.pars.length k2)).toArray 29) = W0 := ⟨_, rfl⟩
  rw [hW0] at hO b0 hv0
  have hB0 := bld_new W0
  have b1 : Below W0.heap.size W0 (W0.alloc (.cells #[.pointer none, .slice none 0 0] 86)) := (Below.refl _ _).alloc (Nat.le_refl _) _
  have hgt : W0.heap.size < (W0.alloc (.cells #[.pointer none, .slice none 0 0] 86)).heap.size := by simp
  obtain ⟨W1, hW1⟩ : ∃ W1, W0.alloc (.cells #[.pointer none, .slice none 0 0] 86) = W1 := ⟨_, rfl⟩
  rw [hW1] at hB0 b1 hgt
  have c0 := (hO.below b1).kind
  have c2 := (hO.below b1).ents
  rw [hk] at c0
  have s0 := b0.size
  obtain ⟨r, hr⟩ : ∃ r, Hid (r = bodyO o) := ⟨_, Lib.hid rfl⟩
  rw [← hr.out]
  have hr2 : Hid (r = commitE o) := by show r = _; rw [hr.out]; unfold bodyO; rw [if_neg (by omega), if_neg (by omega), if_pos hk]
  have hO1 := hO.below b1
  have hgW : w.heap.size < W0.heap.size := by rw [← hW0]; simp
  clear hr hv hO hk
  generalize (objC o (.slice A1 o.ents.length k1) (.slice A2 o.pars.length k2)).toArray = cs at *
  have htr := ho.tree
  have htt := ho.time
  have hp20 := hs.pars
  have htx := fun W => Lib.hid (text_calls o.text (by have := hs.text; omega) W)
  have htl : (textE o.text).length ≤ 5010 := by have := put_length o.text.length; have := hs.text; unfold textE; rw [List.length_append]; omega
  have hpn := fun W => Lib.hid (put_calls o.pars.length (by omega) W)
  have hpt := fun W => Lib.hid (put_calls o.time (by omega) W)
  have hl1 := put_length o.pars.length
  have hl2 := put_length o.time
  have hee : Hid (commitE o = o.tree ++ put o.pars.length ++ o.pars.flatten ++ put o.time ++ textE o.text) := Lib.hid rfl
  have hpE := Lib.hid ho.pars
  have hbound : Hid (∀ k, ((o.pars.take k).flatten).length ≤ 640) := fun k => by
    have := flat_len (l := o.pars.take k) (fun e he => hpE.out e (List.mem_of_mem_take he))
    rw [List.length_take] at this
    omega
  generalize textE o.text = TX at *
  generalize put o.pars.length = PN at *
  generalize put o.time = PT at *
  have hat : Hid (0 < o.pars.length → ∃ g os, A2 = some ⟨g, os, none⟩ ∧ g < W0.heap.size ∧ ∀ i x, o.pars[i]? = some x → W0.rangeAt g (os + i * 32) (idC x)) := by
    obtain ⟨A, cap, he, _, _, h⟩ := hv0.pars
    injection he with he _ _
    subst he
    exact h
  have h1 := Lib.hid (wr_calls (l := []) hB0 _ 3 o.tree htr hO1.tree (by omega) (by simp))
  clear hs ho hv0
  go_enter Tryd.func24, Tryd.ntmps24
  go_wp2_with (first
    | ((with_reducible refine h1.out.mono ?_); rintro e w3 ⟨rfl, hbd3, hb3, _⟩
       have hO3 := hO1.under hb3 hgW
       have bel3 := b1.trans hb3
       have c35 := hO3.pars
       have h2 := hpn w3
       clear h1 hO1)
    | ((with_reducible refine h2.out.mono ?_); rintro e w4 ⟨rfl, hb4⟩
       have hO4 := hO3.under hb4 (by have := hO3.blk.lt; omega)
       have hbd4 := hbd3.below hb4
       have bel4 := bthen bel3 bel3.size hb4
       have h3 := Lib.hid (ws_calls hbd4 PN (by simp; omega))
       clear h2 hO3 hbd3 c35 hpn)
    | ((with_reducible refine h3.out.mono ?_); rintro e w5 ⟨rfl, hbd5, hb5, _⟩
       have hO5 := hO4.under hb5 hgW
       have bel5 := bel4.trans hb5
       have c35' := hO5.pars
       clear h3 hO4 hbd4))
  have bs5 := bel5.size
  clear hW0 hW1 c0 c2 c35' hB0
  go_loopw [49] (fun vi wr => ∃ k : Nat, vi = .int .i64 k ∧ k ≤ o.pars.length ∧ Bld wr W0.heap.size (o.tree ++ PN ++ (o.pars.take k).flatten) ∧ Below W0.heap.size w5 wr) (fun vi _ => o.pars.length - (intOf vi).toNat)
  case atStart => exact ⟨0, rfl, by omega, by simpa using hbd5, Below.refl _ _⟩
  case round =>
    obtain ⟨k, rfl, hk, hbl, hbel⟩ := hrel
    have hsz := Nat.le_trans bs5 hbel.size
    by_cases hlt : k < o.pars.length
    · have hki : (k : Int) < (o.pars.length : Int) := by omega
      obtain ⟨gs, os, rfl, hgs, hcell⟩ := hat.out (by omega)
      obtain ⟨x, hx⟩ : ∃ x, o.pars[k]? = some x := ⟨_, List.getElem?_eq_getElem hlt⟩
      have hx32 : x.length = 32 := hpE.out x (List.mem_of_getElem? hx)
      have hx0 : wr.rangeAt gs (os + k * 32) (u8s x).toList := rangeAt_below (hcell k x hx) hgs (bel5.trans hbel)
      have hst := Lib.hid (flat_take hx)
      have hlen := hbound.out k
      have hbw := hbl.lt
      generalize (o.pars.take k).flatten = L at *
      clear hx hat hcell hpE hbound hpt htx
      go_wp2_with (first
        | ((with_reducible refine lit_load_id (.tmp 51) gs (os + k * 32) x hx32 hx0 ?_ ?_); rfl)
        | ((with_reducible refine lit_new_id (.tmp 7) (.tmp 52) x hx32 _ ?_ ?_ ?_ ?_); rfl; rfl; rfl; intro W2 hb2 hbl2
           have hbd2 := hbl.below hbl2
           have bel2 := bthen hbel (by omega) hbl2
           have h4 := Lib.hid (wr_calls hbd2 _ 0 x hx32 (range_blk hb2) (by omega) (by simp; omega))
           clear hbl hx0)
        | ((with_reducible refine h4.out.mono ?_); rintro e w6 ⟨rfl, hbd6, hb6, _⟩
           have bel6 := bel2.trans hb6
           clear h4 hbd2 hb2))
      have hbd7 : Bld w6 W0.heap.size (o.tree ++ PN ++ (o.pars.take (k + 1)).flatten) := by
        rw [hst.out]
        simpa using hbd6
      clear hbd6 hst
      go_roundw
      case rel => exact ⟨k + 1, by go_num, by omega, hbd7, bel6⟩
      case measure => simp [intOf]; omega
    · have hki : ¬ (k : Int) < (o.pars.length : Int) := by omega
      have hlen := hbound.out k
      have he : Hid ((o.pars.take k).flatten = o.pars.flatten) := by show _ = _; rw [List.take_of_length_le (by omega)]
      rw [he.out] at hbl hlen
      have hOr := hO5.under hbel hgW
      have c36 := hOr.time
      have h2 := hpt wr
      have hrr : Hid (r = o.tree ++ PN ++ o.pars.flatten ++ PT ++ TX) := by show r = _; rw [hr2.out, hee.out]
      clear hat hpE hbound hr2 he hee
      generalize o.pars.flatten = FL at *
      go_wp2_with (first
        | ((with_reducible refine h2.out.mono ?_); rintro e w6 ⟨rfl, hb6⟩
           have hO6 := hOr.under hb6 (by have := hOr.blk.lt; omega)
           have hbd6 := hbl.below hb6
           have bel6 := bthen hbel (by omega) hb6
           have h3 := Lib.hid (ws_calls hbd6 PT (by simp; omega))
           clear h2 hOr hbl)
        | ((with_reducible refine h3.out.mono ?_); rintro e w7 ⟨rfl, hbd7, hb7, _⟩
           have c37 := (hO6.under hb7 hgW).text
           have bel7 := bel6.trans hb7
           have h4 := htx w7
           clear h3 hO6 hbd6)
        | ((with_reducible refine h4.out.mono ?_); rintro e w8 ⟨rfl, hb8⟩
           have hbd8 := hbd7.below hb8
           have bel8 := bthen bel7 (by have := bel7.size; omega) hb8
           have h5 := Lib.hid (ws_calls hbd8 TX (by simp; omega))
           clear h4 hbd7)
        | ((with_reducible refine h5.out.mono ?_); rintro e w10 ⟨rfl, hbd10, hb10, _⟩
           have bel10 := bel8.trans hb10
           have h9 := Lib.hid (str_calls hbd10)
           clear h5 hbd8)
        | ((with_reducible refine h9.out.mono ?_); rintro e w9 ⟨rfl, hb9⟩))
      go_ret
      exact ⟨by rw [hrr.out]; simp, b0.trans ((bel5.trans (bel10.trans hb9)).mono s0)⟩
theorem body_calls (o : ObjL) (hs : Small o) (A1 A2 : Option Addr) (k1 k2 : Nat) (w : World) (hv : ObjV w (.slice A1 o.ents.length k1) (.slice A2 o.pars.length k2) o) : Calls Tryd.prog 24 #[.agg (objC o (.slice A1 o.ents.length k1) (.slice A2 o.pars.length k2)).toArray] w fun e w' => e = .returned (.string (B (bodyO o))) ∧ Below w.heap.size w w' := by
  by_cases h1 : o.kind = 1
  · exact body_calls1 o h1 hs A1 A2 k1 k2 w hv
  by_cases h2 : o.kind = 2
  · exact body_calls2 o h2 hs A1 A2 k1 k2 w hv
  by_cases h3 : o.kind = 3
  · exact body_calls3 o h3 hs A1 A2 k1 k2 w hv
  by_cases h4 : o.kind = 4
  · exact body_calls4 o h4 hs A1 A2 k1 k2 w hv
  exact body_calls0 o (by omega) hs A1 A2 k1 k2 w hv
end Go.Proofs.YtlanconcbpdneaaDoor
/- Regions that draw their order, by what each operation leaves, whatever the order: for regions that lay memory amid calls. No condition; no program. -/
namespace Go.Proofs.YtlanconcbpdneaaDoor
open Go.RowKit
section
variable {P : Program} {ops : Array Oper} {a0 : Act} {C : Array Bool → World → Prop} {R : Nat → Value → World → Prop} {Q : Exit → Act → World → Prop}
/-- What the operations that are listed so far have left. -/
structure Left (ops : Array Oper) (a0 : Act) (C : Array Bool → World → Prop) (R : Nat → Value → World → Prop) (listed : Array Bool) (a : Act) (w : World) : Prop where
  cls : C listed w
  size : listed.size = ops.size
  closed : ∀ i o, ops[i]? = some o → listed.getD i false = true → ∀ e ∈ o.after, Region.binds .any e = true → listed.getD e.on false = true
  tsize : a.tmps.size = a0.tmps.size
  defers : a.defers = a0.defers
  old : ∀ t : Nat, (∀ (i : Nat) o, ops[i]? = some o → listed.getD i false = true → o.dst ≠ some t) → a.tmps[t]? = a0.tmps[t]?
  new : ∀ (i : Nat) o (t : Nat), ops[i]? = some o → listed.getD i false = true → o.dst = some t → ∃ v, a.tmps[t]? = some v ∧ R i v w
/-- Each operation waits only for earlier ones; no two write one slot; the slots are there. -/
def acyc (ops : Array Oper) : Bool := (List.range ops.size).all fun i => match ops[i]? with
  | some o => o.after.all fun e => decide (e.on < i)
  | none => true
def apartB (ops : Array Oper) : Bool := (List.range ops.size).all fun i => (List.range ops.size).all fun j => decide (i = j) || match ops[i]?, ops[j]? with
  | some o, some q => match o.dst, q.dst with
    | some s, some t => decide (s ≠ t)
    | _, _ => true
  | _, _ => true
theorem acyc_spec (h : acyc ops = true) {i : Nat} {o : Oper} (ho : ops[i]? = some o) {e : Edge} (he : e ∈ o.after) : e.on < i := by
  have hi := (Array.getElem?_eq_some_iff.1 ho).1
  have := List.all_eq_true.1 h i (List.mem_range.2 hi)
  rw [ho] at this
  have := Array.all_eq_true_iff_forall_mem.1 this e he
  simpa using this
theorem apart_spec (h : apartB ops = true) {i j : Nat} {o q : Oper} {t : Nat} (ho : ops[i]? = some o) (hq : ops[j]? = some q) (h1 : o.dst = some t) (h2 : q.dst = some t) : i = j := by
  have hi := (Array.getElem?_eq_some_iff.1 ho).1
  have hj := (Array.getElem?_eq_some_iff.1 hq).1
  have := List.all_eq_true.1 (List.all_eq_true.1 h i (List.mem_range.2 hi)) j (List.mem_range.2 hj)
  rw [ho, hq] at this
  simp only [h1, h2] at this
  simpa using this
theorem ready_spec {listed : Array Bool} {i : Nat} (h : i ∈ Region.ready .any ops listed) : i < ops.size ∧ listed.getD i true = false ∧ ∀ o, ops[i]? = some o → ∀ e ∈ o.after, Region.binds .any e = true → listed.getD e.on false = true := by
  unfold Region.ready at h
  rw [List.mem_filter, List.mem_range, Bool.and_eq_true] at h
  obtain ⟨h1, h2, h3⟩ := h
  refine ⟨h1, by simpa using h2, fun o ho e he hb => ?_⟩
  rw [ho] at h3
  simp only [Option.map_some, Option.getD_some] at h3
  have := Array.all_eq_true_iff_forall_mem.1 h3 e he
  simpa [hb] using this
theorem getD_of_size {listed : Array Bool} {i : Nat} (h : i < listed.size) : listed.getD i false = listed.getD i true := by
  simp [Array.getD, h]
/-- Where none is ready, all are listed. -/
theorem all_listed (hac : acyc ops = true) {listed : Array Bool} (hs : listed.size = ops.size) (h : Region.ready .any ops listed = []) : ∀ i, i < ops.size → listed.getD i false = true := by
  intro i
  induction i using Nat.strongRecOn with
  | ind i ih =>
    intro hi
    cases hl : listed.getD i false with
    | true => rfl
    | false =>
      have hmem : i ∈ Region.ready .any ops listed := by
        unfold Region.ready
        rw [List.mem_filter, List.mem_range, Bool.and_eq_true]
        have ho : ops[i]? = some ops[i] := Array.getElem?_eq_getElem hi
        refine ⟨hi, by rw [← getD_of_size (by omega), hl]; rfl, ?_⟩
        rw [ho]
        simp only [Option.map_some, Option.getD_some]
        rw [Array.all_eq_true_iff_forall_mem]
        intro e he
        have h1 := acyc_spec hac ho he
        rw [ih e.on h1 (by omega)]
        simp
      rw [h] at hmem
      cases hmem
/-- How many are not listed. -/
def unlisted (listed : Array Bool) (n : Nat) : Nat := ((List.range n).filter fun i => !listed.getD i false).length
theorem unlisted_set {listed : Array Bool} {n i : Nat} (hi : i < n) (hs : listed.size = n) (hl : listed.getD i false = false) : unlisted (listed.setIfInBounds i true) n < unlisted listed n := by
  unfold unlisted
  have hsub : ((List.range n).filter fun j => !(listed.setIfInBounds i true).getD j false).Sublist ((List.range n).filter fun j => !listed.getD j false) := by
    have : ((List.range n).filter fun j => !(listed.setIfInBounds i true).getD j false) = (((List.range n).filter fun j => !listed.getD j false).filter fun j => decide (j ≠ i)) := by
      rw [List.filter_filter]
      apply List.filter_congr
      intro j hj
      have hj := List.mem_range.1 hj
      by_cases hji : j = i
      · subst hji
        simp [Array.getD, hs, hj]
      · have : (listed.setIfInBounds i true).getD j false = listed.getD j false := by
          simp [Array.getD, hs, hj, Array.getElem_setIfInBounds, Ne.symm hji]
        simp [this, hji]
    rw [this]
    exact List.filter_sublist
  rcases Nat.lt_or_ge ((List.range n).filter fun j => !(listed.setIfInBounds i true).getD j false).length ((List.range n).filter fun j => !listed.getD j false).length with h | h
  · exact h
  · exfalso
    have heq := hsub.eq_of_length_le h
    have hm : i ∈ ((List.range n).filter fun j => !listed.getD j false) := by
      rw [List.mem_filter, List.mem_range]
      exact ⟨hi, by rw [hl]; rfl⟩
    rw [← heq, List.mem_filter] at hm
    have := hm.2
    simp [Array.getD, hs, hi] at this
theorem getD_set {listed : Array Bool} {i j : Nat} (hi : i < listed.size) : (listed.setIfInBounds i true).getD j false = if j = i then true else listed.getD j false := by
  by_cases hj : j = i
  · subst hj
    simp [Array.getD, hi]
  · rw [if_neg hj]
    simp only [Array.getD, Array.size_setIfInBounds]
    split
    · rename_i h
      simp only [Array.getInternal_eq_getElem]
      rw [Array.getElem_setIfInBounds_ne _ (Ne.symm hj)]
    · rfl
theorem put_at {a : Act} {d : Option Tmp} {v : Value} {t : Nat} (h : d ≠ some t) : (a.put d v).tmps[t]? = a.tmps[t]? := by
  cases d with
  | none => rfl
  | some s =>
    have : s ≠ t := fun e => h (by rw [e])
    simp [Act.put, Array.getElem?_setIfInBounds, this]
theorem put_size (a : Act) (d : Option Tmp) (v : Value) : (a.put d v).tmps.size = a.tmps.size := by
  cases d <;> simp [Act.put]
theorem put_defers (a : Act) (d : Option Tmp) (v : Value) : (a.put d v).defers = a.defers := by
  cases d <;> simp [Act.put]
theorem Left.step {listed : Array Bool} {a : Act} {w w' : World} {i : Nat} {o : Oper} {v : Value} (hd : apartB ops = true) (hsz : ∀ (i : Nat) o (t : Nat), ops[i]? = some o → o.dst = some t → t < a0.tmps.size)
    (h : Left ops a0 C R listed a w) (hi : i ∈ Region.ready .any ops listed) (ho : ops[i]? = some o) (hR : R i v w') (hC : C (listed.setIfInBounds i true) w') (hst : ∀ j u, listed.getD j false = true → R j u w → R j u w') : Left ops a0 C R (listed.setIfInBounds i true) (a.put o.dst v) w' := by
  obtain ⟨hin, hil, hdep⟩ := ready_spec hi
  have his : i < listed.size := by rw [h.size]; exact hin
  refine ⟨hC, by rw [Array.size_setIfInBounds]; exact h.size, ?_, by rw [put_size]; exact h.tsize, by rw [put_defers]; exact h.defers, ?_, ?_⟩
  · intro j q hq hj e he hb
    rw [getD_set his]
    split
    · rfl
    · rw [getD_set his] at hj
      by_cases hji : j = i
      · subst hji
        rw [ho] at hq
        injection hq with hq
        subst hq
        exact hdep o ho e he hb
      · rw [if_neg hji] at hj
        exact h.closed j q hq hj e he hb
  · intro t ht
    have h1 : o.dst ≠ some t := ht i o ho (by rw [getD_set his, if_pos rfl])
    rw [put_at h1]
    refine h.old t fun j q hq hj => ht j q hq ?_
    rw [getD_set his]
    split
    · rfl
    · exact hj
  · intro j q t hq hj ht
    by_cases hji : j = i
    · subst hji
      rw [ho] at hq
      injection hq with hq
      subst hq
      refine ⟨v, ?_, hR⟩
      have hlt := hsz j o t ho ht
      rw [ht]
      simp [Act.put, h.tsize, hlt]
    · rw [getD_set his, if_neg hji] at hj
      obtain ⟨u, h1, h2⟩ := h.new j q t hq hj ht
      refine ⟨u, ?_, hst j u hj h2⟩
      rw [put_at (fun e => hji (apart_spec hd hq ho ht e))]
      exact h1
theorem wpAny_left (hac : acyc ops = true) (hd : apartB ops = true) (hsz : ∀ (i : Nat) o (t : Nat), ops[i]? = some o → o.dst = some t → t < a0.tmps.size)
    (hstep : ∀ i o listed a w, ops[i]? = some o → i ∈ Region.ready .any ops listed → Left ops a0 C R listed a w → wpOp P ops Q i (fun a' w' => ∃ v, a' = a.put o.dst v ∧ R i v w' ∧ C (listed.setIfInBounds i true) w' ∧ ∀ j u, listed.getD j false = true → R j u w → R j u w') a w)
    (hend : ∀ a w listed, Left ops a0 C R listed a w → (∀ i, i < ops.size → listed.getD i false = true) → Q .normal a w) :
    ∀ (fuel : Nat) (listed : Array Bool) (a : Act) (w : World), Left ops a0 C R listed a w → unlisted listed ops.size ≤ fuel → wpAny P .any ops Q fuel listed a w
  | 0, listed, a, w, h, hu => by
    have hall : ∀ i, i < ops.size → listed.getD i false = true := by
      intro i hi
      cases hl : listed.getD i false with
      | true => rfl
      | false =>
        have hm : i ∈ ((List.range ops.size).filter fun i => !listed.getD i false) := by
          rw [List.mem_filter, List.mem_range]
          exact ⟨hi, by rw [hl]; rfl⟩
        have := List.length_pos_of_mem hm
        unfold unlisted at hu
        omega
    refine ⟨?_, hend a w listed h hall⟩
    rw [List.eq_nil_iff_forall_not_mem]
    intro i hi
    obtain ⟨h1, h2, _⟩ := ready_spec hi
    rw [← getD_of_size (by rw [h.size]; exact h1), hall i h1] at h2
    cases h2
  | fuel + 1, listed, a, w, h, hu => by
    refine ⟨fun h0 => hend a w listed h (all_listed hac h.size h0), fun i hi => ?_⟩
    obtain ⟨h1, h2, _⟩ := ready_spec hi
    have ho : ops[i]? = some ops[i] := Array.getElem?_eq_getElem h1
    refine wpOp_mono ?_ (hstep i _ listed a w ho hi h)
    rintro a' w' ⟨v, rfl, hR, hC, hst⟩
    refine wpAny_left hac hd hsz hstep hend fuel _ _ _ (h.step hd hsz hi ho hR hC hst) ?_
    have := unlisted_set h1 h.size (by rw [getD_of_size (by rw [h.size]; exact h1)]; exact h2)
    omega
/-- The region's law. -/
theorem wp_region_listed {id : Nat} {w0 : World} (hm : P.follows .mixedOrders = true) (hac : acyc ops = true) (hd : apartB ops = true) (hsz : ∀ (i : Nat) o (t : Nat), ops[i]? = some o → o.dst = some t → t < a0.tmps.size)
    (hC : C (Array.replicate ops.size false) { w0 with drawn := w0.drawn + 1 })
    (hstep : ∀ i o listed a w, ops[i]? = some o → i ∈ Region.ready .any ops listed → Left ops a0 C R listed a w → wpOp P ops Q i (fun a' w' => ∃ v, a' = a.put o.dst v ∧ R i v w' ∧ C (listed.setIfInBounds i true) w' ∧ ∀ j u, listed.getD j false = true → R j u w → R j u w') a w)
    (hend : ∀ a w listed, Left ops a0 C R listed a w → (∀ i, i < ops.size → listed.getD i false = true) → Q .normal a w) : (Code.region id ops true).wp P Q a0 w0 := by
  refine wp_region_any hm (wpAny_left hac hd hsz hstep hend _ _ _ _ ⟨hC, by simp, ?_, rfl, rfl, fun _ _ => rfl, ?_⟩ ?_)
  · intro i o ho hl
    exfalso
    have hi := (Array.getElem?_eq_some_iff.1 ho).1
    simp [Array.getD, hi] at hl
  · intro i o t ho hl
    exfalso
    have hi := (Array.getElem?_eq_some_iff.1 ho).1
    simp [Array.getD, hi] at hl
  · unfold unlisted
    exact Nat.le_trans (List.length_filter_le _ _) (by simp)
/-- The same, where all that is left stays. -/
theorem wp_region_left {id : Nat} {w0 : World} (hm : P.follows .mixedOrders = true) (hac : acyc ops = true) (hd : apartB ops = true) (hsz : ∀ (i : Nat) o (t : Nat), ops[i]? = some o → o.dst = some t → t < a0.tmps.size)
    (hC : C (Array.replicate ops.size false) { w0 with drawn := w0.drawn + 1 })
    (hstep : ∀ i o listed a w, ops[i]? = some o → i ∈ Region.ready .any ops listed → Left ops a0 C R listed a w → wpOp P ops Q i (fun a' w' => ∃ v, a' = a.put o.dst v ∧ R i v w' ∧ C (listed.setIfInBounds i true) w' ∧ ∀ j u, R j u w → R j u w') a w)
    (hend : ∀ a w listed, Left ops a0 C R listed a w → (∀ i, i < ops.size → listed.getD i false = true) → Q .normal a w) : (Code.region id ops true).wp P Q a0 w0 :=
  wp_region_listed hm hac hd hsz hC (fun i o listed a w h1 h2 h3 => wpOp_mono (fun a' w' ⟨v, e, hR, hc, hs⟩ => ⟨v, e, hR, hc, fun j u _ => hs j u⟩) (hstep i o listed a w h1 h2 h3)) hend
/-- What an operation reads: as it was, or what an earlier one has left. -/
def oldB (ops : Array Oper) (i t : Nat) : Bool := (List.range ops.size).all fun j => match ops[j]? with
  | some q => decide (q.dst ≠ some t) || decide (j = i) || q.after.any fun e => Region.binds .any e && decide (e.on = i)
  | none => true
def newB (ops : Array Oper) (i j t : Nat) : Bool := match ops[i]?, ops[j]? with
  | some o, some q => decide (q.dst = some t) && o.after.any fun e => Region.binds .any e && decide (e.on = j)
  | _, _ => false
theorem Left.get_old {listed : Array Bool} {a : Act} {w : World} {i t : Nat} (h : Left ops a0 C R listed a w) (hi : i ∈ Region.ready .any ops listed) (hb : oldB ops i t = true) : a.eval (.tmp t) = a0.eval (.tmp t) := by
  obtain ⟨hin, hil, _⟩ := ready_spec hi
  have key : a.tmps[t]? = a0.tmps[t]? := by
    refine h.old t fun j q hq hj ht => ?_
    have hjn := (Array.getElem?_eq_some_iff.1 hq).1
    have h1 := List.all_eq_true.1 hb j (List.mem_range.2 hjn)
    rw [hq] at h1
    simp only [Bool.or_eq_true, decide_eq_true_eq] at h1
    rcases h1 with (h1 | h1) | h1
    · exact h1 ht
    · subst h1
      rw [getD_of_size (by rw [h.size]; exact hin), hil] at hj
      cases hj
    · rw [Array.any_eq_true'] at h1
      obtain ⟨e, he, h2⟩ := h1
      simp only [Bool.and_eq_true, decide_eq_true_eq] at h2
      have := h.closed j q hq hj e he h2.1
      rw [h2.2, getD_of_size (by rw [h.size]; exact hin), hil] at this
      cases this
  simp only [Act.eval, Array.getD_eq_getD_getElem?, key]
theorem Left.get_new {listed : Array Bool} {a : Act} {w : World} {i j t : Nat} (h : Left ops a0 C R listed a w) (hi : i ∈ Region.ready .any ops listed) (hb : newB ops i j t = true) : R j (a.eval (.tmp t)) w := by
  obtain ⟨hin, hil, hdep⟩ := ready_spec hi
  unfold newB at hb
  split at hb
  · rename_i o q ho hq
    simp only [Bool.and_eq_true, decide_eq_true_eq] at hb
    obtain ⟨h1, h2⟩ := hb
    rw [Array.any_eq_true'] at h2
    obtain ⟨e, he, h3⟩ := h2
    simp only [Bool.and_eq_true, decide_eq_true_eq] at h3
    have hj := hdep o ho e he h3.1
    rw [h3.2] at hj
    obtain ⟨v, h4, h5⟩ := h.new j q t hq hj h1
    simp only [Act.eval, Array.getD_eq_getD_getElem?, h4, Option.getD_some]
    exact h5
  · cases hb
def waitsB (ops : Array Oper) (j i : Nat) : Bool := match ops[j]? with
  | some q => q.after.any fun e => Region.binds .any e && decide (e.on = i)
  | none => false
/-- What waits for an operation is not listed ahead of it. -/
theorem Left.later {listed : Array Bool} {a : Act} {w : World} {i j : Nat} (h : Left ops a0 C R listed a w) (hi : i ∈ Region.ready .any ops listed) (hb : waitsB ops j i = true) : listed.getD j false = false := by
  obtain ⟨hin, hil, _⟩ := ready_spec hi
  cases hj : listed.getD j false with
  | false => rfl
  | true =>
    exfalso
    unfold waitsB at hb
    split at hb
    · rename_i q hq
      rw [Array.any_eq_true'] at hb
      obtain ⟨e, he, h2⟩ := hb
      simp only [Bool.and_eq_true, decide_eq_true_eq] at h2
      have := h.closed j q hq hj e he h2.1
      rw [h2.2, getD_of_size (by rw [h.size]; exact hin), hil] at this
      cases this
    · cases hb
theorem step_wp {i : Nat} {o : Oper} {a : Act} {w : World} {K : Act → World → Prop} (ho : ops[i]? = some o) (hg : o.guard = none) (h : o.wp P a w K Q) : wpOp P ops Q i K a w := by
  unfold wpOp
  rw [ho]
  simp only
  rw [if_pos (by simp [Region.wanted, hg])]
  exact .inl h
/-- A guarded one: it is done, or its slot is left without a value. -/
theorem step_wp_g {i : Nat} {o : Oper} {a : Act} {w : World} {K : Act → World → Prop} {j t : Nat} {q : Oper} {c want : Bool} (ho : ops[i]? = some o) (hg : o.guard = some (j, want)) (hq : ops[j]? = some q) (hdst : q.dst = some t)
    (hv : a.eval (.tmp t) = .bool c) (h1 : c = want → o.wp P a w K Q) (h0 : c ≠ want → K (a.put o.dst undef) w) : wpOp P ops Q i K a w := by
  have hy : yielded ops a.tmps j = some c := by
    unfold yielded
    simp only [Act.eval, Array.getD_eq_getD_getElem?] at hv
    rw [hq]
    simp only [Option.bind_some, hdst]
    cases h : a.tmps[t]? with
    | none => rw [h] at hv; simp [undef] at hv
    | some v => rw [h] at hv; simp only [Option.getD_some] at hv; subst hv; rfl
  unfold wpOp
  rw [ho]
  simp only
  by_cases hc : c = want
  · rw [if_pos (by simp [Region.wanted, hg, hy, hc])]
    exact .inl (h1 hc)
  · rw [if_neg (by simp [Region.wanted, hg, hy, hc])]
    exact h0 hc
def putAll (vs : Nat → Value) : List Oper → Nat → Act → Act
  | [], _, a => a
  | o :: l, k, a => putAll vs l (k + 1) (a.put o.dst (vs k))
theorem putAll_size (vs : Nat → Value) : ∀ (l : List Oper) (k : Nat) (a : Act), (putAll vs l k a).tmps.size = a.tmps.size
  | [], _, _ => rfl
  | o :: l, k, a => by rw [putAll, putAll_size vs l, put_size]
theorem putAll_defers (vs : Nat → Value) : ∀ (l : List Oper) (k : Nat) (a : Act), (putAll vs l k a).defers = a.defers
  | [], _, _ => rfl
  | o :: l, k, a => by rw [putAll, putAll_defers vs l, put_defers]
theorem putAll_old (vs : Nat → Value) {t : Nat} : ∀ (l : List Oper) (k : Nat) (a : Act), (∀ o ∈ l, o.dst ≠ some t) → (putAll vs l k a).tmps[t]? = a.tmps[t]?
  | [], _, _, _ => rfl
  | o :: l, k, a, h => by rw [putAll, putAll_old vs l _ _ (fun q hq => h q (by simp [hq])), put_at (h o (by simp))]
theorem putAll_new (vs : Nat → Value) {t : Nat} : ∀ (l : List Oper) (k : Nat) (a : Act) (i : Nat) (o : Oper), l[i]? = some o → o.dst = some t → t < a.tmps.size → (∀ j q, l[j]? = some q → q.dst = some t → j = i) → (putAll vs l k a).tmps[t]? = some (vs (k + i))
  | [], _, _, i, o, h, _, _, _ => by simp at h
  | q :: l, k, a, 0, o, h, ht, hlt, hu => by
    simp only [List.getElem?_cons_zero, Option.some.injEq] at h
    subst h
    rw [putAll, putAll_old vs l]
    · rw [ht]; simp [Act.put, hlt]
    · intro r hr hrt
      obtain ⟨j, hj⟩ := List.getElem?_of_mem hr
      have := hu (j + 1) r (by simpa using hj) hrt
      omega
  | q :: l, k, a, i + 1, o, h, ht, hlt, hu => by
    rw [putAll, putAll_new vs l (k + 1) _ i o (by simpa using h) ht (by rw [put_size]; exact hlt) (fun j r hj hr => by have := hu (j + 1) r (by simpa using hj) hr; omega)]
    congr 2
    omega
theorem act_ext {a b : Act} (h1 : a.tmps = b.tmps) (h2 : a.defers = b.defers) : a = b := by
  cases a; cases b; simp only at h1 h2; rw [h1, h2]
/-- Behind the region: the frame, written out. -/
theorem Left.frame {l : List Oper} {listed : Array Bool} {a : Act} {w : World} (hd : apartB l.toArray = true) (hsz : ∀ (i : Nat) o (t : Nat), l.toArray[i]? = some o → o.dst = some t → t < a0.tmps.size)
    (h : Left l.toArray a0 C R listed a w) (hall : ∀ i, i < l.toArray.size → listed.getD i false = true) :
    ∃ vs : Nat → Value, a = putAll vs l 0 a0 ∧ ∀ (i : Nat) o (t : Nat), l[i]? = some o → o.dst = some t → R i (vs i) w := by
  refine ⟨fun i => match l[i]? with | some o => (match o.dst with | some t => a.tmps.getD t undef | none => undef) | none => undef, ?_, ?_⟩
  · have h1 : a.defers = (putAll (fun i => match l[i]? with | some o => (match o.dst with | some t => a.tmps.getD t undef | none => undef) | none => undef) l 0 a0).defers := by rw [putAll_defers, h.defers]
    have h2 : a.tmps = (putAll (fun i => match l[i]? with | some o => (match o.dst with | some t => a.tmps.getD t undef | none => undef) | none => undef) l 0 a0).tmps := by
      apply Array.ext_getElem?
      intro t
      by_cases ht : ∃ (i : Nat) (o : Oper), l[i]? = some o ∧ o.dst = some t
      · obtain ⟨i, o, hl, hdst⟩ := ht
        have hla : l.toArray[i]? = some o := by simpa using hl
        have hin := (List.getElem?_eq_some_iff.1 hl).1
        obtain ⟨v, hv, _⟩ := h.new i o t hla (hall i (by simpa using hin)) hdst
        rw [putAll_new _ l 0 a0 i o hl hdst (hsz i o t hla hdst) (fun j q hj hq => apart_spec hd (by simpa using hj) hla hq hdst), hv]
        simp [hl, hdst, Array.getD_eq_getD_getElem?, hv]
      · rw [putAll_old _ l 0 a0 (fun o ho hdst => by
          obtain ⟨i, hi⟩ := List.getElem?_of_mem ho
          exact ht ⟨i, o, hi, hdst⟩)]
        exact h.old t fun i o hl _ hdst => ht ⟨i, o, by simpa using hl, hdst⟩
    exact act_ext h2 h1
  · intro i o t hl hdst
    have hla : l.toArray[i]? = some o := by simpa using hl
    have hin := (List.getElem?_eq_some_iff.1 hl).1
    obtain ⟨v, hv, hR⟩ := h.new i o t hla (hall i (by simpa using hin)) hdst
    simp only [hl, hdst, Array.getD_eq_getD_getElem?, hv, Option.getD_some]
    exact hR
def sizesB (ops : Array Oper) (n : Nat) : Bool := ops.all fun o => match o.dst with
  | some t => decide (t < n)
  | none => true
theorem sizes_spec {n : Nat} (h : sizesB ops n = true) (i : Nat) (o : Oper) (t : Nat) (ho : ops[i]? = some o) (hd : o.dst = some t) : t < n := by
  obtain ⟨hi, he⟩ := Array.getElem?_eq_some_iff.1 ho
  have := Array.all_eq_true_iff_forall_mem.1 h o (by rw [← he]; exact Array.getElem_mem hi)
  rw [hd] at this
  simpa using this
end
end Go.Proofs.YtlanconcbpdneaaDoor
/- Small laws for the steps of a region that draws its order. No condition; no program. -/
namespace Go.Proofs.YtlanconcbpdneaaDoor
open Go.RowKit
theorem slot_eval (a : Act) (t : Nat) : a.tmps[t]?.getD undef = a.eval (.tmp t) := by simp [Act.eval]
theorem wp_val' {P : Program} {o : Oper} {a : Act} {w w' : World} {v : Value} {K : Act → World → Prop} {Q : Exit → Act → World → Prop} (hrun : (execOp a.eval o).run P w = .ok (.value v) w') (hK : K (a.put o.dst v) w') : o.wp P a w K Q := by
  unfold Oper.wp
  rw [hrun]
  exact hK
theorem wp_val {P : Program} {o : Oper} {a : Act} {w : World} {v : Value} {K : Act → World → Prop} {Q : Exit → Act → World → Prop} (hrun : (execOp a.eval o).run P w = .ok (.value v) w) (hK : K (a.put o.dst v) w) : o.wp P a w K Q := wp_val' hrun hK
section
variable {P : Program} {ops : Array Oper} {a0 : Act} {C : Array Bool → World → Prop} {R : Nat → Value → World → Prop} {listed : Array Bool} {a : Act} {w : World} {i j k : Nat}
/-- What operation j waits for, if j is listed, is listed. -/
theorem Left.earlier (h : Left ops a0 C R listed a w) (hl : listed.getD j false = true) (hb : waitsB ops j k = true) : listed.getD k false = true := by
  unfold waitsB at hb
  split at hb
  · rename_i q hq
    rw [Array.any_eq_true'] at hb
    obtain ⟨e, he, h2⟩ := hb
    simp only [Bool.and_eq_true, decide_eq_true_eq] at h2
    have := h.closed j q hq hl e he h2.1
    rwa [h2.2] at this
  · cases hb
theorem Left.later2 (h : Left ops a0 C R listed a w) (hl : listed.getD k false = false) (hb : waitsB ops j k = true) : listed.getD j false = false := by
  cases hj : listed.getD j false with
  | false => rfl
  | true => have := h.earlier hj hb; rw [hl] at this; cases this
theorem Left.before (_ : Left ops a0 C R listed a w) (hi : i ∈ Region.ready .any ops listed) (hb : waitsB ops i j = true) : listed.getD j false = true := by
  unfold waitsB at hb
  split at hb
  · rename_i q hq
    rw [Array.any_eq_true'] at hb
    obtain ⟨e, he, h2⟩ := hb
    simp only [Bool.and_eq_true, decide_eq_true_eq] at h2
    have := (ready_spec hi).2.2 q hq e he h2.1
    rwa [h2.2] at this
  · cases hb
end
end Go.Proofs.YtlanconcbpdneaaDoor
/- The walk of layer 4: object.Encode. Condition: an object that is not great. -/
namespace Go.Proofs.YtlanconcbpdneaaDoor
open Go.RowKit
attribute [local go_sem ↓] ldvO_eq
def EncR (n : Int) (V : Nat → Value) (i : Nat) (v : Value) (w : World) : Prop := if i = 3 then (∃ b, v = .slice (some ⟨b, 0, none⟩) 1 1 ∧ b < w.heap.size ∧ w.cell? ⟨b, 0, none⟩ = some (.int .u8 n)) else v = V i
theorem encR_below {n : Int} {V : Nat → Value} {w w' : World} (hb : Below w.heap.size w w') (j : Nat) (u : Value) (h : EncR n V j u w) : EncR n V j u w' := by
  unfold EncR at *
  split
  · rename_i hj
    rw [if_pos hj] at h
    obtain ⟨b, h1, h2, h3⟩ := h
    exact ⟨b, h1, Nat.lt_of_lt_of_le h2 hb.size, (hb.cell (p := ⟨b, 0, none⟩) h2).trans h3⟩
  · rename_i hj
    rw [if_neg hj] at h
    exact h
theorem encR_at {n : Int} {V : Nat → Value} {i : Nat} {v : Value} {w : World} (hi : i ≠ 3) (h : EncR n V i v w) : v = V i := by
  unfold EncR at h
  rwa [if_neg hi] at h
theorem encR_mk {n : Int} {V : Nat → Value} {i : Nat} {v : Value} {w : World} (hi : i ≠ 3) (h : v = V i) : EncR n V i v w := by
  unfold EncR
  rwa [if_neg hi]
/-- What lies there while an object is encoded. -/
structure EncC (w : World) (g : Nat) (o : ObjL) (ve vp : Value) (w' : World) : Prop where
  obj : ObjB w' g o ve vp
  val : ObjV w' ve vp o
  bel : Below w.heap.size w w'
section
variable {w w' w'' : World} {g : Nat} {o : ObjL} {ve vp : Value}
theorem EncC.drew (h : EncC w g o ve vp w') : EncC w g o ve vp w'.drew := ⟨h.obj.drew, ⟨h.val.ok, h.val.ents, h.val.pars⟩, h.bel.drew⟩
theorem EncC.below (h : EncC w g o ve vp w') (hb : Below w'.heap.size w' w'') : EncC w g o ve vp w'' := ⟨h.obj.below hb, h.val.below hb, bthen h.bel h.bel.size hb⟩
theorem EncC.whole (h : EncC w g o ve vp w') : (ldvO ⟨g, 0, none⟩).run Tryd.prog w' = .ok (.agg (objC o ve vp).toArray) w' := run_ldvO h.obj h.val.ok
end
/-- How long it is. -/
theorem whole_len {o : ObjL} (hs : Small o) (ho : ObjOk o) : (bodyO o).length ≤ 400000 := by
  have h1 := entsE_len' (l := o.ents) (fun e he => ⟨hs.names e he, (ho.ents e he).id⟩)
  have h2 := flat_len (l := o.pars) ho.pars
  have h3 := put_length o.pars.length
  have h4 := put_length o.time
  have h5 := put_length o.text.length
  have h6 := put_length o.name.length
  have := hs.ents
  have := hs.pars
  have := hs.data
  have := hs.text
  have := hs.name
  have := ho.tree
  have := ho.target
  unfold bodyO commitE tagE textE
  repeat' split
  all_goals try simp only [List.length_append, List.length_cons, List.length_nil]
  all_goals omega
def encC (o : ObjL) : Value := match encO o with
  | some t => .tuple #[.string (B t), .int .i64 0]
  | none => .tuple #[.string (B []), .int .i64 1]
theorem encC_none {o : ObjL} (h : encO o = none) : encC o = .tuple #[.string (B []), .int .i64 1] := by unfold encC; rw [h]
theorem encC_some {o : ObjL} {t : Txt} (h : encO o = some t) : encC o = .tuple #[.string (B t), .int .i64 0] := by unfold encC; rw [h]
set_option maxRecDepth 100000 in
set_option maxHeartbeats 4000000 in
theorem encode_calls (o : ObjL) (hs : Small o) (A1 A2 : Option Addr) (k1 k2 : Nat) (w : World) (hv : ObjV w (.slice A1 o.ents.length k1) (.slice A2 o.pars.length k2) o) : Calls Tryd.prog 10 #[.agg (objC o (.slice A1 o.ents.length k1) (.slice A2 o.pars.length k2)).toArray] w fun e w' => e = .returned (encC o) ∧ Below w.heap.size w w' := by
  have ho := hv.ok
  have hO := boxed (w := w) (ve := .slice A1 o.ents.length k1) (vp := .slice A2 o.pars.length k2) ho
  have b0 : Below w.heap.size w (w.alloc (.cells (objC o (.slice A1 o.ents.length k1) (.slice A2 o.pars.length k2)).toArray 29)) := (Below.refl _ _).alloc (Nat.le_refl _) _
  have hv0 := hv.below b0
  obtain ⟨W0, hW0⟩ : ∃ W0, w.alloc (.cells (objC o (.slice A1 o.ents.length k1) (.slice A2 o.pars.length k2)).toArray 29) = W0 := ⟨_, rfl⟩
  rw [hW0] at hO b0 hv0
  have hE0 : EncC w w.heap.size o (.slice A1 o.ents.length k1) (.slice A2 o.pars.length k2) W0 := ⟨hO, hv0, b0⟩
  have hmay := Lib.hid (may_calls o A1 A2 k1 k2 W0 hv0)
  have q0 := hE0.whole
  have c1 := hO.data
  have c37 := hO.text
  obtain ⟨r, hr⟩ : ∃ r, Hid (r = encC o) := ⟨_, Lib.hid rfl⟩
  rw [← hr.out]
  have hbl := whole_len hs ho
  have hed := @enc_data o
  have het := @enc_text o
  have hem : mayB o = false → encO o = none := fun h => by unfold encO; rw [h]; simp
  have hbody := fun W (h : EncC w w.heap.size o (.slice A1 o.ents.length k1) (.slice A2 o.pars.length k2) W) => Lib.hid (body_calls o hs A1 A2 k1 k2 W h.val)
  have hew : Hid (mayB o = true → encO o = if (byteK o.kind :: textE (bodyO o)).length ≤ 4096 then some (byteK o.kind :: textE (bodyO o)) else none) := fun h => by
    unfold encO wholeO
    rw [h]; simp
  have htext := fun W => Lib.hid (text_calls (bodyO o) (by omega) W)
  have htl : (textE (bodyO o)).length ≤ 400010 := by have := put_length (bodyO o).length; unfold textE; rw [List.length_append]; omega
  clear hv ho hs hv0 hO hbl
  generalize hcs : (objC o (.slice A1 o.ents.length k1) (.slice A2 o.pars.length k2)).toArray = cs at *
  go_enter Tryd.func10, Tryd.ntmps10
  by_cases h1 : 4096 < o.data.length
  · have i1 : (4096 : Int) < (o.data.length : Int) := by omega
    have hf : Hid (r = _) := hr.out.trans (encC_none (hed h1))
    clear hr hed het hem hew hbody htext h1
    go_wp2
    all_goals try (exfalso; omega)
    go_ret2
    exact ⟨by rw [hf.out]; rfl, b0⟩
  by_cases h2 : 4096 < o.text.length
  · have i1 : ¬ (4096 : Int) < (o.data.length : Int) := by omega
    have i2 : (4096 : Int) < (o.text.length : Int) := by omega
    have hf : Hid (r = _) := hr.out.trans (encC_none (het h2))
    clear hr hed het hem hew hbody htext h1 h2
    go_wp2
    all_goals try (exfalso; omega)
    go_ret2
    exact ⟨by rw [hf.out]; rfl, b0⟩
  have i1 : ¬ (4096 : Int) < (o.data.length : Int) := by omega
  have i2 : ¬ (4096 : Int) < (o.text.length : Int) := by omega
  cases hM : mayB o with
  | false =>
    rw [hM] at hmay
    have hf : Hid (r = _) := hr.out.trans (encC_none (hem hM))
    clear hr hed het hem hew hbody htext h1 h2 hM
    go_wp2_with (first
      | ((with_reducible refine hmay.out.mono ?_); rintro e w1 ⟨rfl, hb1⟩))
    all_goals try (exfalso; omega)
    go_ret2
    exact ⟨by rw [hf.out]; rfl, bthen b0 b0.size hb1⟩
  | true =>
    rw [hM] at hmay
    have hew := Lib.hid (hew.out hM)
    clear hed het hem h1 h2 hM
    generalize textE (bodyO o) = TX at *
    generalize bodyO o = BD at *
    go_upto_region 3 with (first
      | ((with_reducible refine hmay.out.mono ?_); rintro e w1 ⟨rfl, hb1⟩))
    all_goals try (exfalso; omega)
    have hE1 := hE0.below hb1
    clear hE0 hmay q0 c1 c37 hb1 i1 i2 b0 hW0
    obtain ⟨g, hg⟩ : ∃ g, w.heap.size = g := ⟨_, rfl⟩
    have hwb : ∀ W, EncC w g o (.slice A1 o.ents.length k1) (.slice A2 o.pars.length k2) W → (ldvO ⟨g, 0, none⟩).run Tryd.prog W = .ok (.agg cs) W := fun W h => by rw [← hcs]; exact h.whole
    simp only [hg] at hbody hE1 ⊢
    clear hcs
    obtain ⟨V, hV⟩ : ∃ V : Nat → Value, V = fun i => [(.pointer (some ⟨g, 0, none⟩)), (.int .i64 o.kind), (.int .u8 (o.kind % 256)), undef, (.string (B [byteK o.kind])), (.agg cs), (.string (B BD)), (.string (B TX)), (.string (B (byteK o.kind :: TX))), (.string (B (byteK o.kind :: TX)))].getD i undef := ⟨_, rfl⟩
    have v0 : V 0 = (.pointer (some ⟨g, 0, none⟩)) := by rw [hV]; rfl
    have v1 : V 1 = (.int .i64 o.kind) := by rw [hV]; rfl
    have v2 : V 2 = (.int .u8 (o.kind % 256)) := by rw [hV]; rfl
    have v4 : V 4 = (.string (B [byteK o.kind])) := by rw [hV]; rfl
    have v5 : V 5 = (.agg cs) := by rw [hV]; rfl
    have v6 : V 6 = (.string (B BD)) := by rw [hV]; rfl
    have v7 : V 7 = (.string (B TX)) := by rw [hV]; rfl
    have v8 : V 8 = (.string (B (byteK o.kind :: TX))) := by rw [hV]; rfl
    have v9 : V 9 = (.string (B (byteK o.kind :: TX))) := by rw [hV]; rfl
    clear hV
    go_cut [4] (fun s4 wx => s4 = .string (B (byteK o.kind :: TX)) ∧ Below w.heap.size w wx)
    case first =>
      refine wp_region_left (C := fun _ => EncC w g o (.slice A1 o.ents.length k1) (.slice A2 o.pars.length k2)) (R := EncR (o.kind % 256) V) (by kernel_rfl) (by kernel_rfl) (by kernel_rfl) ?_ hE1.drew ?_ ?_
      · exact sizes_spec (n := 33) (by kernel_rfl)
      · intro i o listed a w1 ho hi hL
        have hin := (ready_spec hi).1
        match i, ho with
        | 0, ho =>
          obtain rfl := (Option.some.inj ho).symm
          have e0 : a.tmps[1]?.getD undef = (.pointer (some ⟨g, 0, none⟩)) := (slot_eval a 1).trans (hL.get_old hi (by kernel_rfl))
          have hc := hL.cls
          refine step_wp rfl rfl ?_
          clear hi ho hL hin
          refine wp_val (v := (.pointer (some ⟨g, 0, none⟩))) ?_ ⟨_, rfl, encR_mk (by omega) v0.symm, hc, fun _ _ h => h⟩
          clear v0 v1 v2 v4 v5 v6 v7 v8 v9  hc
          unfold execOp
          go_simp
        | 1, ho =>
          obtain rfl := (Option.some.inj ho).symm
          have e0 : a.tmps[20]?.getD undef = (.pointer (some ⟨g, 0, none⟩)) := (slot_eval a 20).trans ((encR_at (by omega) (hL.get_new (j := 0) hi (by kernel_rfl))).trans v0)
          have hc := hL.cls
          refine step_wp rfl rfl ?_
          clear hi ho hL hin
          refine wp_val (v := (.int .i64 o.kind)) ?_ ⟨_, rfl, encR_mk (by omega) v1.symm, hc, fun _ _ h => h⟩
          have f0 := hc.obj.kind
          clear v0 v1 v2 v4 v5 v6 v7 v8 v9  hc
          unfold execOp
          go_simp
        | 2, ho =>
          obtain rfl := (Option.some.inj ho).symm
          have e0 : a.tmps[21]?.getD undef = (.int .i64 o.kind) := (slot_eval a 21).trans ((encR_at (by omega) (hL.get_new (j := 1) hi (by kernel_rfl))).trans v1)
          have hc := hL.cls
          refine step_wp rfl rfl ?_
          clear hi ho hL hin
          refine wp_val (v := (.int .u8 (o.kind % 256))) ?_ ⟨_, rfl, encR_mk (by omega) v2.symm, hc, fun _ _ h => h⟩
          clear v0 v1 v2 v4 v5 v6 v7 v8 v9  hc
          unfold execOp
          go_simp
          rw [IntKind.wrap_u8]
        | 3, ho =>
          obtain rfl := (Option.some.inj ho).symm
          have e0 : a.tmps[22]?.getD undef = (.int .u8 (o.kind % 256)) := (slot_eval a 22).trans ((encR_at (by omega) (hL.get_new (j := 2) hi (by kernel_rfl))).trans v2)
          have hc := hL.cls
          refine step_wp rfl rfl ?_
          clear hi ho hL hin
          have hbA : Below w1.heap.size w1 (w1.alloc (.cells #[.int .u8 (o.kind % 256)] 5)) := (Below.refl _ _).alloc (Nat.le_refl _) _
          refine wp_val' (v := .slice (some ⟨w1.heap.size, 0, none⟩) 1 1) (w' := w1.alloc (.cells #[.int .u8 (o.kind % 256)] 5)) ?_ ⟨_, rfl, ?_, hc.below hbA, encR_below hbA⟩
          · unfold execOp
            go_simp
          · unfold EncR
            rw [if_pos rfl]
            exact ⟨w1.heap.size, rfl, by rw [size_alloc']; omega, cell_new1 _ _ _⟩
        | 4, ho =>
          obtain rfl := (Option.some.inj ho).symm
          have e0 := hL.get_new (j := 3) (t := 23) hi (by kernel_rfl)
          have hc := hL.cls
          refine step_wp rfl rfl ?_
          clear hi ho hL hin
          unfold EncR at e0
          rw [if_pos rfl] at e0
          obtain ⟨b, e1, hb1, hb2⟩ := e0
          have e1 := (slot_eval a 23).trans e1
          have hcv : (convert 56 9 (.slice (some ⟨b, 0, none⟩) 1 1)).run Tryd.prog w1 = .ok (.string (B [byteK o.kind])) w1 := by
            rw [run_convert_bytes_arg _ 56 5 Tryd.underlying56 Tryd.underlying5 b 0 1 1 [o.kind % 256] rfl (fun i hi => by
              have : i = 0 := by omega
              subst this
              rw [hb2]; rfl) 9 Tryd.underlying9]
            rfl
          refine wp_val (v := .string (B [byteK o.kind])) ?_ ⟨_, rfl, encR_mk (by omega) v4.symm, hc, fun _ _ h => h⟩
          clear hc
          unfold execOp
          go_simp
        | 5, ho =>
          obtain rfl := (Option.some.inj ho).symm
          have e0 : a.tmps[1]?.getD undef = (.pointer (some ⟨g, 0, none⟩)) := (slot_eval a 1).trans (hL.get_old hi (by kernel_rfl))
          have hc := hL.cls
          refine step_wp rfl rfl ?_
          clear hi ho hL hin
          refine wp_val (v := (.agg cs)) ?_ ⟨_, rfl, encR_mk (by omega) v5.symm, hc, fun _ _ h => h⟩
          have f0 := hwb w1 hc
          clear v0 v1 v2 v4 v5 v6 v7 v8 v9  hc
          unfold execOp
          go_simp
        | 6, ho =>
          obtain rfl := (Option.some.inj ho).symm
          have e0 : a.tmps[25]?.getD undef = (.agg cs) := (slot_eval a 25).trans ((encR_at (by omega) (hL.get_new (j := 5) hi (by kernel_rfl))).trans v5)
          have hc := hL.cls
          refine step_wp rfl rfl ?_
          clear hi ho hL hin
          have hh := hbody w1 hc
          unfold Oper.wp execOp
          go_simp
          go_at_call 24
          refine hh.out.mono ?_
          rintro e w2 ⟨rfl, hb⟩
          exact ⟨_, rfl, encR_mk (by omega) v6.symm, hc.below hb, encR_below hb⟩
        | 7, ho =>
          obtain rfl := (Option.some.inj ho).symm
          have e0 : a.tmps[26]?.getD undef = (.string (B BD)) := (slot_eval a 26).trans ((encR_at (by omega) (hL.get_new (j := 6) hi (by kernel_rfl))).trans v6)
          have hc := hL.cls
          refine step_wp rfl rfl ?_
          clear hi ho hL hin
          have hh := htext w1
          unfold Oper.wp execOp
          go_simp
          go_at_call 23
          refine hh.out.mono ?_
          rintro e w2 ⟨rfl, hb⟩
          exact ⟨_, rfl, encR_mk (by omega) v7.symm, hc.below hb, encR_below hb⟩
        | 8, ho =>
          obtain rfl := (Option.some.inj ho).symm
          have e0 : a.tmps[24]?.getD undef = (.string (B [byteK o.kind])) := (slot_eval a 24).trans ((encR_at (by omega) (hL.get_new (j := 4) hi (by kernel_rfl))).trans v4)
          have e1 : a.tmps[27]?.getD undef = (.string (B TX)) := (slot_eval a 27).trans ((encR_at (by omega) (hL.get_new (j := 7) hi (by kernel_rfl))).trans v7)
          have hc := hL.cls
          refine step_wp rfl rfl ?_
          clear hi ho hL hin
          refine wp_val (v := (.string (B (byteK o.kind :: TX)))) ?_ ⟨_, rfl, encR_mk (by omega) v8.symm, hc, fun _ _ h => h⟩
          clear v0 v1 v2 v4 v5 v6 v7 v8 v9  hc
          unfold execOp
          go_simp
          omega
        | 9, ho =>
          obtain rfl := (Option.some.inj ho).symm
          have e0 : a.tmps[28]?.getD undef = (.string (B (byteK o.kind :: TX))) := (slot_eval a 28).trans ((encR_at (by omega) (hL.get_new (j := 8) hi (by kernel_rfl))).trans v8)
          have hc := hL.cls
          refine step_wp rfl rfl ?_
          clear hi ho hL hin
          refine wp_val (v := (.string (B (byteK o.kind :: TX)))) ?_ ⟨_, rfl, encR_mk (by omega) v9.symm, hc, fun _ _ h => h⟩
          clear v0 v1 v2 v4 v5 v6 v7 v8 v9  hc
          unfold execOp
          go_simp
        | (n + 10), ho => exact absurd hin (by simp)
      · intro a w1 listed hL hall
        have hc := hL.cls
        obtain ⟨vs, rfl, hR⟩ := hL.frame (by kernel_rfl) (sizes_spec (n := 33) (by kernel_rfl)) hall
        have h9 := (encR_at (by omega) (hR 9 _ _ rfl rfl)).trans v9
        simp only [putAll, Act.put, List.setIfInBounds_toArray, List.set_cons_zero, List.set_cons_succ]
        simp only [Nat.zero_add, Nat.reduceAdd]
        rw [h9]
        go_wp2
        go_meet
        case rel => exact ⟨rfl, hc.bel⟩
    obtain ⟨rfl, hbx⟩ := hcut
    clear hbody htext hE1 hwb v0 v1 v2 v4 v5 v6 v7 v8 v9
    generalize hn : byteK o.kind :: TX = TT at *
    by_cases h4 : TT.length ≤ 4096
    · have i4 : ¬ (4096 : Int) < (TT.length : Int) := by omega
      have hf : Hid (r = _) := hr.out.trans (encC_some (t := TT) (by rw [hew.out, if_pos h4]))
      clear hr hew h4 hn
      go_wp2
      all_goals try (exfalso; omega)
      go_ret2
      exact ⟨by rw [hf.out]; rfl, by first | exact hbx | (rw [← hg]; exact hbx)⟩
    · have i4 : (4096 : Int) < (TT.length : Int) := by omega
      have hf : Hid (r = _) := hr.out.trans (encC_none (by rw [hew.out, if_neg h4]))
      clear hr hew h4 hn
      go_wp2
      all_goals try (exfalso; omega)
      go_ret2
      exact ⟨by rw [hf.out]; rfl, by first | exact hbx | (rw [← hg]; exact hbx)⟩
end Go.Proofs.YtlanconcbpdneaaDoor
/- Structs and slices written out, at operations written out. No condition; no program. -/
namespace Go.Proofs.YtlanconcbpdneaaDoor
open Go.RowKit
theorem lit_build {P : Program} {w : World} {ops : Array Oper} {rest : List Oper} {a : Act} {Q : Exit → Act → World → Prop} {d : Option Tmp} {T rt : TypeId} {pos : String} {af : Array Edge} {fs : Array (Nat × Operand)} (vals : List (Nat × Value)) (cs : Array Value) (hb : P.built T vals = some cs)
    (hv : (fs.map fun (i, x) => (i, a.eval x)).toList = vals) (h : wpList P ops Q rest (a.put d (.agg cs)) w) : wpList P ops Q ({ dst := d, op := .build T fs, type := rt, pos := pos, after := af, guard := none } :: rest) a w :=
  wpList_plain rfl fun _ hK => wp_build _ _ rfl (by rw [hv, hb]; rfl) (by rw [hv, hb]; exact hK _ _ h)
theorem lit_build1 {P : Program} {w : World} {ops : Array Oper} {rest : List Oper} {a : Act} {Q : Exit → Act → World → Prop} {d : Option Tmp} {T rt : TypeId} {pos : String} {af : Array Edge} {i0 : Nat} {x0 : Operand} {v0 : Value} {cs : Array Value} (hb : P.built T [(i0, v0)] = some cs)
    (h0 : a.eval x0 = v0) (h : wpList P ops Q rest (a.put d (.agg cs)) w) : wpList P ops Q ({ dst := d, op := .build T #[(i0, x0)], type := rt, pos := pos, after := af, guard := none } :: rest) a w :=
  lit_build [(i0, v0)] cs hb (by simp [h0]) h
theorem lit_build2 {P : Program} {w : World} {ops : Array Oper} {rest : List Oper} {a : Act} {Q : Exit → Act → World → Prop} {d : Option Tmp} {T rt : TypeId} {pos : String} {af : Array Edge} {i0 i1 : Nat} {x0 x1 : Operand} {v0 v1 : Value} {cs : Array Value} (hb : P.built T [(i0, v0), (i1, v1)] = some cs)
    (h0 : a.eval x0 = v0) (h1 : a.eval x1 = v1) (h : wpList P ops Q rest (a.put d (.agg cs)) w) : wpList P ops Q ({ dst := d, op := .build T #[(i0, x0), (i1, x1)], type := rt, pos := pos, after := af, guard := none } :: rest) a w :=
  lit_build [(i0, v0), (i1, v1)] cs hb (by simp [h0, h1]) h
theorem lit_build3 {P : Program} {w : World} {ops : Array Oper} {rest : List Oper} {a : Act} {Q : Exit → Act → World → Prop} {d : Option Tmp} {T rt : TypeId} {pos : String} {af : Array Edge} {i0 i1 i2 : Nat} {x0 x1 x2 : Operand} {v0 v1 v2 : Value} {cs : Array Value} (hb : P.built T [(i0, v0), (i1, v1), (i2, v2)] = some cs)
    (h0 : a.eval x0 = v0) (h1 : a.eval x1 = v1) (h2 : a.eval x2 = v2) (h : wpList P ops Q rest (a.put d (.agg cs)) w) : wpList P ops Q ({ dst := d, op := .build T #[(i0, x0), (i1, x1), (i2, x2)], type := rt, pos := pos, after := af, guard := none } :: rest) a w :=
  lit_build [(i0, v0), (i1, v1), (i2, v2)] cs hb (by simp [h0, h1, h2]) h
/-- A slice of one element of several cells. -/
theorem lit_slice1 {P : Program} {w : World} {ops : Array Oper} {rest : List Oper} {a : Act} {Q : Exit → Act → World → Prop} {d : Option Tmp} {rt : TypeId} {pos : String} {af : Array Edge} (x : Operand) {t e : TypeId} {z : Value} {size bytes : Nat} (hT : SliceTy P t e z size bytes) (cs : Array Value) (hcs : cs.size = size) (hsm : size ≤ 1000) (hx : a.eval x = .agg cs)
    (h : wpList P ops Q rest (a.put d (.slice (some ⟨w.heap.size, 0, none⟩) 1 1)) (w.alloc (.cells cs e))) :
    wpList P ops Q ({ dst := d, op := .buildSlice t 1 #[(0, x)], type := rt, pos := pos, after := af, guard := none } :: rest) a w :=
  wpList_plain rfl fun _ hK => by
    have e1 : ((#[(0, x)] : Array (Nat × Operand)).map fun (i, x) => (i, a.eval x)) = #[(0, .agg cs)] := by simp [hx]
    have hrun : (Instr.buildSlice t 1 #[(0, .agg cs)]).run P w = .ok (.slice (some ⟨w.heap.size, 0, none⟩) 1 1) (w.alloc (.cells cs e)) := by
      obtain ⟨it, hi, hz, hs, hb⟩ := hT.hi
      have h0 := hT.hsz
      refine run_buildSlice w _ _ 1 _ _ it _ hT.ht hi hz (by rw [hs]; omega) (by rw [hs]; omega) ?_
      rw [hs]
      have := Great.fill_whole (s := size) (by omega) [Value.agg cs] ((Array.range (1 * size)).map (z.cells[· % z.cells.size]!)) (by
        intro v hv
        simp at hv
        subst hv
        exact hcs) (by simp)
      simpa [Value.cells] using this
    unfold Oper.wp execOp
    simp only [Sem.run_bind, e1, hrun, Result.andThen_ok]
    exact hK _ _ h
/-- append of one element that was just laid. -/
theorem lit_append_new {P : Program} {ops : Array Oper} {rest : List Oper} {a : Act} {W : World} {Q : Exit → Act → World → Prop} {d : Option Tmp} {rt : TypeId} {pos : String} {af : Array Edge}
    (s x : Operand) (c : Nat) (t : TypeId) {e : TypeId} {z : Value} {size bytes : Nat} (hT : SliceTy P t e z size bytes) {base n : Nat} {v : Value} {xs : List Value} (hown : W.ownsRow base e size v n xs)
    (cs : Array Value) {t' : TypeId} (hl : cs.size = 1 * size) (h1 : ∀ u ∈ cs.toList, u.oneCell' = true) (h63 : n + 1 ≤ 9223372036854775807) (hbytes : (n + 1) * bytes ≤ 140737488355328) (hbase : base ≤ W.heap.size)
    (hs : a.eval s = v) (hx : a.eval x = .slice (some ⟨W.heap.size, 0, none⟩) 1 c)
    (h : ∀ v' w', w'.ownsRow base e size v' (n + 1) (xs ++ cs.toList) → Below base W w' → W.grownBy w' v.ownBlock → Newer W v v' → wpList P ops Q rest (a.put d v') w') :
    wpList P ops Q ({ dst := d, op := .call { callee := .builtin .append, args := #[s, x], argTypes := #[t, t] }, type := rt, pos := pos, after := af, guard := none } :: rest) a (W.alloc (.cells cs t')) := by
  have hb0 : Below W.heap.size W (W.alloc (.cells cs t')) := (Below.refl _ _).alloc (Nat.le_refl _) _
  have hown' := own_below hown hb0
  refine lit_append_at s x c t hT hown' (Blk.new W t' cs) hl h1 h63 hbytes (Nat.le_trans hbase hb0.size) hs hx ?_
  intro v' w' ho hg hn
  have hbel : Below base W w' := (hb0.mono hbase).grown hg (Nat.le_trans hbase hb0.size) (fun k hk => (World.ownsRow.lt hown' k hk).1)
  have hg' : W.grownBy w' v.ownBlock := ⟨hbel.os, hbel.tape, hbel.output, hbel.size, fun k hk hne => (hg.block k (Nat.lt_of_lt_of_le hk hb0.size) hne).trans (hb0.block k hk)⟩
  exact h v' w' ho hbel hg' ((Newer.refl W v).then_ hn hb0.size)
end Go.Proofs.YtlanconcbpdneaaDoor
/- The walk of layer 1's Get. No condition. -/
namespace Go.Proofs.YtlanconcbpdneaaDoor
open Go.RowKit

theorem and127 (c : UInt8) : bits .and .u8 (c.toNat : Int) 127 = ((c.toNat % 128 : Nat) : Int) := by
  have h : ∀ m : Fin 256, bits .and .u8 ((m.val : Nat) : Int) 127 = ((m.val % 128 : Nat) : Int) := by decide +kernel
  exact h ⟨c.toNat, c.toNat_lt⟩
theorem or_shl (N k : Nat) (c : UInt8) (hN : N < 128 ^ k) (hf : N + 128 ^ k * (c.toNat % 128) ≤ 18446744073709551615) :
    bits .or .u64 (N : Int) (IntKind.u64.wrap (IntKind.u64.wrap (bits .and .u8 (c.toNat : Int) 127) * 2 ^ (7 * k))) = ((N + 128 ^ k * (c.toNat % 128) : Nat) : Int) := by
  have hp : (128 : Nat) ^ k = 2 ^ (7 * k) := by rw [Nat.pow_mul]
  rw [hp] at hN hf ⊢
  rw [and127, IntWalk.u64_in ((c.toNat % 128 : Nat) : Int) (by omega)]
  have h1 : ((c.toNat % 128 : Nat) : Int) * 2 ^ (7 * k) = ((2 ^ (7 * k) * (c.toNat % 128) : Nat) : Int) := by
    rw [Int.natCast_mul, Int.mul_comm]; simp
  rw [h1, IntWalk.u64_in _ (by omega)]
  have h2 := u64_or_nat N (2 ^ (7 * k) * (c.toNat % 128)) (by omega) (by omega)
  rw [h2, Nat.or_comm, ← Nat.two_pow_add_eq_or_of_lt hN, Nat.add_comm]

set_option maxRecDepth 100000 in
set_option maxHeartbeats 800000 in
theorem get_calls (l : List UInt8) (hl : l.length ≤ 4611686018427387904) (w : World) :
    Calls Tryd.prog 26 #[.string (B l)] w fun e w' => e = .returned (getTriple l (get l)) ∧ ∃ n, w' = w.drewN n := by
  obtain ⟨M, hmin, hM1, hM2, hM3⟩ : ∃ M : Nat, (if (10 : Int) < (l.length : Int) then (10 : Int) else (l.length : Int)) = (M : Int) ∧ M ≤ 10 ∧ M ≤ l.length ∧ Hid (M = 10 ∨ M = l.length) := by
    refine ⟨min l.length 10, ?_, by omega, by omega, ?_⟩
    · split <;> omega
    · show _ ∨ _; omega
  go_enter Tryd.func26, Tryd.ntmps26
  go_wp2
  go_loop [5, 11] (fun n i => ∃ k : Nat, i = .int .i64 k ∧ k ≤ M ∧ n = .int .u64 (val7 (l.take k)) ∧ Hid (k ≤ lead l)) (fun _ i => 10 - (intOf i).toNat)
  case atStart => exact ⟨0, rfl, by omega, rfl, Nat.zero_le _⟩
  case round =>
    obtain ⟨k, rfl, h1, rfl, h3⟩ := hrel
    by_cases hk : k < M
    · obtain ⟨c, hc⟩ : ∃ c, l[k] = c := ⟨_, rfl⟩
      have hts := val7_take_succ l k (by omega)
      have hN := val7_lt (l.take k)
      rw [List.length_take, Nat.min_eq_left (by omega)] at hN
      rw [hc] at hts
      by_cases h9 : k = 9
      · subst h9
        by_cases hc1 : 1 < c.toNat
        · have hfin : Hid (get l = none) := by
            by_cases hbig : 128 ≤ c.toNat
            · exact get_ten (lead_next h3.out (by omega) (by rw [hc]; exact hbig))
            · exact get_nine (by omega) (lead_here h3.out (by omega) (by rw [hc]; omega)) (by rw [hc]; exact hc1)
          clear hts hN
          go_wp2
          all_goals first | (exfalso; omega) | skip
          go_ret3
          exact ⟨by rw [hfin.out]; rfl, 0, rfl⟩
        · have hle : Hid (lead l = 9) := lead_here h3.out (by omega) (by rw [hc]; omega)
          have hor0 := or_shl (val7 (l.take 9)) 9 c hN (by omega)
          rw [← hts] at hor0
          have hor : bits .or .u64 (val7 (List.take 9 l) : Int) (IntKind.u64.wrap (IntKind.u64.wrap (bits .and .u8 (c.toNat : Int) 127) * 9223372036854775808)) = ((val7 (List.take 10 l) : Nat) : Int) := by
            rw [show (9223372036854775808 : Int) = 2 ^ (7 * 9) from by decide]
            exact hor0
          clear hor0
          clear hts hN
          by_cases h0 : c.toNat = 0
          · have hfin : Hid (get l = none) := get_zero (by omega) hle.out (by omega) (by rw [hc]; exact h0)
            have h0' : ((c.toNat : Int) == 0) = true := by simp [h0]
            have h0h := Lib.hid h0
            clear h0
            go_wp2
            all_goals first | (exfalso; omega) | skip
            go_ret3
            exact ⟨by rw [hfin.out]; rfl, 0, rfl⟩
          · have hfin : Hid (get l = some (val7 (l.take (9 + 1)), 9 + 1)) := get_yes (by omega) hle.out (by omega) (fun _ => by rw [hc]; omega) (fun _ => by rw [hc]; exact h0)
            have h0' : ((c.toNat : Int) == 0) = false := by simp; omega
            go_wp2
            all_goals first | (exfalso; omega) | skip
            go_quiet (fail)
            go_wp2
            go_ret3
            exact ⟨by rw [hfin.out]; rfl, _, rfl⟩
      · by_cases hd : 128 ≤ c.toNat
        · have hn : Hid (k + 1 ≤ lead l) := lead_next h3.out (by omega) (by rw [hc]; exact hd)
          have hor := or_shl (val7 (l.take k)) k c hN (by
            have : 128 ^ k * (c.toNat % 128) ≤ 128 ^ k * 127 := Nat.mul_le_mul_left _ (by omega)
            have : 128 ^ k ≤ 128 ^ 8 := Nat.pow_le_pow_right (by omega) (by omega)
            omega)
          rw [← hts] at hor
          clear hts hN
          go_wp2
          all_goals first | (exfalso; omega) | skip
          go_round
          case rel => exact ⟨k + 1, by go_num, by omega, rfl, hn⟩
          case measure => simp [intOf]; omega
        · have hle : Hid (lead l = k) := lead_here h3.out (by omega) (by rw [hc]; omega)
          have hor := or_shl (val7 (l.take k)) k c hN (by
            have : 128 ^ k * (c.toNat % 128) ≤ 128 ^ k * 127 := Nat.mul_le_mul_left _ (by omega)
            have : 128 ^ k ≤ 128 ^ 8 := Nat.pow_le_pow_right (by omega) (by omega)
            omega)
          rw [← hts] at hor
          clear hts hN
          by_cases h0 : 0 < k ∧ c.toNat = 0
          · obtain ⟨h0k, h0c⟩ := h0
            have hfin : Hid (get l = none) := get_zero (by omega) hle.out h0k (by rw [hc]; exact h0c)
            have h0' : ((c.toNat : Int) == 0) = true := by simp [h0c]
            have h0h := Lib.hid h0c
            clear h0c
            go_wp2
            all_goals first | (exfalso; omega) | skip
            go_ret3
            exact ⟨by rw [hfin.out]; rfl, 0, rfl⟩
          · have hfin : Hid (get l = some (val7 (l.take (k + 1)), k + 1)) := get_yes (by omega) hle.out (by omega) (fun _ => by omega) (fun h => by rw [hc]; omega)
            by_cases h0k : ¬ 0 < k
            · by_cases h0c : c.toNat = 0
              · have h0' : ((c.toNat : Int) == 0) = true := by simp [h0c]
                have h0h := Lib.hid h0c
                clear h0c h0
                go_wp2
                all_goals first | (exfalso; omega) | skip
                go_quiet (fail)
                go_wp2
                go_ret3
                exact ⟨by rw [hfin.out]; rfl, _, rfl⟩
              · have h0' : ((c.toNat : Int) == 0) = false := by simp; omega
                go_wp2
                all_goals first | (exfalso; omega) | skip
                go_quiet (fail)
                go_wp2
                go_ret3
                exact ⟨by rw [hfin.out]; rfl, _, rfl⟩
            · have h0' : ((c.toNat : Int) == 0) = false := by simp; omega
              go_wp2
              all_goals first | (exfalso; omega) | skip
              go_quiet (fail)
              go_wp2
              go_ret3
              exact ⟨by rw [hfin.out]; rfl, _, rfl⟩
    · have hfin : Hid (get l = none) := by
        have h3' := h3.out
        rcases hM3.out with h | h
        · exact get_ten (by omega)
        · exact get_end (by omega)
      go_wp2
      all_goals first | (exfalso; omega) | skip
      go_ret3
      exact ⟨by rw [hfin.out]; rfl, 0, rfl⟩
end Go.Proofs.YtlanconcbpdneaaDoor
/- Small words: two blocks, a result of an id and a bool. No condition. -/
namespace Go.Proofs.YtlanconcbpdneaaDoor
open Go.RowKit
theorem blk_at2 (w : World) (o : Obj) (t : TypeId) (cs : Array Value) : Blk ((w.alloc o).alloc (.cells cs t)) (w.heap.size + 1) t cs := by
  have := Blk.new (w.alloc o) t cs
  rwa [show (w.alloc o).heap.size = w.heap.size + 1 from by simp] at this
theorem results_row_tmp {P : Program} {fn : Func} {p q : Tmp} {ty : TypeId} (h : fn.results = #[.cell p ty, .tmp q]) (tmps : Array Value) (w : World) (g : Nat) (t : TypeId) (cs : Array Value) (fr : Nat × Nat) (d : TypeDesc)
    (hp : tmps.getD p undef = .pointer (some ⟨g, 0, none⟩)) (hg : w.heap[g]? = some (.cells cs t fr))
    (hu : P.underlying ty = some d) (hd : (match d with | .struct _ | .array _ _ => true | _ => false) = true) (hi : (P.info? ty).map (·.size) = some cs.size) :
    (results fn tmps).run P w = .ok (.tuple #[.agg cs, tmps.getD q undef]) w := by
  have hp' : tmps[p]?.getD undef = .pointer (some ⟨g, 0, none⟩) := by simpa using hp
  simp [results, h, hp', asAddr, run_loadVar_row w g t ty cs fr d hg hu hd hi]
theorem sized32 {l : List UInt8} (h : l.length = 32) : (Tryd.prog.info? 25).map (·.size) = some (u8s l).size := by rw [u8s_size, h]; exact sz32
theorem same32 {a b : List UInt8} (ha : a.length = 32) (hb : b.length = 32) : (u8s a).size = (u8s b).size := by rw [u8s_size, u8s_size, ha, hb]
theorem zeros32 : (List.replicate 32 (0 : UInt8)).length = 32 := by simp
end Go.Proofs.YtlanconcbpdneaaDoor
/- The walks of layer 4's law: few, knows. No condition. -/
namespace Go.Proofs.YtlanconcbpdneaaDoor
open Go.RowKit
theorem take_bad (s : Txt) (hs : s.length ≤ 4611686018427387904) (hb : ∀ n k, get s = some (n, k) → (s.drop k).length < n) (hg : get s ≠ none) (w : World) : Calls Tryd.prog 12 #[.string (B s)] w fun e w' => e = .returned (.tuple #[.string (B []), .string (B []), .int .i64 2]) ∧ Below w.heap.size w w' := by
  have hget := get_calls s hs w
  cases h : get s with
  | none => exact absurd h hg
  | some p =>
    obtain ⟨n, k⟩ := p
    have hlt := hb n k h
    rw [h] at hget
    have hget : Calls Tryd.prog 26 #[.string (B s)] w fun e w' => e = .returned (.tuple #[.int .u64 n, .string (B (s.drop k)), .int .i64 0]) ∧ ∃ n, w' = w.drewN n := hget
    have hget := Lib.hid hget
    have hle : (s.drop k).length ≤ s.length := by rw [List.length_drop]; omega
    generalize s.drop k = R at *
    have hi : (R.length : Int) < (n : Int) := by omega
    clear h hb hg
    go_enter Tryd.func12, Tryd.ntmps12
    go_wp2_with (first
      | ((with_reducible refine hget.out.mono ?_); rintro e w1 ⟨rfl, nq, rfl⟩))
    all_goals try (exfalso; omega)
    go_ret3
    exact ⟨rfl, bdrewN (Below.refl _ _) nq⟩
def zObj : Array Value := (objC ⟨0, [], [], noId, [], 0, [], noId, 0, []⟩ (.slice none 0 0) (.slice none 0 0)).toArray
theorem built_zObj : Tryd.prog.built 29 [] = some zObj := by kernel_rfl
theorem zObj_size : zObj.size = 72 := by kernel_rfl
theorem zObj_one : zObj.all (·.oneCell') = true := by kernel_rfl
def hiObj : ObjL := ⟨1, [104, 105], [], noId, [], 0, [], noId, 0, []⟩
theorem built_hi : Tryd.prog.built 29 [(0, .int .i64 1), (1, .string ⟨#[104, 105]⟩)] = some (objC hiObj (.slice none 0 0) (.slice none 0 0)).toArray := by kernel_rfl
theorem hiSmall : Small hiObj := ⟨by decide, fun e he => by simp [hiObj] at he, by decide, by decide, by decide, by decide⟩
theorem hiV (w : World) : ObjV w (.slice none 0 0) (.slice none 0 0) hiObj := ⟨⟨by decide, by decide, fun e he => by simp [hiObj] at he, fun e he => by simp [hiObj] at he, by decide, by decide, by decide, by decide, by decide, by decide, by decide, by decide⟩, SliceAt.nil, SliceAt.nil⟩
theorem hiEnc : encC hiObj = .tuple #[.string (B [1, 2, 104, 105]), .int .i64 0] := encC_some (by decide)
end Go.Proofs.YtlanconcbpdneaaDoor
/- The walk of layer 4's law: knows. No condition. -/
namespace Go.Proofs.YtlanconcbpdneaaDoor
open Go.RowKit
theorem zeroObj (W : World) : (zeroValue 29).run Tryd.prog W = .ok (.agg zObj) W := by
  have h : (Tryd.prog.info? 29).map (·.zero) = some (some (.agg zObj)) := by kernel_rfl
  obtain ⟨i, h1, h2⟩ := Option.map_eq_some_iff.1 h
  simp [zeroValue, typeInfo, h1, h2]
theorem sizedObj : (Tryd.prog.info? 29).map (·.size) = some zObj.size := by rw [zObj_size]; exact szObj
set_option maxRecDepth 100000 in
set_option maxHeartbeats 2000000 in
theorem decode_bad (c : UInt8) (s : Txt) (hs : s.length ≤ 4095) (ht : ∀ W, Calls Tryd.prog 12 #[.string (B s)] W fun e w' => e = .returned (.tuple #[.string (B []), .string (B []), .int .i64 2]) ∧ Below W.heap.size W w') (w : World) :
    Calls Tryd.prog 5 #[.string (B (c :: s))] w fun e w' => e = .returned (.tuple #[.agg zObj, .int .i64 2]) ∧ Below w.heap.size w w' := by
  have hzv := zeroObj
  obtain ⟨W0, hW0⟩ : ∃ W0, w.alloc (.cells zObj 29) = W0 := ⟨_, rfl⟩
  have hz0 : Blk W0 w.heap.size 29 zObj := by rw [← hW0]; exact Blk.new _ _ _
  have b0 : Below w.heap.size w W0 := by rw [← hW0]; exact (Below.refl _ _).alloc (Nat.le_refl _) _
  have hex : (B (c :: s)).extract 1 (s.length + 1) = B s := by
    rw [extract_B]
    simp
  have i1 : ¬ (4096 : Int) < ((s.length : Int) + 1) := by omega
  have ht := Lib.hid (ht W0)
  have hrb := fun W => run_build (P := Tryd.prog) W _ _ _ built_zObj
  have hone := zObj_one
  have hsz := sizedObj
  go_enter Tryd.func5, Tryd.ntmps5
  go_wp2_with (first
    | ((with_reducible refine ht.out.mono ?_); rintro e w1 ⟨rfl, hb1⟩
       have hz1 := hz0.below hb1 hz0.lt)
    | (refine wpList_store_row rfl 29 (.tmp 2) (.tmp 31) rfl w.heap.size zObj rfl rfl _ _ hz1 hsz rfl hone ?_))
  refine bodyPost_ret (results_row_tmp rfl _ _ w.heap.size _ _ _ _ rfl (setRow_heap _ _ _ _ _ _ hz1) Tryd.underlying29 rfl hsz) rfl ⟨rfl, below_setRow (bthen b0 b0.size hb1) (Nat.le_refl _) _⟩
theorem take_hi (W : World) : Calls Tryd.prog 12 #[.string (B [3, 104, 105])] W fun e w' => e = .returned (.tuple #[.string (B []), .string (B []), .int .i64 2]) ∧ Below W.heap.size W w' :=
  take_bad [3, 104, 105] (by decide) (fun n k h => by
    have h1 : get [3, 104, 105] = some (3, 1) := by decide
    rw [h1] at h
    injection h with h
    injection h with h2 h3
    subst h2; subst h3
    decide) (by decide) W
set_option maxRecDepth 100000 in
set_option maxHeartbeats 2000000 in
theorem knows_calls (w : World) : Calls Tryd.prog 4 #[] w fun e w' => e = .returned (.bool true) ∧ Below w.heap.size w w' := by
  have hen := encode_calls hiObj hiSmall none none 0 0 w (hiV w)
  rw [hiEnc] at hen
  have hen : Calls Tryd.prog 10 #[.agg (objC hiObj (.slice none 0 0) (.slice none 0 0)).toArray] w fun e w' => e = .returned (.tuple #[.string ⟨#[1, 2, 104, 105]⟩, .int .i64 0]) ∧ Below w.heap.size w w' := hen
  have hen := Lib.hid hen
  have hde : ∀ W, Calls Tryd.prog 5 #[.string ⟨#[1, 3, 104, 105]⟩] W fun e w' => e = .returned (.tuple #[.agg zObj, .int .i64 2]) ∧ Below W.heap.size W w' := fun W => decode_bad 1 [3, 104, 105] (by decide) take_hi W
  have hde := fun W => Lib.hid (hde W)
  have n1 : ∀ W, Calls Tryd.prog 11 #[.string ⟨#[97, 47, 98]⟩] W fun e w' => e = .returned (.bool false) ∧ w' = W := fun W => name_calls [97, 47, 98] W
  have n2 : ∀ W, Calls Tryd.prog 11 #[.string ⟨#[]⟩] W fun e w' => e = .returned (.bool false) ∧ w' = W := fun W => name_calls [] W
  have n3 : ∀ W, Calls Tryd.prog 11 #[.string ⟨#[97]⟩] W fun e w' => e = .returned (.bool true) ∧ w' = W := fun W => name_calls [97] W
  have hbd := built_hi
  have hzv := zeroObj
  have hone := zObj_one
  have hz72 := zObj_size
  generalize (objC hiObj (.slice none 0 0) (.slice none 0 0)).toArray = cs at *
  go_enter Tryd.func4, Tryd.ntmps4
  go_wp2_with (first
    | ((with_reducible refine lit_build2 hbd ?_ ?_ ?_); rfl; rfl)
    | ((with_reducible refine hen.out.mono ?_); rintro e w1 ⟨rfl, hb1⟩
       have hde := hde w1
       clear hen)
    | ((with_reducible refine hde.out.mono ?_); rintro e w2 ⟨rfl, hb2⟩
       have bel2 := bthen hb1 hb1.size hb2
       clear hde)
    | ((with_reducible refine lit_new 29 (.tmp 3) (.tmp 12) zObj 72 szObj hz72 hone _ ?_ ?_ ?_ ?_)
       · exact hz72
       · rfl
       · rfl
       intro W3 hb3 hbl3
       have bel3 := bthen bel2 bel2.size hbl3
       have n1 := n1 W3
       have n2 := n2 W3
       have n3 := n3 W3)
    | ((with_reducible refine n1.mono ?_); rintro e w4 ⟨rfl, rfl⟩)
    | ((with_reducible refine n2.mono ?_); rintro e w4 ⟨rfl, rfl⟩)
    | ((with_reducible refine n3.mono ?_); rintro e w4 ⟨rfl, rfl⟩))
  go_ret
  exact ⟨rfl, bel3⟩
end Go.Proofs.YtlanconcbpdneaaDoor
/- The walks of layer 1's Take on both sides. No condition. -/
namespace Go.Proofs.YtlanconcbpdneaaDoor
open Go.RowKit
def takeV (s : Txt) : Value := match takeP s with
  | some (t, q) => .tuple #[.string (B t), .string (B q), .int .i64 0]
  | none => .tuple #[.string (B []), .string (B []), .int .i64 2]
theorem takeV_some {s t q : Txt} (h : takeP s = some (t, q)) : takeV s = .tuple #[.string (B t), .string (B q), .int .i64 0] := by unfold takeV; rw [h]
theorem takeV_none {s : Txt} (h : takeP s = none) : takeV s = .tuple #[.string (B []), .string (B []), .int .i64 2] := by unfold takeV; rw [h]
set_option maxRecDepth 100000 in
set_option maxHeartbeats 800000 in
theorem take_calls (s : Txt) (hs : s.length ≤ 4611686018427387904) (w : World) : Calls Tryd.prog 12 #[.string (B s)] w fun e w' => e = .returned (takeV s) ∧ ∃ n, w' = w.drewN n := by
  have hget := get_calls s hs w
  obtain ⟨r, hr⟩ : ∃ r, Hid (takeV s = r) := ⟨_, Lib.hid rfl⟩
  rw [hr.out]
  cases h : get s with
  | none =>
    rw [h] at hget
    have hget : Calls Tryd.prog 26 #[.string (B s)] w fun e w' => e = .returned (.tuple #[.int .u64 0, .string (B []), .int .i64 2]) ∧ ∃ n, w' = w.drewN n := hget
    have hget := Lib.hid hget
    have hrr : Hid (_ = r) := (takeV_none (takeP_none h)).symm.trans hr.out
    clear h hr
    go_enter Tryd.func12, Tryd.ntmps12
    go_wp2_with (first
      | ((with_reducible refine hget.out.mono ?_); rintro e w1 ⟨rfl, nq, rfl⟩))
    go_ret3
    exact ⟨by rw [← hrr.out]; rfl, nq, rfl⟩
  | some p =>
    obtain ⟨n, k⟩ := p
    rw [h] at hget
    have hget : Calls Tryd.prog 26 #[.string (B s)] w fun e w' => e = .returned (.tuple #[.int .u64 n, .string (B (s.drop k)), .int .i64 0]) ∧ ∃ n, w' = w.drewN n := hget
    have hget := Lib.hid hget
    have hle : (s.drop k).length ≤ s.length := by rw [List.length_drop]; omega
    by_cases hlt : (s.drop k).length < n
    · have hrr : Hid (_ = r) := (takeV_none (takeP_short h hlt)).symm.trans hr.out
      generalize s.drop k = R at *
      have hi : (R.length : Int) < (n : Int) := by omega
      clear h hr
      go_enter Tryd.func12, Tryd.ntmps12
      go_wp2_with (first
        | ((with_reducible refine hget.out.mono ?_); rintro e w1 ⟨rfl, nq, rfl⟩))
      all_goals try (exfalso; omega)
      go_ret3
      exact ⟨by rw [← hrr.out]; rfl, nq, rfl⟩
    · have hrr : Hid (_ = r) := (takeV_some (takeP_yes h (by omega))).symm.trans hr.out
      generalize s.drop k = R at *
      have hi : ¬ (R.length : Int) < (n : Int) := by omega
      have hle2 : (n : Int) ≤ (R.length : Int) := by omega
      have hle3 : n ≤ R.length := by omega
      have x1 : (B R).extract 0 n = B (R.take n) := extract_B_to R n
      have x2 : (B R).extract n R.length = B (R.drop n) := extract_B_from R n
      clear h hr
      go_enter Tryd.func12, Tryd.ntmps12
      go_wp2_with (first
        | ((with_reducible refine hget.out.mono ?_); rintro e w1 ⟨rfl, nq, rfl⟩))
      all_goals try (exfalso; omega)
      go_quiet (fail)
      go_wp2
      go_ret3
      exact ⟨by rw [← hrr.out]; rfl, _, World.drewN_drewN _ _ _⟩
def takeNV (s : Txt) : Value := .tuple #[.string (B (takeN s).1), .int .i64 (takeN s).2]
set_option maxRecDepth 100000 in
set_option maxHeartbeats 800000 in
theorem refTake_calls (s : Txt) (hs : s.length ≤ 4611686018427387904) (w : World) : Calls Tryd.prog 35 #[.string (B s)] w fun e w' => e = .returned (takeNV s) ∧ w' = w := by
  have hget := refGet_calls s hs w
  have hgg : getPair (get s) = .tuple #[.int .u64 (getN s).1, .int .i64 (getN s).2] := by
    unfold getN
    cases get s <;> rfl
  rw [hgg] at hget
  have hget := Lib.hid hget
  have hb1 := getN_le s
  have hb2 := getN_num s
  obtain ⟨r, hr⟩ : ∃ r, Hid (takeNV s = r) := ⟨_, Lib.hid rfl⟩
  rw [hr.out]
  have hr0 := @takeN_zero s
  have hr1 := @takeN_short s
  have hr2 := @takeN_yes s
  unfold takeNV at hr
  generalize (getN s).1 = n at *
  generalize (getN s).2 = k at *
  by_cases h0 : k = 0
  · have hrr : Hid (_ = r) := (by rw [← hr.out, hr0 h0]; rfl : Value.tuple #[.string (B []), .int .i64 0] = r)
    have i0 : (k : Int) = 0 := by omega
    clear hr hr0 hr1 hr2 hgg
    subst h0
    go_enter Tryd.func35, Tryd.ntmps35
    go_wp2_with (first
      | ((with_reducible refine hget.out.mono ?_); rintro e w1 ⟨rfl, rfl⟩))
    all_goals try (exfalso; omega)
    go_ret2
    exact ⟨by rw [← hrr.out]; rfl, rfl⟩
  · have i0 : ¬ (k : Int) = 0 := by omega
    have i1 : 1 ≤ k := by omega
    have x0 : IntKind.u64.wrap ((s.length : Int) - (k : Int)) = ((s.length - k : Nat) : Int) := by
      rw [IntWalk.u64_in _ (by omega)]; omega
    by_cases hlt : s.length - k < n
    · have hrr : Hid (_ = r) := (by rw [← hr.out, hr1 h0 hlt]; rfl : Value.tuple #[.string (B []), .int .i64 0] = r)
      have hi : ((s.length - k : Nat) : Int) < (n : Int) := by omega
      have hj : (s.length : Int) - (k : Int) < (n : Int) := by omega
      clear hr hr0 hr1 hr2 hgg h0 hlt x0
      go_enter Tryd.func35, Tryd.ntmps35
      go_wp2_with (first
        | ((with_reducible refine hget.out.mono ?_); rintro e w1 ⟨rfl, rfl⟩))
      all_goals try (exfalso; omega)
      go_ret2
      exact ⟨by rw [← hrr.out]; rfl, rfl⟩
    · have hrr : Hid (_ = r) := (by rw [← hr.out, hr2 h0 (by omega)]; rfl : Value.tuple #[.string (B ((s.drop k).take n)), .int .i64 ((k : Int) + (n : Int))] = r)
      have hi : ¬ ((s.length - k : Nat) : Int) < (n : Int) := by omega
      have hj : ¬ (s.length : Int) - (k : Int) < (n : Int) := by omega
      have y0 : k + n ≤ s.length := by omega
      have x1 : (B s).extract k (k + n) = B ((s.drop k).take n) := by rw [extract_B]; rw [Nat.add_sub_cancel_left]
      clear hr hr0 hr1 hr2 hgg h0 hlt x0
      go_enter Tryd.func35, Tryd.ntmps35
      go_wp2_with (first
        | ((with_reducible refine hget.out.mono ?_); rintro e w1 ⟨rfl, rfl⟩))
      all_goals try (exfalso; omega)
      go_ret2
      refine ⟨?_, rfl⟩
      rw [← hrr.out]
      show Ending.returned (.tuple #[.string (B ((s.drop k).take (k + n - k))), .int .i64 ((k : Int) + (n : Int))]) = _
      rw [Nat.add_sub_cancel_left]
end Go.Proofs.YtlanconcbpdneaaDoor
/- The walks of layer 4's document: id, behind. No condition. -/
namespace Go.Proofs.YtlanconcbpdneaaDoor
open Go.RowKit
def idP (s : Txt) (k : Nat) : Txt := s.take k ++ List.replicate (32 - k) 0
theorem idP_len {s : Txt} {k : Nat} (h1 : k ≤ 32) (h2 : k ≤ s.length) : (idP s k).length = 32 := by unfold idP; simp; omega
theorem idP_set {s : Txt} {k : Nat} (h1 : k < 32) (h2 : k < s.length) : (idP s k).set k s[k] = idP s (k + 1) := by
  unfold idP
  have hk : (s.take k).length = k := by rw [List.length_take]; omega
  have e : s.take (k + 1) = s.take k ++ [s[k]] := by rw [List.take_add_one, List.getElem?_eq_getElem h2]; rfl
  rw [List.set_append_right _ _ (by omega), hk, Nat.sub_self, e, List.append_assoc, show 32 - k = (32 - (k + 1)) + 1 from by omega, List.replicate_succ]
  rfl
theorem idP_end {s : Txt} {k : Nat} (h : k = 32 ∨ k = s.length) (h1 : k ≤ 32) (h2 : k ≤ s.length) : idP s k = idG s := by
  unfold idP idG
  rcases h with rfl | rfl
  · rw [show 32 - s.length = 0 from by omega]
  · rw [List.take_of_length_le (Nat.le_refl _), List.take_of_length_le h1]
theorem idP_zero (s : Txt) : idP s 0 = noId := by unfold idP noId; simp
theorem built_zId : Tryd.prog.built 25 [] = some (u8s noId) := by kernel_rfl
theorem zeroIdV (W : World) : (zeroValue 25).run Tryd.prog W = .ok (.agg (u8s noId)) W := by
  have h : (Tryd.prog.info? 25).map (·.zero) = some (some (.agg (u8s noId))) := by kernel_rfl
  obtain ⟨i, h1, h2⟩ := Option.map_eq_some_iff.1 h
  simp [zeroValue, typeInfo, h1, h2]
set_option maxRecDepth 100000 in
set_option maxHeartbeats 2000000 in
theorem gid_calls (s : Txt) (hs : s.length ≤ 4611686018427387904) (w : World) : Calls Tryd.prog 37 #[.string (B s)] w fun e w' => e = .returned (.agg (u8s (idG s))) ∧ Below w.heap.size w w' := by
  have hzv := zeroIdV
  have hrb := fun W => run_build (P := Tryd.prog) W _ _ _ built_zId
  have hZ0 := Lib.hid (idP_zero s)
  have hzl : (u8s noId).size = 32 := by rw [u8s_size, noId_len]
  have hone := u8s_one noId
  have hZ1 : u8s (idP s 0) = u8s noId := by rw [idP_zero]
  generalize u8s noId = Z at *
  obtain ⟨W1, hW1⟩ : ∃ W1, w.alloc (.cells Z 25) = W1 := ⟨_, rfl⟩
  have hx1 : Blk W1 w.heap.size 25 Z := by rw [← hW1]; exact Blk.new _ _ _
  have b1 : Below w.heap.size w W1 := by rw [← hW1]; exact (Below.refl _ _).alloc (Nat.le_refl _) _
  have hs1 : w.heap.size < W1.heap.size := by rw [← hW1]; simp
  have hHz := Lib.hid hZ1
  clear hZ1
  go_enter Tryd.func37, Tryd.ntmps37
  go_wp2_with (first
    | ((with_reducible refine lit_new 25 (.tmp 3) (.tmp 5) Z 32 sz32 hzl hone _ ?_ ?_ ?_ ?_)
       · exact hzl
       · rfl
       · rfl
       intro W2 hb2 hbl2
       have hx2 := hx1.below hbl2 hx1.lt
       have b2 := bthen b1 (Nat.le_of_lt hs1) hbl2
       clear hx1 b1))
  have hb2 : Blk W2 W1.heap.size 25 (u8s (idP s 0)) := by rw [hHz.out]; exact hb2
  clear hW1 hrb hzv
  generalize W1.heap.size = g at *
  go_loopw [4] (fun vi wr => ∃ k : Nat, vi = .int .i64 k ∧ k ≤ 32 ∧ k ≤ s.length ∧ Blk wr g 25 (u8s (idP s k)) ∧ Blk wr w.heap.size 25 Z ∧ Below w.heap.size w wr) (fun vi _ => 32 - (intOf vi).toNat)
  case atStart => exact ⟨0, rfl, by omega, by omega, hb2, hx2, b2⟩
  case round =>
    obtain ⟨k, rfl, hk1, hk2, hbk, hxk, hbel⟩ := hrel
    have hl32 := idP_len hk1 hk2
    by_cases hgo : k < 32 ∧ k < s.length
    · obtain ⟨i1, i2⟩ := hgo
      have j1 : (k : Int) < 32 := by omega
      have j2 : (k : Int) < (s.length : Int) := by omega
      obtain ⟨c, hc⟩ : ∃ c, s[k] = c := ⟨_, rfl⟩
      have c1 : wr.cell? ⟨g, k, none⟩ = some (.int .u8 (((idP s k).getD k 0).toNat : Nat)) := by rw [hbk.cell, u8s_get _ _ (by omega)]
      have f1 := hbk.frozen k
      have hb' := hbk.set_ k (.int .u8 (c.toNat : Nat))
      have he : Hid ((u8s (idP s k)).setIfInBounds k (.int .u8 (c.toNat : Nat)) = u8s (idP s (k + 1))) := by
        show _ = _
        rw [u8s_set _ _ _ c.toNat_lt, ← idP_set i1 i2, hc]
        congr 2
        simp
      rw [he.out] at hb'
      have hx' := hxk.far (p := ⟨g, k, none⟩) (by simp; omega) (.int .u8 (c.toNat : Nat))
      have hbel' := hbel.setCell (p := ⟨g, k, none⟩) (Nat.le_of_lt hs1) (.int .u8 (c.toNat : Nat))
      clear hbk hxk hbel he
      go_wp2_with (fail)
      all_goals try (exfalso; omega)
      go_roundw
      case rel => exact ⟨k + 1, by go_num, by omega, by omega, hb', hx', hbel'⟩
      case measure => simp [intOf]; omega
    · have hend : Hid (idP s k = idG s) := idP_end (by omega) hk1 hk2
      rw [hend.out] at hbk
      have hsz : (Tryd.prog.info? 25).map (·.size) = some (u8s (idG s)).size := by rw [u8s_size, idG_len]; exact sz32
      have hone2 := u8s_one (idG s)
      have h32 : (u8s (idG s)).size = 32 := by rw [u8s_size, idG_len]
      obtain ⟨D, hD⟩ : ∃ D, Hid (u8s (idG s) = D) := ⟨_, Lib.hid rfl⟩
      rw [hD.out] at hbk hsz hone2 h32
      by_cases i1 : k < 32
      · have j1 : (k : Int) < 32 := by omega
        have j2 : ¬ (k : Int) < (s.length : Int) := by omega
        go_wp2_with (first
          | (refine wpList_load_row rfl 25 (.tmp 3) rfl g rfl _ _ _ _ hbk Tryd.underlying25 rfl hsz ?_)
          | (refine wpList_store_row rfl 25 (.tmp 2) (.tmp 21) rfl w.heap.size D rfl rfl _ _ hxk hsz (by rw [hzl, h32]) hone2 ?_))
        all_goals try (exfalso; omega)
        exact bodyPost_ret (results_cell_row rfl _ _ w.heap.size _ _ _ _ rfl (setRow_heap _ _ _ _ _ _ hxk) Tryd.underlying25 rfl hsz) rfl ⟨by rw [hD.out], below_setRow hbel (Nat.le_refl _) _⟩
      · have j1 : ¬ (k : Int) < 32 := by omega
        go_wp2_with (first
          | (refine wpList_load_row rfl 25 (.tmp 3) rfl g rfl _ _ _ _ hbk Tryd.underlying25 rfl hsz ?_)
          | (refine wpList_store_row rfl 25 (.tmp 2) (.tmp 21) rfl w.heap.size D rfl rfl _ _ hxk hsz (by rw [hzl, h32]) hone2 ?_))
        all_goals try (exfalso; omega)
        exact bodyPost_ret (results_cell_row rfl _ _ w.heap.size _ _ _ _ rfl (setRow_heap _ _ _ _ _ _ hxk) Tryd.underlying25 rfl hsz) rfl ⟨by rw [hD.out], below_setRow hbel (Nat.le_refl _) _⟩
set_option maxRecDepth 100000 in
set_option maxHeartbeats 1000000 in
theorem behind_calls (s : Txt) (n : Nat) (hs : s.length ≤ 4611686018427387904) (hn : n ≤ 4611686018427387904) (w : World) : Calls Tryd.prog 36 #[.string (B s), .int .i64 n] w fun e w' => e = .returned (.string (B (s.drop n))) ∧ ∃ q, w' = w.drewN q := by
  by_cases h : s.length ≤ n
  · have hi : (s.length : Int) ≤ (n : Int) := by omega
    have hd : s.drop n = [] := List.drop_eq_nil_of_le h
    rw [hd]
    clear hd
    go_enter Tryd.func36, Tryd.ntmps36
    go_wp2
    all_goals try (exfalso; omega)
    go_ret
    exact ⟨rfl, 0, rfl⟩
  · have hi : ¬ (s.length : Int) ≤ (n : Int) := by omega
    have hle : n ≤ s.length := by omega
    have hlei : (n : Int) ≤ (s.length : Int) := by omega
    have x2 : (B s).extract n s.length = B (s.drop n) := extract_B_from s n
    go_enter Tryd.func36, Tryd.ntmps36
    go_wp2
    all_goals try (exfalso; omega)
    go_ret
    exact ⟨rfl, 0, rfl⟩
end Go.Proofs.YtlanconcbpdneaaDoor
/- The walks of layer 4's reader: bytes, kind, number, text. No condition. -/
namespace Go.Proofs.YtlanconcbpdneaaDoor
open Go.RowKit
/-- A block holds a reader. -/
def RdB (w : World) (g : Nat) (r : Rd) : Prop := Blk w g 44 #[.string (B r.1), .bool r.2]
theorem RdB.c0 {w : World} {g : Nat} {r : Rd} (h : RdB w g r) : w.cell? ⟨g, 0, none⟩ = some (.string (B r.1)) := by rw [Blk.cell h]; rfl
theorem RdB.c1 {w : World} {g : Nat} {r : Rd} (h : RdB w g r) : w.cell? ⟨g, 1, none⟩ = some (.bool r.2) := by rw [Blk.cell h]; rfl
theorem RdB.f {w : World} {g : Nat} {r : Rd} (h : RdB w g r) (i : Nat) : w.frozen? ⟨g, i, none⟩ = false := Blk.frozen h i
theorem RdB.bad {w : World} {g : Nat} {r : Rd} (h : RdB w g r) : RdB (w.setCell ⟨g, 1, none⟩ (.bool true)) g (r.1, true) := Blk.set_ h 1 _
theorem RdB.rest {w : World} {g : Nat} {r : Rd} (h : RdB w g r) (s : Txt) : RdB (w.setCell ⟨g, 0, none⟩ (.string (B s))) g (s, r.2) := Blk.set_ h 0 _
theorem RdB.drewN {w : World} {g : Nat} {r : Rd} (h : RdB w g r) (n : Nat) : RdB (w.drewN n) g r := Blk.drewN h n
theorem RdB.below {w w' : World} {g : Nat} {r : Rd} (h : RdB w g r) (hb : Below w.heap.size w w') : RdB w' g r := (hb.block g (Blk.lt h)).trans h
theorem rBytes_bad {n : Nat} {r : Rd} (h : r.2 = true ∨ r.1.length < n) : rBytes n r = ([], (r.1, true)) := by unfold rBytes; rw [if_pos h]
theorem rBytes_ok {n : Nat} {r : Rd} (h1 : r.2 = false) (h : n ≤ r.1.length) : rBytes n r = (r.1.take n, (r.1.drop n, false)) := by unfold rBytes; rw [if_neg (by rw [h1]; simp; omega)]
set_option maxRecDepth 100000 in
set_option maxHeartbeats 2000000 in
theorem rb_calls (n : Nat) (r : Rd) (hr : r.1.length ≤ 100000) (hn : n ≤ 100000) (g : Nat) (w : World) (hb : RdB w g r) : Calls Tryd.prog 27 #[.pointer (some ⟨g, 0, none⟩), .int .i64 n] w fun e w' => e = .returned (.string (B (rBytes n r).1)) ∧ RdB w' g (rBytes n r).2 ∧ Far [some g] w w' := by
  obtain ⟨s, b⟩ := r
  have c0 := hb.c0
  have c1 := hb.c1
  have f0 := hb.f 0
  have f1 := hb.f 1
  simp only at c0 c1 hr
  cases b with
  | true =>
    rw [rBytes_bad (.inl rfl)]
    have hb2 := hb.bad
    have hfar : Far [some g] w (w.setCell ⟨g, 1, none⟩ (.bool true)) := (Far.refl _ _).set_ (.inl (by simp)) _
    go_enter Tryd.func27, Tryd.ntmps27
    go_wp2
    go_ret
    exact ⟨rfl, hb2, hfar⟩
  | false =>
    by_cases hlt : s.length < n
    · have hli : (s.length : Int) < (n : Int) := by omega
      rw [rBytes_bad (.inr hlt)]
      have hb2 := hb.bad
      have hfar : Far [some g] w (w.setCell ⟨g, 1, none⟩ (.bool true)) := (Far.refl _ _).set_ (.inl (by simp)) _
      go_enter Tryd.func27, Tryd.ntmps27
      go_wp2
      all_goals try (exfalso; omega)
      go_ret
      exact ⟨rfl, hb2, hfar⟩
    · have hli : ¬ (s.length : Int) < (n : Int) := by omega
      have hle : n ≤ s.length := by omega
      have hlei : (n : Int) ≤ (s.length : Int) := by omega
      rw [rBytes_ok rfl hle]
      have x1 : (B s).extract 0 n = B (s.take n) := extract_B_to s n
      have x2 : (B s).extract n s.length = B (s.drop n) := extract_B_from s n
      have hb2 := hb.rest (s.drop n)
      have hfar : Far [some g] w (w.setCell ⟨g, 0, none⟩ (.string (B (s.drop n)))) := (Far.refl _ _).set_ (.inl (by simp)) _
      go_enter Tryd.func27, Tryd.ntmps27
      go_wp2
      all_goals try (exfalso; omega)
      go_ret
      exact ⟨rfl, hb2, hfar⟩
end Go.Proofs.YtlanconcbpdneaaDoor
