/- The walk of layer 4: body, at each kind. Condition: an object that is not great. -/
import Derived.Test.YtlanconcbpdneaaObjR
import Derived.Test.YtlanconcbpdneaaBld2
namespace Go.Proofs.Ytlanconcbpdneaa
open Go.RowKit
attribute [local go_sem ↓] ldvI_eq
/-- An object that is not great. -/
structure Small (o : ObjL) : Prop where
  ents : o.ents.length ≤ 70
  names : ∀ e ∈ o.ents, e.name.length ≤ 100
  pars : o.pars.length ≤ 20
  data : o.data.length ≤ 5000
  text : o.text.length ≤ 5000
  name : o.name.length ≤ 100
abbrev Bld (w : World) (b : Nat) (l : Txt) : Prop := Lib.IsBuilder 67 5 b b (l.map u8v) w
theorem ib_below {T e : TypeId} {B0 b : Nat} {bs : List Value} {w w' : World} (h : Lib.IsBuilder T e B0 b bs w) (hb : Below w.heap.size w w') : Lib.IsBuilder T e B0 b bs w' := by
  have key : ∀ p, Lib.BuilderAt T e B0 b p bs w → Lib.BuilderAt T e B0 b p bs w' := by
    rintro p ⟨hB, v, hh, ho, hne⟩
    have hlt : b < w.heap.size := (show Blk w b T #[p, v] from hh).lt
    exact ⟨hB, v, (hb.block b hlt).trans hh, own_below ho hb, hne⟩
  exact h.imp (key _) (key _)
theorem ib_lt {T e : TypeId} {B0 b : Nat} {bs : List Value} {w : World} (h : Lib.IsBuilder T e B0 b bs w) : b < w.heap.size := by
  rcases h with ⟨_, v, hh, _⟩ | ⟨_, v, hh, _⟩
  · exact (show Blk w b T #[_, v] from hh).lt
  · exact (show Blk w b T #[_, v] from hh).lt
theorem Bld.below {w w' : World} {b : Nat} {l : Txt} (h : Bld w b l) (hb : Below w.heap.size w w') : Bld w' b l := ib_below h hb
theorem Bld.lt {w : World} {b : Nat} {l : Txt} (h : Bld w b l) : b < w.heap.size := ib_lt h
theorem wb_calls {w : World} {b : Nat} {l : Txt} (h : Bld w b l) (k : Int) (hl : l.length ≤ 1000000) : Calls Try.prog 33 #[.pointer (some ⟨b, 0, none⟩), .int .u8 (k % 256)] w fun e w' => e = .returned .nilIface ∧ Bld w' b (l ++ [byteK k]) ∧ Below b w w' ∧ ∀ k T cs, Blk w k T cs → 5 ≠ T → k ≠ b → Blk w' k T cs :=
  writeByte_calls b b l (k % 256) w h (by omega) (by omega) (by omega) (Nat.le_of_lt h.lt)
theorem ws_calls {w : World} {b : Nat} {l : Txt} (h : Bld w b l) (t : Txt) (hl : l.length + t.length ≤ 70368744177664) : Calls Try.prog 34 #[.pointer (some ⟨b, 0, none⟩), .string (B t)] w fun e w' => e = .returned (.tuple #[.int .i64 t.length, .nilIface]) ∧ Bld w' b (l ++ t) ∧ Below b w w' ∧ ∀ k T cs, Blk w k T cs → 5 ≠ T → k ≠ b → Blk w' k T cs :=
  writeString_calls b b l t w h hl (Nat.le_of_lt h.lt)
theorem wr_calls {w : World} {b : Nat} {l : Txt} (h : Bld w b l) (g off : Nat) (t : Txt) (ht : t.length = 32) (hr : w.rangeAt g off (u8s t).toList) (hgb : g ≠ b) (hl : l.length ≤ 1000000) : Calls Try.prog 35 #[.pointer (some ⟨b, 0, none⟩), .slice (some ⟨g, off, none⟩) 32 32] w fun e w' => e = .returned (.tuple #[.int .i64 32, .nilIface]) ∧ Bld w' b (l ++ t) ∧ Below b w w' ∧ ∀ k T cs, Blk w k T cs → 5 ≠ T → k ≠ b → Blk w' k T cs := by
  have := write_calls b b l t w h g off 32 hr hgb (by omega) (Nat.le_of_lt h.lt)
  rw [ht] at this
  exact this
theorem str_calls {w : World} {b : Nat} {l : Txt} (h : Bld w b l) : Calls Try.prog 36 #[.pointer (some ⟨b, 0, none⟩)] w fun e w' => e = .returned (.string (B l)) ∧ Below b w w' := Try.Builder_String_any b b l w h (Nat.le_of_lt h.lt)
theorem entE_len' {e : EntL} (h : e.name.length ≤ 100) (hi : e.id.length = 32) : (entE e).length ≤ 150 := by
  have := put_length e.name.length
  unfold entE textE
  simp only [List.length_cons, List.length_append]
  omega
theorem entsE_len' {l : List EntL} (h : ∀ e ∈ l, e.name.length ≤ 100 ∧ e.id.length = 32) : (entsE l).length ≤ 150 * l.length := by
  induction l with
  | nil => simp [entsE]
  | cons e l ih =>
    have h1 := entE_len' (h e (by simp)).1 (h e (by simp)).2
    have h2 := ih fun e he => h e (by simp [he])
    have : entsE (e :: l) = entE e ++ entsE l := by simp [entsE]
    rw [this]
    simp only [List.length_append, List.length_cons]
    omega
set_option maxRecDepth 100000 in
set_option maxHeartbeats 4000000 in
theorem body_calls2 (o : ObjL) (hk : o.kind = 2) (hs : Small o) (A1 A2 : Option Addr) (k1 k2 : Nat) (w : World) (hv : ObjV w (.slice A1 o.ents.length k1) (.slice A2 o.pars.length k2) o) : Calls Try.prog 18 #[.agg (objC o (.slice A1 o.ents.length k1) (.slice A2 o.pars.length k2)).toArray] w fun e w' => e = .returned (.string (B (bodyO o))) ∧ Below w.heap.size w w' := by
  have ho := hv.ok
  have hO := boxed (w := w) (ve := .slice A1 o.ents.length k1) (vp := .slice A2 o.pars.length k2) ho
  have b0 : Below w.heap.size w (w.alloc (.cells (objC o (.slice A1 o.ents.length k1) (.slice A2 o.pars.length k2)).toArray 28)) := (Below.refl _ _).alloc (Nat.le_refl _) _
  have hv0 := hv.below b0
  obtain ⟨W0, hW0⟩ : ∃ W0, w.alloc (.cells (objC o (.slice A1 o.ents.length k1) (.slice A2 o.pars.length k2)).toArray 28) = W0 := ⟨_, rfl⟩
  rw [hW0] at hO b0 hv0
  have hB0 := bld_new W0
  have b1 : Below W0.heap.size W0 (W0.alloc (.cells #[.pointer none, .slice none 0 0] 67)) := (Below.refl _ _).alloc (Nat.le_refl _) _
  have hgt : W0.heap.size < (W0.alloc (.cells #[.pointer none, .slice none 0 0] 67)).heap.size := by simp
  obtain ⟨W1, hW1⟩ : ∃ W1, W0.alloc (.cells #[.pointer none, .slice none 0 0] 67) = W1 := ⟨_, rfl⟩
  rw [hW1] at hB0 b1 hgt
  have c0 := (hO.below b1).kind
  have c2 := (hO.below b1).ents
  rw [hk] at c0
  have s0 := b0.size
  obtain ⟨r, hr⟩ : ∃ r, Hid (r = bodyO o) := ⟨_, Lib.hid rfl⟩
  rw [← hr.out]
  have hr2 : Hid (r = entsE o.ents) := by show r = _; rw [hr.out]; unfold bodyO; rw [if_neg (by omega), if_pos hk]
  clear hr hv hO hk
  generalize (objC o (.slice A1 o.ents.length k1) (.slice A2 o.pars.length k2)).toArray = cs at *
  go_enter Try.func18, Try.ntmps18
  have hat : Hid (0 < o.ents.length → ∃ g os, A1 = some ⟨g, os, none⟩ ∧ g < W0.heap.size ∧ ∀ i x, o.ents[i]? = some x → W0.rangeAt g (os + i * 34) (entC x)) := by
    obtain ⟨A, cap, he, _, _, h⟩ := hv0.ents
    injection he with he _ _
    subst he
    exact h
  have hbound : ∀ k, (entsE (o.ents.take k)).length ≤ 10500 := fun k => by
    have := entsE_len' (l := o.ents.take k) (fun e he => ⟨hs.names e (List.mem_of_mem_take he), (ho.ents e (List.mem_of_mem_take he)).id⟩)
    rw [List.length_take] at this
    have := hs.ents
    omega
  have hbound := Lib.hid hbound
  have hoE := Lib.hid ho.ents
  have hnE := Lib.hid hs.names
  have hen70 := hs.ents
  clear ho hs hv0
  go_wp2
  clear hW0 hW1 c0 c2
  go_loopw [19] (fun vi wr => ∃ k : Nat, vi = .int .i64 k ∧ k ≤ o.ents.length ∧ Bld wr W0.heap.size (entsE (o.ents.take k)) ∧ Below W0.heap.size W0 wr) (fun vi _ => o.ents.length - (intOf vi).toNat)
  case atStart => exact ⟨0, rfl, by omega, hB0, b1⟩
  case round =>
    obtain ⟨k, rfl, hk, hbl, hbel⟩ := hrel
    have hsz := hbel.size
    by_cases hlt : k < o.ents.length
    · have hki : (k : Int) < (o.ents.length : Int) := by omega
      obtain ⟨gs, os, rfl, hgs, hcell⟩ := hat.out (by omega)
      obtain ⟨x, hx⟩ : ∃ x, o.ents[k]? = some x := ⟨_, List.getElem?_eq_getElem hlt⟩
      have hxok : EntOk x := hoE.out x (List.mem_of_getElem? hx)
      have hx0 := rangeAt_below (hcell k x hx) hgs hbel
      have hst := Lib.hid (entsE_take hx)
      have hxn := hnE.out x (List.mem_of_getElem? hx)
      have hlen := hbound.out k
      have hbw := hbl.lt
      generalize entsE (o.ents.take k) = L at *
      have htx := fun W => Lib.hid (text_calls x.name (by omega) W)
      have htl : (textE x.name).length ≤ 110 := by have := put_length x.name.length; unfold textE; rw [List.length_append]; omega
      have hee : Hid (entE x = byteK x.kind :: (textE x.name ++ x.id)) := Lib.hid rfl
      generalize textE x.name = TX at *
      have hx32 := hxok.id
      clear hx hat hcell hoE hnE hbound
      go_wp2_with (first
        | ((with_reducible refine lit_load_ent (.tmp 21) gs (os + k * 34) x hxok hx0 ?_ ?_); rfl)
        | ((with_reducible refine lit_new_ent (.tmp 5) (.tmp 22) x hxok _ ?_ ?_ ?_ ?_); rfl; rfl; rfl; intro W2 hb2 hbl2
           have cn := (range_ent (range_blkEnt hb2)).1
           have ck := (range_ent (range_blkEnt hb2)).2
           have hbd2 := hbl.below hbl2
           have bel2 := bthen hbel hsz hbl2
           have h1 := Lib.hid (wb_calls hbd2 x.kind (by omega))
           clear hbl hx0)
        | ((with_reducible refine h1.out.mono ?_); rintro e w3 ⟨rfl, hbd3, hb3, hfar3⟩
           have hb33 := hfar3 _ _ _ hb2 (by decide) (by omega)
           have cn3 := (range_ent (range_blkEnt hb33)).1
           have bel3 := bel2.trans hb3
           have h2 := htx w3
           clear h1 hfar3 hb2 cn ck hbd2 htx)
        | ((with_reducible refine h2.out.mono ?_); rintro e w4 ⟨rfl, hb4⟩
           have hbd4 := hbd3.below hb4
           have hb44 := (hb4.block _ hb33.lt).trans hb33
           have bel4 := bthen bel3 bel3.size hb4
           have h3 := Lib.hid (ws_calls hbd4 TX (by simp; omega))
           clear h2 hb33 hbd3 cn3)
        | ((with_reducible refine h3.out.mono ?_); rintro e w5 ⟨rfl, hbd5, hb5, hfar5⟩
           have hb55 := hfar5 _ _ _ hb44 (by decide) (by omega)
           have bel5 := bel4.trans hb5
           have h4 := Lib.hid (wr_calls hbd5 _ 2 x.id hx32 (range_entId (range_blkEnt hb55)) (by omega) (by simp; omega))
           clear h3 hfar5 hb44 hbd4)
        | ((with_reducible refine h4.out.mono ?_); rintro e w6 ⟨rfl, hbd6, hb6, hfar6⟩
           have bel6 := bel5.trans hb6
           clear h4 hfar6 hbd5 hb55))
      have hbd7 : Bld w6 W0.heap.size (entsE (o.ents.take (k + 1))) := by
        rw [hst.out, hee.out]
        simpa using hbd6
      clear hbd6 hst hee
      go_roundw
      case rel => exact ⟨k + 1, by go_num, by omega, hbd7, bel6⟩
      case measure => simp [intOf]; omega
    · have hki : ¬ (k : Int) < (o.ents.length : Int) := by omega
      have he : Hid (r = entsE (o.ents.take k)) := by show r = _; rw [hr2.out, List.take_of_length_le (by omega)]
      generalize entsE (o.ents.take k) = L at *
      have h9 := Lib.hid (str_calls hbl)
      clear hat hoE hnE hbound hbl hr2
      go_wp2_with (first
        | ((with_reducible refine h9.out.mono ?_); rintro e w9 ⟨rfl, hb9⟩))
      go_ret
      exact ⟨by rw [he.out]; rfl, b0.trans ((hbel.trans hb9).mono s0)⟩
end Go.Proofs.Ytlanconcbpdneaa
