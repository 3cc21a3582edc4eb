/- The walk of layer 4: object.Links. Condition: an object that is not great. -/
import Derived.Test.YtlanconcbpdneaaLinkW
namespace Go.Proofs.Ytlanconcbpdneaa
open Go.RowKit
theorem own_low {w : World} {base base' n size : Nat} {e : TypeId} {v : Value} {xs : List Value} (h : w.ownsRow base e size v n xs) (hb : base' ≤ base) : w.ownsRow base' e size v n xs := by
  refine ⟨h.1, ?_⟩
  rcases h.2 with h1 | ⟨g, cap, cur, h1, h2, h3⟩
  · exact .inl h1
  · exact .inr ⟨g, cap, cur, h1, Nat.le_trans hb h2, h3⟩
def entLinks (l : List EntL) : List LinkL := l.map fun e => ⟨e.id, e.kind⟩
def parLinks (l : List Txt) : List LinkL := l.map fun p => ⟨p, 3⟩
theorem entLinks_take {l : List EntL} {k : Nat} {x : EntL} (h : l[k]? = some x) : entLinks (l.take (k + 1)) = entLinks (l.take k) ++ [⟨x.id, x.kind⟩] := by rw [take_snoc h]; simp [entLinks]
theorem parLinks_take {l : List Txt} {k : Nat} {x : Txt} (h : l[k]? = some x) : parLinks (l.take (k + 1)) = parLinks (l.take k) ++ [⟨x, 3⟩] := by rw [take_snoc h]; simp [parLinks]
theorem links_two {o : ObjL} (h : o.kind = 2) : linksL o = entLinks o.ents := by unfold linksL; rw [if_pos h]; rfl
theorem links_three {o : ObjL} (h : o.kind = 3) : linksL o = ⟨o.tree, 2⟩ :: parLinks o.pars := by unfold linksL; rw [if_neg (by omega), if_pos h]; rfl
theorem links_four {o : ObjL} (h : o.kind = 4) : linksL o = [⟨o.target, o.of_⟩] := by unfold linksL; rw [if_neg (by omega), if_neg (by omega), if_pos h]
theorem links_none {o : ObjL} (h2 : o.kind ≠ 2) (h3 : o.kind ≠ 3) (h4 : o.kind ≠ 4) : linksL o = [] := by unfold linksL; rw [if_neg h2, if_neg h3, if_neg h4]
theorem linkC_cells (l : LinkL) : ∀ u ∈ ((linkC l).toArray : Array Value).toList, u.oneCell' = true := by
  intro u hu
  rw [List.toList_toArray] at hu
  exact linkC_one l u hu
theorem linkC_size {l : LinkL} (h : l.id.length = 32) : (linkC l).toArray.size = 1 * 33 := by rw [List.size_toArray, linkC_len h]
set_option maxRecDepth 100000 in
set_option maxHeartbeats 4000000 in
theorem links_calls (o : ObjL) (hs : Small o) (A1 A2 : Option Addr) (k1 k2 : Nat) (w : World) (hv : ObjV w (.slice A1 o.ents.length k1) (.slice A2 o.pars.length k2) o) : Calls Try.prog 11 #[.agg (objC o (.slice A1 o.ents.length k1) (.slice A2 o.pars.length k2)).toArray] w fun e w' => ∃ v', e = .returned v' ∧ OwnLinks w' w.heap.size v' (linksL o) ∧ Below w.heap.size w w' := by
  have ho := hv.ok
  have hO := boxed (w := w) (ve := .slice A1 o.ents.length k1) (vp := .slice A2 o.pars.length k2) ho
  have b0 : Below w.heap.size w (w.alloc (.cells (objC o (.slice A1 o.ents.length k1) (.slice A2 o.pars.length k2)).toArray 28)) := (Below.refl _ _).alloc (Nat.le_refl _) _
  have hv0 := hv.below b0
  obtain ⟨W0, hW0⟩ : ∃ W0, w.alloc (.cells (objC o (.slice A1 o.ents.length k1) (.slice A2 o.pars.length k2)).toArray 28) = W0 := ⟨_, rfl⟩
  rw [hW0] at hO b0 hv0
  have hgW : w.heap.size < W0.heap.size := by rw [← hW0]; simp
  have s0 := b0.size
  have c0 := hO.kind
  have hoE := Lib.hid ho.ents
  have hoP := Lib.hid ho.pars
  have htr := ho.tree
  have hta := ho.target
  have hen70 := hs.ents
  have hp20 := hs.pars
  have hn0 := OwnLinks.nil W0 W0.heap.size
  obtain ⟨r, hr⟩ : ∃ r, Hid (linksL o = r) := ⟨_, Lib.hid rfl⟩
  rw [hr.out]
  clear hv ho hs
  generalize (objC o (.slice A1 o.ents.length k1) (.slice A2 o.pars.length k2)).toArray = cs at *
  by_cases h2 : o.kind = 2
  · have hrr : Hid (entLinks o.ents = r) := by show _ = _; rw [← links_two h2]; exact hr.out
    rw [h2] at c0
    have c2 := hO.ents
    have hat : Hid (0 < o.ents.length → ∃ g os, A1 = some ⟨g, os, none⟩ ∧ g < W0.heap.size ∧ ∀ i x, o.ents[i]? = some x → W0.rangeAt g (os + i * 34) (entC x)) := by
      obtain ⟨A, cap, he, _, _, h⟩ := hv0.ents
      injection he with he _ _
      subst he
      exact h
    clear hr h2 hv0
    go_enter Try.func11, Try.ntmps11
    go_wp2
    go_loopw [3, 15] (fun vo vi wr => ∃ k : Nat, vi = .int .i64 k ∧ k ≤ o.ents.length ∧ OwnLinks wr W0.heap.size vo (entLinks (o.ents.take k)) ∧ Below W0.heap.size W0 wr) (fun _ vi _ => o.ents.length - (intOf vi).toNat)
    case atStart => exact ⟨0, rfl, by omega, hn0, Below.refl _ _⟩
    case round =>
      obtain ⟨k, rfl, hk, hown, hbel⟩ := hrel
      have hsz := hbel.size
      clear hW0
      by_cases hlt : k < o.ents.length
      · have hki : (k : Int) < (o.ents.length : Int) := by omega
        obtain ⟨gs, os, rfl, hgs, hcell⟩ := hat.out (by omega)
        obtain ⟨x, hx⟩ : ∃ x, o.ents[k]? = some x := ⟨_, List.getElem?_eq_getElem hlt⟩
        have hxok : EntOk x := hoE.out x (List.mem_of_getElem? hx)
        have hx0 := rangeAt_below (hcell k x hx) hgs hbel
        have hst := Lib.hid (entLinks_take hx)
        have hln : (entLinks (o.ents.take k)).length ≤ k := by unfold entLinks; rw [List.length_map, List.length_take]; omega
        generalize entLinks (o.ents.take k) = L at *
        have hx32 := hxok.id
        have hbd := built_link x.id x.kind hx32
        have hcs := linkC_size (l := ⟨x.id, x.kind⟩) hx32
        have hc1 := linkC_cells ⟨x.id, x.kind⟩
        have m1 : L.length + 1 ≤ 9223372036854775807 := by omega
        have m2 : (L.length + 1) * 40 ≤ 140737488355328 := by omega
        have hc33 : (linkC ⟨x.id, x.kind⟩).toArray.size = 33 := by rw [hcs]
        obtain ⟨vA, kA, rfl⟩ := own_form' hown
        clear hx hat hcell hoE hoP
        go_wp2_with (first
          | ((with_reducible refine lit_load_ent (.tmp 17) gs (os + k * 34) x hxok hx0 ?_ ?_); rfl)
          | ((with_reducible refine lit_new_ent (.tmp 5) (.tmp 18) x hxok _ ?_ ?_ ?_ ?_); rfl; rfl; rfl; intro W2 hb2 hbl2
             have cn := (range_ent (range_blkEnt hb2)).2
             have hci := range_entId (range_blkEnt hb2)
             have hown2 := own_below hown hbl2
             have bel2 := bthen hbel hsz hbl2
             have sz2 := bel2.size
             clear hown)
          | ((with_reducible refine lit_load_id (.tmp 20) wr.heap.size 2 x.id hx32 hci ?_ ?_); rfl)
          | ((with_reducible refine lit_build2 hbd ?_ ?_ ?_); rfl; rfl)
          | ((with_reducible refine lit_slice1 (.tmp 24) Try.linkTy (linkC ⟨x.id, x.kind⟩).toArray hc33 (by omega) ?_ ?_); rfl)
          | (at_builtin
             (with_reducible refine lit_append_new (.tmp 19) (.tmp 25) 1 _ Try.linkTy hown2 (linkC ⟨x.id, x.kind⟩).toArray hcs hc1 m1 m2 sz2 ?_ ?_ ?_); rfl; rfl
             intro v3 w3 hv3 hbv3 hgv3 hnv3
             have hmv3 : OwnLinks w3 W0.heap.size v3 (L ++ [⟨x.id, x.kind⟩]) := OwnLinks.more hv3
             have bel3 := bel2.trans hbv3
             clear hgv3 hnv3 hv3))
        have hmv4 : OwnLinks w3 W0.heap.size v3 (entLinks (o.ents.take (k + 1))) := by rw [hst.out]; exact hmv3
        clear hmv3 hst m1 m2
        go_roundw
        case rel => exact ⟨k + 1, by go_num, by omega, hmv4, bel3⟩
        case measure => simp [intOf]; omega
      · have hki : ¬ (k : Int) < (o.ents.length : Int) := by omega
        have he : Hid (entLinks (o.ents.take k) = r) := by show _ = _; rw [List.take_of_length_le (by omega)]; exact hrr.out
        rw [he.out] at hown
        clear hat hoE hoP he hrr
        go_wp2
        go_ret
        exact ⟨_, rfl, own_low hown (by omega), b0.trans (hbel.mono s0)⟩
  by_cases h3 : o.kind = 3
  · have hrr : Hid (⟨o.tree, 2⟩ :: parLinks o.pars = r) := by show _ = _; rw [← links_three h3]; exact hr.out
    rw [h3] at c0
    have hat : Hid (0 < o.pars.length → ∃ g os, A2 = some ⟨g, os, none⟩ ∧ g < W0.heap.size ∧ ∀ i x, o.pars[i]? = some x → W0.rangeAt g (os + i * 32) (idC x)) := by
      obtain ⟨A, cap, he, _, _, h⟩ := hv0.pars
      injection he with he _ _
      subst he
      exact h
    have hbd := built_link o.tree 2 htr
    have hcs := linkC_size (l := ⟨o.tree, 2⟩) htr
    have hc1 := linkC_cells ⟨o.tree, 2⟩
    have hc33 : (linkC ⟨o.tree, 2⟩).toArray.size = 33 := by rw [hcs]
    have hti := hO.tree
    have m1 : ([] : List LinkL).length + 1 ≤ 9223372036854775807 := by simp
    have m2 : (([] : List LinkL).length + 1) * 40 ≤ 140737488355328 := by simp
    clear hr h2 h3 hv0
    go_enter Try.func11, Try.ntmps11
    go_wp2_with (first
      | ((with_reducible refine lit_load_id (.tmp 31) w.heap.size 3 o.tree htr hti ?_ ?_); rfl)
      | ((with_reducible refine lit_build2 hbd ?_ ?_ ?_); rfl; rfl)
      | ((with_reducible refine lit_slice1 (.tmp 33) Try.linkTy (linkC ⟨o.tree, 2⟩).toArray hc33 (by omega) ?_ ?_); rfl)
      | (at_builtin
         (with_reducible refine lit_append_new (.tmp 30) (.tmp 34) 1 _ Try.linkTy hn0 (linkC ⟨o.tree, 2⟩).toArray hcs hc1 m1 m2 (Nat.le_refl _) ?_ ?_ ?_); rfl; rfl
         intro v3 w3 hv3 hbv3 hgv3 hnv3
         have hmv3 : OwnLinks w3 W0.heap.size v3 [⟨o.tree, 2⟩] := OwnLinks.more (o := []) hv3
         have c35 := (hO.under hbv3 hgW).pars
         obtain ⟨vA, kA, rfl⟩ := own_form' hmv3
         clear hgv3 hnv3 hv3))
    have s3 := hbv3.size
    clear c35 hW0 c0 hti hbd hcs hc1 hc33 m1 m2 hO
    go_loopw [3, 39] (fun vo vi wr => ∃ k : Nat, vi = .int .i64 k ∧ k ≤ o.pars.length ∧ OwnLinks wr W0.heap.size vo (⟨o.tree, 2⟩ :: parLinks (o.pars.take k)) ∧ Below W0.heap.size W0 wr) (fun _ vi _ => o.pars.length - (intOf vi).toNat)
    case atStart => exact ⟨0, rfl, by omega, hmv3, hbv3⟩
    case round =>
      obtain ⟨k, rfl, hk, hown, hbel⟩ := hrel
      have hsz := hbel.size
      clear hmv3
      by_cases hlt : k < o.pars.length
      · have hki : (k : Int) < (o.pars.length : Int) := by omega
        obtain ⟨gs, os, rfl, hgs, hcell⟩ := hat.out (by omega)
        obtain ⟨x, hx⟩ : ∃ x, o.pars[k]? = some x := ⟨_, List.getElem?_eq_getElem hlt⟩
        have hx32 : x.length = 32 := hoP.out x (List.mem_of_getElem? hx)
        have hx0 : wr.rangeAt gs (os + k * 32) (u8s x).toList := rangeAt_below (hcell k x hx) hgs hbel
        have hst : Hid ((⟨o.tree, 2⟩ :: parLinks (o.pars.take (k + 1)) : List LinkL) = (⟨o.tree, 2⟩ :: parLinks (o.pars.take k)) ++ [⟨x, 3⟩]) := by show _ = _; rw [parLinks_take hx]; simp
        have hln : ((⟨o.tree, 2⟩ :: parLinks (o.pars.take k) : List LinkL)).length ≤ k + 1 := by unfold parLinks; rw [List.length_cons, List.length_map, List.length_take]; omega
        generalize (⟨o.tree, 2⟩ :: parLinks (o.pars.take k) : List LinkL) = L at *
        have hbd := built_link x 3 hx32
        have hcs := linkC_size (l := ⟨x, 3⟩) hx32
        have hc1 := linkC_cells ⟨x, 3⟩
        have m1 : L.length + 1 ≤ 9223372036854775807 := by omega
        have m2 : (L.length + 1) * 40 ≤ 140737488355328 := by omega
        have hc33 : (linkC ⟨x, 3⟩).toArray.size = 33 := by rw [hcs]
        obtain ⟨vB, kB, rfl⟩ := own_form' hown
        clear hx hat hcell hoE hoP
        go_wp2_with (first
          | ((with_reducible refine lit_load_id (.tmp 41) gs (os + k * 32) x hx32 hx0 ?_ ?_); rfl)
          | ((with_reducible refine lit_new_id (.tmp 7) (.tmp 42) x hx32 _ ?_ ?_ ?_ ?_); rfl; rfl; rfl; intro W2 hb2 hbl2
             have hci := range_blk hb2
             have hown2 := own_below hown hbl2
             have bel2 := bthen hbel hsz hbl2
             have sz2 := bel2.size
             clear hown)
          | ((with_reducible refine lit_load_id (.tmp 7) wr.heap.size 0 x hx32 hci ?_ ?_); rfl)
          | ((with_reducible refine lit_build2 hbd ?_ ?_ ?_); rfl; rfl)
          | ((with_reducible refine lit_slice1 (.tmp 45) Try.linkTy (linkC ⟨x, 3⟩).toArray hc33 (by omega) ?_ ?_); rfl)
          | (at_builtin
             (with_reducible refine lit_append_new (.tmp 43) (.tmp 46) 1 _ Try.linkTy hown2 (linkC ⟨x, 3⟩).toArray hcs hc1 m1 m2 sz2 ?_ ?_ ?_); rfl; rfl
             intro v5 w5 hv5 hbv5 hgv5 hnv5
             have hmv5 : OwnLinks w5 W0.heap.size v5 (L ++ [⟨x, 3⟩]) := OwnLinks.more hv5
             have bel5 := bel2.trans hbv5
             clear hgv5 hnv5 hv5))
        have hmv6 : OwnLinks w5 W0.heap.size v5 (⟨o.tree, 2⟩ :: parLinks (o.pars.take (k + 1))) := by rw [hst.out]; exact hmv5
        clear hmv5 hst m1 m2
        go_roundw
        case rel => exact ⟨k + 1, by go_num, by omega, hmv6, bel5⟩
        case measure => simp [intOf]; omega
      · have hki : ¬ (k : Int) < (o.pars.length : Int) := by omega
        have he : Hid ((⟨o.tree, 2⟩ :: parLinks (o.pars.take k) : List LinkL) = r) := by show _ = _; rw [List.take_of_length_le (by omega)]; exact hrr.out
        rw [he.out] at hown
        clear hat hoE hoP he hrr
        go_wp2
        go_ret
        exact ⟨_, rfl, own_low hown (by omega), b0.trans (hbel.mono s0)⟩
  by_cases h4 : o.kind = 4
  · have hrr : Hid (([⟨o.target, o.of_⟩] : List LinkL) = r) := by show _ = _; rw [← links_four h4]; exact hr.out
    rw [h4] at c0
    have hbd := built_link o.target o.of_ hta
    have hcs := linkC_size (l := ⟨o.target, o.of_⟩) hta
    have hc1 := linkC_cells ⟨o.target, o.of_⟩
    have hc33 : (linkC ⟨o.target, o.of_⟩).toArray.size = 33 := by rw [hcs]
    have hti := hO.target
    have c70 := hO.of_
    have m1 : ([] : List LinkL).length + 1 ≤ 9223372036854775807 := by simp
    have m2 : (([] : List LinkL).length + 1) * 40 ≤ 140737488355328 := by simp
    clear hr h2 h3 h4 hv0 hO
    go_enter Try.func11, Try.ntmps11
    go_wp2_with (first
      | ((with_reducible refine lit_load_id (.tmp 52) w.heap.size 38 o.target hta hti ?_ ?_); rfl)
      | ((with_reducible refine lit_build2 hbd ?_ ?_ ?_); rfl; rfl)
      | ((with_reducible refine lit_slice1 (.tmp 56) Try.linkTy (linkC ⟨o.target, o.of_⟩).toArray hc33 (by omega) ?_ ?_); rfl)
      | (at_builtin
         (with_reducible refine lit_append_new (.tmp 51) (.tmp 57) 1 _ Try.linkTy hn0 (linkC ⟨o.target, o.of_⟩).toArray hcs hc1 m1 m2 (Nat.le_refl _) ?_ ?_ ?_); rfl; rfl
         intro v3 w3 hv3 hbv3 hgv3 hnv3
         have hmv3 : OwnLinks w3 W0.heap.size v3 [⟨o.target, o.of_⟩] := OwnLinks.more (o := []) hv3
         obtain ⟨vA, kA, rfl⟩ := own_form' hmv3
         clear hgv3 hnv3 hv3))
    have hmv4 : OwnLinks w3 W0.heap.size (.slice vA 1 kA) r := by rw [← hrr.out]; exact hmv3
    clear hmv3
    go_ret
    exact ⟨_, rfl, own_low hmv4 (by omega), b0.trans (hbv3.mono s0)⟩
  have hrr : Hid (([] : List LinkL) = r) := by show _ = _; rw [← links_none h2 h3 h4]; exact hr.out
  have e2 : (o.kind == 2) = false := by rw [beq_eq_false_iff_ne]; exact h2
  have e3 : (o.kind == 3) = false := by rw [beq_eq_false_iff_ne]; exact h3
  have e4 : (o.kind == 4) = false := by rw [beq_eq_false_iff_ne]; exact h4
  rw [hrr.out] at hn0
  clear hr hO hv0
  go_enter Try.func11, Try.ntmps11
  go_wp2
  go_ret
  exact ⟨_, rfl, own_low hn0 (by omega), b0⟩
end Go.Proofs.Ytlanconcbpdneaa
