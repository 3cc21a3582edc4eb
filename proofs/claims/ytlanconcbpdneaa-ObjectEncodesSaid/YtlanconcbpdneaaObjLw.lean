/- The walk of layer 4's law: ObjectEncodes. No condition. -/
import Derived.Test.YtlanconcbpdneaaObjKn
namespace Go.Proofs.Ytlanconcbpdneaa
open Go.RowKit
attribute [local go_sem ↓] ldvO_eq
theorem links_ok {o : ObjL} (h : ObjOk o) : ∀ x ∈ linksL o, LinkOk x := by
  intro x hx
  unfold linksL at hx
  split at hx
  · obtain ⟨e, he, rfl⟩ := List.mem_map.1 hx
    exact (h.ents e he).id
  · split at hx
    · rcases List.mem_cons.1 hx with rfl | hx
      · exact h.tree
      · obtain ⟨p, hp, rfl⟩ := List.mem_map.1 hx
        exact h.pars p hp
    · split at hx
      · rw [List.mem_singleton] at hx
        subst hx
        exact h.target
      · simp at hx
set_option maxRecDepth 100000 in
set_option maxHeartbeats 4000000 in
theorem encodes_calls (o : ObjL) (A1 A2 : Option Addr) (k1 k2 : Nat) (s : Txt) (w : World) (hv : ObjV w (.slice A1 o.ents.length k1) (.slice A2 o.pars.length k2) o) : Calls Try.prog 4 #[.agg (objC o (.slice A1 o.ents.length k1) (.slice A2 o.pars.length k2)).toArray, .string (B s)] w fun e w' => e = .returned (.bool true) ∧ Below w.heap.size w w' := by
  have ho := hv.ok
  have hO := boxed (w := w) (ve := .slice A1 o.ents.length k1) (vp := .slice A2 o.pars.length k2) ho
  have b0 : Below w.heap.size w (w.alloc (.cells (objC o (.slice A1 o.ents.length k1) (.slice A2 o.pars.length k2)).toArray 28)) := (Below.refl _ _).alloc (Nat.le_refl _) _
  have hv0 := hv.below b0
  obtain ⟨W0, hW0⟩ : ∃ W0, w.alloc (.cells (objC o (.slice A1 o.ents.length k1) (.slice A2 o.pars.length k2)).toArray 28) = W0 := ⟨_, rfl⟩
  rw [hW0] at hO b0 hv0
  have hE0 : EncC w w.heap.size o (.slice A1 o.ents.length k1) (.slice A2 o.pars.length k2) W0 := ⟨hO, hv0, b0⟩
  have hf := Lib.hid (few_calls o A1 A2 k1 k2 W0 hv0)
  have hok := links_ok ho
  have hld := fun W (h : EncC w w.heap.size o (.slice A1 o.ents.length k1) (.slice A2 o.pars.length k2) W) => h.whole
  have hen := fun (hs : Small o) W (h : EncC w w.heap.size o (.slice A1 o.ents.length k1) (.slice A2 o.pars.length k2) W) => Lib.hid (encode_calls o hs A1 A2 k1 k2 W h.val)
  have hre := fun (hs : Small o) W (h : EncC w w.heap.size o (.slice A1 o.ents.length k1) (.slice A2 o.pars.length k2) W) => Lib.hid (refEncode_calls o hs A1 A2 k1 k2 W h.val)
  have hli := fun (hs : Small o) W (h : EncC w w.heap.size o (.slice A1 o.ents.length k1) (.slice A2 o.pars.length k2) W) => Lib.hid (links_calls o hs A1 A2 k1 k2 W h.val)
  have hrl := fun (hs : Small o) W (h : EncC w w.heap.size o (.slice A1 o.ents.length k1) (.slice A2 o.pars.length k2) W) => Lib.hid (refLinks_calls o hs A1 A2 k1 k2 W h.val)
  have hsm := fun va vb W ha hb => Lib.hid (sameLinks_calls (linksL o) hok va vb W ha hb)
  have kn := fun W => Lib.hid (knows_calls W)
  have n1 := fun W => Lib.hid (name_calls s W)
  have n2 := fun (hs : s.length ≤ 9223372036854775807) W => Lib.hid (refName_calls s hs W)
  have q0 := hld W0 hE0
  clear hv ho hv0 hO b0
  generalize (objC o (.slice A1 o.ents.length k1) (.slice A2 o.pars.length k2)).toArray = cs at *
  generalize linksL o = L at *
  generalize nameB s = NB at *
  go_enter Try.func4, Try.ntmps4
  go_wp2_with (fail)
  refine (Calls.mono hf.out ?_)
  rintro e w1 ⟨⟨b1, rfl, hsm0⟩, hb1⟩
  have hE1 := hE0.below hb1
  have q1 := hld w1 hE1
  clear hf q0 hE0 hW0
  cases b1 with
  | false =>
    have kn := kn w1
    clear hen hre hli hrl hsm hsm0 n1 n2
    go_wp2_with (first
      | ((with_reducible refine kn.out.mono ?_); rintro e w3 ⟨rfl, hb3⟩))
    have hE3 := hE1.below hb3
    go_ret
    exact ⟨rfl, hE3.bel⟩
  | true =>
    by_cases i1 : 100 < s.length
    · have i1' : (100 : Int) < (s.length : Int) := by omega
      have kn := kn w1
      clear hen hre hli hrl hsm hsm0 n1 n2
      go_wp2_with (first
        | ((with_reducible refine kn.out.mono ?_); rintro e w3 ⟨rfl, hb3⟩))
      all_goals try (exfalso; omega)
      have hE3 := hE1.below hb3
      go_ret
      exact ⟨rfl, hE3.bel⟩
    · have i1' : ¬ (100 : Int) < (s.length : Int) := by omega
      have hs := hsm0 rfl
      have hen := hen hs w1 hE1
      have hre := hre hs
      have hli := hli hs
      have hrl := hrl hs
      have n2 := n2 (by omega)
      clear hsm0 hs
      unfold encC at hen
      unfold encD at hre
      cases hG : encO o with
      | none =>
        rw [hG] at hen hre
        simp only at hen hre
        replace hG := Lib.hid hG
        go_wp2_with (first
          | ((with_reducible refine hen.out.mono ?_); rintro e w2 ⟨rfl, g2⟩
             have hE2 := hE1.below g2
             have q2 := hld w2 hE2
             have hre := hre w2 hE2
             clear hen q1 hE1)
          | ((with_reducible refine hre.out.mono ?_); rintro e w3 ⟨rfl, g3⟩
             have hE3 := hE2.below g3
             have q3 := hld w3 hE3
             have hli := hli w3 hE3
             clear hre q2 hE2)
          | ((with_reducible refine hli.out.mono ?_); rintro e w4 ⟨v4, rfl, o4, g4⟩
             have hE4 := hE3.below g4
             have q4 := hld w4 hE4
             obtain ⟨A4, k4, rfl⟩ := own_form' o4
             have s4 := OwnLinks.links hok o4
             have hrl := hrl w4 hE4
             clear hli q3 hE3 o4)
          | ((with_reducible refine hrl.out.mono ?_); rintro e w5 ⟨v5, rfl, o5, g5⟩
             have hE5 := hE4.below g5
             obtain ⟨A5, k5, rfl⟩ := own_form' o5
             have hsm := hsm _ _ w5 (s4.below g5) (OwnLinks.links hok o5)
             clear hrl q4 hE4 s4 o5)
          | ((with_reducible refine hsm.out.mono ?_); rintro e w6 ⟨rfl, g6⟩
             have hE6 := hE5.below g6
             have kn := kn w6
             clear hsm hE5)
          | ((with_reducible refine kn.out.mono ?_); rintro e w7 ⟨rfl, g7⟩
             have hE7 := hE6.below g7
             have n1 := n1 w7
             have n2 := n2 w7
             clear kn hE6)
          | ((with_reducible refine n1.out.mono ?_); rintro e w8 ⟨rfl, rfl⟩)
          | ((with_reducible refine n2.out.mono ?_); rintro e w8 ⟨rfl, rfl⟩))
        all_goals try (exfalso; omega)
        go_ret
        exact ⟨by cases NB <;> rfl, hE7.bel⟩
      | some t =>
        rw [hG] at hen hre
        simp only at hen hre
        replace hG := Lib.hid hG
        go_wp2_with (first
          | ((with_reducible refine hen.out.mono ?_); rintro e w2 ⟨rfl, g2⟩
             have hE2 := hE1.below g2
             have q2 := hld w2 hE2
             have hre := hre w2 hE2
             clear hen q1 hE1)
          | ((with_reducible refine hre.out.mono ?_); rintro e w3 ⟨rfl, g3⟩
             have hE3 := hE2.below g3
             have q3 := hld w3 hE3
             have hli := hli w3 hE3
             clear hre q2 hE2)
          | ((with_reducible refine hli.out.mono ?_); rintro e w4 ⟨v4, rfl, o4, g4⟩
             have hE4 := hE3.below g4
             have q4 := hld w4 hE4
             obtain ⟨A4, k4, rfl⟩ := own_form' o4
             have s4 := OwnLinks.links hok o4
             have hrl := hrl w4 hE4
             clear hli q3 hE3 o4)
          | ((with_reducible refine hrl.out.mono ?_); rintro e w5 ⟨v5, rfl, o5, g5⟩
             have hE5 := hE4.below g5
             obtain ⟨A5, k5, rfl⟩ := own_form' o5
             have hsm := hsm _ _ w5 (s4.below g5) (OwnLinks.links hok o5)
             clear hrl q4 hE4 s4 o5)
          | ((with_reducible refine hsm.out.mono ?_); rintro e w6 ⟨rfl, g6⟩
             have hE6 := hE5.below g6
             have kn := kn w6
             clear hsm hE5)
          | ((with_reducible refine kn.out.mono ?_); rintro e w7 ⟨rfl, g7⟩
             have hE7 := hE6.below g7
             have n1 := n1 w7
             have n2 := n2 w7
             clear kn hE6)
          | ((with_reducible refine n1.out.mono ?_); rintro e w8 ⟨rfl, rfl⟩)
          | ((with_reducible refine n2.out.mono ?_); rintro e w8 ⟨rfl, rfl⟩))
        all_goals try (exfalso; omega)
        go_ret
        exact ⟨by cases NB <;> rfl, hE7.bel⟩
end Go.Proofs.Ytlanconcbpdneaa
