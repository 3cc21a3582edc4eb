/- The walk of layer 4: knapsackref04.body. Condition: an object that is not great. -/
import Derived.Test.YtlanconcbpdneaaObjC
namespace Go.Proofs.Ytlanconcbpdneaa
open Go.RowKit
structure BodC (w : World) (g gs os : Nat) (o : ObjL) (ve vp : Value) (w' : World) : Prop where
  enc : EncC w g o ve vp w'
  at_ : ∀ i x, o.ents[i]? = some x → w'.rangeAt gs (os + i * 34) (entC x)
  gs_ : gs < w'.heap.size
section
variable {w w' w'' w0 : World} {g gs os : Nat} {o : ObjL} {ve vp : Value} {f : FuncId} {args : Array Value} {v : Value}
theorem BodC.drew (h : BodC w g gs os o ve vp w') : BodC w g gs os o ve vp w'.drew := ⟨h.enc.drew, h.at_, h.gs_⟩
theorem BodC.below (h : BodC w g gs os o ve vp w') (hb : Below w'.heap.size w' w'') : BodC w g gs os o ve vp w'' := ⟨h.enc.below hb, fun i x hx => rangeAt_below (h.at_ i x hx) h.gs_ hb, Nat.lt_of_lt_of_le h.gs_ hb.size⟩
theorem keepBod (h : Calls Try.prog f args w0 fun e w' => e = .returned v ∧ Below w0.heap.size w0 w') (hS : BodC w g gs os o ve vp w0) : Calls Try.prog f args w0 fun e w' => e = .returned v ∧ BodC w g gs os o ve vp w' :=
  h.mono fun _ _ ⟨he, hb⟩ => ⟨he, hS.below hb⟩
theorem keepEnc (h : Calls Try.prog f args w0 fun e w' => e = .returned v ∧ Below w0.heap.size w0 w') (hS : EncC w g o ve vp w0) : Calls Try.prog f args w0 fun e w' => e = .returned v ∧ EncC w g o ve vp w' :=
  h.mono fun _ _ ⟨he, hb⟩ => ⟨he, hS.below hb⟩
theorem szl {l : Txt} (h : l.length = 32) : (Try.prog.info? 24).map (·.size) = some (u8s l).toList.length := by rw [u8s_len, h]; exact sz32
end
set_option maxRecDepth 100000 in
set_option maxHeartbeats 8000000 in
theorem refBody_calls (o : ObjL) (hs : Small o) (A1 A2 : Option Addr) (k1 k2 : Nat) (w : World) (hv : ObjV w (.slice A1 o.ents.length k1) (.slice A2 o.pars.length k2) o) : Calls Try.prog 27 #[.agg (objC o (.slice A1 o.ents.length k1) (.slice A2 o.pars.length k2)).toArray] w fun e w' => e = .returned (.string (B (bodyR o))) ∧ Below w.heap.size w w' := by
  have ho := hv.ok
  have hO := boxed (w := w) (ve := .slice A1 o.ents.length k1) (vp := .slice A2 o.pars.length k2) ho
  have b0 : Below w.heap.size w (w.alloc (.cells (objC o (.slice A1 o.ents.length k1) (.slice A2 o.pars.length k2)).toArray 28)) := (Below.refl _ _).alloc (Nat.le_refl _) _
  have hv0 := hv.below b0
  obtain ⟨W0, hW0⟩ : ∃ W0, w.alloc (.cells (objC o (.slice A1 o.ents.length k1) (.slice A2 o.pars.length k2)).toArray 28) = W0 := ⟨_, rfl⟩
  rw [hW0] at hO b0 hv0
  have hE0 : EncC w w.heap.size o (.slice A1 o.ents.length k1) (.slice A2 o.pars.length k2) W0 := ⟨hO, hv0, b0⟩
  have c1 := hO.data
  obtain ⟨r, hr⟩ : ∃ r, Hid (r = bodyR o) := ⟨_, Lib.hid rfl⟩
  rw [← hr.out]
  have hoE := Lib.hid ho.ents
  have hoP := Lib.hid ho.pars
  have hnE := Lib.hid hs.names
  have htr := Lib.hid ho.tree
  have hta := Lib.hid ho.target
  have hen70 := hs.ents
  have hp20 := hs.pars
  have hd5 := hs.data
  have ht5 := hs.text
  have hn1 := hs.name
  have htime := ho.time
  have hbound : ∀ k, (entsE (o.ents.take k)).length ≤ 10500 := fun k => by
    have := entsE_len' (l := o.ents.take k) (fun e he => ⟨hs.names e (List.mem_of_mem_take he), (ho.ents e (List.mem_of_mem_take he)).id⟩)
    rw [List.length_take] at this
    omega
  have hbound := Lib.hid hbound
  have hboundP : Hid (∀ k, ((o.pars.take k).flatten).length ≤ 640) := fun k => by
    have := flat_len (l := o.pars.take k) (fun e he => hoP.out e (List.mem_of_mem_take he))
    rw [List.length_take] at this
    omega
  clear hv ho hs hv0 hO b0
  generalize (objC o (.slice A1 o.ents.length k1) (.slice A2 o.pars.length k2)).toArray = cs at *
  go_enter Try.func27, Try.ntmps27
  go_wp2
  clear hW0 c1
  obtain ⟨g, hg⟩ : ∃ g, w.heap.size = g := ⟨_, rfl⟩
  simp only [hg] at hE0 ⊢
  go_loopw [3, 4] (fun vs vi wr => ∃ (k : Nat) (s : Txt), vs = .string (B s) ∧ vi = .int .i64 k ∧ k ≤ o.ents.length ∧ Hid (s = o.data ++ entsE (o.ents.take k)) ∧ EncC w g o (.slice A1 o.ents.length k1) (.slice A2 o.pars.length k2) wr) (fun _ vi _ => o.ents.length - (intOf vi).toNat)
  case atStart => exact ⟨0, o.data, rfl, rfl, by omega, Lib.hid (by simp [entsE]), hE0⟩
  case round =>
    obtain ⟨k, s, rfl, rfl, hk, hs, hE⟩ := hrel
    have f0 := hE.obj.ents
    have hsl : s.length ≤ 15500 := by
      rw [hs.out, List.length_append]
      have := hbound.out k
      omega
    by_cases hlt : k < o.ents.length
    · have hki : (k : Int) < (o.ents.length : Int) := by omega
      obtain ⟨A, cap, he, _, _, hat⟩ := hE.val.ents
      injection he with he _ hcp
      subst he
      subst hcp
      obtain ⟨gs, os, rfl, hgs, hcell⟩ := hat (by omega)
      have hBC : BodC w g gs os o (.slice (some ⟨gs, os, none⟩) o.ents.length k1) (.slice A2 o.pars.length k2) wr := ⟨hE, hcell, hgs⟩
      obtain ⟨x, hx⟩ : ∃ x, o.ents[k]? = some x := ⟨_, List.getElem?_eq_getElem hlt⟩
      have hxok : EntOk x := hoE.out x (List.mem_of_getElem? hx)
      have hxn := hnE.out x (List.mem_of_getElem? hx)
      have hst := Lib.hid (entsE_take hx)
      have hxh := Lib.hid hx
      have hone := fun W => Lib.hid (one_calls x.kind W)
      have hbytes := fun W => Lib.hid (bytes_calls x.id hxok.id W)
      have htext := fun W => Lib.hid (refText_calls x.name (by omega) W)
      have htl : (textE x.name).length ≤ 110 := by have := put_length x.name.length; unfold textE; rw [List.length_append]; omega
      have hee : Hid (entE x = byteK x.kind :: (textE x.name ++ x.id)) := Lib.hid rfl
      have hidx := szl hxok.id
      have hx32 := hxok.id
      generalize textE x.name = TX at *
      have n1 : ¬ 9223372036854775807 < s.length + 1 := by omega
      have n2 : ¬ 9223372036854775807 < s.length + 1 + TX.length := by omega
      have n3 : ¬ 9223372036854775807 < s.length + 1 + TX.length + 32 := by omega
      have n2' : ¬ 9223372036854775807 < s.length + (TX.length + 1) := by omega
      have n3' : ¬ 9223372036854775807 < s.length + (TX.length + 1) + 32 := by omega
      have n4 : ¬ 9223372036854775807 < s.length + 1 + TX.length + x.id.length := by omega
      have n4' : ¬ 9223372036854775807 < s.length + (TX.length + 1) + x.id.length := by omega
      clear hx hat hE0 hoE hnE hoP hbound hboundP htr hta hr hcell
      go_wp2
      clear hE f0
      refine wp_region_class (C := BodC w g gs os o (.slice (some ⟨gs, os, none⟩) o.ents.length k1) (.slice A2 o.pars.length k2)) (by kernel_rfl) (by kernel_rfl) hBC.drew ?_
      repeat
        first
          | ((with_reducible refine wpQuiet_ex ?_ ?_)
             · (go_simp; done)
             apply Exists.intro
             refine ⟨fun W hW => ?_, ?_⟩
             · first
                 | exact quiet_load_mid _ _ rfl gs (os + k * 34 + 2) rfl (u8s x.id).toList _ (range_entId (hW.at_ k x hxh.out)) Try.underlying24 rfl hidx rfl
                 | (have f2 := hW.enc.obj.ents
                    have f3 := (range_ent (hW.at_ k x hxh.out)).2
                    have f4 := (range_ent (hW.at_ k x hxh.out)).1
                    go_simp
                    first
                      | rfl
                      | (go_at_call 25; with_reducible exact keepBod (hone _).out hW)
                      | (go_at_call 26; with_reducible exact keepBod (htext _).out hW)
                      | (go_at_call 44; with_reducible exact keepBod (hbytes _).out hW))
             simp only [Act.put, List.setIfInBounds_toArray, List.set_cons_zero, List.set_cons_succ])
          | ((with_reducible refine wpQuiet_pass ?_ ?_)
             · (first | rfl | (go_simp; done))
             simp only [Act.put, List.setIfInBounds_toArray, List.set_cons_zero, List.set_cons_succ])
      with_reducible refine wpQuiet_nil ?_
      intro w5 hW5
      have hst2 : Hid (s ++ [byteK x.kind] ++ TX ++ x.id = o.data ++ entsE (o.ents.take (k + 1))) := by
        show _ = _
        rw [hst.out, hee.out, hs.out]
        simp
      clear n1 n2 n3 n2' n3' n4 n4' hst hee hs
      go_wp2
      go_roundw
      case rel => exact ⟨k + 1, _, by first | rfl | (congr 2; simp), by go_num, by omega, hst2, hW5.enc⟩
      case measure => simp [intOf]; omega
    · have hki : ¬ (k : Int) < (o.ents.length : Int) := by omega
      have hse : Hid (s = o.data ++ entsE o.ents) := by show s = _; rw [hs.out, List.take_of_length_le (by omega)]
      clear hs hoE hnE hbound hE0 hlt hk
      have c0 := hE.obj.kind
      by_cases h3 : o.kind = 3
      · have hrr : Hid (r = s ++ o.tree ++ put o.pars.length ++ o.pars.flatten ++ put o.time ++ textE o.text) := by
          show r = _
          rw [hr.out, bodyR, if_pos h3, hse.out]
          simp [commitE]
        rw [h3] at c0
        have hbt := fun W => Lib.hid (bytes_calls o.tree htr.out W)
        have hpn := fun W => Lib.hid (refPut_calls o.pars.length (by omega) W)
        have hpt := fun W => Lib.hid (refPut_calls o.time (by omega) W)
        have htx := fun W => Lib.hid (refText_calls o.text (by omega) W)
        have hl1 := put_length o.pars.length
        have hl2 := put_length o.time
        have htl : (textE o.text).length ≤ 5010 := by have := put_length o.text.length; unfold textE; rw [List.length_append]; omega
        have ht32 := htr.out
        have hwu : IntKind.u64.wrap ((o.pars.length : Nat) : Int) = ((o.pars.length : Nat) : Int) := by rw [IntKind.wrap_u64]; omega
        have hwt : IntKind.u64.wrap ((o.time : Nat) : Int) = ((o.time : Nat) : Int) := by rw [IntKind.wrap_u64]; omega
        have hidt := szl ht32
        have h3' := h3
        clear hr hse h3
        generalize textE o.text = TX at *
        generalize put o.pars.length = PN at *
        generalize put o.time = PT at *
        have n1 : ¬ 9223372036854775807 < s.length + 32 := by omega
        have n2 : ¬ 9223372036854775807 < s.length + 32 + PN.length := by omega
        have n1' : ¬ 9223372036854775807 < s.length + o.tree.length := by omega
        have n2' : ¬ 9223372036854775807 < s.length + o.tree.length + PN.length := by omega
        go_wp2
        clear c0 f0
        refine wp_region_class (C := EncC w g o (.slice A1 o.ents.length k1) (.slice A2 o.pars.length k2)) (by kernel_rfl) (by kernel_rfl) hE.drew ?_
        repeat
          first
            | ((with_reducible refine wpQuiet_ex ?_ ?_)
               · (go_simp; done)
               apply Exists.intro
               refine ⟨fun W hW => ?_, ?_⟩
               · first
                   | exact quiet_load_mid _ _ rfl g 3 rfl (u8s o.tree).toList _ hW.obj.tree Try.underlying24 rfl hidt rfl
                   | (have f2 := hW.obj.pars
                      go_simp
                      first
                        | rfl
                        | (go_at_call 44; with_reducible exact keepEnc (hbt _).out hW)
                        | (go_at_call 43; with_reducible exact keepEnc (hpn _).out hW))
               simp only [Act.put, List.setIfInBounds_toArray, List.set_cons_zero, List.set_cons_succ])
            | ((with_reducible refine wpQuiet_pass ?_ ?_)
               · (first | rfl | (go_simp; done))
               simp only [Act.put, List.setIfInBounds_toArray, List.set_cons_zero, List.set_cons_succ])
        with_reducible refine wpQuiet_nil ?_
        intro w5 hW5
        generalize hS2 : s ++ o.tree ++ PN = S2 at *
        have hS2l : S2.length ≤ 16000 := by rw [← hS2]; simp only [List.length_append]; omega
        replace hS2 := Lib.hid hS2
        clear hE n1 n2 n1' n2' hpn hbt hidt ht32
        have hE := hW5
        go_wp2
        go_loopw [3, 5] (fun vs vi wr => ∃ (k : Nat) (q : Txt), vs = .string (B q) ∧ vi = .int .i64 k ∧ k ≤ o.pars.length ∧ Hid (q = S2 ++ (o.pars.take k).flatten) ∧ EncC w g o (.slice A1 o.ents.length k1) (.slice A2 o.pars.length k2) wr) (fun _ vi _ => o.pars.length - (intOf vi).toNat)
        case atStart => exact ⟨0, S2, by first | rfl | (rw [← hS2.out, List.append_assoc]), rfl, by omega, Lib.hid (by simp), hE⟩
        case round =>
          obtain ⟨k, q, rfl, rfl, hk, hq, hE2⟩ := hrel
          have f0 := hE2.obj.pars
          have hql : q.length ≤ 16640 := by
            rw [hq.out, List.length_append]
            have := hboundP.out k
            omega
          by_cases hlt : k < o.pars.length
          · have hki : (k : Int) < (o.pars.length : Int) := by omega
            obtain ⟨A, cap, he, _, _, hat⟩ := hE2.val.pars
            injection he with he _ hcp
            subst he
            subst hcp
            obtain ⟨gs, os, rfl, hgs, hcell⟩ := hat (by omega)
            obtain ⟨x, hx⟩ : ∃ x, o.pars[k]? = some x := ⟨_, List.getElem?_eq_getElem hlt⟩
            have hx32 : x.length = 32 := hoP.out x (List.mem_of_getElem? hx)
            have hx0 : wr.rangeAt gs (os + k * 32) (u8s x).toList := hcell k x hx
            have hst := Lib.hid (flat_take hx)
            have hbytes := fun W => Lib.hid (bytes_calls x hx32 W)
            have n1 : ¬ 9223372036854775807 < q.length + 32 := by omega
            have n1' : ¬ 9223372036854775807 < q.length + x.length := by omega
            clear hx hat hcell hW5 hE
            go_wp2_with (first
              | ((with_reducible refine lit_load_id (.tmp 65) gs (os + k * 32) x hx32 hx0 ?_ ?_); rfl)
              | ((with_reducible refine (hbytes _).out.mono ?_); rintro e w6 ⟨rfl, hb6⟩))
            have hE3 := hE2.below hb6
            have hst2 : Hid (q ++ x = S2 ++ (o.pars.take (k + 1)).flatten) := by
              show _ = _
              rw [hst.out, hq.out]
              simp
            clear n1 n1' hst hq
            go_roundw
            case rel =>
              (repeat apply Exists.intro)
              exact ⟨⟨k + 1, _, rfl, by go_num, by omega, hst2, hE3⟩, rfl⟩
            case measure => simp [intOf]; omega
          · have hki : ¬ (k : Int) < (o.pars.length : Int) := by omega
            have hqe : Hid (q = S2 ++ o.pars.flatten) := by show q = _; rw [hq.out, List.take_of_length_le (by omega)]
            have n1 : ¬ 9223372036854775807 < q.length + PT.length := by omega
            have n2 : ¬ 9223372036854775807 < q.length + PT.length + TX.length := by omega
            have hfin : Hid (r = q ++ PT ++ TX) := by
              show r = _
              rw [hrr.out, hqe.out, ← hS2.out]
            have c0 := hE2.obj.kind
            rw [h3'] at c0
            clear hq hqe hrr hlt hk hboundP hW5 hE
            go_wp2
            clear f0
            refine wp_region_class (C := EncC w g o (.slice A1 o.ents.length k1) (.slice A2 o.pars.length k2)) (by kernel_rfl) (by kernel_rfl) hE2.drew ?_
            repeat
              first
                | ((with_reducible refine wpQuiet_ex ?_ ?_)
                   · (go_simp; done)
                   apply Exists.intro
                   refine ⟨fun W hW => ?_, ?_⟩
                   · first
                       | (have f2 := hW.obj.time
                          have f3 := hW.obj.text
                          go_simp
                          first
                            | rfl
                            | (go_at_call 26; with_reducible exact keepEnc (htx _).out hW)
                            | (go_at_call 43; with_reducible exact keepEnc (hpt _).out hW))
                   simp only [Act.put, List.setIfInBounds_toArray, List.set_cons_zero, List.set_cons_succ])
                | ((with_reducible refine wpQuiet_pass ?_ ?_)
                   · (first | rfl | (go_simp; done))
                   simp only [Act.put, List.setIfInBounds_toArray, List.set_cons_zero, List.set_cons_succ])
            with_reducible refine wpQuiet_nil ?_
            intro w5 hW5
            have c0 := hW5.obj.kind
            rw [h3'] at c0
            clear n1 n2
            go_wp2
            go_ret
            exact ⟨by rw [hfin.out]; simp, by first | exact hW5.bel | (rw [← hg]; exact hW5.bel)⟩
      by_cases h4 : o.kind = 4
      · have hrr : Hid (r = s ++ [byteK o.of_] ++ o.target ++ textE o.name) := by
          show r = _
          rw [hr.out, bodyR, if_neg h3, if_pos h4, hse.out]
          simp [tagE]
        rw [h4] at c0
        have hbt := fun W => Lib.hid (bytes_calls o.target hta.out W)
        have hone := fun W => Lib.hid (one_calls o.of_ W)
        have htx := fun W => Lib.hid (refText_calls o.name (by omega) W)
        have htl : (textE o.name).length ≤ 110 := by have := put_length o.name.length; unfold textE; rw [List.length_append]; omega
        have ht32 := hta.out
        have hidt := szl ht32
        clear hr hse h3 h4
        generalize textE o.name = TX at *
        have n1 : ¬ 9223372036854775807 < s.length + 1 := by omega
        have n2 : ¬ 9223372036854775807 < s.length + 1 + 32 := by omega
        have n3 : ¬ 9223372036854775807 < s.length + 1 + 32 + TX.length := by omega
        have n2' : ¬ 9223372036854775807 < s.length + 1 + o.target.length := by omega
        have n3' : ¬ 9223372036854775807 < s.length + 1 + o.target.length + TX.length := by omega
        have n2a : ¬ 9223372036854775807 < s.length + (o.target.length + 1) := by omega
        have n3a : ¬ 9223372036854775807 < s.length + (32 + 1) + TX.length := by omega
        have n3b : ¬ 9223372036854775807 < s.length + (o.target.length + 1) + TX.length := by omega
        go_wp2
        clear c0 f0
        refine wp_region_class (C := EncC w g o (.slice A1 o.ents.length k1) (.slice A2 o.pars.length k2)) (by kernel_rfl) (by kernel_rfl) hE.drew ?_
        repeat
          first
            | ((with_reducible refine wpQuiet_ex ?_ ?_)
               · (go_simp; done)
               apply Exists.intro
               refine ⟨fun W hW => ?_, ?_⟩
               · first
                   | exact quiet_load_mid _ _ rfl g 38 rfl (u8s o.target).toList _ hW.obj.target Try.underlying24 rfl hidt rfl
                   | (have f2 := hW.obj.of_
                      have f3 := hW.obj.name
                      go_simp
                      first
                        | rfl
                        | (go_at_call 44; with_reducible exact keepEnc (hbt _).out hW)
                        | (go_at_call 25; with_reducible exact keepEnc (hone _).out hW)
                        | (go_at_call 26; with_reducible exact keepEnc (htx _).out hW))
               simp only [Act.put, List.setIfInBounds_toArray, List.set_cons_zero, List.set_cons_succ])
            | ((with_reducible refine wpQuiet_pass ?_ ?_)
               · (first | rfl | (go_simp; done))
               simp only [Act.put, List.setIfInBounds_toArray, List.set_cons_zero, List.set_cons_succ])
        with_reducible refine wpQuiet_nil ?_
        intro w5 hW5
        clear n1 n2 n3 n2' n3' n2a n3a n3b
        go_wp2
        go_ret
        exact ⟨by rw [hrr.out]; simp, by first | exact hW5.bel | (rw [← hg]; exact hW5.bel)⟩
      · have hrr : Hid (r = s) := by
          show r = _
          rw [hr.out, bodyR, if_neg h3, if_neg h4, hse.out]
          simp
        have e3 : (o.kind == 3) = false := by rw [beq_eq_false_iff_ne]; exact h3
        have e4 : (o.kind == 4) = false := by rw [beq_eq_false_iff_ne]; exact h4
        clear hr hse
        go_wp2
        go_ret
        exact ⟨by rw [hrr.out]; rfl, by first | exact hE.bel | (rw [← hg]; exact hE.bel)⟩
end Go.Proofs.Ytlanconcbpdneaa
