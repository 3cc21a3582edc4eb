/- The walk of layer 4: knapsackref04.Encode. Condition: an object that is not great. -/
import Derived.Test.YtlanconcbpdneaaObjD
import Derived.Test.YtlanconcbpdneaaObjS
namespace Go.Proofs.Ytlanconcbpdneaa
open Go.RowKit
attribute [local go_sem ↓] ldvO_eq
def encD (o : ObjL) : Value := match encO o with
  | some t => .tuple #[.string (B t), .bool true]
  | none => .tuple #[.string (B []), .bool false]
theorem encD_none {o : ObjL} (h : encO o = none) : encD o = .tuple #[.string (B []), .bool false] := by unfold encD; rw [h]
theorem encD_some {o : ObjL} {t : Txt} (h : encO o = some t) : encD o = .tuple #[.string (B t), .bool true] := by unfold encD; rw [h]
set_option maxRecDepth 100000 in
set_option maxHeartbeats 4000000 in
theorem refEncode_calls (o : ObjL) (hs : Small o) (A1 A2 : Option Addr) (k1 k2 : Nat) (w : World) (hv : ObjV w (.slice A1 o.ents.length k1) (.slice A2 o.pars.length k2) o) : Calls Try.prog 10 #[.agg (objC o (.slice A1 o.ents.length k1) (.slice A2 o.pars.length k2)).toArray] w fun e w' => e = .returned (encD o) ∧ Below w.heap.size w w' := by
  have ho := hv.ok
  have hO := boxed (w := w) (ve := .slice A1 o.ents.length k1) (vp := .slice A2 o.pars.length k2) ho
  have b0 : Below w.heap.size w (w.alloc (.cells (objC o (.slice A1 o.ents.length k1) (.slice A2 o.pars.length k2)).toArray 28)) := (Below.refl _ _).alloc (Nat.le_refl _) _
  have hv0 := hv.below b0
  obtain ⟨W0, hW0⟩ : ∃ W0, w.alloc (.cells (objC o (.slice A1 o.ents.length k1) (.slice A2 o.pars.length k2)).toArray 28) = W0 := ⟨_, rfl⟩
  rw [hW0] at hO b0 hv0
  have hE0 : EncC w w.heap.size o (.slice A1 o.ents.length k1) (.slice A2 o.pars.length k2) W0 := ⟨hO, hv0, b0⟩
  have hmay := Lib.hid (refMay_calls o A1 A2 k1 k2 W0 hv0)
  have q0 := hE0.whole
  obtain ⟨r, hr⟩ : ∃ r, Hid (r = encD o) := ⟨_, Lib.hid rfl⟩
  rw [← hr.out]
  have hbl := whole_len hs ho
  have hem : mayB o = false → encO o = none := fun h => by unfold encO; rw [h]; simp
  have hbody := fun W (h : EncC w w.heap.size o (.slice A1 o.ents.length k1) (.slice A2 o.pars.length k2) W) => Lib.hid (refBody_calls o hs A1 A2 k1 k2 W h.val)
  have hone := fun W => Lib.hid (one_calls o.kind W)
  have hew : Hid (mayB o = true → encO o = if (byteK o.kind :: textE (bodyO o)).length ≤ 4096 then some (byteK o.kind :: textE (bodyO o)) else none) := fun h => by
    unfold encO wholeO
    rw [h]; simp
  have hsame := @body_same o
  have htext := fun W => Lib.hid (refText_calls (bodyO o) (by omega) W)
  have htl : (textE (bodyO o)).length ≤ 20010 := by have := put_length (bodyO o).length; unfold textE; rw [List.length_append]; omega
  have hsz : (Try.prog.info? 28).map (·.size) = some (objC o (.slice A1 o.ents.length k1) (.slice A2 o.pars.length k2)).length := by rw [objC_len ho]; exact szObj
  clear hv ho hs hv0 hO hbl
  cases hM : mayB o with
  | false =>
    rw [hM] at hmay
    have hf : Hid (r = _) := hr.out.trans (encD_none (hem hM))
    clear hr hem hew hbody htext hM hsz hsame
    generalize (objC o (.slice A1 o.ents.length k1) (.slice A2 o.pars.length k2)).toArray = cs at *
    go_enter Try.func10, Try.ntmps10
    go_wp2_with (first
      | ((with_reducible refine hmay.out.mono ?_); rintro e w1 ⟨rfl, hb1⟩))
    go_ret2
    exact ⟨by rw [hf.out]; rfl, bthen b0 b0.size hb1⟩
  | true =>
    rw [hM] at hmay
    rw [hsame hM] at hbody
    have hew := Lib.hid (hew.out hM)
    clear hem hM hsame
    generalize textE (bodyO o) = TX at *
    generalize bodyO o = BD at *
    have n1 : ¬ 9223372036854775807 < 1 + TX.length := by omega
    have n2 : ¬ 9223372036854775807 < TX.length + 1 := by omega
    go_enter Try.func10, Try.ntmps10
    go_upto_region 4 with (first
      | ((with_reducible refine hmay.out.mono ?_); rintro e w1 ⟨rfl, hb1⟩))
    have hE1 := hE0.below hb1
    clear hE0 hmay q0 hb1 b0 hW0
    obtain ⟨g, hg⟩ : ∃ g, w.heap.size = g := ⟨_, rfl⟩
    simp only [hg] at hbody hE1 ⊢
    go_cut [5] (fun s5 wx => s5 = .string (B (byteK o.kind :: TX)) ∧ Below w.heap.size w wx)
    case first =>
      refine wp_region_class (C := EncC w g o (.slice A1 o.ents.length k1) (.slice A2 o.pars.length k2)) (by kernel_rfl) (by kernel_rfl) hE1.drew ?_
      repeat
        first
          | ((with_reducible refine wpQuiet_ex ?_ ?_)
             · (go_simp; done)
             apply Exists.intro
             refine ⟨fun W hW => ?_, ?_⟩
             · first
                 | exact quiet_load_mid _ _ rfl g 0 rfl (objC o (.slice A1 o.ents.length k1) (.slice A2 o.pars.length k2)) _ hW.obj.whole Try.underlying28 rfl hsz rfl
                 | (have f2 := hW.obj.kind
                    go_simp
                    first
                      | rfl
                      | (go_at_call 25; with_reducible exact keepEnc (hone _).out hW)
                      | (go_at_call 27; with_reducible exact keepEnc (hbody _ hW).out hW)
                      | (go_at_call 26; with_reducible exact keepEnc (htext _).out hW))
             simp only [Act.put, List.setIfInBounds_toArray, List.set_cons_zero, List.set_cons_succ])
          | ((with_reducible refine wpQuiet_pass ?_ ?_)
             · (first | rfl | (go_simp; done))
             simp only [Act.put, List.setIfInBounds_toArray, List.set_cons_zero, List.set_cons_succ])
      with_reducible refine wpQuiet_nil ?_
      intro w5 hW5
      go_wp2
      go_meet
      case rel => exact ⟨rfl, hW5.bel⟩
    obtain ⟨rfl, hbx⟩ := hcut
    clear hbody htext hE1 n1 n2 hsz hone
    generalize hn : byteK o.kind :: TX = TT at *
    by_cases h4 : TT.length ≤ 4096
    · have i4 : ¬ (4096 : Int) < (TT.length : Int) := by omega
      have hf : Hid (r = _) := hr.out.trans (encD_some (t := TT) (by rw [hew.out, if_pos h4]))
      clear hr hew h4 hn
      go_wp2
      all_goals try (exfalso; omega)
      go_ret2
      exact ⟨by rw [hf.out]; rfl, by first | exact hbx | (rw [← hg]; exact hbx)⟩
    · have i4 : (4096 : Int) < (TT.length : Int) := by omega
      have hf : Hid (r = _) := hr.out.trans (encD_none (by rw [hew.out, if_neg h4]))
      clear hr hew h4 hn
      go_wp2
      all_goals try (exfalso; omega)
      go_ret2
      exact ⟨by rw [hf.out]; rfl, by first | exact hbx | (rw [← hg]; exact hbx)⟩
end Go.Proofs.Ytlanconcbpdneaa
