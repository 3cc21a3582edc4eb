/- The walk of layer 4: object.Encode. Condition: an object that is not great. -/
import Derived.Test.YtlanconcbpdneaaObjZ
import Derived.Test.YtlanconcbpdneaaInvW
namespace Go.Proofs.Ytlanconcbpdneaa
open Go.RowKit
attribute [local go_sem ↓] ldvO_eq
def EncR (n : Int) (V : Nat → Value) (i : Nat) (v : Value) (w : World) : Prop := if i = 3 then (∃ b, v = .slice (some ⟨b, 0, none⟩) 1 1 ∧ b < w.heap.size ∧ w.cell? ⟨b, 0, none⟩ = some (.int .u8 n)) else v = V i
theorem encR_below {n : Int} {V : Nat → Value} {w w' : World} (hb : Below w.heap.size w w') (j : Nat) (u : Value) (h : EncR n V j u w) : EncR n V j u w' := by
  unfold EncR at *
  split
  · rename_i hj
    rw [if_pos hj] at h
    obtain ⟨b, h1, h2, h3⟩ := h
    exact ⟨b, h1, Nat.lt_of_lt_of_le h2 hb.size, (hb.cell (p := ⟨b, 0, none⟩) h2).trans h3⟩
  · rename_i hj
    rw [if_neg hj] at h
    exact h
theorem encR_at {n : Int} {V : Nat → Value} {i : Nat} {v : Value} {w : World} (hi : i ≠ 3) (h : EncR n V i v w) : v = V i := by
  unfold EncR at h
  rwa [if_neg hi] at h
theorem encR_mk {n : Int} {V : Nat → Value} {i : Nat} {v : Value} {w : World} (hi : i ≠ 3) (h : v = V i) : EncR n V i v w := by
  unfold EncR
  rwa [if_neg hi]
/-- What lies there while an object is encoded. -/
structure EncC (w : World) (g : Nat) (o : ObjL) (ve vp : Value) (w' : World) : Prop where
  obj : ObjB w' g o ve vp
  val : ObjV w' ve vp o
  bel : Below w.heap.size w w'
section
variable {w w' w'' : World} {g : Nat} {o : ObjL} {ve vp : Value}
theorem EncC.drew (h : EncC w g o ve vp w') : EncC w g o ve vp w'.drew := ⟨h.obj.drew, ⟨h.val.ok, h.val.ents, h.val.pars⟩, h.bel.drew⟩
theorem EncC.below (h : EncC w g o ve vp w') (hb : Below w'.heap.size w' w'') : EncC w g o ve vp w'' := ⟨h.obj.below hb, h.val.below hb, bthen h.bel h.bel.size hb⟩
theorem EncC.whole (h : EncC w g o ve vp w') : (ldvO ⟨g, 0, none⟩).run Try.prog w' = .ok (.agg (objC o ve vp).toArray) w' := run_ldvO h.obj h.val.ok
end
/-- How long it is. -/
theorem whole_len {o : ObjL} (hs : Small o) (ho : ObjOk o) : (bodyO o).length ≤ 20000 := by
  have h1 := entsE_len' (l := o.ents) (fun e he => ⟨hs.names e he, (ho.ents e he).id⟩)
  have h2 := flat_len (l := o.pars) ho.pars
  have h3 := put_length o.pars.length
  have h4 := put_length o.time
  have h5 := put_length o.text.length
  have h6 := put_length o.name.length
  have := hs.ents
  have := hs.pars
  have := hs.data
  have := hs.text
  have := hs.name
  have := ho.tree
  have := ho.target
  unfold bodyO commitE tagE textE
  repeat' split
  all_goals try simp only [List.length_append, List.length_cons, List.length_nil]
  all_goals omega
def encC (o : ObjL) : Value := match encO o with
  | some t => .tuple #[.string (B t), .int .i64 0]
  | none => .tuple #[.string (B []), .int .i64 1]
theorem encC_none {o : ObjL} (h : encO o = none) : encC o = .tuple #[.string (B []), .int .i64 1] := by unfold encC; rw [h]
theorem encC_some {o : ObjL} {t : Txt} (h : encO o = some t) : encC o = .tuple #[.string (B t), .int .i64 0] := by unfold encC; rw [h]
set_option maxRecDepth 100000 in
set_option maxHeartbeats 4000000 in
theorem encode_calls (o : ObjL) (hs : Small o) (A1 A2 : Option Addr) (k1 k2 : Nat) (w : World) (hv : ObjV w (.slice A1 o.ents.length k1) (.slice A2 o.pars.length k2) o) : Calls Try.prog 7 #[.agg (objC o (.slice A1 o.ents.length k1) (.slice A2 o.pars.length k2)).toArray] w fun e w' => e = .returned (encC o) ∧ Below w.heap.size w w' := by
  have ho := hv.ok
  have hO := boxed (w := w) (ve := .slice A1 o.ents.length k1) (vp := .slice A2 o.pars.length k2) ho
  have b0 : Below w.heap.size w (w.alloc (.cells (objC o (.slice A1 o.ents.length k1) (.slice A2 o.pars.length k2)).toArray 28)) := (Below.refl _ _).alloc (Nat.le_refl _) _
  have hv0 := hv.below b0
  obtain ⟨W0, hW0⟩ : ∃ W0, w.alloc (.cells (objC o (.slice A1 o.ents.length k1) (.slice A2 o.pars.length k2)).toArray 28) = W0 := ⟨_, rfl⟩
  rw [hW0] at hO b0 hv0
  have hE0 : EncC w w.heap.size o (.slice A1 o.ents.length k1) (.slice A2 o.pars.length k2) W0 := ⟨hO, hv0, b0⟩
  have hmay := Lib.hid (may_calls o A1 A2 k1 k2 W0 hv0)
  have q0 := hE0.whole
  have c1 := hO.data
  have c37 := hO.text
  obtain ⟨r, hr⟩ : ∃ r, Hid (r = encC o) := ⟨_, Lib.hid rfl⟩
  rw [← hr.out]
  have hbl := whole_len hs ho
  have hed := @enc_data o
  have het := @enc_text o
  have hem : mayB o = false → encO o = none := fun h => by unfold encO; rw [h]; simp
  have hbody := fun W (h : EncC w w.heap.size o (.slice A1 o.ents.length k1) (.slice A2 o.pars.length k2) W) => Lib.hid (body_calls o hs A1 A2 k1 k2 W h.val)
  have hew : Hid (mayB o = true → encO o = if (byteK o.kind :: textE (bodyO o)).length ≤ 4096 then some (byteK o.kind :: textE (bodyO o)) else none) := fun h => by
    unfold encO wholeO
    rw [h]; simp
  have htext := fun W => Lib.hid (text_calls (bodyO o) (by omega) W)
  have htl : (textE (bodyO o)).length ≤ 20010 := by have := put_length (bodyO o).length; unfold textE; rw [List.length_append]; omega
  clear hv ho hs hv0 hO hbl
  generalize hcs : (objC o (.slice A1 o.ents.length k1) (.slice A2 o.pars.length k2)).toArray = cs at *
  go_enter Try.func7, Try.ntmps7
  by_cases h1 : 4096 < o.data.length
  · have i1 : (4096 : Int) < (o.data.length : Int) := by omega
    have hf : Hid (r = _) := hr.out.trans (encC_none (hed h1))
    clear hr hed het hem hew hbody htext h1
    go_wp2
    all_goals try (exfalso; omega)
    go_ret2
    exact ⟨by rw [hf.out]; rfl, b0⟩
  by_cases h2 : 4096 < o.text.length
  · have i1 : ¬ (4096 : Int) < (o.data.length : Int) := by omega
    have i2 : (4096 : Int) < (o.text.length : Int) := by omega
    have hf : Hid (r = _) := hr.out.trans (encC_none (het h2))
    clear hr hed het hem hew hbody htext h1 h2
    go_wp2
    all_goals try (exfalso; omega)
    go_ret2
    exact ⟨by rw [hf.out]; rfl, b0⟩
  have i1 : ¬ (4096 : Int) < (o.data.length : Int) := by omega
  have i2 : ¬ (4096 : Int) < (o.text.length : Int) := by omega
  cases hM : mayB o with
  | false =>
    rw [hM] at hmay
    have hf : Hid (r = _) := hr.out.trans (encC_none (hem hM))
    clear hr hed het hem hew hbody htext h1 h2 hM
    go_wp2_with (first
      | ((with_reducible refine hmay.out.mono ?_); rintro e w1 ⟨rfl, hb1⟩))
    all_goals try (exfalso; omega)
    go_ret2
    exact ⟨by rw [hf.out]; rfl, bthen b0 b0.size hb1⟩
  | true =>
    rw [hM] at hmay
    have hew := Lib.hid (hew.out hM)
    clear hed het hem h1 h2 hM
    generalize textE (bodyO o) = TX at *
    generalize bodyO o = BD at *
    go_upto_region 3 with (first
      | ((with_reducible refine hmay.out.mono ?_); rintro e w1 ⟨rfl, hb1⟩))
    all_goals try (exfalso; omega)
    have hE1 := hE0.below hb1
    clear hE0 hmay q0 c1 c37 hb1 i1 i2 b0 hW0
    obtain ⟨g, hg⟩ : ∃ g, w.heap.size = g := ⟨_, rfl⟩
    have hwb : ∀ W, EncC w g o (.slice A1 o.ents.length k1) (.slice A2 o.pars.length k2) W → (ldvO ⟨g, 0, none⟩).run Try.prog W = .ok (.agg cs) W := fun W h => by rw [← hcs]; exact h.whole
    simp only [hg] at hbody hE1 ⊢
    clear hcs
    obtain ⟨V, hV⟩ : ∃ V : Nat → Value, V = fun i => [(.pointer (some ⟨g, 0, none⟩)), (.int .i64 o.kind), (.int .u8 (o.kind % 256)), undef, (.string (B [byteK o.kind])), (.agg cs), (.string (B BD)), (.string (B TX)), (.string (B (byteK o.kind :: TX))), (.string (B (byteK o.kind :: TX)))].getD i undef := ⟨_, rfl⟩
    have v0 : V 0 = (.pointer (some ⟨g, 0, none⟩)) := by rw [hV]; rfl
    have v1 : V 1 = (.int .i64 o.kind) := by rw [hV]; rfl
    have v2 : V 2 = (.int .u8 (o.kind % 256)) := by rw [hV]; rfl
    have v4 : V 4 = (.string (B [byteK o.kind])) := by rw [hV]; rfl
    have v5 : V 5 = (.agg cs) := by rw [hV]; rfl
    have v6 : V 6 = (.string (B BD)) := by rw [hV]; rfl
    have v7 : V 7 = (.string (B TX)) := by rw [hV]; rfl
    have v8 : V 8 = (.string (B (byteK o.kind :: TX))) := by rw [hV]; rfl
    have v9 : V 9 = (.string (B (byteK o.kind :: TX))) := by rw [hV]; rfl
    clear hV
    go_cut [4] (fun s4 wx => s4 = .string (B (byteK o.kind :: TX)) ∧ Below w.heap.size w wx)
    case first =>
      refine wp_region_left (C := fun _ => EncC w g o (.slice A1 o.ents.length k1) (.slice A2 o.pars.length k2)) (R := EncR (o.kind % 256) V) (by kernel_rfl) (by kernel_rfl) (by kernel_rfl) ?_ hE1.drew ?_ ?_
      · exact sizes_spec (n := 33) (by kernel_rfl)
      · intro i o listed a w1 ho hi hL
        have hin := (ready_spec hi).1
        match i, ho with
        | 0, ho =>
          obtain rfl := (Option.some.inj ho).symm
          have e0 : a.tmps[1]?.getD undef = (.pointer (some ⟨g, 0, none⟩)) := (slot_eval a 1).trans (hL.get_old hi (by kernel_rfl))
          have hc := hL.cls
          refine step_wp rfl rfl ?_
          clear hi ho hL hin
          refine wp_val (v := (.pointer (some ⟨g, 0, none⟩))) ?_ ⟨_, rfl, encR_mk (by omega) v0.symm, hc, fun _ _ h => h⟩
          clear v0 v1 v2 v4 v5 v6 v7 v8 v9  hc
          unfold execOp
          go_simp
        | 1, ho =>
          obtain rfl := (Option.some.inj ho).symm
          have e0 : a.tmps[20]?.getD undef = (.pointer (some ⟨g, 0, none⟩)) := (slot_eval a 20).trans ((encR_at (by omega) (hL.get_new (j := 0) hi (by kernel_rfl))).trans v0)
          have hc := hL.cls
          refine step_wp rfl rfl ?_
          clear hi ho hL hin
          refine wp_val (v := (.int .i64 o.kind)) ?_ ⟨_, rfl, encR_mk (by omega) v1.symm, hc, fun _ _ h => h⟩
          have f0 := hc.obj.kind
          clear v0 v1 v2 v4 v5 v6 v7 v8 v9  hc
          unfold execOp
          go_simp
        | 2, ho =>
          obtain rfl := (Option.some.inj ho).symm
          have e0 : a.tmps[21]?.getD undef = (.int .i64 o.kind) := (slot_eval a 21).trans ((encR_at (by omega) (hL.get_new (j := 1) hi (by kernel_rfl))).trans v1)
          have hc := hL.cls
          refine step_wp rfl rfl ?_
          clear hi ho hL hin
          refine wp_val (v := (.int .u8 (o.kind % 256))) ?_ ⟨_, rfl, encR_mk (by omega) v2.symm, hc, fun _ _ h => h⟩
          clear v0 v1 v2 v4 v5 v6 v7 v8 v9  hc
          unfold execOp
          go_simp
          rw [IntKind.wrap_u8]
        | 3, ho =>
          obtain rfl := (Option.some.inj ho).symm
          have e0 : a.tmps[22]?.getD undef = (.int .u8 (o.kind % 256)) := (slot_eval a 22).trans ((encR_at (by omega) (hL.get_new (j := 2) hi (by kernel_rfl))).trans v2)
          have hc := hL.cls
          refine step_wp rfl rfl ?_
          clear hi ho hL hin
          have hbA : Below w1.heap.size w1 (w1.alloc (.cells #[.int .u8 (o.kind % 256)] 5)) := (Below.refl _ _).alloc (Nat.le_refl _) _
          refine wp_val' (v := .slice (some ⟨w1.heap.size, 0, none⟩) 1 1) (w' := w1.alloc (.cells #[.int .u8 (o.kind % 256)] 5)) ?_ ⟨_, rfl, ?_, hc.below hbA, encR_below hbA⟩
          · unfold execOp
            go_simp
          · unfold EncR
            rw [if_pos rfl]
            exact ⟨w1.heap.size, rfl, by rw [size_alloc']; omega, cell_new1 _ _ _⟩
        | 4, ho =>
          obtain rfl := (Option.some.inj ho).symm
          have e0 := hL.get_new (j := 3) (t := 23) hi (by kernel_rfl)
          have hc := hL.cls
          refine step_wp rfl rfl ?_
          clear hi ho hL hin
          unfold EncR at e0
          rw [if_pos rfl] at e0
          obtain ⟨b, e1, hb1, hb2⟩ := e0
          have e1 := (slot_eval a 23).trans e1
          have hcv : (convert 46 9 (.slice (some ⟨b, 0, none⟩) 1 1)).run Try.prog w1 = .ok (.string (B [byteK o.kind])) w1 := by
            rw [run_convert_bytes_arg _ 46 5 Try.underlying46 Try.underlying5 b 0 1 1 [o.kind % 256] rfl (fun i hi => by
              have : i = 0 := by omega
              subst this
              rw [hb2]; rfl) 9 Try.underlying9]
            rfl
          refine wp_val (v := .string (B [byteK o.kind])) ?_ ⟨_, rfl, encR_mk (by omega) v4.symm, hc, fun _ _ h => h⟩
          clear hc
          unfold execOp
          go_simp
        | 5, ho =>
          obtain rfl := (Option.some.inj ho).symm
          have e0 : a.tmps[1]?.getD undef = (.pointer (some ⟨g, 0, none⟩)) := (slot_eval a 1).trans (hL.get_old hi (by kernel_rfl))
          have hc := hL.cls
          refine step_wp rfl rfl ?_
          clear hi ho hL hin
          refine wp_val (v := (.agg cs)) ?_ ⟨_, rfl, encR_mk (by omega) v5.symm, hc, fun _ _ h => h⟩
          have f0 := hwb w1 hc
          clear v0 v1 v2 v4 v5 v6 v7 v8 v9  hc
          unfold execOp
          go_simp
        | 6, ho =>
          obtain rfl := (Option.some.inj ho).symm
          have e0 : a.tmps[25]?.getD undef = (.agg cs) := (slot_eval a 25).trans ((encR_at (by omega) (hL.get_new (j := 5) hi (by kernel_rfl))).trans v5)
          have hc := hL.cls
          refine step_wp rfl rfl ?_
          clear hi ho hL hin
          have hh := hbody w1 hc
          unfold Oper.wp execOp
          go_simp
          go_at_call 18
          refine hh.out.mono ?_
          rintro e w2 ⟨rfl, hb⟩
          exact ⟨_, rfl, encR_mk (by omega) v6.symm, hc.below hb, encR_below hb⟩
        | 7, ho =>
          obtain rfl := (Option.some.inj ho).symm
          have e0 : a.tmps[26]?.getD undef = (.string (B BD)) := (slot_eval a 26).trans ((encR_at (by omega) (hL.get_new (j := 6) hi (by kernel_rfl))).trans v6)
          have hc := hL.cls
          refine step_wp rfl rfl ?_
          clear hi ho hL hin
          have hh := htext w1
          unfold Oper.wp execOp
          go_simp
          go_at_call 17
          refine hh.out.mono ?_
          rintro e w2 ⟨rfl, hb⟩
          exact ⟨_, rfl, encR_mk (by omega) v7.symm, hc.below hb, encR_below hb⟩
        | 8, ho =>
          obtain rfl := (Option.some.inj ho).symm
          have e0 : a.tmps[24]?.getD undef = (.string (B [byteK o.kind])) := (slot_eval a 24).trans ((encR_at (by omega) (hL.get_new (j := 4) hi (by kernel_rfl))).trans v4)
          have e1 : a.tmps[27]?.getD undef = (.string (B TX)) := (slot_eval a 27).trans ((encR_at (by omega) (hL.get_new (j := 7) hi (by kernel_rfl))).trans v7)
          have hc := hL.cls
          refine step_wp rfl rfl ?_
          clear hi ho hL hin
          refine wp_val (v := (.string (B (byteK o.kind :: TX)))) ?_ ⟨_, rfl, encR_mk (by omega) v8.symm, hc, fun _ _ h => h⟩
          clear v0 v1 v2 v4 v5 v6 v7 v8 v9  hc
          unfold execOp
          go_simp
          omega
        | 9, ho =>
          obtain rfl := (Option.some.inj ho).symm
          have e0 : a.tmps[28]?.getD undef = (.string (B (byteK o.kind :: TX))) := (slot_eval a 28).trans ((encR_at (by omega) (hL.get_new (j := 8) hi (by kernel_rfl))).trans v8)
          have hc := hL.cls
          refine step_wp rfl rfl ?_
          clear hi ho hL hin
          refine wp_val (v := (.string (B (byteK o.kind :: TX)))) ?_ ⟨_, rfl, encR_mk (by omega) v9.symm, hc, fun _ _ h => h⟩
          clear v0 v1 v2 v4 v5 v6 v7 v8 v9  hc
          unfold execOp
          go_simp
        | (n + 10), ho => exact absurd hin (by simp)
      · intro a w1 listed hL hall
        have hc := hL.cls
        obtain ⟨vs, rfl, hR⟩ := hL.frame (by kernel_rfl) (sizes_spec (n := 33) (by kernel_rfl)) hall
        have h9 := (encR_at (by omega) (hR 9 _ _ rfl rfl)).trans v9
        simp only [putAll, Act.put, List.setIfInBounds_toArray, List.set_cons_zero, List.set_cons_succ]
        simp only [Nat.zero_add, Nat.reduceAdd]
        rw [h9]
        go_wp2
        go_meet
        case rel => exact ⟨rfl, hc.bel⟩
    obtain ⟨rfl, hbx⟩ := hcut
    clear hbody htext hE1 hwb v0 v1 v2 v4 v5 v6 v7 v8 v9
    generalize hn : byteK o.kind :: TX = TT at *
    by_cases h4 : TT.length ≤ 4096
    · have i4 : ¬ (4096 : Int) < (TT.length : Int) := by omega
      have hf : Hid (r = _) := hr.out.trans (encC_some (t := TT) (by rw [hew.out, if_pos h4]))
      clear hr hew h4 hn
      go_wp2
      all_goals try (exfalso; omega)
      go_ret2
      exact ⟨by rw [hf.out]; rfl, by first | exact hbx | (rw [← hg]; exact hbx)⟩
    · have i4 : (4096 : Int) < (TT.length : Int) := by omega
      have hf : Hid (r = _) := hr.out.trans (encC_none (by rw [hew.out, if_neg h4]))
      clear hr hew h4 hn
      go_wp2
      all_goals try (exfalso; omega)
      go_ret2
      exact ⟨by rw [hf.out]; rfl, by first | exact hbx | (rw [← hg]; exact hbx)⟩
end Go.Proofs.Ytlanconcbpdneaa
