/- The walk of layer 4: knapsackref04.Links. Condition: an object that is not great. -/
import Derived.Test.YtlanconcbpdneaaLinkO
import Derived.Test.YtlanconcbpdneaaInvW
import Derived.Great.BuildSlice
namespace Go.Proofs.Ytlanconcbpdneaa
open Go.RowKit
attribute [local go_sem ↓] ldvI_eq
/-- What the region that takes one link on leaves. -/
def LnkR (V : Nat → Value) (base : Nat) (vo : Value) (acc : List LinkL) (x : LinkL) (i : Nat) (v : Value) (w : World) : Prop :=
  if i < 14 then v = V i else if i = 14 then (∃ b, v = .slice (some ⟨b, 0, none⟩) 1 1 ∧ Blk w b 59 (linkC x).toArray ∧ some b ≠ vo.ownBlock) else OwnLinks w base v (acc ++ [x])
section
variable {V : Nat → Value} {base : Nat} {vo : Value} {acc : List LinkL} {x : LinkL} {i : Nat} {v : Value} {w w' : World}
theorem lnkR_at (hi : i < 14) (h : LnkR V base vo acc x i v w) : v = V i := by unfold LnkR at h; rwa [if_pos hi] at h
theorem lnkR_mk (hi : i < 14) (h : v = V i) : LnkR V base vo acc x i v w := by unfold LnkR; rwa [if_pos hi]
theorem lnkR_5 {b : Nat} (h : Blk w b 59 (linkC x).toArray) (hne : some b ≠ vo.ownBlock) : LnkR V base vo acc x 14 (.slice (some ⟨b, 0, none⟩) 1 1) w := by
  unfold LnkR; rw [if_neg (by omega), if_pos rfl]; exact ⟨b, rfl, h, hne⟩
theorem lnkR_5at (h : LnkR V base vo acc x 14 v w) : ∃ b, v = .slice (some ⟨b, 0, none⟩) 1 1 ∧ Blk w b 59 (linkC x).toArray ∧ some b ≠ vo.ownBlock := by
  unfold LnkR at h; rwa [if_neg (by omega), if_pos rfl] at h
theorem lnkR_own (hi : 15 ≤ i) (h : OwnLinks w base v (acc ++ [x])) : LnkR V base vo acc x i v w := by unfold LnkR; rwa [if_neg (by omega), if_neg (by omega)]
theorem lnkR_ownAt (hi : 15 ≤ i) (h : LnkR V base vo acc x i v w) : OwnLinks w base v (acc ++ [x]) := by unfold LnkR at h; rwa [if_neg (by omega), if_neg (by omega)] at h
theorem lnkR_alloc (h : LnkR V base vo acc x i v w) (o : Obj) : LnkR V base vo acc x i v (w.alloc o) := by
  by_cases h5 : i < 14
  · exact lnkR_mk h5 (lnkR_at h5 h)
  · by_cases h6 : i = 14
    · subst h6
      obtain ⟨b, rfl, h1, h2⟩ := lnkR_5at h
      exact lnkR_5 (h1.alloc o) h2
    · exact lnkR_own (by omega) (World.ownsRow.alloc (lnkR_ownAt (by omega) h) o)
theorem lnkR_append (hi : ¬ 15 ≤ i) (h : LnkR V base vo acc x i v w) (hg : w.grownBy w' vo.ownBlock) : LnkR V base vo acc x i v w' := by
  by_cases h5 : i < 14
  · exact lnkR_mk h5 (lnkR_at h5 h)
  · obtain rfl : i = 14 := by omega
    obtain ⟨b, rfl, h1, h2⟩ := lnkR_5at h
    exact lnkR_5 (h1.grown hg h2) h2
end
structure LnkC (w0 : World) (vo : Value) (acc : List LinkL) (listed : Array Bool) (w : World) : Prop where
  bel : Below w0.heap.size w0 w
  own : listed.getD 15 false = false → OwnLinks w w0.heap.size vo acc
section
variable {w0 w w' : World} {vo : Value} {acc : List LinkL} {listed : Array Bool}
theorem LnkC.same (h : LnkC w0 vo acc listed w) {i : Nat} (hsz : listed.size = 17) (hi : i < 17) (h6 : i ≠ 15) : LnkC w0 vo acc (listed.setIfInBounds i true) w :=
  ⟨h.bel, fun hl => h.own (by rwa [getD_set (by omega), if_neg (fun e => h6 e.symm)] at hl)⟩
theorem LnkC.alloc (h : LnkC w0 vo acc listed w) (o : Obj) : LnkC w0 vo acc listed (w.alloc o) := ⟨h.bel.alloc h.bel.size o, fun hl => World.ownsRow.alloc (h.own hl) o⟩
theorem LnkC.drew (h : LnkC w0 vo acc listed w) : LnkC w0 vo acc listed w.drew := ⟨h.bel.drew, h.own⟩
theorem LnkC.fresh (h : LnkC w0 vo acc listed w) (hl : listed.getD 15 false = false) : some w.heap.size ≠ vo.ownBlock := fun e => by
  have := (World.ownsRow.lt (h.own hl) _ e.symm).2
  omega
theorem LnkC.grown (_ : LnkC w0 vo acc listed w) (hsz : listed.size = 17) (_ : 15 < 17) (_ : listed.getD 15 false = false) (hb : Below w0.heap.size w0 w') (_ : w.grownBy w' vo.ownBlock) : LnkC w0 vo acc (listed.setIfInBounds 15 true) w' :=
  ⟨hb, fun hl' => by rw [getD_set (by omega), if_pos rfl] at hl'; cases hl'⟩
end
theorem wp_build_linkK {o : Oper} {a : Act} {w : World} {Q : Exit → Act → World → Prop} {K : Act → World → Prop} (x y : Operand) (ho : o.op = .build 59 #[(0, x), (1, y)])
    (id : Txt) (n : Int) (hid : id.length = 32) (hx : a.eval x = .agg (u8s id)) (hy : a.eval y = .int .i64 n) (h : K (a.put o.dst (.agg (linkC ⟨id, n⟩).toArray)) w) : o.wp Try.prog a w K Q := by
  have hb := built_link id n hid
  have e : ((#[(0, x), (1, y)] : Array (Nat × Operand)).map fun (i, x) => (i, a.eval x)).toList = [(0, .agg (u8s id)), (1, .int .i64 n)] := by simp [hx, hy]
  exact wp_build _ _ ho (by rw [e, hb]; rfl) (by rw [e, hb]; exact h)
theorem run_buildSlice_link (w : World) (r : LinkL) (hr : r.id.length = 32) : (Instr.buildSlice 40 1 #[(0, .agg (linkC r).toArray)]).run Try.prog w = .ok (.slice (some ⟨w.heap.size, 0, none⟩) 1 1) (w.alloc (.cells (linkC r).toArray 59)) := by
  obtain ⟨it, hi, hz, hs, hb⟩ := Try.linkTy.hi
  refine run_buildSlice w _ _ 1 _ _ it zLink Try.underlying40 hi hz (by rw [hs]; omega) (by rw [hs]; omega) ?_
  rw [hs]
  have := Great.fill_whole (s := 33) (by omega) [Value.agg (linkC r).toArray] ((Array.range (1 * 33)).map (zLink.cells[· % zLink.cells.size]!)) (by
    intro v hv
    simp at hv
    subst hv
    show (linkC r).toArray.size = 33
    rw [List.size_toArray, linkC_len hr]) (by simp)
  simpa [Value.cells] using this
theorem wp_slice_linkK {o : Oper} {a : Act} {w : World} {Q : Exit → Act → World → Prop} {K : Act → World → Prop} (x : Operand) (ho : o.op = .buildSlice 40 1 #[(0, x)]) (r : LinkL) (hr : r.id.length = 32) (hx : a.eval x = .agg (linkC r).toArray)
    (h : K (a.put o.dst (.slice (some ⟨w.heap.size, 0, none⟩) 1 1)) (w.alloc (.cells (linkC r).toArray 59))) : o.wp Try.prog a w K Q := by
  have e : ((#[(0, x)] : Array (Nat × Operand)).map fun (i, x) => (i, a.eval x)) = #[(0, .agg (linkC r).toArray)] := by simp [hx]
  have hr' := run_buildSlice_link w r hr
  unfold Oper.wp execOp
  simp only [ho, Sem.run_bind, e, hr', Result.andThen_ok]
  exact h
theorem linkC_all (r : LinkL) : (linkC r).toArray.all (·.oneCell') = true := Array.all_eq_true_iff_forall_mem.2 fun u hu => linkC_one r u (by simpa using hu)
set_option maxRecDepth 100000 in
set_option maxHeartbeats 4000000 in
theorem refLinks_calls (o : ObjL) (hs : Small o) (A1 A2 : Option Addr) (k1 k2 : Nat) (w : World) (hv : ObjV w (.slice A1 o.ents.length k1) (.slice A2 o.pars.length k2) o) : Calls Try.prog 12 #[.agg (objC o (.slice A1 o.ents.length k1) (.slice A2 o.pars.length k2)).toArray] w fun e w' => ∃ v', e = .returned v' ∧ OwnLinks w' w.heap.size v' (linksL o) ∧ Below w.heap.size w w' := by
  have ho := hv.ok
  have hO := boxed (w := w) (ve := .slice A1 o.ents.length k1) (vp := .slice A2 o.pars.length k2) ho
  have b0 : Below w.heap.size w (w.alloc (.cells (objC o (.slice A1 o.ents.length k1) (.slice A2 o.pars.length k2)).toArray 28)) := (Below.refl _ _).alloc (Nat.le_refl _) _
  have hv0 := hv.below b0
  obtain ⟨W0, hW0⟩ : ∃ W0, w.alloc (.cells (objC o (.slice A1 o.ents.length k1) (.slice A2 o.pars.length k2)).toArray 28) = W0 := ⟨_, rfl⟩
  rw [hW0] at hO b0 hv0
  have hgW : w.heap.size < W0.heap.size := by rw [← hW0]; simp
  have s0 := b0.size
  have c0 := hO.kind
  have hoE := Lib.hid ho.ents
  have hoP := Lib.hid ho.pars
  have htr := ho.tree
  have hta := ho.target
  have hen70 := hs.ents
  have hp20 := hs.pars
  have hn0 := OwnLinks.nil W0 W0.heap.size
  obtain ⟨r, hr⟩ : ∃ r, Hid (linksL o = r) := ⟨_, Lib.hid rfl⟩
  rw [hr.out]
  clear hv ho hs
  generalize (objC o (.slice A1 o.ents.length k1) (.slice A2 o.pars.length k2)).toArray = cs at *
  by_cases h2 : o.kind = 2
  · have hrr : Hid (entLinks o.ents = r) := by show _ = _; rw [← links_two h2]; exact hr.out
    rw [h2] at c0
    have c2 := hO.ents
    have hat : Hid (0 < o.ents.length → ∃ g os, A1 = some ⟨g, os, none⟩ ∧ g < W0.heap.size ∧ ∀ i x, o.ents[i]? = some x → W0.rangeAt g (os + i * 34) (entC x)) := by
      obtain ⟨A, cap, he, _, _, h⟩ := hv0.ents
      injection he with he _ _
      subst he
      exact h
    have hk2 := h2
    clear hr h2 hv0
    go_enter Try.func12, Try.ntmps12
    go_wp2
    go_loopw [3, 4] (fun vo vi wr => ∃ k : Nat, vi = .int .i64 k ∧ k ≤ o.ents.length ∧ OwnLinks wr W0.heap.size vo (entLinks (o.ents.take k)) ∧ Below W0.heap.size W0 wr) (fun _ vi _ => o.ents.length - (intOf vi).toNat)
    case atStart => exact ⟨0, rfl, by omega, hn0, Below.refl _ _⟩
    case round =>
      obtain ⟨k, rfl, hk, hown, hbel⟩ := hrel
      have hsz := hbel.size
      have hOr := hO.under hbel hgW
      have d2 := hOr.ents
      clear hW0
      by_cases hlt : k < o.ents.length
      · have hki : (k : Int) < (o.ents.length : Int) := by omega
        obtain ⟨gs, os, rfl, hgs, hcell⟩ := hat.out (by omega)
        obtain ⟨x, hx⟩ : ∃ x, o.ents[k]? = some x := ⟨_, List.getElem?_eq_getElem hlt⟩
        have hxok : EntOk x := hoE.out x (List.mem_of_getElem? hx)
        have hx0 := rangeAt_below (hcell k x hx) hgs hbel
        have hst := Lib.hid (entLinks_take hx)
        have hln : (entLinks (o.ents.take k)).length ≤ k := by unfold entLinks; rw [List.length_map, List.length_take]; omega
        generalize entLinks (o.ents.take k) = L at *
        have hx32 := hxok.id
        have hcs := linkC_size (l := ⟨x.id, x.kind⟩) hx32
        have hc1 := linkC_cells ⟨x.id, x.kind⟩
        have m1 : L.length + 1 ≤ 9223372036854775807 := by omega
        have m2 : (L.length + 1) * 40 ≤ 140737488355328 := by omega
        have hc33 : (linkC ⟨x.id, x.kind⟩).toArray.size = 33 := by rw [hcs]
        obtain ⟨vA, kA, rfl⟩ := own_form' hown
        have hx00 := hcell k x hx
        obtain ⟨g, hg⟩ : ∃ g, w.heap.size = g := ⟨_, rfl⟩
        have hC0 : ∀ n, LnkC W0 (.slice vA L.length kA) L (Array.replicate n false) wr := fun n => ⟨hbel, fun _ => hown⟩
        simp only [hg] at hO hgW d2 ⊢
        clear hx hat hcell hoE hoP hown hx0 hcs hc1 hc33 hOr hbel hsz hrr c2 c0 hn0
        go_wp2
        obtain ⟨V, hV⟩ : ∃ V : Nat → Value, V = fun i => [(.slice vA L.length kA), (.pointer (some ⟨g, 2, none⟩)), (.slice (some ⟨gs, os, none⟩) o.ents.length k1), (.int .i64 k), (.pointer (some ⟨gs, os + k * 34, none⟩)), (.pointer (some ⟨gs, os + k * 34 + 2, none⟩)), (.agg (u8s x.id)), (.pointer (some ⟨g, 2, none⟩)), (.slice (some ⟨gs, os, none⟩) o.ents.length k1), (.int .i64 k), (.pointer (some ⟨gs, os + k * 34, none⟩)), (.pointer (some ⟨gs, os + k * 34 + 1, none⟩)), (.int .i64 x.kind), (.agg (linkC ⟨x.id, x.kind⟩).toArray), undef, undef, undef].getD i undef := ⟨_, rfl⟩
        have v0 : V 0 = (.slice vA L.length kA) := by rw [hV]; rfl
        have v1 : V 1 = (.pointer (some ⟨g, 2, none⟩)) := by rw [hV]; rfl
        have v2 : V 2 = (.slice (some ⟨gs, os, none⟩) o.ents.length k1) := by rw [hV]; rfl
        have v3 : V 3 = (.int .i64 k) := by rw [hV]; rfl
        have v4 : V 4 = (.pointer (some ⟨gs, os + k * 34, none⟩)) := by rw [hV]; rfl
        have v5 : V 5 = (.pointer (some ⟨gs, os + k * 34 + 2, none⟩)) := by rw [hV]; rfl
        have v6 : V 6 = (.agg (u8s x.id)) := by rw [hV]; rfl
        have v7 : V 7 = (.pointer (some ⟨g, 2, none⟩)) := by rw [hV]; rfl
        have v8 : V 8 = (.slice (some ⟨gs, os, none⟩) o.ents.length k1) := by rw [hV]; rfl
        have v9 : V 9 = (.int .i64 k) := by rw [hV]; rfl
        have v10 : V 10 = (.pointer (some ⟨gs, os + k * 34, none⟩)) := by rw [hV]; rfl
        have v11 : V 11 = (.pointer (some ⟨gs, os + k * 34 + 1, none⟩)) := by rw [hV]; rfl
        have v12 : V 12 = (.int .i64 x.kind) := by rw [hV]; rfl
        have v13 : V 13 = (.agg (linkC ⟨x.id, x.kind⟩).toArray) := by rw [hV]; rfl
        clear hV
        refine wp_region_listed (C := LnkC W0 (.slice vA L.length kA) L) (R := LnkR V W0.heap.size (.slice vA L.length kA) L ⟨x.id, x.kind⟩) (by kernel_rfl) (by kernel_rfl) (by kernel_rfl) ?_ (hC0 _).drew ?_ ?_
        · exact sizes_spec (n := 69) (by kernel_rfl)
        · intro i o listed a w1 ho hi hL
          have hin := (ready_spec hi).1
          have hsz : listed.size = 17 := hL.size
          match i, ho with
          | 0, ho =>
            obtain rfl := (Option.some.inj ho).symm
            have e0 : a.tmps[3]?.getD undef = (.slice vA L.length kA) := (slot_eval a 3).trans (hL.get_old hi (by kernel_rfl))
            have hc := hL.cls
            refine step_wp rfl rfl ?_
            clear ho hL
            refine wp_val (v := (.slice vA L.length kA)) ?_ ⟨_, rfl, lnkR_mk (by omega) v0.symm, hc.same hsz hin (by omega), fun _ _ _ h => h⟩
            clear hi hin hsz v0 v1 v2 v3 v4 v5 v6 v7 v8 v9 v10 v11 v12 v13  hc
            unfold execOp
            go_simp
          | 1, ho =>
            obtain rfl := (Option.some.inj ho).symm
            have e0 : a.tmps[1]?.getD undef = (.pointer (some ⟨g, 0, none⟩)) := (slot_eval a 1).trans (hL.get_old hi (by kernel_rfl))
            have hc := hL.cls
            refine step_wp rfl rfl ?_
            clear ho hL
            refine wp_val (v := (.pointer (some ⟨g, 2, none⟩))) ?_ ⟨_, rfl, lnkR_mk (by omega) v1.symm, hc.same hsz hin (by omega), fun _ _ _ h => h⟩
            clear hi hin hsz v0 v1 v2 v3 v4 v5 v6 v7 v8 v9 v10 v11 v12 v13  hc
            unfold execOp
            go_simp
          | 2, ho =>
            obtain rfl := (Option.some.inj ho).symm
            have e0 : a.tmps[17]?.getD undef = (.pointer (some ⟨g, 2, none⟩)) := (slot_eval a 17).trans ((lnkR_at (by omega) (hL.get_new (j := 1) hi (by kernel_rfl))).trans v1)
            have hc := hL.cls
            refine step_wp rfl rfl ?_
            clear ho hL
            refine wp_val (v := (.slice (some ⟨gs, os, none⟩) o.ents.length k1)) ?_ ⟨_, rfl, lnkR_mk (by omega) v2.symm, hc.same hsz hin (by omega), fun _ _ _ h => h⟩
            have q2 := (hO.under hc.bel hgW).ents
            clear hi hin hsz v0 v1 v2 v3 v4 v5 v6 v7 v8 v9 v10 v11 v12 v13  hc
            unfold execOp
            go_simp
          | 3, ho =>
            obtain rfl := (Option.some.inj ho).symm
            have e0 : a.tmps[4]?.getD undef = (.int .i64 k) := (slot_eval a 4).trans (hL.get_old hi (by kernel_rfl))
            have hc := hL.cls
            refine step_wp rfl rfl ?_
            clear ho hL
            refine wp_val (v := (.int .i64 k)) ?_ ⟨_, rfl, lnkR_mk (by omega) v3.symm, hc.same hsz hin (by omega), fun _ _ _ h => h⟩
            clear hi hin hsz v0 v1 v2 v3 v4 v5 v6 v7 v8 v9 v10 v11 v12 v13  hc
            unfold execOp
            go_simp
          | 4, ho =>
            obtain rfl := (Option.some.inj ho).symm
            have e0 : a.tmps[18]?.getD undef = (.slice (some ⟨gs, os, none⟩) o.ents.length k1) := (slot_eval a 18).trans ((lnkR_at (by omega) (hL.get_new (j := 2) hi (by kernel_rfl))).trans v2)
            have e1 : a.tmps[19]?.getD undef = (.int .i64 k) := (slot_eval a 19).trans ((lnkR_at (by omega) (hL.get_new (j := 3) hi (by kernel_rfl))).trans v3)
            have hc := hL.cls
            refine step_wp rfl rfl ?_
            clear ho hL
            refine wp_val (v := (.pointer (some ⟨gs, os + k * 34, none⟩))) ?_ ⟨_, rfl, lnkR_mk (by omega) v4.symm, hc.same hsz hin (by omega), fun _ _ _ h => h⟩
            clear hi hin hsz v0 v1 v2 v3 v4 v5 v6 v7 v8 v9 v10 v11 v12 v13  hc
            unfold execOp
            go_simp
          | 5, ho =>
            obtain rfl := (Option.some.inj ho).symm
            have e0 : a.tmps[20]?.getD undef = (.pointer (some ⟨gs, os + k * 34, none⟩)) := (slot_eval a 20).trans ((lnkR_at (by omega) (hL.get_new (j := 4) hi (by kernel_rfl))).trans v4)
            have hc := hL.cls
            refine step_wp rfl rfl ?_
            clear ho hL
            refine wp_val (v := (.pointer (some ⟨gs, os + k * 34 + 2, none⟩))) ?_ ⟨_, rfl, lnkR_mk (by omega) v5.symm, hc.same hsz hin (by omega), fun _ _ _ h => h⟩
            clear hi hin hsz v0 v1 v2 v3 v4 v5 v6 v7 v8 v9 v10 v11 v12 v13  hc
            unfold execOp
            go_simp
          | 6, ho =>
            obtain rfl := (Option.some.inj ho).symm
            have e0 : a.tmps[21]?.getD undef = (.pointer (some ⟨gs, os + k * 34 + 2, none⟩)) := (slot_eval a 21).trans ((lnkR_at (by omega) (hL.get_new (j := 5) hi (by kernel_rfl))).trans v5)
            have hc := hL.cls
            refine step_wp rfl rfl ?_
            clear ho hL
            refine wp_val (v := (.agg (u8s x.id))) ?_ ⟨_, rfl, lnkR_mk (by omega) v6.symm, hc.same hsz hin (by omega), fun _ _ _ h => h⟩
            have q2 := run_ldvI_at (range_entId (rangeAt_below hx00 hgs hc.bel)) hx32
            clear hi hin hsz v0 v1 v2 v3 v4 v5 v6 v7 v8 v9 v10 v11 v12 v13  hc
            unfold execOp
            go_simp
          | 7, ho =>
            obtain rfl := (Option.some.inj ho).symm
            have e0 : a.tmps[1]?.getD undef = (.pointer (some ⟨g, 0, none⟩)) := (slot_eval a 1).trans (hL.get_old hi (by kernel_rfl))
            have hc := hL.cls
            refine step_wp rfl rfl ?_
            clear ho hL
            refine wp_val (v := (.pointer (some ⟨g, 2, none⟩))) ?_ ⟨_, rfl, lnkR_mk (by omega) v7.symm, hc.same hsz hin (by omega), fun _ _ _ h => h⟩
            clear hi hin hsz v0 v1 v2 v3 v4 v5 v6 v7 v8 v9 v10 v11 v12 v13  hc
            unfold execOp
            go_simp
          | 8, ho =>
            obtain rfl := (Option.some.inj ho).symm
            have e0 : a.tmps[23]?.getD undef = (.pointer (some ⟨g, 2, none⟩)) := (slot_eval a 23).trans ((lnkR_at (by omega) (hL.get_new (j := 7) hi (by kernel_rfl))).trans v7)
            have hc := hL.cls
            refine step_wp rfl rfl ?_
            clear ho hL
            refine wp_val (v := (.slice (some ⟨gs, os, none⟩) o.ents.length k1)) ?_ ⟨_, rfl, lnkR_mk (by omega) v8.symm, hc.same hsz hin (by omega), fun _ _ _ h => h⟩
            have q2 := (hO.under hc.bel hgW).ents
            clear hi hin hsz v0 v1 v2 v3 v4 v5 v6 v7 v8 v9 v10 v11 v12 v13  hc
            unfold execOp
            go_simp
          | 9, ho =>
            obtain rfl := (Option.some.inj ho).symm
            have e0 : a.tmps[4]?.getD undef = (.int .i64 k) := (slot_eval a 4).trans (hL.get_old hi (by kernel_rfl))
            have hc := hL.cls
            refine step_wp rfl rfl ?_
            clear ho hL
            refine wp_val (v := (.int .i64 k)) ?_ ⟨_, rfl, lnkR_mk (by omega) v9.symm, hc.same hsz hin (by omega), fun _ _ _ h => h⟩
            clear hi hin hsz v0 v1 v2 v3 v4 v5 v6 v7 v8 v9 v10 v11 v12 v13  hc
            unfold execOp
            go_simp
          | 10, ho =>
            obtain rfl := (Option.some.inj ho).symm
            have e0 : a.tmps[24]?.getD undef = (.slice (some ⟨gs, os, none⟩) o.ents.length k1) := (slot_eval a 24).trans ((lnkR_at (by omega) (hL.get_new (j := 8) hi (by kernel_rfl))).trans v8)
            have e1 : a.tmps[25]?.getD undef = (.int .i64 k) := (slot_eval a 25).trans ((lnkR_at (by omega) (hL.get_new (j := 9) hi (by kernel_rfl))).trans v9)
            have hc := hL.cls
            refine step_wp rfl rfl ?_
            clear ho hL
            refine wp_val (v := (.pointer (some ⟨gs, os + k * 34, none⟩))) ?_ ⟨_, rfl, lnkR_mk (by omega) v10.symm, hc.same hsz hin (by omega), fun _ _ _ h => h⟩
            clear hi hin hsz v0 v1 v2 v3 v4 v5 v6 v7 v8 v9 v10 v11 v12 v13  hc
            unfold execOp
            go_simp
          | 11, ho =>
            obtain rfl := (Option.some.inj ho).symm
            have e0 : a.tmps[26]?.getD undef = (.pointer (some ⟨gs, os + k * 34, none⟩)) := (slot_eval a 26).trans ((lnkR_at (by omega) (hL.get_new (j := 10) hi (by kernel_rfl))).trans v10)
            have hc := hL.cls
            refine step_wp rfl rfl ?_
            clear ho hL
            refine wp_val (v := (.pointer (some ⟨gs, os + k * 34 + 1, none⟩))) ?_ ⟨_, rfl, lnkR_mk (by omega) v11.symm, hc.same hsz hin (by omega), fun _ _ _ h => h⟩
            clear hi hin hsz v0 v1 v2 v3 v4 v5 v6 v7 v8 v9 v10 v11 v12 v13  hc
            unfold execOp
            go_simp
          | 12, ho =>
            obtain rfl := (Option.some.inj ho).symm
            have e0 : a.tmps[27]?.getD undef = (.pointer (some ⟨gs, os + k * 34 + 1, none⟩)) := (slot_eval a 27).trans ((lnkR_at (by omega) (hL.get_new (j := 11) hi (by kernel_rfl))).trans v11)
            have hc := hL.cls
            refine step_wp rfl rfl ?_
            clear ho hL
            refine wp_val (v := (.int .i64 x.kind)) ?_ ⟨_, rfl, lnkR_mk (by omega) v12.symm, hc.same hsz hin (by omega), fun _ _ _ h => h⟩
            have q2 := (range_ent (rangeAt_below hx00 hgs hc.bel)).2
            clear hi hin hsz v0 v1 v2 v3 v4 v5 v6 v7 v8 v9 v10 v11 v12 v13  hc
            unfold execOp
            go_simp
          | 13, ho =>
            obtain rfl := (Option.some.inj ho).symm
            have e0 : a.tmps[22]?.getD undef = (.agg (u8s x.id)) := (slot_eval a 22).trans ((lnkR_at (by omega) (hL.get_new (j := 6) hi (by kernel_rfl))).trans v6)
            have e1 : a.tmps[28]?.getD undef = (.int .i64 x.kind) := (slot_eval a 28).trans ((lnkR_at (by omega) (hL.get_new (j := 12) hi (by kernel_rfl))).trans v12)
            have hc := hL.cls
            refine step_wp rfl rfl ?_
            refine wp_build_linkK (.tmp 22) (.tmp 28) rfl x.id x.kind hx32 ((slot_eval a 22).symm.trans e0) ((slot_eval a 28).symm.trans e1) ⟨_, rfl, lnkR_mk (by omega) v13.symm, hc.same hsz hin (by omega), fun _ _ _ h => h⟩
          | 14, ho =>
            obtain rfl := (Option.some.inj ho).symm
            have e0 : a.tmps[29]?.getD undef = (.agg (linkC ⟨x.id, x.kind⟩).toArray) := (slot_eval a 29).trans ((lnkR_at (by omega) (hL.get_new (j := 13) hi (by kernel_rfl))).trans v13)
            have hc := hL.cls
            have hl6 := hL.later (j := 15) hi (by kernel_rfl)
            clear ho hL
            refine step_wp rfl rfl ?_
            refine wp_slice_linkK (.tmp 29) rfl ⟨x.id, x.kind⟩ hx32 ((slot_eval a 29).symm.trans e0) ⟨_, rfl, lnkR_5 (Blk.new _ _ _) (hc.fresh hl6), (hc.same hsz hin (by omega)).alloc _, fun j u _ h => lnkR_alloc h _⟩
          | 15, ho =>
            obtain rfl := (Option.some.inj ho).symm
            have e0 : a.tmps[16]?.getD undef = (.slice vA L.length kA) := (slot_eval a 16).trans ((lnkR_at (by omega) (hL.get_new (j := 0) hi (by kernel_rfl))).trans v0)
            have e1 := hL.get_new (j := 14) (t := 30) hi (by kernel_rfl)
            have hc := hL.cls
            have hl6 : listed.getD 15 false = false := by rw [getD_of_size (by rw [hsz]; exact hin)]; exact (ready_spec hi).2.1
            have hl7 := hL.later (j := 16) hi (by kernel_rfl)
            obtain ⟨b5, h5, hb5, hne5⟩ := lnkR_5at e1
            clear ho hL
            refine step_wp rfl rfl ?_
            refine wp_append_blk (.tmp 16) (.tmp 30) 40 rfl _ _ 33 40 Try.linkTy W0.heap.size (.slice vA L.length kA) L.length (rowsOf linkC L) ((slot_eval a 16).symm.trans e0) (hc.own hl6) b5 1 1 _ _ h5 hb5 (linkC_size hx32) (linkC_cells _) m1 m2 W0 hc.bel hc.bel.size ?_
            intro v6 w6 hown6 hbel6 hg6
            refine ⟨_, rfl, lnkR_own (by omega) (OwnLinks.more hown6), hc.grown hsz hin hl6 hbel6 hg6, fun j u hj h => lnkR_append ?_ h hg6⟩
            intro hj6
            have : j = 15 ∨ j = 16 ∨ 17 ≤ j := by omega
            rcases this with rfl | rfl | h8
            · rw [hl6] at hj; cases hj
            · rw [hl7] at hj; cases hj
            · simp [Array.getD, hsz, show ¬ j < 17 by omega] at hj
          | 16, ho =>
            obtain rfl := (Option.some.inj ho).symm
            have e0 := hL.get_new (j := 15) (t := 31) hi (by kernel_rfl)
            have hc := hL.cls
            clear ho hL
            refine step_wp rfl rfl ?_
            have e1 : a.tmps[31]?.getD undef = a.eval (.tmp 31) := slot_eval a 31
            generalize a.eval (.tmp 31) = z6 at e0 e1
            refine wp_val (v := z6) ?_ ⟨_, rfl, lnkR_own (by omega) (lnkR_ownAt (by omega) e0), hc.same hsz hin (by omega), fun _ _ _ h => h⟩
            clear hc hi hin hsz v0 v1 v2 v3 v4 v5 v6 v7 v8 v9 v10 v11 v12 v13 e0
            unfold execOp
            go_simp
          | (n + 17), ho => exact absurd hin (by simp)
        · intro a w1 listed hL hall
          have hc := hL.cls
          obtain ⟨vs, rfl, hR⟩ := hL.frame (by kernel_rfl) (sizes_spec (n := 69) (by kernel_rfl)) hall
          simp only [putAll, Act.put, List.setIfInBounds_toArray, List.set_cons_zero, List.set_cons_succ]
          simp only [Nat.zero_add, Nat.reduceAdd]
          have h16 := lnkR_ownAt (by omega) (hR 16 _ 3 rfl rfl)
          have bel3 := hc.bel
          generalize vs 16 = v3 at *
          have hmv4 : OwnLinks w1 W0.heap.size v3 (entLinks (o.ents.take (k + 1))) := by rw [hst.out]; exact h16
          clear h16 hst m1 m2 hR hL
          go_wp2
          go_roundw
          case rel => exact ⟨k + 1, by go_num, by omega, hmv4, bel3⟩
          case measure => simp [intOf]; omega
      · have hki : ¬ (k : Int) < (o.ents.length : Int) := by omega
        have he : Hid (entLinks (o.ents.take k) = r) := by show _ = _; rw [List.take_of_length_le (by omega)]; exact hrr.out
        rw [he.out] at hown
        have d0 := hOr.kind
        rw [hk2] at d0
        clear hat hoE hoP he hrr
        go_wp2
        go_ret
        exact ⟨_, rfl, own_low hown (by omega), b0.trans (hbel.mono s0)⟩
  by_cases h3 : o.kind = 3
  · have hrr : Hid (⟨o.tree, 2⟩ :: parLinks o.pars = r) := by show _ = _; rw [← links_three h3]; exact hr.out
    rw [h3] at c0
    have hat : Hid (0 < o.pars.length → ∃ g os, A2 = some ⟨g, os, none⟩ ∧ g < W0.heap.size ∧ ∀ i x, o.pars[i]? = some x → W0.rangeAt g (os + i * 32) (idC x)) := by
      obtain ⟨A, cap, he, _, _, h⟩ := hv0.pars
      injection he with he _ _
      subst he
      exact h
    have hbd := built_link o.tree 2 htr
    have hcs := linkC_size (l := ⟨o.tree, 2⟩) htr
    have hc1 := linkC_cells ⟨o.tree, 2⟩
    have hc33 : (linkC ⟨o.tree, 2⟩).toArray.size = 33 := by rw [hcs]
    have hti := hO.tree
    have hk3 := h3
    have m1 : ([] : List LinkL).length + 1 ≤ 9223372036854775807 := by simp
    have m2 : (([] : List LinkL).length + 1) * 40 ≤ 140737488355328 := by simp
    clear hr h2 h3 hv0
    go_enter Try.func12, Try.ntmps12
    go_wp2_with (first
      | ((with_reducible refine lit_load_id (.tmp 36) w.heap.size 3 o.tree htr hti ?_ ?_); rfl)
      | ((with_reducible refine lit_build2 hbd ?_ ?_ ?_); rfl; rfl)
      | ((with_reducible refine lit_slice1 (.tmp 38) Try.linkTy (linkC ⟨o.tree, 2⟩).toArray hc33 (by omega) ?_ ?_); rfl)
      | (at_builtin
         (with_reducible refine lit_append_new (.tmp 35) (.tmp 39) 1 _ Try.linkTy hn0 (linkC ⟨o.tree, 2⟩).toArray hcs hc1 m1 m2 (Nat.le_refl _) ?_ ?_ ?_); rfl; rfl
         intro v3 w3 hv3 hbv3 hgv3 hnv3
         have hmv3 : OwnLinks w3 W0.heap.size v3 [⟨o.tree, 2⟩] := OwnLinks.more (o := []) hv3
         have hO3 := hO.under hbv3 hgW
         obtain ⟨vA, kA, rfl⟩ := own_form' hmv3
         clear hgv3 hnv3 hv3))
    have s3 := hbv3.size
    clear hW0 c0 hti hbd hcs hc1 hc33 m1 m2 hO3
    go_loopw [3, 5] (fun vo vi wr => ∃ k : Nat, vi = .int .i64 k ∧ k ≤ o.pars.length ∧ OwnLinks wr W0.heap.size vo (⟨o.tree, 2⟩ :: parLinks (o.pars.take k)) ∧ Below W0.heap.size W0 wr) (fun _ vi _ => o.pars.length - (intOf vi).toNat)
    case atStart => exact ⟨0, rfl, by omega, hmv3, hbv3⟩
    case round =>
      obtain ⟨k, rfl, hk, hown, hbel⟩ := hrel
      have hsz := hbel.size
      have hOr := hO.under hbel hgW
      have d35 := hOr.pars
      have d0 := hOr.kind
      rw [hk3] at d0
      clear hmv3
      by_cases hlt : k < o.pars.length
      · have hki : (k : Int) < (o.pars.length : Int) := by omega
        obtain ⟨gs, os, rfl, hgs, hcell⟩ := hat.out (by omega)
        obtain ⟨x, hx⟩ : ∃ x, o.pars[k]? = some x := ⟨_, List.getElem?_eq_getElem hlt⟩
        have hx32 : x.length = 32 := hoP.out x (List.mem_of_getElem? hx)
        have hx0 : wr.rangeAt gs (os + k * 32) (u8s x).toList := rangeAt_below (hcell k x hx) hgs hbel
        have hst : Hid ((⟨o.tree, 2⟩ :: parLinks (o.pars.take (k + 1)) : List LinkL) = (⟨o.tree, 2⟩ :: parLinks (o.pars.take k)) ++ [⟨x, 3⟩]) := by show _ = _; rw [parLinks_take hx]; simp
        have hln : ((⟨o.tree, 2⟩ :: parLinks (o.pars.take k) : List LinkL)).length ≤ k + 1 := by unfold parLinks; rw [List.length_cons, List.length_map, List.length_take]; omega
        generalize (⟨o.tree, 2⟩ :: parLinks (o.pars.take k) : List LinkL) = L at *
        have hbd := built_link x 3 hx32
        have hcs := linkC_size (l := ⟨x, 3⟩) hx32
        have hc1 := linkC_cells ⟨x, 3⟩
        have m1 : L.length + 1 ≤ 9223372036854775807 := by omega
        have m2 : (L.length + 1) * 40 ≤ 140737488355328 := by omega
        have hc33 : (linkC ⟨x, 3⟩).toArray.size = 33 := by rw [hcs]
        obtain ⟨vB, kB, rfl⟩ := own_form' hown
        clear hx hat hcell hoE hoP
        go_wp2_with (first
          | ((with_reducible refine lit_load_id (.tmp 52) gs (os + k * 32) x hx32 hx0 ?_ ?_); rfl)
          | ((with_reducible refine lit_build2 hbd ?_ ?_ ?_); rfl; rfl)
          | ((with_reducible refine lit_slice1 (.tmp 54) Try.linkTy (linkC ⟨x, 3⟩).toArray hc33 (by omega) ?_ ?_); rfl)
          | (at_builtin
             (with_reducible refine lit_append_new (.tmp 48) (.tmp 55) 1 _ Try.linkTy hown (linkC ⟨x, 3⟩).toArray hcs hc1 m1 m2 hsz ?_ ?_ ?_); rfl; rfl
             intro v5 w5 hv5 hbv5 hgv5 hnv5
             have hmv5 : OwnLinks w5 W0.heap.size v5 (L ++ [⟨x, 3⟩]) := OwnLinks.more hv5
             have bel5 := hbel.trans hbv5
             clear hgv5 hnv5 hv5))
        have hmv6 : OwnLinks w5 W0.heap.size v5 (⟨o.tree, 2⟩ :: parLinks (o.pars.take (k + 1))) := by rw [hst.out]; exact hmv5
        clear hmv5 hst m1 m2
        go_roundw
        case rel => exact ⟨k + 1, by go_num, by omega, hmv6, bel5⟩
        case measure => simp [intOf]; omega
      · have hki : ¬ (k : Int) < (o.pars.length : Int) := by omega
        have he : Hid ((⟨o.tree, 2⟩ :: parLinks (o.pars.take k) : List LinkL) = r) := by show _ = _; rw [List.take_of_length_le (by omega)]; exact hrr.out
        rw [he.out] at hown
        clear hat hoE hoP he hrr
        go_wp2
        go_ret
        exact ⟨_, rfl, own_low hown (by omega), b0.trans (hbel.mono s0)⟩
  by_cases h4 : o.kind = 4
  · have hrr : Hid (([⟨o.target, o.of_⟩] : List LinkL) = r) := by show _ = _; rw [← links_four h4]; exact hr.out
    rw [h4] at c0
    have hbd := built_link o.target o.of_ hta
    have hcs := linkC_size (l := ⟨o.target, o.of_⟩) hta
    have hc1 := linkC_cells ⟨o.target, o.of_⟩
    have hc33 : (linkC ⟨o.target, o.of_⟩).toArray.size = 33 := by rw [hcs]
    have hti := hO.target
    have c70 := hO.of_
    have m1 : ([] : List LinkL).length + 1 ≤ 9223372036854775807 := by simp
    have m2 : (([] : List LinkL).length + 1) * 40 ≤ 140737488355328 := by simp
    clear hr h2 h3 h4 hv0 hO
    go_enter Try.func12, Try.ntmps12
    go_wp2_with (first
      | ((with_reducible refine lit_load_id (.tmp 61) w.heap.size 38 o.target hta hti ?_ ?_); rfl)
      | ((with_reducible refine lit_build2 hbd ?_ ?_ ?_); rfl; rfl)
      | ((with_reducible refine lit_slice1 (.tmp 65) Try.linkTy (linkC ⟨o.target, o.of_⟩).toArray hc33 (by omega) ?_ ?_); rfl)
      | (at_builtin
         (with_reducible refine lit_append_new (.tmp 60) (.tmp 66) 1 _ Try.linkTy hn0 (linkC ⟨o.target, o.of_⟩).toArray hcs hc1 m1 m2 (Nat.le_refl _) ?_ ?_ ?_); rfl; rfl
         intro v3 w3 hv3 hbv3 hgv3 hnv3
         have hmv3 : OwnLinks w3 W0.heap.size v3 [⟨o.target, o.of_⟩] := OwnLinks.more (o := []) hv3
         obtain ⟨vA, kA, rfl⟩ := own_form' hmv3
         clear hgv3 hnv3 hv3))
    have hmv4 : OwnLinks w3 W0.heap.size (.slice vA 1 kA) r := by rw [← hrr.out]; exact hmv3
    clear hmv3
    go_ret
    exact ⟨_, rfl, own_low hmv4 (by omega), b0.trans (hbv3.mono s0)⟩
  have hrr : Hid (([] : List LinkL) = r) := by show _ = _; rw [← links_none h2 h3 h4]; exact hr.out
  have e2 : (o.kind == 2) = false := by rw [beq_eq_false_iff_ne]; exact h2
  have e3 : (o.kind == 3) = false := by rw [beq_eq_false_iff_ne]; exact h3
  have e4 : (o.kind == 4) = false := by rw [beq_eq_false_iff_ne]; exact h4
  rw [hrr.out] at hn0
  clear hr hO hv0
  go_enter Try.func12, Try.ntmps12
  go_wp2
  go_ret
  exact ⟨_, rfl, own_low hn0 (by omega), b0⟩
end Go.Proofs.Ytlanconcbpdneaa
