/- The walk of layer 4: knapsackref04.May. No condition. -/
import Derived.Test.YtlanconcbpdneaaObjM
namespace Go.Proofs.Ytlanconcbpdneaa
open Go.RowKit
attribute [local go_sem ↓] ldvI_eq
theorem commit_eq (o : ObjL) : commitN o = (decide (o.tree = List.replicate 32 0) && decide ((o.pars.length : Int) = 0) && decide ((o.time : Int) = 0) && o.text.isEmpty) := by
  rw [show decide ((o.pars.length : Int) = 0) = (o.pars.length == 0) from by rw [Bool.eq_iff_iff, decide_eq_true_iff, beq_iff_eq]; omega, show decide ((o.time : Int) = 0) = (o.time == 0) from by rw [Bool.eq_iff_iff, decide_eq_true_iff, beq_iff_eq]; omega]
  rfl
theorem tag_eq (o : ObjL) : tagN o = (decide (o.target = List.replicate 32 0) && decide (o.of_ = 0) && o.name.isEmpty) := by
  rw [show decide (o.of_ = 0) = (o.of_ == 0) from by rw [Bool.eq_iff_iff, decide_eq_true_iff, beq_iff_eq]]
  rfl
theorem run_zero {w : World} {g : Nat} (h : Blk w g 24 (u8s (List.replicate 32 0))) : (ldvI ⟨g, 0, none⟩).run Try.prog w = .ok (.agg #[.int .u8 0, .int .u8 0, .int .u8 0, .int .u8 0, .int .u8 0, .int .u8 0, .int .u8 0, .int .u8 0, .int .u8 0, .int .u8 0, .int .u8 0, .int .u8 0, .int .u8 0, .int .u8 0, .int .u8 0, .int .u8 0, .int .u8 0, .int .u8 0, .int .u8 0, .int .u8 0, .int .u8 0, .int .u8 0, .int .u8 0, .int .u8 0, .int .u8 0, .int .u8 0, .int .u8 0, .int .u8 0, .int .u8 0, .int .u8 0, .int .u8 0, .int .u8 0]) w := by
  rw [zero_cells]
  exact run_ldvI_at (range_blk h) (by simp)
theorem lit_new_zero {ops : Array Oper} {rest : List Oper} {a : Act} {W : World} {Q : Exit → Act → World → Prop} {d : Option Tmp} {rt : TypeId} {pos : String} {af : Array Edge} (x y : Operand) (zs : Array Value) (hz : zs.size = 32) (hx : a.eval x = .pointer (some ⟨W.heap.size, 0, none⟩)) (hy : a.eval y = .agg #[.int .u8 0, .int .u8 0, .int .u8 0, .int .u8 0, .int .u8 0, .int .u8 0, .int .u8 0, .int .u8 0, .int .u8 0, .int .u8 0, .int .u8 0, .int .u8 0, .int .u8 0, .int .u8 0, .int .u8 0, .int .u8 0, .int .u8 0, .int .u8 0, .int .u8 0, .int .u8 0, .int .u8 0, .int .u8 0, .int .u8 0, .int .u8 0, .int .u8 0, .int .u8 0, .int .u8 0, .int .u8 0, .int .u8 0, .int .u8 0, .int .u8 0, .int .u8 0])
    (h : ∀ W1, Blk W1 W.heap.size 24 (u8s (List.replicate 32 0)) → Below W.heap.size W W1 → wpList Try.prog ops Q rest (a.put d undef) W1) :
    wpList Try.prog ops Q ({ dst := d, op := .store 24 x y, type := rt, pos := pos, after := af, guard := none } :: rest) a (W.alloc (.cells zs 24)) :=
  wpList_store_newId rfl x y rfl (List.replicate 32 0) (by simp) zs hx (hy.trans (congrArg Value.agg zero_cells)) hz h
theorem lit_load_ent {ops : Array Oper} {rest : List Oper} {a : Act} {w : World} {Q : Exit → Act → World → Prop} {d : Option Tmp} {rt : TypeId} {pos : String} {af : Array Edge} (x : Operand) (b o : Nat) (r : EntL) (hr : EntOk r) (hc : w.rangeAt b o (entC r)) (hx : a.eval x = .pointer (some ⟨b, o, none⟩))
    (h : wpList Try.prog ops Q rest (a.put d (.agg (entC r).toArray)) w) : wpList Try.prog ops Q ({ dst := d, op := .load 45 x, type := rt, pos := pos, after := af, guard := none } :: rest) a w :=
  wpList_load_mid rfl _ x rfl b o hx _ _ hc Try.underlying45 rfl (sizedEnt hr) h
theorem lit_new_ent {ops : Array Oper} {rest : List Oper} {a : Act} {w : World} {Q : Exit → Act → World → Prop} {d : Option Tmp} {rt : TypeId} {pos : String} {af : Array Edge} (x y : Operand) (r : EntL) (hr : EntOk r) (zs : Array Value) (hz : zs.size = 34) (hx : a.eval x = .pointer (some ⟨w.heap.size, 0, none⟩)) (hy : a.eval y = .agg (entC r).toArray)
    (h : ∀ W1, Blk W1 w.heap.size 45 (entC r).toArray → Below w.heap.size w W1 → wpList Try.prog ops Q rest (a.put d undef) W1) :
    wpList Try.prog ops Q ({ dst := d, op := .store 45 x y, type := rt, pos := pos, after := af, guard := none } :: rest) a (w.alloc (.cells zs 45)) :=
  wpList_store_newEnt rfl x y rfl r hr zs hx hy hz h
theorem treeN_two (o : ObjL) (h : o.kind = 2) : mayB o = (blobN o && commitN o && tagN o && entsB o.ents) := by unfold mayB aloneB; rw [if_pos h, if_neg (by omega), if_pos h]
theorem may_one (o : ObjL) (h : o.kind = 1) : mayB o = (treeN o && commitN o && tagN o) := by unfold mayB aloneB; rw [if_neg (by omega), if_neg (by omega), if_neg (by omega), if_pos h, h]; rfl
theorem may_three (o : ObjL) (h : o.kind = 3) : mayB o = (blobN o && treeN o && tagN o && decide (o.pars.length ≤ 8)) := by unfold mayB aloneB; rw [if_neg (by omega), if_pos h, if_neg (by omega), if_neg (by omega), if_pos h]
theorem may_four (o : ObjL) (h : o.kind = 4) : mayB o = (blobN o && treeN o && commitN o && kindB o.of_ && nameB o.name) := by unfold mayB aloneB; rw [if_neg (by omega), if_neg (by omega), if_pos h, if_neg (by omega), if_neg (by omega), if_neg (by omega)]
theorem may_none (o : ObjL) (h : o.kind < 1 ∨ 4 < o.kind) : mayB o = false := by
  unfold mayB
  rw [if_neg (by omega), if_neg (by omega), if_neg (by omega)]
  have : (o.kind == 1) = false := by rw [beq_eq_false_iff_ne]; omega
  rw [this]; rfl
set_option maxRecDepth 100000 in
set_option maxHeartbeats 4000000 in
theorem refMay_calls2 (o : ObjL) (hk : o.kind = 2) (A1 A2 : Option Addr) (k1 k2 : Nat) (w : World) (hv : ObjV w (.slice A1 o.ents.length k1) (.slice A2 o.pars.length k2) o) : Calls Try.prog 24 #[.agg (objC o (.slice A1 o.ents.length k1) (.slice A2 o.pars.length k2)).toArray] w fun e w' => e = .returned (.bool (mayB o)) ∧ Below w.heap.size w w' := by
  have ho := hv.ok
  have hO := boxed (w := w) (ve := .slice A1 o.ents.length k1) (vp := .slice A2 o.pars.length k2) ho
  have b0 : Below w.heap.size w (w.alloc (.cells (objC o (.slice A1 o.ents.length k1) (.slice A2 o.pars.length k2)).toArray 28)) := (Below.refl _ _).alloc (Nat.le_refl _) _
  have hv0 := hv.below b0
  obtain ⟨W0, hW0⟩ : ∃ W0, w.alloc (.cells (objC o (.slice A1 o.ents.length k1) (.slice A2 o.pars.length k2)).toArray 28) = W0 := ⟨_, rfl⟩
  rw [hW0] at hO b0 hv0
  have c0 := hO.kind
  have g1 := fun W => run_ldvI_at (w := W) (g := w.heap.size) (o := 3) (l := o.tree)
  have g2 := fun W => run_ldvI_at (w := W) (g := w.heap.size) (o := 38) (l := o.target)
  have z1 := fun W => equalIn_zero o.tree ho.tree W
  have z2 := fun W => equalIn_zero o.target ho.target W
  have e1 := Lib.hid (commit_eq o)
  have e2 := Lib.hid (tag_eq o)
  have ht : o.time < 4294967296 := ho.time
  obtain ⟨r, hr⟩ : ∃ r, Hid (r = mayB o) := ⟨_, Lib.hid rfl⟩
  rw [← hr.out]
  have hr2 := hr.out
  rw [treeN_two o hk, commit_eq, tag_eq] at hr2
  have hX : blobN o = List.isEmpty o.data := rfl
  rw [hX] at hr2
  replace hr2 := Lib.hid hr2
  rw [hk] at c0
  have htr := Lib.hid ho.tree
  have hta := Lib.hid ho.target
  have hoE := Lib.hid ho.ents
  obtain ⟨E, hE⟩ : ∃ E, Hid (E = entsB o.ents) := ⟨_, Lib.hid rfl⟩
  rw [← hE.out] at hr2
  clear hr ho hX hv e1 e2
  generalize decide (o.tree = List.replicate 32 0) = T at *
  generalize decide (o.target = List.replicate 32 0) = G at *
  obtain ⟨Pz, hPz⟩ : ∃ Pz, decide ((o.pars.length : Int) = 0) = Pz := ⟨_, rfl⟩
  have hP1 : 0 < o.pars.length → Pz = false := fun h => by rw [← hPz]; exact decide_eq_false (by omega)
  have hP2 : ¬ 0 < o.pars.length → Pz = true := fun h => by rw [← hPz]; exact decide_eq_true (by omega)
  replace hP1 := Lib.hid hP1
  replace hP2 := Lib.hid hP2
  have hr3 := hr2.out
  rw [hPz] at hr3
  replace hr2 := Lib.hid hr3
  clear hPz hr3
  generalize hcs : (objC o (.slice A1 o.ents.length k1) (.slice A2 o.pars.length k2)).toArray = cs at *
  clear hcs
  have s0 := b0.size
  go_enter Try.func24, Try.ntmps24
  go_upto_region 4 with (first
    | ((with_reducible refine lit_new_zero (.tmp 3) (.tmp 16) _ ?_ ?_ ?_ ?_); rfl; rfl; rfl
       intro W1 hb1 hbl1
       have hO1 := hO.below hbl1
       have c1 := hO1.data
       have c2 := hO1.ents
       have c35 := hO1.pars
       have c36 := hO1.time
       have c37 := hO1.text
       have c70 := hO1.of_
       have c71 := hO1.name
       have c0' := hO1.kind
       rw [hk] at c0'
       have q1 := g1 W1 hO1.tree htr.out
       have q2 := g2 W1 hO1.target hta.out
       have q3 := run_zero hb1))
  clear c0 hO hb1 htr hta g1 g2 hW0
  have hE64 : (64 : Int) < (o.ents.length : Int) → E = false := fun h => by
    rw [hE.out]; unfold entsB
    rw [Bool.and_eq_false_iff]
    exact .inr (decide_eq_false (by omega))
  have b1 := b0.trans (hbl1.mono s0)
  have hat : Hid (0 < o.ents.length → ∃ g os, A1 = some ⟨g, os, none⟩ ∧ g < W1.heap.size ∧ ∀ i x, o.ents[i]? = some x → W1.rangeAt g (os + i * 34) (entC x)) := by
    obtain ⟨A, cap, he, _, _, h⟩ := hv0.ents.below hbl1
    injection he with he _ _
    subst he
    exact h
  have sz1 := Nat.le_trans s0 hbl1.size
  clear b0 hbl1 hv0
  go_upto_region 16 with fail
  all_goals try
    (go_ret
     refine ⟨?_, b1⟩
     rw [hr2.out]
     have hP1 := hP1.out
     have hP2 := hP2.out
     clear z1 z2 c1 c2 c35 c36 c37 c70 c71 q1 q2 q3 hO1 c0' hE hr2 hat hoE
     simp_all
     done)
  have hrE : Hid (r = E) := by
    show r = E
    rw [hr2.out]
    have hP1 := hP1.out
    have hP2 := hP2.out
    clear z1 z2 c1 c2 c35 c36 c37 c70 c71 q1 q2 q3 hO1 c0' hE hr2 hat hoE
    simp_all
  have h64 : (o.ents.length : Int) ≤ 64 := by first | assumption | omega
  clear hP1 hP2 hr2 z1 z2 c1 c35 c36 c37 c70 c71 q1 q2 q3 c0' hE64 c2 ht
  go_cut [5] (fun s5 wx => s5 = .int .i64 0 ∧ wx = W1)
  case first =>
    go_wp2
    go_meet
    case rel => exact ⟨rfl, rfl⟩
  obtain ⟨rfl, rfl⟩ := hcut
  go_wp2
  go_loopw [5] (fun vi wr => ∃ k : Nat, vi = .int .i64 k ∧ k ≤ o.ents.length ∧ Hid ((List.range k).all (entAt o.ents) = true) ∧ Below wc.heap.size wc wr) (fun vi _ => o.ents.length - (intOf vi).toNat)
  case atStart => exact ⟨0, rfl, by omega, rfl, Below.refl _ _⟩
  case round =>
    obtain ⟨k, rfl, hk', hall, hbel⟩ := hrel
    have hsz := hbel.size
    have hOr := hO1.below hbel
    have c2 := hOr.ents
    by_cases hlt : k < o.ents.length
    · have hki : (k : Int) < (o.ents.length : Int) := by omega
      obtain ⟨gs, os, rfl, hgs, hcell⟩ := hat.out (by omega)
      obtain ⟨x, hx⟩ : ∃ x, o.ents[k]? = some x := ⟨_, List.getElem?_eq_getElem hlt⟩
      have hxok : EntOk x := hoE.out x (List.mem_of_getElem? hx)
      have hx0 := rangeAt_below (hcell k x hx) hgs hbel
      have hxh := Lib.hid hx
      clear hx hat hoE
      have hnm := fun W => Lib.hid (refName_calls x.name hxok.name W)
      cases bn : nameB x.name with
      | false =>
        have hf : Hid (r = false) := by show r = false; rw [hrE.out, hE.out]; exact ents_bad hlt (entAt_no hxh.out (by unfold entB; rw [bn]; rfl))
        rw [bn] at hnm
        clear hE hrE hall bn
        go_wp2_with (first
          | ((with_reducible refine lit_load_ent (.tmp 113) gs (os + k * 34) x hxok hx0 ?_ ?_); rfl)
          | ((with_reducible refine lit_new_ent (.tmp 6) (.tmp 114) x hxok _ ?_ ?_ ?_ ?_); rfl; rfl; rfl; intro W2 hb2 hbl2
             have cn := (range_ent (range_blkEnt hb2)).1
             have hnm := hnm W2)
          | ((with_reducible refine hnm.out.mono ?_); rintro e w3 ⟨rfl, rfl⟩))
        all_goals try (exfalso; omega)
        go_ret
        exact ⟨by rw [hf.out]; rfl, b1.trans ((bthen hbel hsz hbl2).mono sz1)⟩
      | true =>
        rw [bn] at hnm
        by_cases hk12 : x.kind = 1 ∨ x.kind = 2
        · have heb : entB x = true := by
            unfold entB
            rw [bn]
            rcases hk12 with h | h <;> simp [h]
          have d1 : ¬ x.kind < 1 := by omega
          have d2 : ¬ 2 < x.kind := by omega
          clear bn hk12
          rcases Nat.eq_zero_or_pos k with h0 | h0
          · have hk0 : ¬ (0 : Int) < (k : Int) := by omega
            have hk0d : decide ((0 : Int) < (k : Int)) = false := by simpa using h0
            have hk0n : decide (0 < k) = false := by simp [h0]
            have hx00 : o.ents[0]? = some x := by rw [← h0]; exact hxh.out
            have hok0 : entAt o.ents k = true := by rw [h0]; exact entAt_zero hx00 heb
            have hst := Lib.hid (ents_step hall.out hok0)
            clear hx00 hok0 h0 heb hall hE hrE
            go_wp2_with (first
              | ((with_reducible refine lit_load_ent (.tmp 113) gs (os + k * 34) x hxok hx0 ?_ ?_); rfl)
              | ((with_reducible refine lit_new_ent (.tmp 6) (.tmp 114) x hxok _ ?_ ?_ ?_ ?_); rfl; rfl; rfl; intro W2 hb2 hbl2
                 have cn := (range_ent (range_blkEnt hb2)).1
                 have ck := (range_ent (range_blkEnt hb2)).2
                 have c2' := (hOr.below hbl2).ents
                 have bel2 := b1.trans ((bthen hbel hsz hbl2).mono sz1)
                 have bel1 := bthen hbel hsz hbl2
                 have hnm := hnm W2)
              | ((with_reducible refine hnm.out.mono ?_); rintro e w3 ⟨rfl, rfl⟩))
            all_goals try (exfalso; omega)
            go_quiet (fail)
            clear hk0 hk0d hk0n
            go_wp2
            go_roundw
            case rel => exact ⟨k + 1, by go_num, by omega, hst, bdrewN bel1 nq⟩
            case measure => simp [intOf]; omega
          · obtain ⟨q, hq⟩ : ∃ q, o.ents[k - 1]? = some q := ⟨_, List.getElem?_eq_getElem (show k - 1 < o.ents.length by omega)⟩
            have hk0 : (0 : Int) < (k : Int) := by omega
            have hat1 : entAt o.ents k = Op.bytesLess q.name x.name := by
              obtain ⟨j, rfl⟩ : ∃ j, k = j + 1 := ⟨k - 1, by omega⟩
              exact entAt_succ hxh.out hq heb
            obtain ⟨u, s1, hu⟩ : ∃ u : Nat, IntKind.i64.wrap ((k : Int) - 1) = (u : Int) ∧ u = k - 1 := ⟨k - 1, by rw [IntWalk.i64_in _ (by omega)]; omega, rfl⟩
            have s3 : (u : Int) < (o.ents.length : Int) := by omega
            have s4 : u < o.ents.length := by omega
            have hqu : Hid (o.ents[u]? = some q) := by show _ = _; rw [hu]; exact hq
            clear hu hq heb
            rcases two_ways q.name x.name with ⟨l1, l2, l3, l4⟩ | ⟨l1, l2, l3, l4⟩ | ⟨l1, l2, l3, l4⟩
            all_goals rw [l1] at hat1
            · have hst := Lib.hid (ents_step hall.out hat1)
              clear hat1 hall hE hrE
              go_wp2_with (first
                | ((with_reducible refine lit_load_ent (.tmp 113) gs (os + k * 34) x hxok hx0 ?_ ?_); rfl)
                | ((with_reducible refine lit_new_ent (.tmp 6) (.tmp 114) x hxok _ ?_ ?_ ?_ ?_); rfl; rfl; rfl; intro W2 hb2 hbl2
                   have cn := (range_ent (range_blkEnt hb2)).1
                   have ck := (range_ent (range_blkEnt hb2)).2
                   have c2' := (hOr.below hbl2).ents
                   have bel2 := b1.trans ((bthen hbel hsz hbl2).mono sz1)
                   have bel1 := bthen hbel hsz hbl2
                   have c3 : W2.cell? ⟨gs, os + u * 34, none⟩ = some (.string (B q.name)) := (range_ent (rangeAt_below (hcell u q hqu.out) hgs bel1)).1
                   have hnm := hnm W2)
                | ((with_reducible refine hnm.out.mono ?_); rintro e w3 ⟨rfl, rfl⟩))
              all_goals try (exfalso; omega)
              go_quiet (fail)
              clear s1 s3 s4 l1 l2 l3 l4 hk0
              go_wp2
              go_roundw
              case rel => exact ⟨k + 1, by go_num, by omega, hst, bdrewN bel1 nq⟩
              case measure => simp [intOf]; omega
            · have hf : Hid (r = false) := by show r = false; rw [hrE.out, hE.out]; exact ents_bad hlt hat1
              clear hat1 hall hE hrE
              go_wp2_with (first
                | ((with_reducible refine lit_load_ent (.tmp 113) gs (os + k * 34) x hxok hx0 ?_ ?_); rfl)
                | ((with_reducible refine lit_new_ent (.tmp 6) (.tmp 114) x hxok _ ?_ ?_ ?_ ?_); rfl; rfl; rfl; intro W2 hb2 hbl2
                   have cn := (range_ent (range_blkEnt hb2)).1
                   have ck := (range_ent (range_blkEnt hb2)).2
                   have c2' := (hOr.below hbl2).ents
                   have bel2 := b1.trans ((bthen hbel hsz hbl2).mono sz1)
                   have bel1 := bthen hbel hsz hbl2
                   have c3 : W2.cell? ⟨gs, os + u * 34, none⟩ = some (.string (B q.name)) := (range_ent (rangeAt_below (hcell u q hqu.out) hgs bel1)).1
                   have hnm := hnm W2)
                | ((with_reducible refine hnm.out.mono ?_); rintro e w3 ⟨rfl, rfl⟩))
              all_goals try (exfalso; omega)
              go_quiet (fail)
              go_wp2
              go_ret
              exact ⟨by rw [hf.out]; rfl, bdrewN bel2 nq⟩
            · have hf : Hid (r = false) := by show r = false; rw [hrE.out, hE.out]; exact ents_bad hlt hat1
              clear hat1 hall hE hrE
              go_wp2_with (first
                | ((with_reducible refine lit_load_ent (.tmp 113) gs (os + k * 34) x hxok hx0 ?_ ?_); rfl)
                | ((with_reducible refine lit_new_ent (.tmp 6) (.tmp 114) x hxok _ ?_ ?_ ?_ ?_); rfl; rfl; rfl; intro W2 hb2 hbl2
                   have cn := (range_ent (range_blkEnt hb2)).1
                   have ck := (range_ent (range_blkEnt hb2)).2
                   have c2' := (hOr.below hbl2).ents
                   have bel2 := b1.trans ((bthen hbel hsz hbl2).mono sz1)
                   have bel1 := bthen hbel hsz hbl2
                   have c3 : W2.cell? ⟨gs, os + u * 34, none⟩ = some (.string (B q.name)) := (range_ent (rangeAt_below (hcell u q hqu.out) hgs bel1)).1
                   have hnm := hnm W2)
                | ((with_reducible refine hnm.out.mono ?_); rintro e w3 ⟨rfl, rfl⟩))
              all_goals try (exfalso; omega)
              go_quiet (fail)
              go_wp2
              go_ret
              exact ⟨by rw [hf.out]; rfl, bdrewN bel2 nq⟩
        · have heb : entB x = false := by
            unfold entB
            have e1 : (x.kind == 1) = false := by rw [beq_eq_false_iff_ne]; omega
            have e2 : (x.kind == 2) = false := by rw [beq_eq_false_iff_ne]; omega
            rw [e1, e2]; simp
          have hf : Hid (r = false) := by show r = false; rw [hrE.out, hE.out]; exact ents_bad hlt (entAt_no hxh.out heb)
          clear heb hall hE hrE bn
          by_cases d1 : x.kind < 1
          · clear hk12
            go_wp2_with (first
              | ((with_reducible refine lit_load_ent (.tmp 113) gs (os + k * 34) x hxok hx0 ?_ ?_); rfl)
              | ((with_reducible refine lit_new_ent (.tmp 6) (.tmp 114) x hxok _ ?_ ?_ ?_ ?_); rfl; rfl; rfl; intro W2 hb2 hbl2
                 have cn := (range_ent (range_blkEnt hb2)).1
                 have ck := (range_ent (range_blkEnt hb2)).2
                 have c2' := (hOr.below hbl2).ents
                 have bel2 := b1.trans ((bthen hbel hsz hbl2).mono sz1)
                 have bel1 := bthen hbel hsz hbl2
                 have hnm := hnm W2)
              | ((with_reducible refine hnm.out.mono ?_); rintro e w3 ⟨rfl, rfl⟩))
            all_goals try (exfalso; omega)
            go_ret
            exact ⟨by rw [hf.out]; rfl, bel2⟩
          · have d2 : 2 < x.kind := by omega
            clear hk12
            go_wp2_with (first
              | ((with_reducible refine lit_load_ent (.tmp 113) gs (os + k * 34) x hxok hx0 ?_ ?_); rfl)
              | ((with_reducible refine lit_new_ent (.tmp 6) (.tmp 114) x hxok _ ?_ ?_ ?_ ?_); rfl; rfl; rfl; intro W2 hb2 hbl2
                 have cn := (range_ent (range_blkEnt hb2)).1
                 have ck := (range_ent (range_blkEnt hb2)).2
                 have c2' := (hOr.below hbl2).ents
                 have bel2 := b1.trans ((bthen hbel hsz hbl2).mono sz1)
                 have bel1 := bthen hbel hsz hbl2
                 have hnm := hnm W2)
              | ((with_reducible refine hnm.out.mono ?_); rintro e w3 ⟨rfl, rfl⟩))
            all_goals try (exfalso; omega)
            go_ret
            exact ⟨by rw [hf.out]; rfl, bel2⟩
    · have hki : ¬ (k : Int) < (o.ents.length : Int) := by omega
      have hf : Hid (r = true) := by
        show r = true
        rw [hrE.out, hE.out]
        have := hall.out
        rw [show k = o.ents.length from by omega] at this
        rw [ents_all this]
        exact decide_eq_true (by omega)
      clear hall hat hE hrE
      go_wp2
      go_ret
      exact ⟨by rw [hf.out]; rfl, b1.trans (hbel.mono sz1)⟩
end Go.Proofs.Ytlanconcbpdneaa
