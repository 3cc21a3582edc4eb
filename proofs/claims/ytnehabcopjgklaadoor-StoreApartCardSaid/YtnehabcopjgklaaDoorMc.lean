/- Lemmas and walks of this seat, laid together: ObjA, ObjB, ObjE, ObjM, ObjR, Bld, Bld2, Bldr, ObjY, ObjZ, Inv, InvW, ObjC, LitB. -/
import Derived.Test.YtnehabcopjgklaaDoorMb
import Derived.Deep.DeepCutAuto
import Derived.BigQuiet
import Derived.Lib.Builder
import Derived.Shelf.Strings.Builder1
import Derived.Orders
import Derived.Great.BuildSlice
/- The walks of layer 4: one, bytes, kind, Text on both sides, alone. No condition. -/
namespace Go.Proofs.YtnehabcopjgklaaDoor
open Go.RowKit
theorem byteK_wrap (n : Int) : UInt8.ofNat (n % 256).toNat = byteK n := rfl
set_option maxRecDepth 100000 in
set_option maxHeartbeats 1000000 in
theorem one_calls (n : Int) (w : World) : Calls Tryd.prog 52 #[.int .i64 n] w fun e w' => e = .returned (.string (B [byteK n])) ∧ Below w.heap.size w w' := by
  have hc := fun (wx : World) (x : Int) => Tryd.str_of_one wx x
  go_enter Tryd.func52, Tryd.ntmps52
  go_wp2
  go_ret
  exact ⟨rfl, (Below.refl _ _).alloc (Nat.le_refl _) _⟩
set_option maxRecDepth 100000 in
set_option maxHeartbeats 1000000 in
theorem bytes_calls (l : Txt) (hl : l.length = 32) (w : World) : Calls Tryd.prog 79 #[.agg (u8s l)] w fun e w' => e = .returned (.string (B l)) ∧ Below w.heap.size w w' := by
  have hc := str_of_blk (w.alloc (.cells (u8s l) 24)) (Blk.new w _ (u8s l))
  rw [hl] at hc
  go_enter Tryd.func79, Tryd.ntmps79
  go_wp2
  go_ret
  exact ⟨rfl, (Below.refl _ _).alloc (Nat.le_refl _) _⟩
set_option maxRecDepth 100000 in
set_option maxHeartbeats 1000000 in
theorem kind_calls (n : Int) (w : World) : Calls Tryd.prog 66 #[.int .i64 n] w fun e w' => e = .returned (.bool (kindB n)) ∧ w' = w := by
  obtain ⟨b, hb⟩ : ∃ b, Hid (b = kindB n) := ⟨_, Lib.hid rfl⟩
  rw [← hb.out]
  have hb2 := hb.out
  unfold kindB at hb2
  by_cases h1 : 1 ≤ n
  · by_cases h4 : n ≤ 4
    · have hf : Hid (b = true) := by show b = true; rw [hb2]; simp [h1, h4]
      clear hb hb2
      go_enter Tryd.func66, Tryd.ntmps66
      go_wp2
      go_ret
      exact ⟨by rw [hf.out]; simp [h4], rfl⟩
    · have hf : Hid (b = false) := by show b = false; rw [hb2]; simp [h4]
      clear hb hb2
      go_enter Tryd.func66, Tryd.ntmps66
      go_wp2
      go_ret
      exact ⟨by rw [hf.out]; simp [h4], rfl⟩
  · have hf : Hid (b = false) := by show b = false; rw [hb2]; simp [h1]
    clear hb hb2
    go_enter Tryd.func66, Tryd.ntmps66
    go_wp2
    go_ret
    exact ⟨by rw [hf.out]; simp [h1], rfl⟩
set_option maxRecDepth 100000 in
set_option maxHeartbeats 1000000 in
theorem refText_calls (s : Txt) (hs : s.length ≤ 1000000000) (w : World) : Calls Tryd.prog 53 #[.string (B s)] w fun e w' => e = .returned (.string (B (textE s))) ∧ Below w.heap.size w w' := by
  have hp := Lib.hid (refPut_calls s.length (by omega) w)
  have hpl := put_length s.length
  have hte : Hid (textE s = put s.length ++ s) := Lib.hid rfl
  generalize put s.length = P at *
  have hn : ¬ 9223372036854775807 < P.length + s.length := by omega
  go_enter Tryd.func53, Tryd.ntmps53
  go_wp2_with (first
    | ((with_reducible refine hp.out.mono ?_); rintro e w1 ⟨rfl, hb1⟩))
  go_ret
  exact ⟨by rw [hte.out]; rfl, hb1⟩
end Go.Proofs.YtnehabcopjgklaaDoor
/- The walk of layer 4: alone. No condition. -/
namespace Go.Proofs.YtnehabcopjgklaaDoor
open Go.RowKit
attribute [local go_sem ↓] ldvI_eq
/-- An object boxed: one block more. -/
theorem boxed {w : World} {ve vp : Value} {o : ObjL} (ho : ObjOk o) : ObjB (w.alloc (.cells (objC o ve vp).toArray 41)) w.heap.size o ve vp := ⟨Blk.new w _ _, ho.tree, ho.target⟩
theorem int_eq0 (n : Nat) : ((n : Int) == 0) = (n == 0) := by
  rw [Bool.eq_iff_iff, beq_iff_eq, beq_iff_eq]; omega
set_option maxRecDepth 100000 in
set_option maxHeartbeats 4000000 in
theorem alone_calls (o : ObjL) (ho : ObjOk o) (A1 A2 : Option Addr) (k1 k2 : Nat) (w : World) : Calls Tryd.prog 64 #[.agg (objC o (.slice A1 o.ents.length k1) (.slice A2 o.pars.length k2)).toArray] w fun e w' => e = .returned (.bool (aloneB o)) ∧ Below w.heap.size w w' := by
  have hO := boxed (w := w) (ve := .slice A1 o.ents.length k1) (vp := .slice A2 o.pars.length k2) ho
  have b0 : Below w.heap.size w (w.alloc (.cells (objC o (.slice A1 o.ents.length k1) (.slice A2 o.pars.length k2)).toArray 41)) := (Below.refl _ _).alloc (Nat.le_refl _) _
  generalize (objC o (.slice A1 o.ents.length k1) (.slice A2 o.pars.length k2)).toArray = cs at *
  obtain ⟨W0, hW0⟩ : ∃ W0, w.alloc (.cells cs 41) = W0 := ⟨_, rfl⟩
  rw [hW0] at hO b0
  have c0 := hO.kind
  have c1 := hO.data
  have c2 := hO.ents
  have c35 := hO.pars
  have c36 := hO.time
  have c37 := hO.text
  have c70 := hO.of_
  have c71 := hO.name
  have q1 := run_ldvI_at hO.tree ho.tree
  have q2 := run_ldvI_at hO.target ho.target
  have z1 := fun W => equalIn_zero o.tree ho.tree W
  have z2 := fun W => equalIn_zero o.target ho.target W
  have e1 : Hid (commitN o = (decide (o.tree = List.replicate 32 0) && decide ((o.pars.length : Int) = 0) && decide ((o.time : Int) = 0) && o.text.isEmpty)) := by
    show commitN o = _
    rw [show decide ((o.pars.length : Int) = 0) = (o.pars.length == 0) from by rw [Bool.eq_iff_iff, decide_eq_true_iff, beq_iff_eq]; omega, show decide ((o.time : Int) = 0) = (o.time == 0) from by rw [Bool.eq_iff_iff, decide_eq_true_iff, beq_iff_eq]; omega]
    rfl
  have e2 : Hid (tagN o = (decide (o.target = List.replicate 32 0) && decide (o.of_ = 0) && o.name.isEmpty)) := by
    show tagN o = _
    rw [show decide (o.of_ = 0) = (o.of_ == 0) from by rw [Bool.eq_iff_iff, decide_eq_true_iff, beq_iff_eq]]
    rfl
  have e3 : List.isEmpty o.data = blobN o := rfl
  have e4 : ((o.ents.length : Int) == 0) = treeN o := by
    unfold treeN
    exact int_eq0 _
  have ht : o.time < 4294967296 := ho.time
  obtain ⟨r, hr⟩ : ∃ r, Hid (r = aloneB o) := ⟨_, Lib.hid rfl⟩
  rw [← hr.out]
  have hr2 := hr.out
  unfold aloneB at hr2
  replace hr2 := Lib.hid hr2
  clear hr hO ho
  generalize decide (o.tree = List.replicate 32 0) = T at *
  generalize decide (o.target = List.replicate 32 0) = G at *
  generalize commitN o = C at *
  generalize tagN o = D at *
  generalize blobN o = X at *
  generalize treeN o = Y at *
  go_enter Tryd.func64, Tryd.ntmps64
  go_upto_region 3 with fail
  go_cut [5] (fun s5 wx => s5 = .bool C ∧ wx = W0)
  case first =>
    go_wp2
    all_goals
      go_meet
      case rel =>
        refine ⟨?_, rfl⟩
        rw [e1.out]
        clear c0 c1 c2 c35 c36 c37 c70 c71 q1 q2 z1 z2 e1 e2 hr2 e3 e4 b0 hW0
        simp_all
  case rest =>
    obtain ⟨rfl, rfl⟩ := hcut
    clear e1 c35 c36 c37 z1 q1
    go_upto_region 4 with fail
    go_cut [6] (fun s6 wx => s6 = .bool D ∧ wx = wc)
    case first =>
      go_wp2
      all_goals
        go_meet
        case rel =>
          refine ⟨?_, rfl⟩
          rw [e2.out]
          clear c0 c1 c2 c70 c71 q2 z2 e2 hr2 e3 e4 b0 hW0
          simp_all
    case rest =>
      obtain ⟨rfl, rfl⟩ := hcut
      clear e2 c70 c71 z2 q2
      clear hW0
      go_wp2
      all_goals
        go_ret
        refine ⟨?_, b0⟩
        rw [hr2.out]
        simp_all
end Go.Proofs.YtnehabcopjgklaaDoor
/- The walk of layer 4: entries, may. No condition. -/
namespace Go.Proofs.YtnehabcopjgklaaDoor
open Go.RowKit
theorem quiet_same {P : Program} {f : FuncId} {args : Array Value} {w : World} {n : Nat} {v : Value} (h : Calls P f args (w.drewN n) fun e w' => e = .returned v ∧ w' = w.drewN n) : Calls P f args (w.drewN n) fun e w'' => e = .returned v ∧ ∃ m, w'' = w.drewN m := h.mono fun _ _ ⟨he, hw⟩ => ⟨he, n, hw⟩
theorem sizedEnt {e : EntL} (h : EntOk e) : (Tryd.prog.info? 76).map (·.size) = some (entC e).length := by rw [entC_len h]; exact szEnt
theorem entC_one (r : EntL) : ∀ u ∈ entC r, u.oneCell' = true := by
  intro u hu
  simp only [entC, List.mem_cons, u8s, List.toList_toArray, List.mem_map] at hu
  rcases hu with rfl | rfl | ⟨c, _, rfl⟩ <;> rfl
theorem wpList_store_newEnt {W : World} {ops : Array Oper} {rest : List Oper} {o : Oper} {a : Act} {Q : Exit → Act → World → Prop} (hgd : o.guard = none) (x y : Operand) (ho : o.op = .store 76 x y)
    (r : EntL) (hr : EntOk r) (zs : Array Value) (hx : a.eval x = .pointer (some ⟨W.heap.size, 0, none⟩)) (hy : a.eval y = .agg (entC r).toArray) (hz : zs.size = 34)
    (h : ∀ W1, Blk W1 W.heap.size 76 (entC r).toArray → Below W.heap.size W W1 → wpList Tryd.prog ops Q rest (a.put o.dst undef) W1) : wpList Tryd.prog ops Q (o :: rest) a (W.alloc (.cells zs 76)) :=
  wpList_store_new hgd _ x y ho (entC r).toArray zs hx hy (by rw [List.size_toArray]; exact sizedEnt hr) (hz.trans (by simp [entC_len hr])) (Array.all_eq_true_iff_forall_mem.2 fun u hu => entC_one r u (by simpa using hu)) h
theorem ents_bad {l : List EntL} {i : Nat} (hi : i < l.length) (h : entAt l i = false) : entsB l = false := by
  unfold entsB
  rw [Bool.and_eq_false_iff]
  exact .inl (List.all_eq_false.2 ⟨i, by simpa using hi, by rw [h]; simp⟩)
theorem ents_all {l : List EntL} (h : (List.range l.length).all (entAt l) = true) : entsB l = decide (l.length ≤ 64) := by unfold entsB; rw [h, Bool.true_and]
theorem ents_step {p : Nat → Bool} {k : Nat} (h : (List.range k).all p = true) (hk : p k = true) : (List.range (k + 1)).all p = true := by
  rw [List.range_succ, List.all_append, h]; simp [hk]
theorem entAt_no {l : List EntL} {k : Nat} {x : EntL} (hx : l[k]? = some x) (h : entB x = false) : entAt l k = false := by unfold entAt; rw [hx]; simp only [h]; rfl
theorem entAt_zero {l : List EntL} {x : EntL} (hx : l[0]? = some x) (h : entB x = true) : entAt l 0 = true := by unfold entAt; rw [hx]; simp only [h]; rfl
theorem entAt_succ {l : List EntL} {k : Nat} {x p : EntL} (hx : l[k + 1]? = some x) (hp : l[k]? = some p) (h : entB x = true) : entAt l (k + 1) = Op.bytesLess p.name x.name := by unfold entAt; rw [hx]; simp only [h, hp, Bool.true_and]
theorem range_ent {w : World} {g o : Nat} {r : EntL} (h : w.rangeAt g o (entC r)) : w.cell? ⟨g, o, none⟩ = some (.string (B r.name)) ∧ w.cell? ⟨g, o + 1, none⟩ = some (.int .i64 r.kind) := ⟨h 0 _ rfl, h 1 _ rfl⟩
theorem range_blkEnt {w : World} {g : Nat} {r : EntL} (h : Blk w g 76 (entC r).toArray) : w.rangeAt g 0 (entC r) := by
  have := range_blk h
  rwa [List.toList_toArray] at this
theorem range_entId {w : World} {g o : Nat} {r : EntL} (h : w.rangeAt g o (entC r)) : w.rangeAt g (o + 2) (u8s r.id).toList := fun j u hu => by
  have := h (j + 2) u (by simpa [entC] using hu)
  rwa [show o + (j + 2) = o + 2 + j from by omega] at this
/-- How two texts stand. -/
theorem two_ways (p x : Txt) : (Op.bytesLess p x = true ∧ Op.bytesLess x p = false ∧ (p == x) = false ∧ (x == p) = false) ∨ (Op.bytesLess p x = false ∧ Op.bytesLess x p = true ∧ (p == x) = false ∧ (x == p) = false) ∨ (Op.bytesLess p x = false ∧ Op.bytesLess x p = false ∧ (p == x) = true ∧ (x == p) = true) := by
  cases h : Op.bytesLess p x with
  | true =>
    have h1 := less_ne h
    exact .inl ⟨rfl, less_asymm h, h1, by rw [beq_eq_false_iff_ne] at h1 ⊢; exact fun e => h1 e.symm⟩
  | false =>
    by_cases e : p = x
    · subst e
      exact .inr (.inr ⟨rfl, h, by simp, by simp⟩)
    · have h2 := less_total h e
      have h1 := less_ne h2
      exact .inr (.inl ⟨rfl, h2, by rw [beq_eq_false_iff_ne]; exact e, h1⟩)
/-- What lies there while an entry is looked at. -/
structure EntQ (w : World) (g gs os : Nat) (l : List EntL) (r : EntL) (w' : World) : Prop where
  blk : Blk w' g 76 (entC r).toArray
  at_ : ∀ i x, l[i]? = some x → w'.rangeAt gs (os + i * 34) (entC x)
  gs_ : gs < w'.heap.size
  bel : Below w.heap.size w w'
section
variable {w : World} {g gs os : Nat} {l : List EntL} {r : EntL} {w' : World}
theorem EntQ.drew (h : EntQ w g gs os l r w') : EntQ w g gs os l r w'.drew := ⟨h.blk.drew, h.at_, h.gs_, h.bel.drew⟩
theorem EntQ.name_ (h : EntQ w g gs os l r w') : w'.cell? ⟨g, 0, none⟩ = some (.string (B r.name)) := (range_ent (range_blkEnt h.blk)).1
theorem EntQ.kind_ (h : EntQ w g gs os l r w') {n : Int} (hn : r.kind = n) : w'.cell? ⟨g, 1, none⟩ = some (.int .i64 n) := hn ▸ (range_ent (range_blkEnt h.blk)).2
theorem keepE {f : FuncId} {args : Array Value} {v : Value} {w0 : World} (h : Calls Tryd.prog f args w0 fun e w' => e = .returned v ∧ w' = w0) (hS : EntQ w g gs os l r w0) :
    Calls Tryd.prog f args w0 fun e w' => e = .returned v ∧ EntQ w g gs os l r w' :=
  h.mono fun _ _ ⟨he, hw⟩ => ⟨he, hw ▸ hS⟩
end
set_option maxRecDepth 100000 in
set_option maxHeartbeats 4000000 in
theorem entries_calls (l : List EntL) (hok : ∀ e ∈ l, EntOk e) (v : Value) (w : World) (hv : Ents w v l) : Calls Tryd.prog 65 #[v] w fun e w' => e = .returned (.bool (entsB l)) ∧ Below w.heap.size w w' := by
  have hlen := hv.len
  obtain ⟨A, cap, rfl, hcap1, hcap2, hat⟩ := hv
  have hat := Lib.hid hat
  obtain ⟨r, hr⟩ : ∃ r, Hid (r = entsB l) := ⟨_, Lib.hid rfl⟩
  rw [← hr.out]
  go_enter Tryd.func65, Tryd.ntmps65
  go_wp2
  go_loopw [7] (fun i wr => ∃ k : Nat, i = .int .i64 k ∧ k ≤ l.length ∧ Hid ((List.range k).all (entAt l) = true) ∧ Below w.heap.size w wr) (fun i _ => l.length - (intOf i).toNat)
  case atStart => exact ⟨0, rfl, by omega, rfl, Below.refl _ _⟩
  case round =>
    obtain ⟨k, rfl, hk, hall, hbel⟩ := hrel
    by_cases hlt : k < l.length
    · have hki : (k : Int) < (l.length : Int) := by omega
      obtain ⟨gs, os, rfl, hgs, hcell⟩ := hat.out (by omega)
      obtain ⟨x, hx⟩ : ∃ x, l[k]? = some x := ⟨_, List.getElem?_eq_getElem hlt⟩
      have hxok : EntOk x := hok x (List.mem_of_getElem? hx)
      have hx0 := rangeAt_below (hcell k x hx) hgs hbel
      have hxh := Lib.hid hx
      clear hx
      have hsz := hbel.size
      go_wp2_with (first
        | (refine wpList_load_mid rfl 76 (.tmp 10) rfl gs (os + k * 34) rfl (entC x) _ hx0 Tryd.underlying76 rfl (sizedEnt hxok) ?_)
        | (refine wpList_store_newEnt rfl (.tmp 4) (.tmp 11) rfl x hxok _ rfl rfl rfl ?_; intro W1 hb1 hbl1))
      obtain ⟨g, hg⟩ : ∃ g, wr.heap.size = g := ⟨_, rfl⟩
      have hS : EntQ w g gs os l x W1 := by
        have h1 := bthen hbel hsz hbl1
        exact ⟨hg ▸ hb1, fun i y hy => rangeAt_below (hcell i y hy) hgs h1, Nat.lt_of_lt_of_le hgs h1.size, h1⟩
      rw [hg]
      have hnm := fun W => name_calls x.name W
      have hx := hxh
      clear hb1 hbl1 hx0 hg hbel hxh hat hcell
      cases bn : nameB x.name with
      | false =>
        rw [bn] at hnm
        have hf : Hid (r = false) := by show r = false; rw [hr.out]; exact ents_bad hlt (entAt_no hx.out (by unfold entB; rw [bn]; rfl))
        clear hr hall bn
        refine wp_region_class (C := EntQ w g gs os l x) (by kernel_rfl) (by kernel_rfl) hS.drew ?_
        repeat
          first
            | ((with_reducible refine wpQuiet_ex ?_ ?_)
               · (go_simp; done)
               apply Exists.intro
               refine ⟨fun W hW => ?_, ?_⟩
               · first
                   | (have f1 := hW.name_
                      go_simp
                      first
                        | rfl
                        | (go_at_call 67; with_reducible exact keepE (hnm _) hW))
               simp only [Act.put, List.setIfInBounds_toArray, List.set_cons_zero, List.set_cons_succ])
            | ((with_reducible refine wpQuiet_pass ?_ ?_)
               · (first | rfl | (go_simp; done))
               simp only [Act.put, List.setIfInBounds_toArray, List.set_cons_zero, List.set_cons_succ])
        with_reducible refine wpQuiet_nil ?_
        intro w5 hW5
        go_wp2
        go_ret
        exact ⟨by rw [hf.out]; rfl, hW5.bel⟩
      | true =>
        rw [bn] at hnm
        by_cases hk12 : x.kind = 1 ∨ x.kind = 2
        · have heb : entB x = true := by
            unfold entB
            rw [bn]
            rcases hk12 with h | h <;> simp [h]
          clear bn
          rcases Nat.eq_zero_or_pos k with h0 | h0
          · have hk0 : ¬ (0 : Int) < (k : Int) := by omega
            have hk0d : decide ((0 : Int) < (k : Int)) = false := by simpa using h0
            have hk0n : decide (0 < k) = false := by simp [h0]
            have hx00 : l[0]? = some x := by rw [← h0]; exact hx.out
            have hok0 : entAt l k = true := by rw [h0]; exact entAt_zero hx00 heb
            have hst := Lib.hid (ents_step hall.out hok0)
            clear hx00 hok0 h0 heb hr hall
            rcases hk12 with hkx | hkx
            · have hkx := Lib.hid hkx
              refine wp_region_class (C := EntQ w g gs os l x) (by kernel_rfl) (by kernel_rfl) hS.drew ?_
              repeat
                first
                  | ((with_reducible refine wpQuiet_ex ?_ ?_)
                     · (go_simp; done)
                     apply Exists.intro
                     refine ⟨fun W hW => ?_, ?_⟩
                     · first
                         | (have f1 := hW.name_
                            have f3 := hW.kind_ hkx.out
                            go_simp
                            first
                              | rfl
                              | (go_at_call 67; with_reducible exact keepE (hnm _) hW))
                     simp only [Act.put, List.setIfInBounds_toArray, List.set_cons_zero, List.set_cons_succ])
                  | ((with_reducible refine wpQuiet_pass ?_ ?_)
                     · (first | rfl | (go_simp; done))
                     simp only [Act.put, List.setIfInBounds_toArray, List.set_cons_zero, List.set_cons_succ])
              with_reducible refine wpQuiet_nil ?_
              intro w5 hW5
              clear hk0 hk0d hk0n
              go_wp2
              go_roundw
              case rel => exact ⟨k + 1, by go_num, by omega, hst, hW5.bel⟩
              case measure => simp [intOf]; omega
            · have hkx := Lib.hid hkx
              refine wp_region_class (C := EntQ w g gs os l x) (by kernel_rfl) (by kernel_rfl) hS.drew ?_
              repeat
                first
                  | ((with_reducible refine wpQuiet_ex ?_ ?_)
                     · (go_simp; done)
                     apply Exists.intro
                     refine ⟨fun W hW => ?_, ?_⟩
                     · first
                         | (have f1 := hW.name_
                            have f3 := hW.kind_ hkx.out
                            go_simp
                            first
                              | rfl
                              | (go_at_call 67; with_reducible exact keepE (hnm _) hW))
                     simp only [Act.put, List.setIfInBounds_toArray, List.set_cons_zero, List.set_cons_succ])
                  | ((with_reducible refine wpQuiet_pass ?_ ?_)
                     · (first | rfl | (go_simp; done))
                     simp only [Act.put, List.setIfInBounds_toArray, List.set_cons_zero, List.set_cons_succ])
              with_reducible refine wpQuiet_nil ?_
              intro w5 hW5
              clear hk0 hk0d hk0n
              go_wp2
              go_roundw
              case rel => exact ⟨k + 1, by go_num, by omega, hst, hW5.bel⟩
              case measure => simp [intOf]; omega
          · obtain ⟨q, hq⟩ : ∃ q, l[k - 1]? = some q := ⟨_, List.getElem?_eq_getElem (show k - 1 < l.length by omega)⟩
            have hk0 : (0 : Int) < (k : Int) := by omega
            have hat1 : entAt l k = Op.bytesLess q.name x.name := by
              obtain ⟨j, rfl⟩ : ∃ j, k = j + 1 := ⟨k - 1, by omega⟩
              exact entAt_succ hx.out hq heb
            obtain ⟨u, s1, hu⟩ : ∃ u : Nat, IntKind.i64.wrap ((k : Int) - 1) = (u : Int) ∧ u = k - 1 := ⟨k - 1, by rw [IntWalk.i64_in _ (by omega)]; omega, rfl⟩
            have s3 : (u : Int) < (l.length : Int) := by omega
            have s4 : u < l.length := by omega
            have hqu : Hid (l[u]? = some q) := by show _ = _; rw [hu]; exact hq
            clear hu hq heb
            rcases two_ways q.name x.name with ⟨l1, l2, l3, l4⟩ | ⟨l1, l2, l3, l4⟩ | ⟨l1, l2, l3, l4⟩
            all_goals rw [l1] at hat1
            · have hst := Lib.hid (ents_step hall.out hat1)
              clear hat1 hr hall
              rcases hk12 with hkx | hkx
              · have hkx := Lib.hid hkx
                refine wp_region_class (C := EntQ w g gs os l x) (by kernel_rfl) (by kernel_rfl) hS.drew ?_
                repeat
                  first
                    | ((with_reducible refine wpQuiet_ex ?_ ?_)
                       · (go_simp; done)
                       apply Exists.intro
                       refine ⟨fun W hW => ?_, ?_⟩
                       · first
                           | (have f1 := hW.name_
                              have f3 := hW.kind_ hkx.out
                              have f2 : W.cell? ⟨gs, os + u * 34, none⟩ = some (.string (B q.name)) := (range_ent (hW.at_ _ q hqu.out)).1
                              go_simp
                              first
                                | rfl
                                | (go_at_call 67; with_reducible exact keepE (hnm _) hW))
                       simp only [Act.put, List.setIfInBounds_toArray, List.set_cons_zero, List.set_cons_succ])
                    | ((with_reducible refine wpQuiet_pass ?_ ?_)
                       · (first | rfl | (go_simp; done))
                       simp only [Act.put, List.setIfInBounds_toArray, List.set_cons_zero, List.set_cons_succ])
                with_reducible refine wpQuiet_nil ?_
                intro w5 hW5
                clear s1 s3 s4 l1 l2 l3 l4 hk0
                go_wp2
                go_roundw
                case rel => exact ⟨k + 1, by go_num, by omega, hst, hW5.bel⟩
                case measure => simp [intOf]; omega
              · have hkx := Lib.hid hkx
                refine wp_region_class (C := EntQ w g gs os l x) (by kernel_rfl) (by kernel_rfl) hS.drew ?_
                repeat
                  first
                    | ((with_reducible refine wpQuiet_ex ?_ ?_)
                       · (go_simp; done)
                       apply Exists.intro
                       refine ⟨fun W hW => ?_, ?_⟩
                       · first
                           | (have f1 := hW.name_
                              have f3 := hW.kind_ hkx.out
                              have f2 : W.cell? ⟨gs, os + u * 34, none⟩ = some (.string (B q.name)) := (range_ent (hW.at_ _ q hqu.out)).1
                              go_simp
                              first
                                | rfl
                                | (go_at_call 67; with_reducible exact keepE (hnm _) hW))
                       simp only [Act.put, List.setIfInBounds_toArray, List.set_cons_zero, List.set_cons_succ])
                    | ((with_reducible refine wpQuiet_pass ?_ ?_)
                       · (first | rfl | (go_simp; done))
                       simp only [Act.put, List.setIfInBounds_toArray, List.set_cons_zero, List.set_cons_succ])
                with_reducible refine wpQuiet_nil ?_
                intro w5 hW5
                clear s1 s3 s4 l1 l2 l3 l4 hk0
                go_wp2
                go_roundw
                case rel => exact ⟨k + 1, by go_num, by omega, hst, hW5.bel⟩
                case measure => simp [intOf]; omega
            · have hf : Hid (r = false) := by show r = false; rw [hr.out]; exact ents_bad hlt hat1
              clear hat1 hr hall
              rcases hk12 with hkx | hkx
              · have hkx := Lib.hid hkx
                refine wp_region_class (C := EntQ w g gs os l x) (by kernel_rfl) (by kernel_rfl) hS.drew ?_
                repeat
                  first
                    | ((with_reducible refine wpQuiet_ex ?_ ?_)
                       · (go_simp; done)
                       apply Exists.intro
                       refine ⟨fun W hW => ?_, ?_⟩
                       · first
                           | (have f1 := hW.name_
                              have f3 := hW.kind_ hkx.out
                              have f2 : W.cell? ⟨gs, os + u * 34, none⟩ = some (.string (B q.name)) := (range_ent (hW.at_ _ q hqu.out)).1
                              go_simp
                              first
                                | rfl
                                | (go_at_call 67; with_reducible exact keepE (hnm _) hW))
                       simp only [Act.put, List.setIfInBounds_toArray, List.set_cons_zero, List.set_cons_succ])
                    | ((with_reducible refine wpQuiet_pass ?_ ?_)
                       · (first | rfl | (go_simp; done))
                       simp only [Act.put, List.setIfInBounds_toArray, List.set_cons_zero, List.set_cons_succ])
                with_reducible refine wpQuiet_nil ?_
                intro w5 hW5
                go_wp2
                go_ret
                exact ⟨by rw [hf.out]; rfl, hW5.bel⟩
              · have hkx := Lib.hid hkx
                refine wp_region_class (C := EntQ w g gs os l x) (by kernel_rfl) (by kernel_rfl) hS.drew ?_
                repeat
                  first
                    | ((with_reducible refine wpQuiet_ex ?_ ?_)
                       · (go_simp; done)
                       apply Exists.intro
                       refine ⟨fun W hW => ?_, ?_⟩
                       · first
                           | (have f1 := hW.name_
                              have f3 := hW.kind_ hkx.out
                              have f2 : W.cell? ⟨gs, os + u * 34, none⟩ = some (.string (B q.name)) := (range_ent (hW.at_ _ q hqu.out)).1
                              go_simp
                              first
                                | rfl
                                | (go_at_call 67; with_reducible exact keepE (hnm _) hW))
                       simp only [Act.put, List.setIfInBounds_toArray, List.set_cons_zero, List.set_cons_succ])
                    | ((with_reducible refine wpQuiet_pass ?_ ?_)
                       · (first | rfl | (go_simp; done))
                       simp only [Act.put, List.setIfInBounds_toArray, List.set_cons_zero, List.set_cons_succ])
                with_reducible refine wpQuiet_nil ?_
                intro w5 hW5
                go_wp2
                go_ret
                exact ⟨by rw [hf.out]; rfl, hW5.bel⟩
            · have hf : Hid (r = false) := by show r = false; rw [hr.out]; exact ents_bad hlt hat1
              clear hat1 hr hall
              rcases hk12 with hkx | hkx
              · have hkx := Lib.hid hkx
                refine wp_region_class (C := EntQ w g gs os l x) (by kernel_rfl) (by kernel_rfl) hS.drew ?_
                repeat
                  first
                    | ((with_reducible refine wpQuiet_ex ?_ ?_)
                       · (go_simp; done)
                       apply Exists.intro
                       refine ⟨fun W hW => ?_, ?_⟩
                       · first
                           | (have f1 := hW.name_
                              have f3 := hW.kind_ hkx.out
                              have f2 : W.cell? ⟨gs, os + u * 34, none⟩ = some (.string (B q.name)) := (range_ent (hW.at_ _ q hqu.out)).1
                              go_simp
                              first
                                | rfl
                                | (go_at_call 67; with_reducible exact keepE (hnm _) hW))
                       simp only [Act.put, List.setIfInBounds_toArray, List.set_cons_zero, List.set_cons_succ])
                    | ((with_reducible refine wpQuiet_pass ?_ ?_)
                       · (first | rfl | (go_simp; done))
                       simp only [Act.put, List.setIfInBounds_toArray, List.set_cons_zero, List.set_cons_succ])
                with_reducible refine wpQuiet_nil ?_
                intro w5 hW5
                go_wp2
                go_ret
                exact ⟨by rw [hf.out]; rfl, hW5.bel⟩
              · have hkx := Lib.hid hkx
                refine wp_region_class (C := EntQ w g gs os l x) (by kernel_rfl) (by kernel_rfl) hS.drew ?_
                repeat
                  first
                    | ((with_reducible refine wpQuiet_ex ?_ ?_)
                       · (go_simp; done)
                       apply Exists.intro
                       refine ⟨fun W hW => ?_, ?_⟩
                       · first
                           | (have f1 := hW.name_
                              have f3 := hW.kind_ hkx.out
                              have f2 : W.cell? ⟨gs, os + u * 34, none⟩ = some (.string (B q.name)) := (range_ent (hW.at_ _ q hqu.out)).1
                              go_simp
                              first
                                | rfl
                                | (go_at_call 67; with_reducible exact keepE (hnm _) hW))
                       simp only [Act.put, List.setIfInBounds_toArray, List.set_cons_zero, List.set_cons_succ])
                    | ((with_reducible refine wpQuiet_pass ?_ ?_)
                       · (first | rfl | (go_simp; done))
                       simp only [Act.put, List.setIfInBounds_toArray, List.set_cons_zero, List.set_cons_succ])
                with_reducible refine wpQuiet_nil ?_
                intro w5 hW5
                go_wp2
                go_ret
                exact ⟨by rw [hf.out]; rfl, hW5.bel⟩
        · have d1 : (x.kind != 1) = true := by simp only [bne_iff_ne]; exact fun e => hk12 (.inl e)
          have d2 : (x.kind != 2) = true := by simp only [bne_iff_ne]; exact fun e => hk12 (.inr e)
          have d3 : (x.kind == 1) = false := by rw [beq_eq_false_iff_ne]; exact fun e => hk12 (.inl e)
          have d4 : (x.kind == 2) = false := by rw [beq_eq_false_iff_ne]; exact fun e => hk12 (.inr e)
          have heb : entB x = false := by unfold entB; rw [d3, d4]; simp
          have hf : Hid (r = false) := by show r = false; rw [hr.out]; exact ents_bad hlt (entAt_no hx.out heb)
          have d5 : ¬ x.kind = 1 := fun e => hk12 (.inl e)
          have d6 : ¬ x.kind = 2 := fun e => hk12 (.inr e)
          clear hr hall bn hk12 heb
          refine wp_region_class (C := EntQ w g gs os l x) (by kernel_rfl) (by kernel_rfl) hS.drew ?_
          repeat
            first
              | ((with_reducible refine wpQuiet_ex ?_ ?_)
                 · (go_simp; done)
                 apply Exists.intro
                 refine ⟨fun W hW => ?_, ?_⟩
                 · first
                     | (have f1 := hW.name_
                        have f3 := hW.kind_ rfl
                        go_simp
                        first
                          | rfl
                          | (go_at_call 67; with_reducible exact keepE (hnm _) hW))
                 simp only [Act.put, List.setIfInBounds_toArray, List.set_cons_zero, List.set_cons_succ])
              | ((with_reducible refine wpQuiet_pass ?_ ?_)
                 · (first | rfl | (go_simp; done))
                 simp only [Act.put, List.setIfInBounds_toArray, List.set_cons_zero, List.set_cons_succ])
          with_reducible refine wpQuiet_nil ?_
          intro w5 hW5
          go_wp2
          go_ret
          exact ⟨by rw [hf.out]; rfl, hW5.bel⟩
    · have hki : ¬ (k : Int) < (l.length : Int) := by omega
      have hf : Hid (r = decide (l.length ≤ 64)) := by
        show r = _
        rw [hr.out]
        have := hall.out
        rw [show k = l.length from by omega] at this
        exact ents_all this
      clear hall hat hr
      by_cases h64 : l.length ≤ 64
      · have i64 : (l.length : Int) ≤ 64 := by omega
        go_wp2
        go_ret
        exact ⟨by rw [hf.out, decide_eq_true h64]; rfl, hbel⟩
      · have i64 : ¬ (l.length : Int) ≤ 64 := by omega
        go_wp2
        go_ret
        exact ⟨by rw [hf.out, decide_eq_false h64]; rfl, hbel⟩
end Go.Proofs.YtnehabcopjgklaaDoor
/- The walk of layer 4: may. No condition. -/
namespace Go.Proofs.YtnehabcopjgklaaDoor
open Go.RowKit
attribute [local go_sem ↓] ldvO_eq
set_option maxRecDepth 100000 in
set_option maxHeartbeats 4000000 in
theorem may_calls (o : ObjL) (A1 A2 : Option Addr) (k1 k2 : Nat) (w : World) (hv : ObjV w (.slice A1 o.ents.length k1) (.slice A2 o.pars.length k2) o) : Calls Tryd.prog 43 #[.agg (objC o (.slice A1 o.ents.length k1) (.slice A2 o.pars.length k2)).toArray] w fun e w' => e = .returned (.bool (mayB o)) ∧ Below w.heap.size w w' := by
  have ho := hv.ok
  have hO := boxed (w := w) (ve := .slice A1 o.ents.length k1) (vp := .slice A2 o.pars.length k2) ho
  have b0 : Below w.heap.size w (w.alloc (.cells (objC o (.slice A1 o.ents.length k1) (.slice A2 o.pars.length k2)).toArray 41)) := (Below.refl _ _).alloc (Nat.le_refl _) _
  have hv0 := hv.below b0
  have hal := fun W => Lib.hid (alone_calls o ho A1 A2 k1 k2 W)
  have hld := fun W (h : ObjB W w.heap.size o (.slice A1 o.ents.length k1) (.slice A2 o.pars.length k2)) => run_ldvO h ho
  obtain ⟨W0, hW0⟩ : ∃ W0, w.alloc (.cells (objC o (.slice A1 o.ents.length k1) (.slice A2 o.pars.length k2)).toArray 41) = W0 := ⟨_, rfl⟩
  rw [hW0] at hO b0 hv0
  have hen := fun W (hb : Below W0.heap.size W0 W) => Lib.hid (entries_calls o.ents ho.ents _ W (hv0.ents.below hb))
  have hnm := fun W => Lib.hid (name_calls o.name W)
  have hki := fun W => Lib.hid (kind_calls o.of_ W)
  have c0 := hO.kind
  have q0 := hld W0 hO
  obtain ⟨r, hr⟩ : ∃ r, Hid (r = mayB o) := ⟨_, Lib.hid rfl⟩
  rw [← hr.out]
  have hr2 := hr.out
  unfold mayB at hr2
  replace hr2 := Lib.hid hr2
  have d2 := fun W (hb : Below W0.heap.size W0 W) => (hO.below hb).ents
  have d35 := fun W (hb : Below W0.heap.size W0 W) => (hO.below hb).pars
  have d70 := fun W (hb : Below W0.heap.size W0 W) => (hO.below hb).of_
  have d71 := fun W (hb : Below W0.heap.size W0 W) => (hO.below hb).name
  clear hr hO hv hv0 ho hld
  generalize (objC o (.slice A1 o.ents.length k1) (.slice A2 o.pars.length k2)).toArray = cs at *
  generalize aloneB o = A at *
  generalize entsB o.ents = E at *
  generalize nameB o.name = N at *
  generalize kindB o.of_ = K at *
  have s0 := b0.size
  by_cases h2 : o.kind = 2
  · rw [h2] at c0
    have hf : Hid (r = (A && E)) := by show r = _; rw [hr2.out, if_pos h2]
    clear hr2 h2 hnm hki d35 d70 d71
    have hal := hal W0
    cases A with
    | false =>
      clear hen d2
      go_enter Tryd.func43, Tryd.ntmps43
      go_wp2_with (first
        | ((with_reducible refine hal.out.mono ?_); rintro e w1 ⟨rfl, hb1⟩))
      go_ret
      exact ⟨by rw [hf.out]; rfl, bthen b0 s0 hb1⟩
    | true =>
      go_enter Tryd.func43, Tryd.ntmps43
      go_wp2_with (first
        | ((with_reducible refine hal.out.mono ?_); rintro e w1 ⟨rfl, hb1⟩
           have c2 := d2 w1 hb1
           have hen := hen w1 hb1
           clear hal d2)
        | ((with_reducible refine hen.out.mono ?_); rintro e w2 ⟨rfl, hb2⟩))
      go_ret
      exact ⟨by rw [hf.out]; rfl, bthen b0 s0 (bthen hb1 hb1.size hb2)⟩
  have e2 : (o.kind == 2) = false := by rw [beq_eq_false_iff_ne]; exact h2
  by_cases h3 : o.kind = 3
  · rw [h3] at c0
    have hf : Hid (r = (A && decide ((o.pars.length : Int) ≤ 8))) := by
      show r = _; rw [hr2.out, if_neg h2, if_pos h3]
      congr 1
      rw [Bool.eq_iff_iff, decide_eq_true_iff, decide_eq_true_iff]; omega
    clear hr2 h2 h3 e2 hnm hki d2 d70 d71 hen
    have hal := hal W0
    cases A with
    | false =>
      clear d35
      go_enter Tryd.func43, Tryd.ntmps43
      go_wp2_with (first
        | ((with_reducible refine hal.out.mono ?_); rintro e w1 ⟨rfl, hb1⟩))
      go_ret
      exact ⟨by rw [hf.out]; rfl, bthen b0 s0 hb1⟩
    | true =>
      go_enter Tryd.func43, Tryd.ntmps43
      go_wp2_with (first
        | ((with_reducible refine hal.out.mono ?_); rintro e w1 ⟨rfl, hb1⟩
           have c35 := d35 w1 hb1
           clear hal d35))
      go_ret
      exact ⟨by rw [hf.out]; rfl, bthen b0 s0 hb1⟩
  have e3 : (o.kind == 3) = false := by rw [beq_eq_false_iff_ne]; exact h3
  by_cases h4 : o.kind = 4
  · rw [h4] at c0
    have hf : Hid (r = (A && K && N)) := by show r = _; rw [hr2.out, if_neg h2, if_neg h3, if_pos h4]
    clear hr2 h2 h3 h4 e2 e3 hen d2 d35
    have hal := hal W0
    cases A with
    | false =>
      clear hnm hki d70 d71
      go_enter Tryd.func43, Tryd.ntmps43
      go_wp2_with (first
        | ((with_reducible refine hal.out.mono ?_); rintro e w1 ⟨rfl, hb1⟩))
      go_ret
      exact ⟨by rw [hf.out]; rfl, bthen b0 s0 hb1⟩
    | true =>
      cases K with
      | false =>
        clear hnm d71
        go_enter Tryd.func43, Tryd.ntmps43
        go_wp2_with (first
          | ((with_reducible refine hal.out.mono ?_); rintro e w1 ⟨rfl, hb1⟩
             have c70 := d70 w1 hb1
             have hki := hki w1
             clear hal d70)
          | ((with_reducible refine hki.out.mono ?_); rintro e w2 ⟨rfl, rfl⟩))
        go_ret
        exact ⟨by rw [hf.out]; rfl, bthen b0 s0 hb1⟩
      | true =>
        go_enter Tryd.func43, Tryd.ntmps43
        go_wp2_with (first
          | ((with_reducible refine hal.out.mono ?_); rintro e w1 ⟨rfl, hb1⟩
             have c70 := d70 w1 hb1
             have c71 := d71 w1 hb1
             have hki := hki w1
             have hnm := hnm w1
             clear hal d70 d71)
          | ((with_reducible refine hki.out.mono ?_); rintro e w2 ⟨rfl, rfl⟩)
          | ((with_reducible refine hnm.out.mono ?_); rintro e w3 ⟨rfl, rfl⟩))
        go_ret
        exact ⟨by rw [hf.out]; rfl, bthen b0 s0 hb1⟩
  have e4 : (o.kind == 4) = false := by rw [beq_eq_false_iff_ne]; exact h4
  have hf : Hid (r = (o.kind == 1 && A)) := by show r = _; rw [hr2.out, if_neg h2, if_neg h3, if_neg h4]
  have hal := hal W0
  clear hr2 hnm hki d2 d35 d70 d71 hen
  by_cases h1 : o.kind = 1
  · rw [h1] at c0 hf
    clear h1 h2 h3 h4 e2 e3 e4
    go_enter Tryd.func43, Tryd.ntmps43
    go_wp2_with (first
      | ((with_reducible refine hal.out.mono ?_); rintro e w1 ⟨rfl, hb1⟩))
    go_ret
    exact ⟨by rw [hf.out]; rfl, bthen b0 s0 hb1⟩
  · have e1 : (o.kind == 1) = false := by rw [beq_eq_false_iff_ne]; exact h1
    rw [e1] at hf
    clear hal
    go_enter Tryd.func43, Tryd.ntmps43
    go_wp2
    go_ret
    exact ⟨by rw [hf.out]; simp [e1], b0⟩
end Go.Proofs.YtnehabcopjgklaaDoor
/- The walk of layer 4: knapsackref04.May. No condition. -/
namespace Go.Proofs.YtnehabcopjgklaaDoor
open Go.RowKit
attribute [local go_sem ↓] ldvI_eq
theorem commit_eq (o : ObjL) : commitN o = (decide (o.tree = List.replicate 32 0) && decide ((o.pars.length : Int) = 0) && decide ((o.time : Int) = 0) && o.text.isEmpty) := by
  rw [show decide ((o.pars.length : Int) = 0) = (o.pars.length == 0) from by rw [Bool.eq_iff_iff, decide_eq_true_iff, beq_iff_eq]; omega, show decide ((o.time : Int) = 0) = (o.time == 0) from by rw [Bool.eq_iff_iff, decide_eq_true_iff, beq_iff_eq]; omega]
  rfl
theorem tag_eq (o : ObjL) : tagN o = (decide (o.target = List.replicate 32 0) && decide (o.of_ = 0) && o.name.isEmpty) := by
  rw [show decide (o.of_ = 0) = (o.of_ == 0) from by rw [Bool.eq_iff_iff, decide_eq_true_iff, beq_iff_eq]]
  rfl
theorem run_zero {w : World} {g : Nat} (h : Blk w g 24 (u8s (List.replicate 32 0))) : (ldvI ⟨g, 0, none⟩).run Tryd.prog w = .ok (.agg #[.int .u8 0, .int .u8 0, .int .u8 0, .int .u8 0, .int .u8 0, .int .u8 0, .int .u8 0, .int .u8 0, .int .u8 0, .int .u8 0, .int .u8 0, .int .u8 0, .int .u8 0, .int .u8 0, .int .u8 0, .int .u8 0, .int .u8 0, .int .u8 0, .int .u8 0, .int .u8 0, .int .u8 0, .int .u8 0, .int .u8 0, .int .u8 0, .int .u8 0, .int .u8 0, .int .u8 0, .int .u8 0, .int .u8 0, .int .u8 0, .int .u8 0, .int .u8 0]) w := by
  rw [zero_cells]
  exact run_ldvI_at (range_blk h) (by simp)
theorem lit_new_zero {ops : Array Oper} {rest : List Oper} {a : Act} {W : World} {Q : Exit → Act → World → Prop} {d : Option Tmp} {rt : TypeId} {pos : String} {af : Array Edge} (x y : Operand) (zs : Array Value) (hz : zs.size = 32) (hx : a.eval x = .pointer (some ⟨W.heap.size, 0, none⟩)) (hy : a.eval y = .agg #[.int .u8 0, .int .u8 0, .int .u8 0, .int .u8 0, .int .u8 0, .int .u8 0, .int .u8 0, .int .u8 0, .int .u8 0, .int .u8 0, .int .u8 0, .int .u8 0, .int .u8 0, .int .u8 0, .int .u8 0, .int .u8 0, .int .u8 0, .int .u8 0, .int .u8 0, .int .u8 0, .int .u8 0, .int .u8 0, .int .u8 0, .int .u8 0, .int .u8 0, .int .u8 0, .int .u8 0, .int .u8 0, .int .u8 0, .int .u8 0, .int .u8 0, .int .u8 0])
    (h : ∀ W1, Blk W1 W.heap.size 24 (u8s (List.replicate 32 0)) → Below W.heap.size W W1 → wpList Tryd.prog ops Q rest (a.put d undef) W1) :
    wpList Tryd.prog ops Q ({ dst := d, op := .store 24 x y, type := rt, pos := pos, after := af, guard := none } :: rest) a (W.alloc (.cells zs 24)) :=
  wpList_store_newId rfl x y rfl (List.replicate 32 0) (by simp) zs hx (hy.trans (congrArg Value.agg zero_cells)) hz h
theorem lit_load_ent {ops : Array Oper} {rest : List Oper} {a : Act} {w : World} {Q : Exit → Act → World → Prop} {d : Option Tmp} {rt : TypeId} {pos : String} {af : Array Edge} (x : Operand) (b o : Nat) (r : EntL) (hr : EntOk r) (hc : w.rangeAt b o (entC r)) (hx : a.eval x = .pointer (some ⟨b, o, none⟩))
    (h : wpList Tryd.prog ops Q rest (a.put d (.agg (entC r).toArray)) w) : wpList Tryd.prog ops Q ({ dst := d, op := .load 76 x, type := rt, pos := pos, after := af, guard := none } :: rest) a w :=
  wpList_load_mid rfl _ x rfl b o hx _ _ hc Tryd.underlying76 rfl (sizedEnt hr) h
theorem lit_new_ent {ops : Array Oper} {rest : List Oper} {a : Act} {w : World} {Q : Exit → Act → World → Prop} {d : Option Tmp} {rt : TypeId} {pos : String} {af : Array Edge} (x y : Operand) (r : EntL) (hr : EntOk r) (zs : Array Value) (hz : zs.size = 34) (hx : a.eval x = .pointer (some ⟨w.heap.size, 0, none⟩)) (hy : a.eval y = .agg (entC r).toArray)
    (h : ∀ W1, Blk W1 w.heap.size 76 (entC r).toArray → Below w.heap.size w W1 → wpList Tryd.prog ops Q rest (a.put d undef) W1) :
    wpList Tryd.prog ops Q ({ dst := d, op := .store 76 x y, type := rt, pos := pos, after := af, guard := none } :: rest) a (w.alloc (.cells zs 76)) :=
  wpList_store_newEnt rfl x y rfl r hr zs hx hy hz h
theorem treeN_two (o : ObjL) (h : o.kind = 2) : mayB o = (blobN o && commitN o && tagN o && entsB o.ents) := by unfold mayB aloneB; rw [if_pos h, if_neg (by omega), if_pos h]
theorem may_one (o : ObjL) (h : o.kind = 1) : mayB o = (treeN o && commitN o && tagN o) := by unfold mayB aloneB; rw [if_neg (by omega), if_neg (by omega), if_neg (by omega), if_pos h, h]; rfl
theorem may_three (o : ObjL) (h : o.kind = 3) : mayB o = (blobN o && treeN o && tagN o && decide (o.pars.length ≤ 8)) := by unfold mayB aloneB; rw [if_neg (by omega), if_pos h, if_neg (by omega), if_neg (by omega), if_pos h]
theorem may_four (o : ObjL) (h : o.kind = 4) : mayB o = (blobN o && treeN o && commitN o && kindB o.of_ && nameB o.name) := by unfold mayB aloneB; rw [if_neg (by omega), if_neg (by omega), if_pos h, if_neg (by omega), if_neg (by omega), if_neg (by omega)]
theorem may_none (o : ObjL) (h : o.kind < 1 ∨ 4 < o.kind) : mayB o = false := by
  unfold mayB
  rw [if_neg (by omega), if_neg (by omega), if_neg (by omega)]
  have : (o.kind == 1) = false := by rw [beq_eq_false_iff_ne]; omega
  rw [this]; rfl
set_option maxRecDepth 100000 in
set_option maxHeartbeats 4000000 in
theorem refMay_calls2 (o : ObjL) (hk : o.kind = 2) (A1 A2 : Option Addr) (k1 k2 : Nat) (w : World) (hv : ObjV w (.slice A1 o.ents.length k1) (.slice A2 o.pars.length k2) o) : Calls Tryd.prog 51 #[.agg (objC o (.slice A1 o.ents.length k1) (.slice A2 o.pars.length k2)).toArray] w fun e w' => e = .returned (.bool (mayB o)) ∧ Below w.heap.size w w' := by
  have ho := hv.ok
  have hO := boxed (w := w) (ve := .slice A1 o.ents.length k1) (vp := .slice A2 o.pars.length k2) ho
  have b0 : Below w.heap.size w (w.alloc (.cells (objC o (.slice A1 o.ents.length k1) (.slice A2 o.pars.length k2)).toArray 41)) := (Below.refl _ _).alloc (Nat.le_refl _) _
  have hv0 := hv.below b0
  obtain ⟨W0, hW0⟩ : ∃ W0, w.alloc (.cells (objC o (.slice A1 o.ents.length k1) (.slice A2 o.pars.length k2)).toArray 41) = W0 := ⟨_, rfl⟩
  rw [hW0] at hO b0 hv0
  have c0 := hO.kind
  have g1 := fun W => run_ldvI_at (w := W) (g := w.heap.size) (o := 3) (l := o.tree)
  have g2 := fun W => run_ldvI_at (w := W) (g := w.heap.size) (o := 38) (l := o.target)
  have z1 := fun W => equalIn_zero o.tree ho.tree W
  have z2 := fun W => equalIn_zero o.target ho.target W
  have e1 := Lib.hid (commit_eq o)
  have e2 := Lib.hid (tag_eq o)
  have ht : o.time < 4294967296 := ho.time
  obtain ⟨r, hr⟩ : ∃ r, Hid (r = mayB o) := ⟨_, Lib.hid rfl⟩
  rw [← hr.out]
  have hr2 := hr.out
  rw [treeN_two o hk, commit_eq, tag_eq] at hr2
  have hX : blobN o = List.isEmpty o.data := rfl
  rw [hX] at hr2
  replace hr2 := Lib.hid hr2
  rw [hk] at c0
  have htr := Lib.hid ho.tree
  have hta := Lib.hid ho.target
  have hoE := Lib.hid ho.ents
  obtain ⟨E, hE⟩ : ∃ E, Hid (E = entsB o.ents) := ⟨_, Lib.hid rfl⟩
  rw [← hE.out] at hr2
  clear hr ho hX hv e1 e2
  generalize decide (o.tree = List.replicate 32 0) = T at *
  generalize decide (o.target = List.replicate 32 0) = G at *
  obtain ⟨Pz, hPz⟩ : ∃ Pz, decide ((o.pars.length : Int) = 0) = Pz := ⟨_, rfl⟩
  have hP1 : 0 < o.pars.length → Pz = false := fun h => by rw [← hPz]; exact decide_eq_false (by omega)
  have hP2 : ¬ 0 < o.pars.length → Pz = true := fun h => by rw [← hPz]; exact decide_eq_true (by omega)
  replace hP1 := Lib.hid hP1
  replace hP2 := Lib.hid hP2
  have hr3 := hr2.out
  rw [hPz] at hr3
  replace hr2 := Lib.hid hr3
  clear hPz hr3
  generalize hcs : (objC o (.slice A1 o.ents.length k1) (.slice A2 o.pars.length k2)).toArray = cs at *
  clear hcs
  have s0 := b0.size
  go_enter Tryd.func51, Tryd.ntmps51
  go_upto_region 4 with (first
    | ((with_reducible refine lit_new_zero (.tmp 3) (.tmp 16) _ ?_ ?_ ?_ ?_); rfl; rfl; rfl
       intro W1 hb1 hbl1
       have hO1 := hO.below hbl1
       have c1 := hO1.data
       have c2 := hO1.ents
       have c35 := hO1.pars
       have c36 := hO1.time
       have c37 := hO1.text
       have c70 := hO1.of_
       have c71 := hO1.name
       have c0' := hO1.kind
       rw [hk] at c0'
       have q1 := g1 W1 hO1.tree htr.out
       have q2 := g2 W1 hO1.target hta.out
       have q3 := run_zero hb1))
  clear c0 hO hb1 htr hta g1 g2 hW0
  have hE64 : (64 : Int) < (o.ents.length : Int) → E = false := fun h => by
    rw [hE.out]; unfold entsB
    rw [Bool.and_eq_false_iff]
    exact .inr (decide_eq_false (by omega))
  have b1 := b0.trans (hbl1.mono s0)
  have hat : Hid (0 < o.ents.length → ∃ g os, A1 = some ⟨g, os, none⟩ ∧ g < W1.heap.size ∧ ∀ i x, o.ents[i]? = some x → W1.rangeAt g (os + i * 34) (entC x)) := by
    obtain ⟨A, cap, he, _, _, h⟩ := hv0.ents.below hbl1
    injection he with he _ _
    subst he
    exact h
  have sz1 := Nat.le_trans s0 hbl1.size
  clear b0 hbl1 hv0
  go_upto_region 16 with fail
  all_goals try
    (go_ret
     refine ⟨?_, b1⟩
     rw [hr2.out]
     have hP1 := hP1.out
     have hP2 := hP2.out
     clear z1 z2 c1 c2 c35 c36 c37 c70 c71 q1 q2 q3 hO1 c0' hE hr2 hat hoE
     simp_all
     done)
  have hrE : Hid (r = E) := by
    show r = E
    rw [hr2.out]
    have hP1 := hP1.out
    have hP2 := hP2.out
    clear z1 z2 c1 c2 c35 c36 c37 c70 c71 q1 q2 q3 hO1 c0' hE hr2 hat hoE
    simp_all
  have h64 : (o.ents.length : Int) ≤ 64 := by first | assumption | omega
  clear hP1 hP2 hr2 z1 z2 c1 c35 c36 c37 c70 c71 q1 q2 q3 c0' hE64 c2 ht
  go_cut [5] (fun s5 wx => s5 = .int .i64 0 ∧ wx = W1)
  case first =>
    go_wp2
    go_meet
    case rel => exact ⟨rfl, rfl⟩
  obtain ⟨rfl, rfl⟩ := hcut
  go_wp2
  go_loopw [5] (fun vi wr => ∃ k : Nat, vi = .int .i64 k ∧ k ≤ o.ents.length ∧ Hid ((List.range k).all (entAt o.ents) = true) ∧ Below wc.heap.size wc wr) (fun vi _ => o.ents.length - (intOf vi).toNat)
  case atStart => exact ⟨0, rfl, by omega, rfl, Below.refl _ _⟩
  case round =>
    obtain ⟨k, rfl, hk', hall, hbel⟩ := hrel
    have hsz := hbel.size
    have hOr := hO1.below hbel
    have c2 := hOr.ents
    by_cases hlt : k < o.ents.length
    · have hki : (k : Int) < (o.ents.length : Int) := by omega
      obtain ⟨gs, os, rfl, hgs, hcell⟩ := hat.out (by omega)
      obtain ⟨x, hx⟩ : ∃ x, o.ents[k]? = some x := ⟨_, List.getElem?_eq_getElem hlt⟩
      have hxok : EntOk x := hoE.out x (List.mem_of_getElem? hx)
      have hx0 := rangeAt_below (hcell k x hx) hgs hbel
      have hxh := Lib.hid hx
      clear hx hat hoE
      have hnm := fun W => Lib.hid (refName_calls x.name hxok.name W)
      cases bn : nameB x.name with
      | false =>
        have hf : Hid (r = false) := by show r = false; rw [hrE.out, hE.out]; exact ents_bad hlt (entAt_no hxh.out (by unfold entB; rw [bn]; rfl))
        rw [bn] at hnm
        clear hE hrE hall bn
        go_wp2_with (first
          | ((with_reducible refine lit_load_ent (.tmp 113) gs (os + k * 34) x hxok hx0 ?_ ?_); rfl)
          | ((with_reducible refine lit_new_ent (.tmp 6) (.tmp 114) x hxok _ ?_ ?_ ?_ ?_); rfl; rfl; rfl; intro W2 hb2 hbl2
             have cn := (range_ent (range_blkEnt hb2)).1
             have hnm := hnm W2)
          | ((with_reducible refine hnm.out.mono ?_); rintro e w3 ⟨rfl, rfl⟩))
        all_goals try (exfalso; omega)
        go_ret
        exact ⟨by rw [hf.out]; rfl, b1.trans ((bthen hbel hsz hbl2).mono sz1)⟩
      | true =>
        rw [bn] at hnm
        by_cases hk12 : x.kind = 1 ∨ x.kind = 2
        · have heb : entB x = true := by
            unfold entB
            rw [bn]
            rcases hk12 with h | h <;> simp [h]
          have d1 : ¬ x.kind < 1 := by omega
          have d2 : ¬ 2 < x.kind := by omega
          clear bn hk12
          rcases Nat.eq_zero_or_pos k with h0 | h0
          · have hk0 : ¬ (0 : Int) < (k : Int) := by omega
            have hk0d : decide ((0 : Int) < (k : Int)) = false := by simpa using h0
            have hk0n : decide (0 < k) = false := by simp [h0]
            have hx00 : o.ents[0]? = some x := by rw [← h0]; exact hxh.out
            have hok0 : entAt o.ents k = true := by rw [h0]; exact entAt_zero hx00 heb
            have hst := Lib.hid (ents_step hall.out hok0)
            clear hx00 hok0 h0 heb hall hE hrE
            go_wp2_with (first
              | ((with_reducible refine lit_load_ent (.tmp 113) gs (os + k * 34) x hxok hx0 ?_ ?_); rfl)
              | ((with_reducible refine lit_new_ent (.tmp 6) (.tmp 114) x hxok _ ?_ ?_ ?_ ?_); rfl; rfl; rfl; intro W2 hb2 hbl2
                 have cn := (range_ent (range_blkEnt hb2)).1
                 have ck := (range_ent (range_blkEnt hb2)).2
                 have c2' := (hOr.below hbl2).ents
                 have bel2 := b1.trans ((bthen hbel hsz hbl2).mono sz1)
                 have bel1 := bthen hbel hsz hbl2
                 have hnm := hnm W2)
              | ((with_reducible refine hnm.out.mono ?_); rintro e w3 ⟨rfl, rfl⟩))
            all_goals try (exfalso; omega)
            go_quiet (fail)
            clear hk0 hk0d hk0n
            go_wp2
            go_roundw
            case rel => exact ⟨k + 1, by go_num, by omega, hst, bdrewN bel1 nq⟩
            case measure => simp [intOf]; omega
          · obtain ⟨q, hq⟩ : ∃ q, o.ents[k - 1]? = some q := ⟨_, List.getElem?_eq_getElem (show k - 1 < o.ents.length by omega)⟩
            have hk0 : (0 : Int) < (k : Int) := by omega
            have hat1 : entAt o.ents k = Op.bytesLess q.name x.name := by
              obtain ⟨j, rfl⟩ : ∃ j, k = j + 1 := ⟨k - 1, by omega⟩
              exact entAt_succ hxh.out hq heb
            obtain ⟨u, s1, hu⟩ : ∃ u : Nat, IntKind.i64.wrap ((k : Int) - 1) = (u : Int) ∧ u = k - 1 := ⟨k - 1, by rw [IntWalk.i64_in _ (by omega)]; omega, rfl⟩
            have s3 : (u : Int) < (o.ents.length : Int) := by omega
            have s4 : u < o.ents.length := by omega
            have hqu : Hid (o.ents[u]? = some q) := by show _ = _; rw [hu]; exact hq
            clear hu hq heb
            rcases two_ways q.name x.name with ⟨l1, l2, l3, l4⟩ | ⟨l1, l2, l3, l4⟩ | ⟨l1, l2, l3, l4⟩
            all_goals rw [l1] at hat1
            · have hst := Lib.hid (ents_step hall.out hat1)
              clear hat1 hall hE hrE
              go_wp2_with (first
                | ((with_reducible refine lit_load_ent (.tmp 113) gs (os + k * 34) x hxok hx0 ?_ ?_); rfl)
                | ((with_reducible refine lit_new_ent (.tmp 6) (.tmp 114) x hxok _ ?_ ?_ ?_ ?_); rfl; rfl; rfl; intro W2 hb2 hbl2
                   have cn := (range_ent (range_blkEnt hb2)).1
                   have ck := (range_ent (range_blkEnt hb2)).2
                   have c2' := (hOr.below hbl2).ents
                   have bel2 := b1.trans ((bthen hbel hsz hbl2).mono sz1)
                   have bel1 := bthen hbel hsz hbl2
                   have c3 : W2.cell? ⟨gs, os + u * 34, none⟩ = some (.string (B q.name)) := (range_ent (rangeAt_below (hcell u q hqu.out) hgs bel1)).1
                   have hnm := hnm W2)
                | ((with_reducible refine hnm.out.mono ?_); rintro e w3 ⟨rfl, rfl⟩))
              all_goals try (exfalso; omega)
              go_quiet (fail)
              clear s1 s3 s4 l1 l2 l3 l4 hk0
              go_wp2
              go_roundw
              case rel => exact ⟨k + 1, by go_num, by omega, hst, bdrewN bel1 nq⟩
              case measure => simp [intOf]; omega
            · have hf : Hid (r = false) := by show r = false; rw [hrE.out, hE.out]; exact ents_bad hlt hat1
              clear hat1 hall hE hrE
              go_wp2_with (first
                | ((with_reducible refine lit_load_ent (.tmp 113) gs (os + k * 34) x hxok hx0 ?_ ?_); rfl)
                | ((with_reducible refine lit_new_ent (.tmp 6) (.tmp 114) x hxok _ ?_ ?_ ?_ ?_); rfl; rfl; rfl; intro W2 hb2 hbl2
                   have cn := (range_ent (range_blkEnt hb2)).1
                   have ck := (range_ent (range_blkEnt hb2)).2
                   have c2' := (hOr.below hbl2).ents
                   have bel2 := b1.trans ((bthen hbel hsz hbl2).mono sz1)
                   have bel1 := bthen hbel hsz hbl2
                   have c3 : W2.cell? ⟨gs, os + u * 34, none⟩ = some (.string (B q.name)) := (range_ent (rangeAt_below (hcell u q hqu.out) hgs bel1)).1
                   have hnm := hnm W2)
                | ((with_reducible refine hnm.out.mono ?_); rintro e w3 ⟨rfl, rfl⟩))
              all_goals try (exfalso; omega)
              go_quiet (fail)
              go_wp2
              go_ret
              exact ⟨by rw [hf.out]; rfl, bdrewN bel2 nq⟩
            · have hf : Hid (r = false) := by show r = false; rw [hrE.out, hE.out]; exact ents_bad hlt hat1
              clear hat1 hall hE hrE
              go_wp2_with (first
                | ((with_reducible refine lit_load_ent (.tmp 113) gs (os + k * 34) x hxok hx0 ?_ ?_); rfl)
                | ((with_reducible refine lit_new_ent (.tmp 6) (.tmp 114) x hxok _ ?_ ?_ ?_ ?_); rfl; rfl; rfl; intro W2 hb2 hbl2
                   have cn := (range_ent (range_blkEnt hb2)).1
                   have ck := (range_ent (range_blkEnt hb2)).2
                   have c2' := (hOr.below hbl2).ents
                   have bel2 := b1.trans ((bthen hbel hsz hbl2).mono sz1)
                   have bel1 := bthen hbel hsz hbl2
                   have c3 : W2.cell? ⟨gs, os + u * 34, none⟩ = some (.string (B q.name)) := (range_ent (rangeAt_below (hcell u q hqu.out) hgs bel1)).1
                   have hnm := hnm W2)
                | ((with_reducible refine hnm.out.mono ?_); rintro e w3 ⟨rfl, rfl⟩))
              all_goals try (exfalso; omega)
              go_quiet (fail)
              go_wp2
              go_ret
              exact ⟨by rw [hf.out]; rfl, bdrewN bel2 nq⟩
        · have heb : entB x = false := by
            unfold entB
            have e1 : (x.kind == 1) = false := by rw [beq_eq_false_iff_ne]; omega
            have e2 : (x.kind == 2) = false := by rw [beq_eq_false_iff_ne]; omega
            rw [e1, e2]; simp
          have hf : Hid (r = false) := by show r = false; rw [hrE.out, hE.out]; exact ents_bad hlt (entAt_no hxh.out heb)
          clear heb hall hE hrE bn
          by_cases d1 : x.kind < 1
          · clear hk12
            go_wp2_with (first
              | ((with_reducible refine lit_load_ent (.tmp 113) gs (os + k * 34) x hxok hx0 ?_ ?_); rfl)
              | ((with_reducible refine lit_new_ent (.tmp 6) (.tmp 114) x hxok _ ?_ ?_ ?_ ?_); rfl; rfl; rfl; intro W2 hb2 hbl2
                 have cn := (range_ent (range_blkEnt hb2)).1
                 have ck := (range_ent (range_blkEnt hb2)).2
                 have c2' := (hOr.below hbl2).ents
                 have bel2 := b1.trans ((bthen hbel hsz hbl2).mono sz1)
                 have bel1 := bthen hbel hsz hbl2
                 have hnm := hnm W2)
              | ((with_reducible refine hnm.out.mono ?_); rintro e w3 ⟨rfl, rfl⟩))
            all_goals try (exfalso; omega)
            go_ret
            exact ⟨by rw [hf.out]; rfl, bel2⟩
          · have d2 : 2 < x.kind := by omega
            clear hk12
            go_wp2_with (first
              | ((with_reducible refine lit_load_ent (.tmp 113) gs (os + k * 34) x hxok hx0 ?_ ?_); rfl)
              | ((with_reducible refine lit_new_ent (.tmp 6) (.tmp 114) x hxok _ ?_ ?_ ?_ ?_); rfl; rfl; rfl; intro W2 hb2 hbl2
                 have cn := (range_ent (range_blkEnt hb2)).1
                 have ck := (range_ent (range_blkEnt hb2)).2
                 have c2' := (hOr.below hbl2).ents
                 have bel2 := b1.trans ((bthen hbel hsz hbl2).mono sz1)
                 have bel1 := bthen hbel hsz hbl2
                 have hnm := hnm W2)
              | ((with_reducible refine hnm.out.mono ?_); rintro e w3 ⟨rfl, rfl⟩))
            all_goals try (exfalso; omega)
            go_ret
            exact ⟨by rw [hf.out]; rfl, bel2⟩
    · have hki : ¬ (k : Int) < (o.ents.length : Int) := by omega
      have hf : Hid (r = true) := by
        show r = true
        rw [hrE.out, hE.out]
        have := hall.out
        rw [show k = o.ents.length from by omega] at this
        rw [ents_all this]
        exact decide_eq_true (by omega)
      clear hall hat hE hrE
      go_wp2
      go_ret
      exact ⟨by rw [hf.out]; rfl, b1.trans (hbel.mono sz1)⟩
end Go.Proofs.YtnehabcopjgklaaDoor
/- The walks of strings.Builder's WriteString at this program. No condition. -/
namespace Go.Proofs.YtnehabcopjgklaaDoor
open Go.RowKit
theorem bldSize : (Tryd.prog.info? 133).map (·.size) = some 2 := by kernel_rfl
set_option maxRecDepth 100000 in
set_option maxHeartbeats 1000000 in
theorem copyCheck_used (b : Nat) (w : World) (h0 : w.cell? ⟨b, 0, none⟩ = some (.pointer (some ⟨b, 0, none⟩))) :
    Calls Tryd.prog 92 #[.pointer (some ⟨b, 0, none⟩)] w fun e w' => e = .returned (.tuple #[]) ∧ w' = w := by
  obtain ⟨j, hj, _⟩ := Option.map_eq_some_iff.1 bldSize
  go_enter Tryd.func92, Tryd.ntmps92
  go_wp2
  rw [Lib.run_neq_ptr_same w _ Tryd.underlying131 hj]
  go_wp2
  go_end0
  exact ⟨rfl, rfl⟩
theorem bldLies : liesAt Tryd.prog Tryd.prog.depth 133 (2 / Tryd.prog.cellsOf 133) 0 133 1 = true := by kernel_rfl
set_option maxRecDepth 100000 in
set_option maxHeartbeats 1000000 in
theorem copyCheck_fresh (b : Nat) (w : World) (h0 : w.cell? ⟨b, 0, none⟩ = some (.pointer none)) (hsh : w.shape? b = some (133, 2)) (hfz : w.frozen? ⟨b, 0, none⟩ = false) :
    Calls Tryd.prog 92 #[.pointer (some ⟨b, 0, none⟩)] w fun e w' => e = .returned (.tuple #[]) ∧ w' = w.setCell ⟨b, 0, none⟩ (.pointer (some ⟨b, 0, none⟩)) := by
  obtain ⟨j, hj, hjs⟩ := Option.map_eq_some_iff.1 bldSize
  go_enter Tryd.func92, Tryd.ntmps92
  go_wp2
  rw [Lib.run_to_unsafe w ⟨b, 0, none⟩ Tryd.underlying131 Tryd.underlying152 hj (by rw [hjs]; decide) hsh (Nat.zero_lt_succ 1)]
  simp only [Result.andThen]
  rw [Oper.upon_value]
  go_wp2
  rw [run_callFunc_extern Tryd.func98 (by kernel_rfl) (by kernel_rfl) (by kernel_rfl) (e := Extern.AbiNoEscape.same) (by kernel_rfl)]
  rw [Lib.run_noEscape]
  simp only [Result.andThen]
  rw [Oper.upon_value]
  go_wp2
  rw [Lib.run_from_unsafe w ⟨b, 0, none⟩ Tryd.underlying152 Tryd.underlying131 hj hsh bldLies]
  simp only [Result.andThen]
  rw [Oper.upon_value]
  go_wp2
  go_end0
  exact ⟨rfl, rfl⟩
theorem copyCheck_calls (B0 b : Nat) (bs : List Value) (w : World) (h : Lib.IsBuilder 133 5 B0 b bs w) :
    Calls Tryd.prog 92 #[.pointer (some ⟨b, 0, none⟩)] w fun e w' => e = .returned (.tuple #[]) ∧ Lib.BuilderAt 133 5 B0 b (.pointer (some ⟨b, 0, none⟩)) bs w' ∧ Below B0 w w' ∧ ∀ k, k ≠ b → w'.heap[k]? = w.heap[k]? := by
  rcases h with h | h
  · exact (copyCheck_fresh b w h.cell0 h.shape h.frozen0).mono fun e w' ⟨he, hw⟩ => by
      subst hw
      exact ⟨he, h.used _, (Below.refl B0 w).setCell (p := ⟨b, 0, none⟩) h.1 _, fun k hk => Below.heap_setCell w ⟨b, 0, none⟩ _ k hk⟩
  · exact (copyCheck_used b w h.cell0).mono fun e w' ⟨he, hw⟩ => by
      subst hw
      exact ⟨he, h, Below.refl B0 _, fun _ _ => rfl⟩
theorem grown_setCell (w : World) (p : Addr) (v : Value) : w.grownBy (w.setCell p v) (some p.block) :=
  ⟨rfl, rfl, rfl, by simp, fun k _ hk => Below.heap_setCell w p v k (fun e => hk (by rw [e]))⟩
set_option maxRecDepth 100000 in
set_option maxHeartbeats 1000000 in
theorem writeString_calls (B0 b : Nat) (l t : List UInt8) (w : World) (h : Lib.IsBuilder 133 5 B0 b (l.map u8v) w) (hlen : l.length + t.length ≤ 70368744177664) (hBw : B0 ≤ w.heap.size) :
    Calls Tryd.prog 82 #[.pointer (some ⟨b, 0, none⟩), .string (B t)] w fun e w' => e = .returned (.tuple #[.int .i64 t.length, .nilIface]) ∧ Lib.IsBuilder 133 5 B0 b ((l ++ t).map u8v) w' ∧ Below B0 w w' ∧ ∀ k T cs, Blk w k T cs → 5 ≠ T → k ≠ b → Blk w' k T cs := by
  have hcc := Lib.hid (copyCheck_calls B0 b (l.map u8v) w h)
  have hne5 : (5 : TypeId) ≠ 133 := by decide
  clear h
  go_enter Tryd.func82, Tryd.ntmps82
  go_wp2_with (first
    | (go_at_call 92; go_must (refine hcc.out.mono ?_); rintro e w1 ⟨rfl, h1, hb1, hfar1⟩
       obtain ⟨hB, v, hbk', hown', hne⟩ := h1
       have hbk : Blk w1 b 133 #[.pointer (some ⟨b, 0, none⟩), v] := hbk'
       have hown : OwnB w1 B0 5 v l := by unfold OwnB; rw [List.length_map] at hown'; exact hown'
       have c1 : w1.cell? ⟨b, 1, none⟩ = some v := hbk.cell 1
       have hbs1 := Nat.le_trans hBw hb1.size
       have hfar1 : ∀ k T cs, Blk w k T cs → k ≠ b → Blk w1 k T cs := fun k T cs h hk => (hfar1 k hk).trans h
       have hfar1 := Lib.hid hfar1
       clear hbk' hown' hcc)
    | (at_builtin
       refine wpList_append_bytes rfl (.tmp 12) (.tmp 13) _ _ rfl 5 Tryd.bytesTy Tryd.underlying9 B0 v l rfl hown t rfl hlen w hb1 hbs1 ?_
       intro v2 w2 hown2 hb2 hg2
       have hbk2 := hbk.grown hg2 (own_blk_ne hown hbk hne5)
       have c2 : w2.cell? ⟨b, 1, none⟩ = some v := hbk2.cell 1
       have f2 : w2.frozen? ⟨b, 1, none⟩ = false := hbk2.frozen 1
       have hvb := own_blk_ne hown2 hbk2 hne5
       obtain ⟨A2, cap2, hv2⟩ := OwnB.form' hown2
       subst hv2
       have hfar2 : Hid (∀ k T cs, Blk w1 k T cs → 5 ≠ T → Blk w2 k T cs) := fun k T cs h hT => h.grown hg2 (own_blk_ne hown h hT)
       clear hg2 c1))
  go_ret2
  have hbk3 : Blk (w2.setCell ⟨b, 1, none⟩ (.slice A2 (l ++ t).length cap2)) b 133 #[.pointer (some ⟨b, 0, none⟩), .slice A2 (l ++ t).length cap2] := hbk2.set_ 1 _
  have hown3 : OwnB (w2.setCell ⟨b, 1, none⟩ (.slice A2 (l ++ t).length cap2)) B0 5 (.slice A2 (l ++ t).length cap2) (l ++ t) :=
    OwnB.kept hown2 (grown_setCell w2 ⟨b, 1, none⟩ _) (.inr fun e => hvb e.symm)
  have hb3 : Below B0 w (w2.setCell ⟨b, 1, none⟩ (.slice A2 (l ++ t).length cap2)) := hb2.setCell (p := ⟨b, 1, none⟩) hB _
  rw [List.length_append] at hbk3 hown3 hb3 hvb
  refine ⟨rfl, .inr ⟨hB, _, hbk3, ?_, fun e => hvb e.symm⟩, hb3, fun k T cs h hT hk => (hfar2.out k T cs (hfar1.out k T cs h hk) hT).far (p := ⟨b, 1, none⟩) hk _⟩
  rw [List.length_map, List.length_append]
  unfold OwnB at hown3
  rw [List.length_append] at hown3
  exact hown3
theorem byteCells_u8v (l : List UInt8) : Lib.byteCells l = l.map u8v := rfl
/-- A builder just made. -/
theorem bld_new (w : World) : Lib.IsBuilder 133 5 w.heap.size w.heap.size [] (w.alloc (.cells #[.pointer none, .slice none 0 0] 133)) :=
  .inl ⟨Nat.le_refl _, .slice none 0 0, Blk.new w _ _, World.ownsRow_nil _ _ _ _, by simp [Value.ownBlock]⟩
end Go.Proofs.YtnehabcopjgklaaDoor
/- The walks of strings.Builder's WriteByte and Write at this program. No condition. -/
namespace Go.Proofs.YtnehabcopjgklaaDoor
open Go.RowKit
/-- append of bytes that lie anywhere. -/
theorem lit_append_part {P : Program} {ops : Array Oper} {rest : List Oper} {a : Act} {w : World} {Q : Exit → Act → World → Prop} {d : Option Tmp} {rt : TypeId} {pos : String} {af : Array Edge}
    (s x : Operand) (c : Nat) (t : TypeId) {e : TypeId} {z : Value} {size bytes : Nat} (hT : SliceTy P t e z size bytes) {base n : Nat} {v : Value} {xs : List Value} (hown : w.ownsRow base e size v n xs)
    {m : Nat} (ad : Addr) (news : List Value) (hl : news.length = m * size) (hnews : ∀ j u, news[j]? = some u → w.cell? (ad.add j) = some u) (h1 : ∀ u ∈ news, u.oneCell' = true)
    (h63 : n + m ≤ 9223372036854775807) (hbytes : (n + m) * bytes ≤ 140737488355328) (hbase : base ≤ w.heap.size) (hs : a.eval s = v) (hx : a.eval x = .slice (some ad) m c)
    (h : ∀ v' w', w'.ownsRow base e size v' (n + m) (xs ++ news) → w.grownBy w' v.ownBlock → wpList P ops Q rest (a.put d v') w') :
    wpList P ops Q ({ dst := d, op := .call { callee := .builtin .append, args := #[s, x], argTypes := #[t, t] }, type := rt, pos := pos, after := af, guard := none } :: rest) a w := by
  obtain ⟨i, i1, i2, i3, i4⟩ := hT.hi
  refine wpList_append_own_at w rfl s x t rfl base e i z size bytes hT.ht i1 i2 i3 i4 hT.hzs hT.hsz v n xs hs hown ad m c news hx hl hnews h1 (by simp only [maxLen]; omega) hbytes hbase ?_
  intro v' w' hown' hg _ _
  exact h v' w' hown' hg
theorem add_at (b o k : Nat) : (⟨b, o, none⟩ : Addr).add k = ⟨b, o + k, none⟩ := by simp [Addr.add]
theorem cell_of_heap {w w' : World} {p : Addr} (h : w'.heap[p.block]? = w.heap[p.block]?) : w'.cell? p = w.cell? p := by unfold World.cell?; rw [h]
theorem u8s_cells (t : List UInt8) : (u8s t).toList = t.map u8v := by simp [u8s]
end Go.Proofs.YtnehabcopjgklaaDoor
/- A strings.Builder: its text; what its methods do to it. No condition. -/
namespace Go.Proofs.YtnehabcopjgklaaDoor
open Go.RowKit
abbrev Bld (w : World) (b : Nat) (l : Txt) : Prop := Lib.IsBuilder 133 5 b b (l.map u8v) w
theorem ib_below {T e : TypeId} {B0 b : Nat} {bs : List Value} {w w' : World} (h : Lib.IsBuilder T e B0 b bs w) (hb : Below w.heap.size w w') : Lib.IsBuilder T e B0 b bs w' := by
  have key : ∀ p, Lib.BuilderAt T e B0 b p bs w → Lib.BuilderAt T e B0 b p bs w' := by
    rintro p ⟨hB, v, hh, ho, hne⟩
    have hlt : b < w.heap.size := (show Blk w b T #[p, v] from hh).lt
    exact ⟨hB, v, (hb.block b hlt).trans hh, own_below ho hb, hne⟩
  exact h.imp (key _) (key _)
theorem ib_lt {T e : TypeId} {B0 b : Nat} {bs : List Value} {w : World} (h : Lib.IsBuilder T e B0 b bs w) : b < w.heap.size := by
  rcases h with ⟨_, v, hh, _⟩ | ⟨_, v, hh, _⟩
  · exact (show Blk w b T #[_, v] from hh).lt
  · exact (show Blk w b T #[_, v] from hh).lt
theorem Bld.below {w w' : World} {b : Nat} {l : Txt} (h : Bld w b l) (hb : Below w.heap.size w w') : Bld w' b l := ib_below h hb
theorem Bld.lt {w : World} {b : Nat} {l : Txt} (h : Bld w b l) : b < w.heap.size := ib_lt h
theorem ws_calls {w : World} {b : Nat} {l : Txt} (h : Bld w b l) (t : Txt) (hl : l.length + t.length ≤ 70368744177664) : Calls Tryd.prog 82 #[.pointer (some ⟨b, 0, none⟩), .string (B t)] w fun e w' => e = .returned (.tuple #[.int .i64 t.length, .nilIface]) ∧ Bld w' b (l ++ t) ∧ Below b w w' ∧ ∀ k T cs, Blk w k T cs → 5 ≠ T → k ≠ b → Blk w' k T cs :=
  writeString_calls b b l t w h hl (Nat.le_of_lt h.lt)
theorem str_calls {w : World} {b : Nat} {l : Txt} (h : Bld w b l) : Calls Tryd.prog 83 #[.pointer (some ⟨b, 0, none⟩)] w fun e w' => e = .returned (.string (B l)) ∧ Below b w w' := Tryd.Builder_String_any b b l w h (Nat.le_of_lt h.lt)
theorem len_calls {w : World} {b : Nat} {l : Txt} (h : Bld w b l) : Calls Tryd.prog 86 #[.pointer (some ⟨b, 0, none⟩)] w fun e w' => e = .returned (.int .i64 l.length) ∧ w' = w := by
  have := Tryd.Builder_Len b b (l.map u8v) w h
  rwa [List.length_map] at this
end Go.Proofs.YtnehabcopjgklaaDoor
/- The walk of layer 4: body, at each kind. Condition: an object that is not great. -/
namespace Go.Proofs.YtnehabcopjgklaaDoor
open Go.RowKit
attribute [local go_sem ↓] ldvI_eq
/-- An object that is not great. -/
structure Small (o : ObjL) : Prop where
  ents : o.ents.length ≤ 70
  names : ∀ e ∈ o.ents, e.name.length ≤ 5000
  pars : o.pars.length ≤ 20
  data : o.data.length ≤ 5000
  text : o.text.length ≤ 5000
  name : o.name.length ≤ 5000
theorem entE_len' {e : EntL} (h : e.name.length ≤ 5000) (hi : e.id.length = 32) : (entE e).length ≤ 5050 := by
  have := put_length e.name.length
  unfold entE textE
  simp only [List.length_cons, List.length_append]
  omega
theorem entsE_len' {l : List EntL} (h : ∀ e ∈ l, e.name.length ≤ 5000 ∧ e.id.length = 32) : (entsE l).length ≤ 5050 * l.length := by
  induction l with
  | nil => simp [entsE]
  | cons e l ih =>
    have h1 := entE_len' (h e (by simp)).1 (h e (by simp)).2
    have h2 := ih fun e he => h e (by simp [he])
    have : entsE (e :: l) = entE e ++ entsE l := by simp [entsE]
    rw [this]
    simp only [List.length_append, List.length_cons]
    omega
end Go.Proofs.YtnehabcopjgklaaDoor
/- The walk of layer 4: body, at the other kinds. Condition: an object that is not great. -/
namespace Go.Proofs.YtnehabcopjgklaaDoor
open Go.RowKit
theorem ObjB.under {w w' : World} {B0 g : Nat} {o : ObjL} {ve vp : Value} (h : ObjB w g o ve vp) (hb : Below B0 w w') (hg : g < B0) : ObjB w' g o ve vp := ⟨(hb.block g hg).trans h.blk, h.tr, h.ta⟩
theorem lit_load_id {ops : Array Oper} {rest : List Oper} {a : Act} {w : World} {Q : Exit → Act → World → Prop} {d : Option Tmp} {rt : TypeId} {pos : String} {af : Array Edge} (x : Operand) (b o : Nat) (l : List UInt8) (hl : l.length = 32) (hc : w.rangeAt b o (u8s l).toList) (hx : a.eval x = .pointer (some ⟨b, o, none⟩))
    (h : wpList Tryd.prog ops Q rest (a.put d (.agg (u8s l))) w) : wpList Tryd.prog ops Q ({ dst := d, op := .load 24 x, type := rt, pos := pos, after := af, guard := none } :: rest) a w :=
  wpList_load_mid rfl _ x rfl b o hx _ _ hc Tryd.underlying24 rfl (by rw [Array.length_toList, u8s_size, hl]; exact sz32) (by rw [Array.toArray_toList]; exact h)
theorem lit_new_id {ops : Array Oper} {rest : List Oper} {a : Act} {w : World} {Q : Exit → Act → World → Prop} {d : Option Tmp} {rt : TypeId} {pos : String} {af : Array Edge} (x y : Operand) (u : List UInt8) (lu : u.length = 32) (zs : Array Value) (hz : zs.size = 32) (hx : a.eval x = .pointer (some ⟨w.heap.size, 0, none⟩)) (hy : a.eval y = .agg (u8s u))
    (h : ∀ W1, Blk W1 w.heap.size 24 (u8s u) → Below w.heap.size w W1 → wpList Tryd.prog ops Q rest (a.put d undef) W1) :
    wpList Tryd.prog ops Q ({ dst := d, op := .store 24 x y, type := rt, pos := pos, after := af, guard := none } :: rest) a (w.alloc (.cells zs 24)) :=
  wpList_store_newId rfl x y rfl u lu zs hx hy hz h
end Go.Proofs.YtnehabcopjgklaaDoor
/- Regions that draw their order, by what each operation leaves, whatever the order: for regions that lay memory amid calls. No condition; no program. -/
namespace Go.Proofs.YtnehabcopjgklaaDoor
open Go.RowKit
section
variable {P : Program} {ops : Array Oper} {a0 : Act} {C : Array Bool → World → Prop} {R : Nat → Value → World → Prop} {Q : Exit → Act → World → Prop}
/-- What the operations that are listed so far have left. -/
structure Left (ops : Array Oper) (a0 : Act) (C : Array Bool → World → Prop) (R : Nat → Value → World → Prop) (listed : Array Bool) (a : Act) (w : World) : Prop where
  cls : C listed w
  size : listed.size = ops.size
  closed : ∀ i o, ops[i]? = some o → listed.getD i false = true → ∀ e ∈ o.after, Region.binds .any e = true → listed.getD e.on false = true
  tsize : a.tmps.size = a0.tmps.size
  defers : a.defers = a0.defers
  old : ∀ t : Nat, (∀ (i : Nat) o, ops[i]? = some o → listed.getD i false = true → o.dst ≠ some t) → a.tmps[t]? = a0.tmps[t]?
  new : ∀ (i : Nat) o (t : Nat), ops[i]? = some o → listed.getD i false = true → o.dst = some t → ∃ v, a.tmps[t]? = some v ∧ R i v w
/-- Each operation waits only for earlier ones; no two write one slot; the slots are there. -/
def acyc (ops : Array Oper) : Bool := (List.range ops.size).all fun i => match ops[i]? with
  | some o => o.after.all fun e => !Region.binds .any e || decide (e.on < i)
  | none => true
def apartB (ops : Array Oper) : Bool := (List.range ops.size).all fun i => (List.range ops.size).all fun j => decide (i = j) || match ops[i]?, ops[j]? with
  | some o, some q => match o.dst, q.dst with
    | some s, some t => decide (s ≠ t)
    | _, _ => true
  | _, _ => true
theorem acyc_spec (h : acyc ops = true) {i : Nat} {o : Oper} (ho : ops[i]? = some o) {e : Edge} (he : e ∈ o.after) (hb : Region.binds .any e = true) : e.on < i := by
  have hi := (Array.getElem?_eq_some_iff.1 ho).1
  have := List.all_eq_true.1 h i (List.mem_range.2 hi)
  rw [ho] at this
  have := Array.all_eq_true_iff_forall_mem.1 this e he
  rw [hb] at this
  simpa using this
theorem apart_spec (h : apartB ops = true) {i j : Nat} {o q : Oper} {t : Nat} (ho : ops[i]? = some o) (hq : ops[j]? = some q) (h1 : o.dst = some t) (h2 : q.dst = some t) : i = j := by
  have hi := (Array.getElem?_eq_some_iff.1 ho).1
  have hj := (Array.getElem?_eq_some_iff.1 hq).1
  have := List.all_eq_true.1 (List.all_eq_true.1 h i (List.mem_range.2 hi)) j (List.mem_range.2 hj)
  rw [ho, hq] at this
  simp only [h1, h2] at this
  simpa using this
theorem ready_spec {listed : Array Bool} {i : Nat} (h : i ∈ Region.ready .any ops listed) : i < ops.size ∧ listed.getD i true = false ∧ ∀ o, ops[i]? = some o → ∀ e ∈ o.after, Region.binds .any e = true → listed.getD e.on false = true := by
  unfold Region.ready at h
  rw [List.mem_filter, List.mem_range, Bool.and_eq_true] at h
  obtain ⟨h1, h2, h3⟩ := h
  refine ⟨h1, by simpa using h2, fun o ho e he hb => ?_⟩
  rw [ho] at h3
  simp only [Option.map_some, Option.getD_some] at h3
  have := Array.all_eq_true_iff_forall_mem.1 h3 e he
  simpa [hb] using this
theorem getD_of_size {listed : Array Bool} {i : Nat} (h : i < listed.size) : listed.getD i false = listed.getD i true := by
  simp [Array.getD, h]
/-- Where none is ready, all are listed. -/
theorem all_listed (hac : acyc ops = true) {listed : Array Bool} (hs : listed.size = ops.size) (h : Region.ready .any ops listed = []) : ∀ i, i < ops.size → listed.getD i false = true := by
  intro i
  induction i using Nat.strongRecOn with
  | ind i ih =>
    intro hi
    cases hl : listed.getD i false with
    | true => rfl
    | false =>
      have hmem : i ∈ Region.ready .any ops listed := by
        unfold Region.ready
        rw [List.mem_filter, List.mem_range, Bool.and_eq_true]
        have ho : ops[i]? = some ops[i] := Array.getElem?_eq_getElem hi
        refine ⟨hi, by rw [← getD_of_size (by omega), hl]; rfl, ?_⟩
        rw [ho]
        simp only [Option.map_some, Option.getD_some]
        rw [Array.all_eq_true_iff_forall_mem]
        intro e he
        cases hb : Region.binds .any e with
        | false => simp
        | true =>
          have h1 := acyc_spec hac ho he hb
          rw [ih e.on h1 (by omega)]
          simp
      rw [h] at hmem
      cases hmem
/-- How many are not listed. -/
def unlisted (listed : Array Bool) (n : Nat) : Nat := ((List.range n).filter fun i => !listed.getD i false).length
theorem unlisted_set {listed : Array Bool} {n i : Nat} (hi : i < n) (hs : listed.size = n) (hl : listed.getD i false = false) : unlisted (listed.setIfInBounds i true) n < unlisted listed n := by
  unfold unlisted
  have hsub : ((List.range n).filter fun j => !(listed.setIfInBounds i true).getD j false).Sublist ((List.range n).filter fun j => !listed.getD j false) := by
    have : ((List.range n).filter fun j => !(listed.setIfInBounds i true).getD j false) = (((List.range n).filter fun j => !listed.getD j false).filter fun j => decide (j ≠ i)) := by
      rw [List.filter_filter]
      apply List.filter_congr
      intro j hj
      have hj := List.mem_range.1 hj
      by_cases hji : j = i
      · subst hji
        simp [Array.getD, hs, hj]
      · have : (listed.setIfInBounds i true).getD j false = listed.getD j false := by
          simp [Array.getD, hs, hj, Array.getElem_setIfInBounds, Ne.symm hji]
        simp [this, hji]
    rw [this]
    exact List.filter_sublist
  rcases Nat.lt_or_ge ((List.range n).filter fun j => !(listed.setIfInBounds i true).getD j false).length ((List.range n).filter fun j => !listed.getD j false).length with h | h
  · exact h
  · exfalso
    have heq := hsub.eq_of_length_le h
    have hm : i ∈ ((List.range n).filter fun j => !listed.getD j false) := by
      rw [List.mem_filter, List.mem_range]
      exact ⟨hi, by rw [hl]; rfl⟩
    rw [← heq, List.mem_filter] at hm
    have := hm.2
    simp [Array.getD, hs, hi] at this
theorem getD_set {listed : Array Bool} {i j : Nat} (hi : i < listed.size) : (listed.setIfInBounds i true).getD j false = if j = i then true else listed.getD j false := by
  by_cases hj : j = i
  · subst hj
    simp [Array.getD, hi]
  · rw [if_neg hj]
    simp only [Array.getD, Array.size_setIfInBounds]
    split
    · rename_i h
      simp only [Array.getInternal_eq_getElem]
      rw [Array.getElem_setIfInBounds_ne _ (Ne.symm hj)]
    · rfl
theorem put_at {a : Act} {d : Option Tmp} {v : Value} {t : Nat} (h : d ≠ some t) : (a.put d v).tmps[t]? = a.tmps[t]? := by
  cases d with
  | none => rfl
  | some s =>
    have : s ≠ t := fun e => h (by rw [e])
    simp [Act.put, Array.getElem?_setIfInBounds, this]
theorem put_size (a : Act) (d : Option Tmp) (v : Value) : (a.put d v).tmps.size = a.tmps.size := by
  cases d <;> simp [Act.put]
theorem put_defers (a : Act) (d : Option Tmp) (v : Value) : (a.put d v).defers = a.defers := by
  cases d <;> simp [Act.put]
theorem Left.step {listed : Array Bool} {a : Act} {w w' : World} {i : Nat} {o : Oper} {v : Value} (hd : apartB ops = true) (hsz : ∀ (i : Nat) o (t : Nat), ops[i]? = some o → o.dst = some t → t < a0.tmps.size)
    (h : Left ops a0 C R listed a w) (hi : i ∈ Region.ready .any ops listed) (ho : ops[i]? = some o) (hR : R i v w') (hC : C (listed.setIfInBounds i true) w') (hst : ∀ j u, listed.getD j false = true → R j u w → R j u w') : Left ops a0 C R (listed.setIfInBounds i true) (a.put o.dst v) w' := by
  obtain ⟨hin, hil, hdep⟩ := ready_spec hi
  have his : i < listed.size := by rw [h.size]; exact hin
  refine ⟨hC, by rw [Array.size_setIfInBounds]; exact h.size, ?_, by rw [put_size]; exact h.tsize, by rw [put_defers]; exact h.defers, ?_, ?_⟩
  · intro j q hq hj e he hb
    rw [getD_set his]
    split
    · rfl
    · rw [getD_set his] at hj
      by_cases hji : j = i
      · subst hji
        rw [ho] at hq
        injection hq with hq
        subst hq
        exact hdep o ho e he hb
      · rw [if_neg hji] at hj
        exact h.closed j q hq hj e he hb
  · intro t ht
    have h1 : o.dst ≠ some t := ht i o ho (by rw [getD_set his, if_pos rfl])
    rw [put_at h1]
    refine h.old t fun j q hq hj => ht j q hq ?_
    rw [getD_set his]
    split
    · rfl
    · exact hj
  · intro j q t hq hj ht
    by_cases hji : j = i
    · subst hji
      rw [ho] at hq
      injection hq with hq
      subst hq
      refine ⟨v, ?_, hR⟩
      have hlt := hsz j o t ho ht
      rw [ht]
      simp [Act.put, h.tsize, hlt]
    · rw [getD_set his, if_neg hji] at hj
      obtain ⟨u, h1, h2⟩ := h.new j q t hq hj ht
      refine ⟨u, ?_, hst j u hj h2⟩
      rw [put_at (fun e => hji (apart_spec hd hq ho ht e))]
      exact h1
theorem wpAny_left (hac : acyc ops = true) (hd : apartB ops = true) (hsz : ∀ (i : Nat) o (t : Nat), ops[i]? = some o → o.dst = some t → t < a0.tmps.size)
    (hstep : ∀ i o listed a w, ops[i]? = some o → i ∈ Region.ready .any ops listed → Left ops a0 C R listed a w → wpOp P ops Q i (fun a' w' => ∃ v, a' = a.put o.dst v ∧ R i v w' ∧ C (listed.setIfInBounds i true) w' ∧ ∀ j u, listed.getD j false = true → R j u w → R j u w') a w)
    (hend : ∀ a w listed, Left ops a0 C R listed a w → (∀ i, i < ops.size → listed.getD i false = true) → Q .normal a w) :
    ∀ (fuel : Nat) (listed : Array Bool) (a : Act) (w : World), Left ops a0 C R listed a w → unlisted listed ops.size ≤ fuel → wpAny P .any ops Q fuel listed a w
  | 0, listed, a, w, h, hu => by
    have hall : ∀ i, i < ops.size → listed.getD i false = true := by
      intro i hi
      cases hl : listed.getD i false with
      | true => rfl
      | false =>
        have hm : i ∈ ((List.range ops.size).filter fun i => !listed.getD i false) := by
          rw [List.mem_filter, List.mem_range]
          exact ⟨hi, by rw [hl]; rfl⟩
        have := List.length_pos_of_mem hm
        unfold unlisted at hu
        omega
    refine ⟨?_, hend a w listed h hall⟩
    rw [List.eq_nil_iff_forall_not_mem]
    intro i hi
    obtain ⟨h1, h2, _⟩ := ready_spec hi
    rw [← getD_of_size (by rw [h.size]; exact h1), hall i h1] at h2
    cases h2
  | fuel + 1, listed, a, w, h, hu => by
    refine ⟨fun h0 => hend a w listed h (all_listed hac h.size h0), fun i hi => ?_⟩
    obtain ⟨h1, h2, _⟩ := ready_spec hi
    have ho : ops[i]? = some ops[i] := Array.getElem?_eq_getElem h1
    refine wpOp_mono ?_ (hstep i _ listed a w ho hi h)
    rintro a' w' ⟨v, rfl, hR, hC, hst⟩
    refine wpAny_left hac hd hsz hstep hend fuel _ _ _ (h.step hd hsz hi ho hR hC hst) ?_
    have := unlisted_set h1 h.size (by rw [getD_of_size (by rw [h.size]; exact h1)]; exact h2)
    omega
/-- The region's law. -/
theorem wp_region_listed {id : Nat} {w0 : World} (hm : P.follows .mixedOrders = true) (hac : acyc ops = true) (hd : apartB ops = true) (hsz : ∀ (i : Nat) o (t : Nat), ops[i]? = some o → o.dst = some t → t < a0.tmps.size)
    (hC : C (Array.replicate ops.size false) { w0 with drawn := w0.drawn + 1 })
    (hstep : ∀ i o listed a w, ops[i]? = some o → i ∈ Region.ready .any ops listed → Left ops a0 C R listed a w → wpOp P ops Q i (fun a' w' => ∃ v, a' = a.put o.dst v ∧ R i v w' ∧ C (listed.setIfInBounds i true) w' ∧ ∀ j u, listed.getD j false = true → R j u w → R j u w') a w)
    (hend : ∀ a w listed, Left ops a0 C R listed a w → (∀ i, i < ops.size → listed.getD i false = true) → Q .normal a w) : (Code.region id ops true).wp P Q a0 w0 := by
  refine wp_region_any hm (wpAny_left hac hd hsz hstep hend _ _ _ _ ⟨hC, by simp, ?_, rfl, rfl, fun _ _ => rfl, ?_⟩ ?_)
  · intro i o ho hl
    exfalso
    have hi := (Array.getElem?_eq_some_iff.1 ho).1
    simp [Array.getD, hi] at hl
  · intro i o t ho hl
    exfalso
    have hi := (Array.getElem?_eq_some_iff.1 ho).1
    simp [Array.getD, hi] at hl
  · unfold unlisted
    exact Nat.le_trans (List.length_filter_le _ _) (by simp)
/-- The same, where all that is left stays. -/
theorem wp_region_left {id : Nat} {w0 : World} (hm : P.follows .mixedOrders = true) (hac : acyc ops = true) (hd : apartB ops = true) (hsz : ∀ (i : Nat) o (t : Nat), ops[i]? = some o → o.dst = some t → t < a0.tmps.size)
    (hC : C (Array.replicate ops.size false) { w0 with drawn := w0.drawn + 1 })
    (hstep : ∀ i o listed a w, ops[i]? = some o → i ∈ Region.ready .any ops listed → Left ops a0 C R listed a w → wpOp P ops Q i (fun a' w' => ∃ v, a' = a.put o.dst v ∧ R i v w' ∧ C (listed.setIfInBounds i true) w' ∧ ∀ j u, R j u w → R j u w') a w)
    (hend : ∀ a w listed, Left ops a0 C R listed a w → (∀ i, i < ops.size → listed.getD i false = true) → Q .normal a w) : (Code.region id ops true).wp P Q a0 w0 :=
  wp_region_listed hm hac hd hsz hC (fun i o listed a w h1 h2 h3 => wpOp_mono (fun a' w' ⟨v, e, hR, hc, hs⟩ => ⟨v, e, hR, hc, fun j u _ => hs j u⟩) (hstep i o listed a w h1 h2 h3)) hend
/-- What an operation reads: as it was, or what an earlier one has left. -/
def oldB (ops : Array Oper) (i t : Nat) : Bool := (List.range ops.size).all fun j => match ops[j]? with
  | some q => decide (q.dst ≠ some t) || decide (j = i) || q.after.any fun e => Region.binds .any e && decide (e.on = i)
  | none => true
def newB (ops : Array Oper) (i j t : Nat) : Bool := match ops[i]?, ops[j]? with
  | some o, some q => decide (q.dst = some t) && o.after.any fun e => Region.binds .any e && decide (e.on = j)
  | _, _ => false
theorem Left.get_old {listed : Array Bool} {a : Act} {w : World} {i t : Nat} (h : Left ops a0 C R listed a w) (hi : i ∈ Region.ready .any ops listed) (hb : oldB ops i t = true) : a.eval (.tmp t) = a0.eval (.tmp t) := by
  obtain ⟨hin, hil, _⟩ := ready_spec hi
  have key : a.tmps[t]? = a0.tmps[t]? := by
    refine h.old t fun j q hq hj ht => ?_
    have hjn := (Array.getElem?_eq_some_iff.1 hq).1
    have h1 := List.all_eq_true.1 hb j (List.mem_range.2 hjn)
    rw [hq] at h1
    simp only [Bool.or_eq_true, decide_eq_true_eq] at h1
    rcases h1 with (h1 | h1) | h1
    · exact h1 ht
    · subst h1
      rw [getD_of_size (by rw [h.size]; exact hin), hil] at hj
      cases hj
    · rw [Array.any_eq_true'] at h1
      obtain ⟨e, he, h2⟩ := h1
      simp only [Bool.and_eq_true, decide_eq_true_eq] at h2
      have := h.closed j q hq hj e he h2.1
      rw [h2.2, getD_of_size (by rw [h.size]; exact hin), hil] at this
      cases this
  simp only [Act.eval, Array.getD_eq_getD_getElem?, key]
theorem Left.get_new {listed : Array Bool} {a : Act} {w : World} {i j t : Nat} (h : Left ops a0 C R listed a w) (hi : i ∈ Region.ready .any ops listed) (hb : newB ops i j t = true) : R j (a.eval (.tmp t)) w := by
  obtain ⟨hin, hil, hdep⟩ := ready_spec hi
  unfold newB at hb
  split at hb
  · rename_i o q ho hq
    simp only [Bool.and_eq_true, decide_eq_true_eq] at hb
    obtain ⟨h1, h2⟩ := hb
    rw [Array.any_eq_true'] at h2
    obtain ⟨e, he, h3⟩ := h2
    simp only [Bool.and_eq_true, decide_eq_true_eq] at h3
    have hj := hdep o ho e he h3.1
    rw [h3.2] at hj
    obtain ⟨v, h4, h5⟩ := h.new j q t hq hj h1
    simp only [Act.eval, Array.getD_eq_getD_getElem?, h4, Option.getD_some]
    exact h5
  · cases hb
def waitsB (ops : Array Oper) (j i : Nat) : Bool := match ops[j]? with
  | some q => q.after.any fun e => Region.binds .any e && decide (e.on = i)
  | none => false
/-- What waits for an operation is not listed ahead of it. -/
theorem Left.later {listed : Array Bool} {a : Act} {w : World} {i j : Nat} (h : Left ops a0 C R listed a w) (hi : i ∈ Region.ready .any ops listed) (hb : waitsB ops j i = true) : listed.getD j false = false := by
  obtain ⟨hin, hil, _⟩ := ready_spec hi
  cases hj : listed.getD j false with
  | false => rfl
  | true =>
    exfalso
    unfold waitsB at hb
    split at hb
    · rename_i q hq
      rw [Array.any_eq_true'] at hb
      obtain ⟨e, he, h2⟩ := hb
      simp only [Bool.and_eq_true, decide_eq_true_eq] at h2
      have := h.closed j q hq hj e he h2.1
      rw [h2.2, getD_of_size (by rw [h.size]; exact hin), hil] at this
      cases this
    · cases hb
theorem step_wp {i : Nat} {o : Oper} {a : Act} {w : World} {K : Act → World → Prop} (ho : ops[i]? = some o) (hg : o.guard = none) (h : o.wp P a w K Q) : wpOp P ops Q i K a w := by
  unfold wpOp
  rw [ho]
  simp only
  rw [if_pos (by simp [Region.wanted, hg])]
  exact .inl h
/-- A guarded one: it is done, or its slot is left without a value. -/
theorem step_wp_g {i : Nat} {o : Oper} {a : Act} {w : World} {K : Act → World → Prop} {j t : Nat} {q : Oper} {c want : Bool} (ho : ops[i]? = some o) (hg : o.guard = some (j, want)) (hq : ops[j]? = some q) (hdst : q.dst = some t)
    (hv : a.eval (.tmp t) = .bool c) (h1 : c = want → o.wp P a w K Q) (h0 : c ≠ want → K (a.put o.dst undef) w) : wpOp P ops Q i K a w := by
  have hy : yielded ops a.tmps j = some c := by
    unfold yielded
    simp only [Act.eval, Array.getD_eq_getD_getElem?] at hv
    rw [hq]
    simp only [Option.bind_some, hdst]
    cases h : a.tmps[t]? with
    | none => rw [h] at hv; simp [undef] at hv
    | some v => rw [h] at hv; simp only [Option.getD_some] at hv; subst hv; rfl
  unfold wpOp
  rw [ho]
  simp only
  by_cases hc : c = want
  · rw [if_pos (by simp [Region.wanted, hg, hy, hc])]
    exact .inl (h1 hc)
  · rw [if_neg (by simp [Region.wanted, hg, hy, hc])]
    exact h0 hc
def putAll (vs : Nat → Value) : List Oper → Nat → Act → Act
  | [], _, a => a
  | o :: l, k, a => putAll vs l (k + 1) (a.put o.dst (vs k))
theorem putAll_size (vs : Nat → Value) : ∀ (l : List Oper) (k : Nat) (a : Act), (putAll vs l k a).tmps.size = a.tmps.size
  | [], _, _ => rfl
  | o :: l, k, a => by rw [putAll, putAll_size vs l, put_size]
theorem putAll_defers (vs : Nat → Value) : ∀ (l : List Oper) (k : Nat) (a : Act), (putAll vs l k a).defers = a.defers
  | [], _, _ => rfl
  | o :: l, k, a => by rw [putAll, putAll_defers vs l, put_defers]
theorem putAll_old (vs : Nat → Value) {t : Nat} : ∀ (l : List Oper) (k : Nat) (a : Act), (∀ o ∈ l, o.dst ≠ some t) → (putAll vs l k a).tmps[t]? = a.tmps[t]?
  | [], _, _, _ => rfl
  | o :: l, k, a, h => by rw [putAll, putAll_old vs l _ _ (fun q hq => h q (by simp [hq])), put_at (h o (by simp))]
theorem putAll_new (vs : Nat → Value) {t : Nat} : ∀ (l : List Oper) (k : Nat) (a : Act) (i : Nat) (o : Oper), l[i]? = some o → o.dst = some t → t < a.tmps.size → (∀ j q, l[j]? = some q → q.dst = some t → j = i) → (putAll vs l k a).tmps[t]? = some (vs (k + i))
  | [], _, _, i, o, h, _, _, _ => by simp at h
  | q :: l, k, a, 0, o, h, ht, hlt, hu => by
    simp only [List.getElem?_cons_zero, Option.some.injEq] at h
    subst h
    rw [putAll, putAll_old vs l]
    · rw [ht]; simp [Act.put, hlt]
    · intro r hr hrt
      obtain ⟨j, hj⟩ := List.getElem?_of_mem hr
      have := hu (j + 1) r (by simpa using hj) hrt
      omega
  | q :: l, k, a, i + 1, o, h, ht, hlt, hu => by
    rw [putAll, putAll_new vs l (k + 1) _ i o (by simpa using h) ht (by rw [put_size]; exact hlt) (fun j r hj hr => by have := hu (j + 1) r (by simpa using hj) hr; omega)]
    congr 2
    omega
theorem act_ext {a b : Act} (h1 : a.tmps = b.tmps) (h2 : a.defers = b.defers) : a = b := by
  cases a; cases b; simp only at h1 h2; rw [h1, h2]
/-- Behind the region: the frame, written out. -/
theorem Left.frame {l : List Oper} {listed : Array Bool} {a : Act} {w : World} (hd : apartB l.toArray = true) (hsz : ∀ (i : Nat) o (t : Nat), l.toArray[i]? = some o → o.dst = some t → t < a0.tmps.size)
    (h : Left l.toArray a0 C R listed a w) (hall : ∀ i, i < l.toArray.size → listed.getD i false = true) :
    ∃ vs : Nat → Value, a = putAll vs l 0 a0 ∧ ∀ (i : Nat) o (t : Nat), l[i]? = some o → o.dst = some t → R i (vs i) w := by
  refine ⟨fun i => match l[i]? with | some o => (match o.dst with | some t => a.tmps.getD t undef | none => undef) | none => undef, ?_, ?_⟩
  · have h1 : a.defers = (putAll (fun i => match l[i]? with | some o => (match o.dst with | some t => a.tmps.getD t undef | none => undef) | none => undef) l 0 a0).defers := by rw [putAll_defers, h.defers]
    have h2 : a.tmps = (putAll (fun i => match l[i]? with | some o => (match o.dst with | some t => a.tmps.getD t undef | none => undef) | none => undef) l 0 a0).tmps := by
      apply Array.ext_getElem?
      intro t
      by_cases ht : ∃ (i : Nat) (o : Oper), l[i]? = some o ∧ o.dst = some t
      · obtain ⟨i, o, hl, hdst⟩ := ht
        have hla : l.toArray[i]? = some o := by simpa using hl
        have hin := (List.getElem?_eq_some_iff.1 hl).1
        obtain ⟨v, hv, _⟩ := h.new i o t hla (hall i (by simpa using hin)) hdst
        rw [putAll_new _ l 0 a0 i o hl hdst (hsz i o t hla hdst) (fun j q hj hq => apart_spec hd (by simpa using hj) hla hq hdst), hv]
        simp [hl, hdst, Array.getD_eq_getD_getElem?, hv]
      · rw [putAll_old _ l 0 a0 (fun o ho hdst => by
          obtain ⟨i, hi⟩ := List.getElem?_of_mem ho
          exact ht ⟨i, o, hi, hdst⟩)]
        exact h.old t fun i o hl _ hdst => ht ⟨i, o, by simpa using hl, hdst⟩
    exact act_ext h2 h1
  · intro i o t hl hdst
    have hla : l.toArray[i]? = some o := by simpa using hl
    have hin := (List.getElem?_eq_some_iff.1 hl).1
    obtain ⟨v, hv, hR⟩ := h.new i o t hla (hall i (by simpa using hin)) hdst
    simp only [hl, hdst, Array.getD_eq_getD_getElem?, hv, Option.getD_some]
    exact hR
def sizesB (ops : Array Oper) (n : Nat) : Bool := ops.all fun o => match o.dst with
  | some t => decide (t < n)
  | none => true
theorem sizes_spec {n : Nat} (h : sizesB ops n = true) (i : Nat) (o : Oper) (t : Nat) (ho : ops[i]? = some o) (hd : o.dst = some t) : t < n := by
  obtain ⟨hi, he⟩ := Array.getElem?_eq_some_iff.1 ho
  have := Array.all_eq_true_iff_forall_mem.1 h o (by rw [← he]; exact Array.getElem_mem hi)
  rw [hd] at this
  simpa using this
end
end Go.Proofs.YtnehabcopjgklaaDoor
/- Small laws for the steps of a region that draws its order. No condition; no program. -/
namespace Go.Proofs.YtnehabcopjgklaaDoor
open Go.RowKit
theorem slot_eval (a : Act) (t : Nat) : a.tmps[t]?.getD undef = a.eval (.tmp t) := by simp [Act.eval]
theorem wp_val' {P : Program} {o : Oper} {a : Act} {w w' : World} {v : Value} {K : Act → World → Prop} {Q : Exit → Act → World → Prop} (hrun : (execOp a.eval o).run P w = .ok (.value v) w') (hK : K (a.put o.dst v) w') : o.wp P a w K Q := by
  unfold Oper.wp
  rw [hrun]
  exact hK
theorem wp_val {P : Program} {o : Oper} {a : Act} {w : World} {v : Value} {K : Act → World → Prop} {Q : Exit → Act → World → Prop} (hrun : (execOp a.eval o).run P w = .ok (.value v) w) (hK : K (a.put o.dst v) w) : o.wp P a w K Q := wp_val' hrun hK
section
variable {P : Program} {ops : Array Oper} {a0 : Act} {C : Array Bool → World → Prop} {R : Nat → Value → World → Prop} {listed : Array Bool} {a : Act} {w : World} {i j k : Nat}
/-- What operation j waits for, if j is listed, is listed. -/
theorem Left.earlier (h : Left ops a0 C R listed a w) (hl : listed.getD j false = true) (hb : waitsB ops j k = true) : listed.getD k false = true := by
  unfold waitsB at hb
  split at hb
  · rename_i q hq
    rw [Array.any_eq_true'] at hb
    obtain ⟨e, he, h2⟩ := hb
    simp only [Bool.and_eq_true, decide_eq_true_eq] at h2
    have := h.closed j q hq hl e he h2.1
    rwa [h2.2] at this
  · cases hb
theorem Left.later2 (h : Left ops a0 C R listed a w) (hl : listed.getD k false = false) (hb : waitsB ops j k = true) : listed.getD j false = false := by
  cases hj : listed.getD j false with
  | false => rfl
  | true => have := h.earlier hj hb; rw [hl] at this; cases this
theorem Left.before (_ : Left ops a0 C R listed a w) (hi : i ∈ Region.ready .any ops listed) (hb : waitsB ops i j = true) : listed.getD j false = true := by
  unfold waitsB at hb
  split at hb
  · rename_i q hq
    rw [Array.any_eq_true'] at hb
    obtain ⟨e, he, h2⟩ := hb
    simp only [Bool.and_eq_true, decide_eq_true_eq] at h2
    have := (ready_spec hi).2.2 q hq e he h2.1
    rwa [h2.2] at this
  · cases hb
end
end Go.Proofs.YtnehabcopjgklaaDoor
/- The walk of layer 4: object.Encode. Condition: an object that is not great. -/
namespace Go.Proofs.YtnehabcopjgklaaDoor
open Go.RowKit
attribute [local go_sem ↓] ldvO_eq
def EncR (n : Int) (V : Nat → Value) (i : Nat) (v : Value) (w : World) : Prop := if i = 3 then (∃ b, v = .slice (some ⟨b, 0, none⟩) 1 1 ∧ b < w.heap.size ∧ w.cell? ⟨b, 0, none⟩ = some (.int .u8 n)) else v = V i
theorem encR_below {n : Int} {V : Nat → Value} {w w' : World} (hb : Below w.heap.size w w') (j : Nat) (u : Value) (h : EncR n V j u w) : EncR n V j u w' := by
  unfold EncR at *
  split
  · rename_i hj
    rw [if_pos hj] at h
    obtain ⟨b, h1, h2, h3⟩ := h
    exact ⟨b, h1, Nat.lt_of_lt_of_le h2 hb.size, (hb.cell (p := ⟨b, 0, none⟩) h2).trans h3⟩
  · rename_i hj
    rw [if_neg hj] at h
    exact h
theorem encR_at {n : Int} {V : Nat → Value} {i : Nat} {v : Value} {w : World} (hi : i ≠ 3) (h : EncR n V i v w) : v = V i := by
  unfold EncR at h
  rwa [if_neg hi] at h
theorem encR_mk {n : Int} {V : Nat → Value} {i : Nat} {v : Value} {w : World} (hi : i ≠ 3) (h : v = V i) : EncR n V i v w := by
  unfold EncR
  rwa [if_neg hi]
/-- What lies there while an object is encoded. -/
structure EncC (w : World) (g : Nat) (o : ObjL) (ve vp : Value) (w' : World) : Prop where
  obj : ObjB w' g o ve vp
  val : ObjV w' ve vp o
  bel : Below w.heap.size w w'
section
variable {w w' w'' : World} {g : Nat} {o : ObjL} {ve vp : Value}
theorem EncC.drew (h : EncC w g o ve vp w') : EncC w g o ve vp w'.drew := ⟨h.obj.drew, ⟨h.val.ok, h.val.ents, h.val.pars⟩, h.bel.drew⟩
theorem EncC.below (h : EncC w g o ve vp w') (hb : Below w'.heap.size w' w'') : EncC w g o ve vp w'' := ⟨h.obj.below hb, h.val.below hb, bthen h.bel h.bel.size hb⟩
theorem EncC.whole (h : EncC w g o ve vp w') : (ldvO ⟨g, 0, none⟩).run Tryd.prog w' = .ok (.agg (objC o ve vp).toArray) w' := run_ldvO h.obj h.val.ok
end
/-- How long it is. -/
theorem whole_len {o : ObjL} (hs : Small o) (ho : ObjOk o) : (bodyO o).length ≤ 400000 := by
  have h1 := entsE_len' (l := o.ents) (fun e he => ⟨hs.names e he, (ho.ents e he).id⟩)
  have h2 := flat_len (l := o.pars) ho.pars
  have h3 := put_length o.pars.length
  have h4 := put_length o.time
  have h5 := put_length o.text.length
  have h6 := put_length o.name.length
  have := hs.ents
  have := hs.pars
  have := hs.data
  have := hs.text
  have := hs.name
  have := ho.tree
  have := ho.target
  unfold bodyO commitE tagE textE
  repeat' split
  all_goals try simp only [List.length_append, List.length_cons, List.length_nil]
  all_goals omega
def encC (o : ObjL) : Value := match encO o with
  | some t => .tuple #[.string (B t), .int .i64 0]
  | none => .tuple #[.string (B []), .int .i64 1]
theorem encC_none {o : ObjL} (h : encO o = none) : encC o = .tuple #[.string (B []), .int .i64 1] := by unfold encC; rw [h]
theorem encC_some {o : ObjL} {t : Txt} (h : encO o = some t) : encC o = .tuple #[.string (B t), .int .i64 0] := by unfold encC; rw [h]
--FI
--FI
end Go.Proofs.YtnehabcopjgklaaDoor
/- Structs and slices written out, at operations written out. No condition; no program. -/
namespace Go.Proofs.YtnehabcopjgklaaDoor
open Go.RowKit
theorem lit_build {P : Program} {w : World} {ops : Array Oper} {rest : List Oper} {a : Act} {Q : Exit → Act → World → Prop} {d : Option Tmp} {T rt : TypeId} {pos : String} {af : Array Edge} {fs : Array (Nat × Operand)} (vals : List (Nat × Value)) (cs : Array Value) (hb : P.built T vals = some cs)
    (hv : (fs.map fun (i, x) => (i, a.eval x)).toList = vals) (h : wpList P ops Q rest (a.put d (.agg cs)) w) : wpList P ops Q ({ dst := d, op := .build T fs, type := rt, pos := pos, after := af, guard := none } :: rest) a w :=
  wpList_plain rfl fun _ hK => wp_build _ _ rfl (by rw [hv, hb]; rfl) (by rw [hv, hb]; exact hK _ _ h)
theorem lit_build1 {P : Program} {w : World} {ops : Array Oper} {rest : List Oper} {a : Act} {Q : Exit → Act → World → Prop} {d : Option Tmp} {T rt : TypeId} {pos : String} {af : Array Edge} {i0 : Nat} {x0 : Operand} {v0 : Value} {cs : Array Value} (hb : P.built T [(i0, v0)] = some cs)
    (h0 : a.eval x0 = v0) (h : wpList P ops Q rest (a.put d (.agg cs)) w) : wpList P ops Q ({ dst := d, op := .build T #[(i0, x0)], type := rt, pos := pos, after := af, guard := none } :: rest) a w :=
  lit_build [(i0, v0)] cs hb (by simp [h0]) h
theorem lit_build2 {P : Program} {w : World} {ops : Array Oper} {rest : List Oper} {a : Act} {Q : Exit → Act → World → Prop} {d : Option Tmp} {T rt : TypeId} {pos : String} {af : Array Edge} {i0 i1 : Nat} {x0 x1 : Operand} {v0 v1 : Value} {cs : Array Value} (hb : P.built T [(i0, v0), (i1, v1)] = some cs)
    (h0 : a.eval x0 = v0) (h1 : a.eval x1 = v1) (h : wpList P ops Q rest (a.put d (.agg cs)) w) : wpList P ops Q ({ dst := d, op := .build T #[(i0, x0), (i1, x1)], type := rt, pos := pos, after := af, guard := none } :: rest) a w :=
  lit_build [(i0, v0), (i1, v1)] cs hb (by simp [h0, h1]) h
theorem lit_build3 {P : Program} {w : World} {ops : Array Oper} {rest : List Oper} {a : Act} {Q : Exit → Act → World → Prop} {d : Option Tmp} {T rt : TypeId} {pos : String} {af : Array Edge} {i0 i1 i2 : Nat} {x0 x1 x2 : Operand} {v0 v1 v2 : Value} {cs : Array Value} (hb : P.built T [(i0, v0), (i1, v1), (i2, v2)] = some cs)
    (h0 : a.eval x0 = v0) (h1 : a.eval x1 = v1) (h2 : a.eval x2 = v2) (h : wpList P ops Q rest (a.put d (.agg cs)) w) : wpList P ops Q ({ dst := d, op := .build T #[(i0, x0), (i1, x1), (i2, x2)], type := rt, pos := pos, after := af, guard := none } :: rest) a w :=
  lit_build [(i0, v0), (i1, v1), (i2, v2)] cs hb (by simp [h0, h1, h2]) h
theorem lit_build4 {P : Program} {w : World} {ops : Array Oper} {rest : List Oper} {a : Act} {Q : Exit → Act → World → Prop} {d : Option Tmp} {T rt : TypeId} {pos : String} {af : Array Edge} {i0 i1 i2 i3 : Nat} {x0 x1 x2 x3 : Operand} {v0 v1 v2 v3 : Value} {cs : Array Value} (hb : P.built T [(i0, v0), (i1, v1), (i2, v2), (i3, v3)] = some cs)
    (h0 : a.eval x0 = v0) (h1 : a.eval x1 = v1) (h2 : a.eval x2 = v2) (h3 : a.eval x3 = v3) (h : wpList P ops Q rest (a.put d (.agg cs)) w) : wpList P ops Q ({ dst := d, op := .build T #[(i0, x0), (i1, x1), (i2, x2), (i3, x3)], type := rt, pos := pos, after := af, guard := none } :: rest) a w :=
  lit_build [(i0, v0), (i1, v1), (i2, v2), (i3, v3)] cs hb (by simp [h0, h1, h2, h3]) h
/-- A slice of one element of several cells. -/
theorem lit_slice1 {P : Program} {w : World} {ops : Array Oper} {rest : List Oper} {a : Act} {Q : Exit → Act → World → Prop} {d : Option Tmp} {rt : TypeId} {pos : String} {af : Array Edge} (x : Operand) {t e : TypeId} {z : Value} {size bytes : Nat} (hT : SliceTy P t e z size bytes) (cs : Array Value) (hcs : cs.size = size) (hsm : size ≤ 1000) (hx : a.eval x = .agg cs)
    (h : wpList P ops Q rest (a.put d (.slice (some ⟨w.heap.size, 0, none⟩) 1 1)) (w.alloc (.cells cs e))) :
    wpList P ops Q ({ dst := d, op := .buildSlice t 1 #[(0, x)], type := rt, pos := pos, after := af, guard := none } :: rest) a w :=
  wpList_plain rfl fun _ hK => by
    have e1 : ((#[(0, x)] : Array (Nat × Operand)).map fun (i, x) => (i, a.eval x)) = #[(0, .agg cs)] := by simp [hx]
    have hrun : (Instr.buildSlice t 1 #[(0, .agg cs)]).run P w = .ok (.slice (some ⟨w.heap.size, 0, none⟩) 1 1) (w.alloc (.cells cs e)) := by
      obtain ⟨it, hi, hz, hs, hb⟩ := hT.hi
      have h0 := hT.hsz
      refine run_buildSlice w _ _ 1 _ _ it _ hT.ht hi hz (by rw [hs]; omega) (by rw [hs]; omega) ?_
      rw [hs]
      have := Great.fill_whole (s := size) (by omega) [Value.agg cs] ((Array.range (1 * size)).map (z.cells[· % z.cells.size]!)) (by
        intro v hv
        simp at hv
        subst hv
        exact hcs) (by simp)
      simpa [Value.cells] using this
    unfold Oper.wp execOp
    simp only [Sem.run_bind, e1, hrun, Result.andThen_ok]
    exact hK _ _ h
/-- append of one element that was just laid. -/
theorem lit_append_new {P : Program} {ops : Array Oper} {rest : List Oper} {a : Act} {W : World} {Q : Exit → Act → World → Prop} {d : Option Tmp} {rt : TypeId} {pos : String} {af : Array Edge}
    (s x : Operand) (c : Nat) (t : TypeId) {e : TypeId} {z : Value} {size bytes : Nat} (hT : SliceTy P t e z size bytes) {base n : Nat} {v : Value} {xs : List Value} (hown : W.ownsRow base e size v n xs)
    (cs : Array Value) {t' : TypeId} (hl : cs.size = 1 * size) (h1 : ∀ u ∈ cs.toList, u.oneCell' = true) (h63 : n + 1 ≤ 9223372036854775807) (hbytes : (n + 1) * bytes ≤ 140737488355328) (hbase : base ≤ W.heap.size)
    (hs : a.eval s = v) (hx : a.eval x = .slice (some ⟨W.heap.size, 0, none⟩) 1 c)
    (h : ∀ v' w', w'.ownsRow base e size v' (n + 1) (xs ++ cs.toList) → Below base W w' → W.grownBy w' v.ownBlock → Newer W v v' → wpList P ops Q rest (a.put d v') w') :
    wpList P ops Q ({ dst := d, op := .call { callee := .builtin .append, args := #[s, x], argTypes := #[t, t] }, type := rt, pos := pos, after := af, guard := none } :: rest) a (W.alloc (.cells cs t')) := by
  have hb0 : Below W.heap.size W (W.alloc (.cells cs t')) := (Below.refl _ _).alloc (Nat.le_refl _) _
  have hown' := own_below hown hb0
  refine lit_append_at s x c t hT hown' (Blk.new W t' cs) hl h1 h63 hbytes (Nat.le_trans hbase hb0.size) hs hx ?_
  intro v' w' ho hg hn
  have hbel : Below base W w' := (hb0.mono hbase).grown hg (Nat.le_trans hbase hb0.size) (fun k hk => (World.ownsRow.lt hown' k hk).1)
  have hg' : W.grownBy w' v.ownBlock := ⟨hbel.os, hbel.tape, hbel.output, hbel.size, fun k hk hne => (hg.block k (Nat.lt_of_lt_of_le hk hb0.size) hne).trans (hb0.block k hk)⟩
  exact h v' w' ho hbel hg' ((Newer.refl W v).then_ hn hb0.size)
end Go.Proofs.YtnehabcopjgklaaDoor
