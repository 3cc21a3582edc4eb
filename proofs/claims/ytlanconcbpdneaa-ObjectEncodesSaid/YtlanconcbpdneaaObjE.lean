/- The walk of layer 4: entries, may. No condition. -/
import Derived.Test.YtlanconcbpdneaaObjB
import Derived.Test.YtlanconcbpdneaaSortP
import Derived.BigQuiet
namespace Go.Proofs.Ytlanconcbpdneaa
open Go.RowKit
theorem quiet_same {P : Program} {f : FuncId} {args : Array Value} {w : World} {n : Nat} {v : Value} (h : Calls P f args (w.drewN n) fun e w' => e = .returned v ∧ w' = w.drewN n) : Calls P f args (w.drewN n) fun e w'' => e = .returned v ∧ ∃ m, w'' = w.drewN m := h.mono fun _ _ ⟨he, hw⟩ => ⟨he, n, hw⟩
theorem sizedEnt {e : EntL} (h : EntOk e) : (Try.prog.info? 45).map (·.size) = some (entC e).length := by rw [entC_len h]; exact szEnt
theorem entC_one (r : EntL) : ∀ u ∈ entC r, u.oneCell' = true := by
  intro u hu
  simp only [entC, List.mem_cons, u8s, List.toList_toArray, List.mem_map] at hu
  rcases hu with rfl | rfl | ⟨c, _, rfl⟩ <;> rfl
theorem wpList_store_newEnt {W : World} {ops : Array Oper} {rest : List Oper} {o : Oper} {a : Act} {Q : Exit → Act → World → Prop} (hgd : o.guard = none) (x y : Operand) (ho : o.op = .store 45 x y)
    (r : EntL) (hr : EntOk r) (zs : Array Value) (hx : a.eval x = .pointer (some ⟨W.heap.size, 0, none⟩)) (hy : a.eval y = .agg (entC r).toArray) (hz : zs.size = 34)
    (h : ∀ W1, Blk W1 W.heap.size 45 (entC r).toArray → Below W.heap.size W W1 → wpList Try.prog ops Q rest (a.put o.dst undef) W1) : wpList Try.prog ops Q (o :: rest) a (W.alloc (.cells zs 45)) :=
  wpList_store_new hgd _ x y ho (entC r).toArray zs hx hy (by rw [List.size_toArray]; exact sizedEnt hr) (hz.trans (by simp [entC_len hr])) (Array.all_eq_true_iff_forall_mem.2 fun u hu => entC_one r u (by simpa using hu)) h
theorem ents_bad {l : List EntL} {i : Nat} (hi : i < l.length) (h : entAt l i = false) : entsB l = false := by
  unfold entsB
  rw [Bool.and_eq_false_iff]
  exact .inl (List.all_eq_false.2 ⟨i, by simpa using hi, by rw [h]; simp⟩)
theorem ents_all {l : List EntL} (h : (List.range l.length).all (entAt l) = true) : entsB l = decide (l.length ≤ 64) := by unfold entsB; rw [h, Bool.true_and]
theorem ents_step {p : Nat → Bool} {k : Nat} (h : (List.range k).all p = true) (hk : p k = true) : (List.range (k + 1)).all p = true := by
  rw [List.range_succ, List.all_append, h]; simp [hk]
theorem entAt_no {l : List EntL} {k : Nat} {x : EntL} (hx : l[k]? = some x) (h : entB x = false) : entAt l k = false := by unfold entAt; rw [hx]; simp only [h]; rfl
theorem entAt_zero {l : List EntL} {x : EntL} (hx : l[0]? = some x) (h : entB x = true) : entAt l 0 = true := by unfold entAt; rw [hx]; simp only [h]; rfl
theorem entAt_succ {l : List EntL} {k : Nat} {x p : EntL} (hx : l[k + 1]? = some x) (hp : l[k]? = some p) (h : entB x = true) : entAt l (k + 1) = Op.bytesLess p.name x.name := by unfold entAt; rw [hx]; simp only [h, hp, Bool.true_and]
theorem range_ent {w : World} {g o : Nat} {r : EntL} (h : w.rangeAt g o (entC r)) : w.cell? ⟨g, o, none⟩ = some (.string (B r.name)) ∧ w.cell? ⟨g, o + 1, none⟩ = some (.int .i64 r.kind) := ⟨h 0 _ rfl, h 1 _ rfl⟩
theorem range_blkEnt {w : World} {g : Nat} {r : EntL} (h : Blk w g 45 (entC r).toArray) : w.rangeAt g 0 (entC r) := by
  have := range_blk h
  rwa [List.toList_toArray] at this
theorem range_entId {w : World} {g o : Nat} {r : EntL} (h : w.rangeAt g o (entC r)) : w.rangeAt g (o + 2) (u8s r.id).toList := fun j u hu => by
  have := h (j + 2) u (by simpa [entC] using hu)
  rwa [show o + (j + 2) = o + 2 + j from by omega] at this
/-- How two texts stand. -/
theorem two_ways (p x : Txt) : (Op.bytesLess p x = true ∧ Op.bytesLess x p = false ∧ (p == x) = false ∧ (x == p) = false) ∨ (Op.bytesLess p x = false ∧ Op.bytesLess x p = true ∧ (p == x) = false ∧ (x == p) = false) ∨ (Op.bytesLess p x = false ∧ Op.bytesLess x p = false ∧ (p == x) = true ∧ (x == p) = true) := by
  cases h : Op.bytesLess p x with
  | true =>
    have h1 := less_ne h
    exact .inl ⟨rfl, less_asymm h, h1, by rw [beq_eq_false_iff_ne] at h1 ⊢; exact fun e => h1 e.symm⟩
  | false =>
    by_cases e : p = x
    · subst e
      exact .inr (.inr ⟨rfl, h, by simp, by simp⟩)
    · have h2 := less_total h e
      have h1 := less_ne h2
      exact .inr (.inl ⟨rfl, h2, by rw [beq_eq_false_iff_ne]; exact e, h1⟩)
/-- What lies there while an entry is looked at. -/
structure EntQ (w : World) (g gs os : Nat) (l : List EntL) (r : EntL) (w' : World) : Prop where
  blk : Blk w' g 45 (entC r).toArray
  at_ : ∀ i x, l[i]? = some x → w'.rangeAt gs (os + i * 34) (entC x)
  gs_ : gs < w'.heap.size
  bel : Below w.heap.size w w'
section
variable {w : World} {g gs os : Nat} {l : List EntL} {r : EntL} {w' : World}
theorem EntQ.drew (h : EntQ w g gs os l r w') : EntQ w g gs os l r w'.drew := ⟨h.blk.drew, h.at_, h.gs_, h.bel.drew⟩
theorem EntQ.name_ (h : EntQ w g gs os l r w') : w'.cell? ⟨g, 0, none⟩ = some (.string (B r.name)) := (range_ent (range_blkEnt h.blk)).1
theorem EntQ.kind_ (h : EntQ w g gs os l r w') {n : Int} (hn : r.kind = n) : w'.cell? ⟨g, 1, none⟩ = some (.int .i64 n) := hn ▸ (range_ent (range_blkEnt h.blk)).2
theorem keepE {f : FuncId} {args : Array Value} {v : Value} {w0 : World} (h : Calls Try.prog f args w0 fun e w' => e = .returned v ∧ w' = w0) (hS : EntQ w g gs os l r w0) :
    Calls Try.prog f args w0 fun e w' => e = .returned v ∧ EntQ w g gs os l r w' :=
  h.mono fun _ _ ⟨he, hw⟩ => ⟨he, hw ▸ hS⟩
end
set_option maxRecDepth 100000 in
set_option maxHeartbeats 4000000 in
theorem entries_calls (l : List EntL) (hok : ∀ e ∈ l, EntOk e) (v : Value) (w : World) (hv : Ents w v l) : Calls Try.prog 30 #[v] w fun e w' => e = .returned (.bool (entsB l)) ∧ Below w.heap.size w w' := by
  have hlen := hv.len
  obtain ⟨A, cap, rfl, hcap1, hcap2, hat⟩ := hv
  have hat := Lib.hid hat
  obtain ⟨r, hr⟩ : ∃ r, Hid (r = entsB l) := ⟨_, Lib.hid rfl⟩
  rw [← hr.out]
  go_enter Try.func30, Try.ntmps30
  go_wp2
  go_loopw [7] (fun i wr => ∃ k : Nat, i = .int .i64 k ∧ k ≤ l.length ∧ Hid ((List.range k).all (entAt l) = true) ∧ Below w.heap.size w wr) (fun i _ => l.length - (intOf i).toNat)
  case atStart => exact ⟨0, rfl, by omega, rfl, Below.refl _ _⟩
  case round =>
    obtain ⟨k, rfl, hk, hall, hbel⟩ := hrel
    by_cases hlt : k < l.length
    · have hki : (k : Int) < (l.length : Int) := by omega
      obtain ⟨gs, os, rfl, hgs, hcell⟩ := hat.out (by omega)
      obtain ⟨x, hx⟩ : ∃ x, l[k]? = some x := ⟨_, List.getElem?_eq_getElem hlt⟩
      have hxok : EntOk x := hok x (List.mem_of_getElem? hx)
      have hx0 := rangeAt_below (hcell k x hx) hgs hbel
      have hxh := Lib.hid hx
      clear hx
      have hsz := hbel.size
      go_wp2_with (first
        | (refine wpList_load_mid rfl 45 (.tmp 10) rfl gs (os + k * 34) rfl (entC x) _ hx0 Try.underlying45 rfl (sizedEnt hxok) ?_)
        | (refine wpList_store_newEnt rfl (.tmp 4) (.tmp 11) rfl x hxok _ rfl rfl rfl ?_; intro W1 hb1 hbl1))
      obtain ⟨g, hg⟩ : ∃ g, wr.heap.size = g := ⟨_, rfl⟩
      have hS : EntQ w g gs os l x W1 := by
        have h1 := bthen hbel hsz hbl1
        exact ⟨hg ▸ hb1, fun i y hy => rangeAt_below (hcell i y hy) hgs h1, Nat.lt_of_lt_of_le hgs h1.size, h1⟩
      rw [hg]
      have hnm := fun W => name_calls x.name W
      have hx := hxh
      clear hb1 hbl1 hx0 hg hbel hxh hat hcell
      cases bn : nameB x.name with
      | false =>
        rw [bn] at hnm
        have hf : Hid (r = false) := by show r = false; rw [hr.out]; exact ents_bad hlt (entAt_no hx.out (by unfold entB; rw [bn]; rfl))
        clear hr hall bn
        refine wp_region_class (C := EntQ w g gs os l x) (by kernel_rfl) (by kernel_rfl) hS.drew ?_
        repeat
          first
            | ((with_reducible refine wpQuiet_ex ?_ ?_)
               · (go_simp; done)
               apply Exists.intro
               refine ⟨fun W hW => ?_, ?_⟩
               · first
                   | (have f1 := hW.name_
                      go_simp
                      first
                        | rfl
                        | (go_at_call 14; with_reducible exact keepE (hnm _) hW))
               simp only [Act.put, List.setIfInBounds_toArray, List.set_cons_zero, List.set_cons_succ])
            | ((with_reducible refine wpQuiet_pass ?_ ?_)
               · (first | rfl | (go_simp; done))
               simp only [Act.put, List.setIfInBounds_toArray, List.set_cons_zero, List.set_cons_succ])
        with_reducible refine wpQuiet_nil ?_
        intro w5 hW5
        go_wp2
        go_ret
        exact ⟨by rw [hf.out]; rfl, hW5.bel⟩
      | true =>
        rw [bn] at hnm
        by_cases hk12 : x.kind = 1 ∨ x.kind = 2
        · have heb : entB x = true := by
            unfold entB
            rw [bn]
            rcases hk12 with h | h <;> simp [h]
          clear bn
          rcases Nat.eq_zero_or_pos k with h0 | h0
          · have hk0 : ¬ (0 : Int) < (k : Int) := by omega
            have hk0d : decide ((0 : Int) < (k : Int)) = false := by simpa using h0
            have hk0n : decide (0 < k) = false := by simp [h0]
            have hx00 : l[0]? = some x := by rw [← h0]; exact hx.out
            have hok0 : entAt l k = true := by rw [h0]; exact entAt_zero hx00 heb
            have hst := Lib.hid (ents_step hall.out hok0)
            clear hx00 hok0 h0 heb hr hall
            rcases hk12 with hkx | hkx
            · have hkx := Lib.hid hkx
              refine wp_region_class (C := EntQ w g gs os l x) (by kernel_rfl) (by kernel_rfl) hS.drew ?_
              repeat
                first
                  | ((with_reducible refine wpQuiet_ex ?_ ?_)
                     · (go_simp; done)
                     apply Exists.intro
                     refine ⟨fun W hW => ?_, ?_⟩
                     · first
                         | (have f1 := hW.name_
                            have f3 := hW.kind_ hkx.out
                            go_simp
                            first
                              | rfl
                              | (go_at_call 14; with_reducible exact keepE (hnm _) hW))
                     simp only [Act.put, List.setIfInBounds_toArray, List.set_cons_zero, List.set_cons_succ])
                  | ((with_reducible refine wpQuiet_pass ?_ ?_)
                     · (first | rfl | (go_simp; done))
                     simp only [Act.put, List.setIfInBounds_toArray, List.set_cons_zero, List.set_cons_succ])
              with_reducible refine wpQuiet_nil ?_
              intro w5 hW5
              clear hk0 hk0d hk0n
              go_wp2
              go_roundw
              case rel => exact ⟨k + 1, by go_num, by omega, hst, hW5.bel⟩
              case measure => simp [intOf]; omega
            · have hkx := Lib.hid hkx
              refine wp_region_class (C := EntQ w g gs os l x) (by kernel_rfl) (by kernel_rfl) hS.drew ?_
              repeat
                first
                  | ((with_reducible refine wpQuiet_ex ?_ ?_)
                     · (go_simp; done)
                     apply Exists.intro
                     refine ⟨fun W hW => ?_, ?_⟩
                     · first
                         | (have f1 := hW.name_
                            have f3 := hW.kind_ hkx.out
                            go_simp
                            first
                              | rfl
                              | (go_at_call 14; with_reducible exact keepE (hnm _) hW))
                     simp only [Act.put, List.setIfInBounds_toArray, List.set_cons_zero, List.set_cons_succ])
                  | ((with_reducible refine wpQuiet_pass ?_ ?_)
                     · (first | rfl | (go_simp; done))
                     simp only [Act.put, List.setIfInBounds_toArray, List.set_cons_zero, List.set_cons_succ])
              with_reducible refine wpQuiet_nil ?_
              intro w5 hW5
              clear hk0 hk0d hk0n
              go_wp2
              go_roundw
              case rel => exact ⟨k + 1, by go_num, by omega, hst, hW5.bel⟩
              case measure => simp [intOf]; omega
          · obtain ⟨q, hq⟩ : ∃ q, l[k - 1]? = some q := ⟨_, List.getElem?_eq_getElem (show k - 1 < l.length by omega)⟩
            have hk0 : (0 : Int) < (k : Int) := by omega
            have hat1 : entAt l k = Op.bytesLess q.name x.name := by
              obtain ⟨j, rfl⟩ : ∃ j, k = j + 1 := ⟨k - 1, by omega⟩
              exact entAt_succ hx.out hq heb
            obtain ⟨u, s1, hu⟩ : ∃ u : Nat, IntKind.i64.wrap ((k : Int) - 1) = (u : Int) ∧ u = k - 1 := ⟨k - 1, by rw [IntWalk.i64_in _ (by omega)]; omega, rfl⟩
            have s3 : (u : Int) < (l.length : Int) := by omega
            have s4 : u < l.length := by omega
            have hqu : Hid (l[u]? = some q) := by show _ = _; rw [hu]; exact hq
            clear hu hq heb
            rcases two_ways q.name x.name with ⟨l1, l2, l3, l4⟩ | ⟨l1, l2, l3, l4⟩ | ⟨l1, l2, l3, l4⟩
            all_goals rw [l1] at hat1
            · have hst := Lib.hid (ents_step hall.out hat1)
              clear hat1 hr hall
              rcases hk12 with hkx | hkx
              · have hkx := Lib.hid hkx
                refine wp_region_class (C := EntQ w g gs os l x) (by kernel_rfl) (by kernel_rfl) hS.drew ?_
                repeat
                  first
                    | ((with_reducible refine wpQuiet_ex ?_ ?_)
                       · (go_simp; done)
                       apply Exists.intro
                       refine ⟨fun W hW => ?_, ?_⟩
                       · first
                           | (have f1 := hW.name_
                              have f3 := hW.kind_ hkx.out
                              have f2 : W.cell? ⟨gs, os + u * 34, none⟩ = some (.string (B q.name)) := (range_ent (hW.at_ _ q hqu.out)).1
                              go_simp
                              first
                                | rfl
                                | (go_at_call 14; with_reducible exact keepE (hnm _) hW))
                       simp only [Act.put, List.setIfInBounds_toArray, List.set_cons_zero, List.set_cons_succ])
                    | ((with_reducible refine wpQuiet_pass ?_ ?_)
                       · (first | rfl | (go_simp; done))
                       simp only [Act.put, List.setIfInBounds_toArray, List.set_cons_zero, List.set_cons_succ])
                with_reducible refine wpQuiet_nil ?_
                intro w5 hW5
                clear s1 s3 s4 l1 l2 l3 l4 hk0
                go_wp2
                go_roundw
                case rel => exact ⟨k + 1, by go_num, by omega, hst, hW5.bel⟩
                case measure => simp [intOf]; omega
              · have hkx := Lib.hid hkx
                refine wp_region_class (C := EntQ w g gs os l x) (by kernel_rfl) (by kernel_rfl) hS.drew ?_
                repeat
                  first
                    | ((with_reducible refine wpQuiet_ex ?_ ?_)
                       · (go_simp; done)
                       apply Exists.intro
                       refine ⟨fun W hW => ?_, ?_⟩
                       · first
                           | (have f1 := hW.name_
                              have f3 := hW.kind_ hkx.out
                              have f2 : W.cell? ⟨gs, os + u * 34, none⟩ = some (.string (B q.name)) := (range_ent (hW.at_ _ q hqu.out)).1
                              go_simp
                              first
                                | rfl
                                | (go_at_call 14; with_reducible exact keepE (hnm _) hW))
                       simp only [Act.put, List.setIfInBounds_toArray, List.set_cons_zero, List.set_cons_succ])
                    | ((with_reducible refine wpQuiet_pass ?_ ?_)
                       · (first | rfl | (go_simp; done))
                       simp only [Act.put, List.setIfInBounds_toArray, List.set_cons_zero, List.set_cons_succ])
                with_reducible refine wpQuiet_nil ?_
                intro w5 hW5
                clear s1 s3 s4 l1 l2 l3 l4 hk0
                go_wp2
                go_roundw
                case rel => exact ⟨k + 1, by go_num, by omega, hst, hW5.bel⟩
                case measure => simp [intOf]; omega
            · have hf : Hid (r = false) := by show r = false; rw [hr.out]; exact ents_bad hlt hat1
              clear hat1 hr hall
              rcases hk12 with hkx | hkx
              · have hkx := Lib.hid hkx
                refine wp_region_class (C := EntQ w g gs os l x) (by kernel_rfl) (by kernel_rfl) hS.drew ?_
                repeat
                  first
                    | ((with_reducible refine wpQuiet_ex ?_ ?_)
                       · (go_simp; done)
                       apply Exists.intro
                       refine ⟨fun W hW => ?_, ?_⟩
                       · first
                           | (have f1 := hW.name_
                              have f3 := hW.kind_ hkx.out
                              have f2 : W.cell? ⟨gs, os + u * 34, none⟩ = some (.string (B q.name)) := (range_ent (hW.at_ _ q hqu.out)).1
                              go_simp
                              first
                                | rfl
                                | (go_at_call 14; with_reducible exact keepE (hnm _) hW))
                       simp only [Act.put, List.setIfInBounds_toArray, List.set_cons_zero, List.set_cons_succ])
                    | ((with_reducible refine wpQuiet_pass ?_ ?_)
                       · (first | rfl | (go_simp; done))
                       simp only [Act.put, List.setIfInBounds_toArray, List.set_cons_zero, List.set_cons_succ])
                with_reducible refine wpQuiet_nil ?_
                intro w5 hW5
                go_wp2
                go_ret
                exact ⟨by rw [hf.out]; rfl, hW5.bel⟩
              · have hkx := Lib.hid hkx
                refine wp_region_class (C := EntQ w g gs os l x) (by kernel_rfl) (by kernel_rfl) hS.drew ?_
                repeat
                  first
                    | ((with_reducible refine wpQuiet_ex ?_ ?_)
                       · (go_simp; done)
                       apply Exists.intro
                       refine ⟨fun W hW => ?_, ?_⟩
                       · first
                           | (have f1 := hW.name_
                              have f3 := hW.kind_ hkx.out
                              have f2 : W.cell? ⟨gs, os + u * 34, none⟩ = some (.string (B q.name)) := (range_ent (hW.at_ _ q hqu.out)).1
                              go_simp
                              first
                                | rfl
                                | (go_at_call 14; with_reducible exact keepE (hnm _) hW))
                       simp only [Act.put, List.setIfInBounds_toArray, List.set_cons_zero, List.set_cons_succ])
                    | ((with_reducible refine wpQuiet_pass ?_ ?_)
                       · (first | rfl | (go_simp; done))
                       simp only [Act.put, List.setIfInBounds_toArray, List.set_cons_zero, List.set_cons_succ])
                with_reducible refine wpQuiet_nil ?_
                intro w5 hW5
                go_wp2
                go_ret
                exact ⟨by rw [hf.out]; rfl, hW5.bel⟩
            · have hf : Hid (r = false) := by show r = false; rw [hr.out]; exact ents_bad hlt hat1
              clear hat1 hr hall
              rcases hk12 with hkx | hkx
              · have hkx := Lib.hid hkx
                refine wp_region_class (C := EntQ w g gs os l x) (by kernel_rfl) (by kernel_rfl) hS.drew ?_
                repeat
                  first
                    | ((with_reducible refine wpQuiet_ex ?_ ?_)
                       · (go_simp; done)
                       apply Exists.intro
                       refine ⟨fun W hW => ?_, ?_⟩
                       · first
                           | (have f1 := hW.name_
                              have f3 := hW.kind_ hkx.out
                              have f2 : W.cell? ⟨gs, os + u * 34, none⟩ = some (.string (B q.name)) := (range_ent (hW.at_ _ q hqu.out)).1
                              go_simp
                              first
                                | rfl
                                | (go_at_call 14; with_reducible exact keepE (hnm _) hW))
                       simp only [Act.put, List.setIfInBounds_toArray, List.set_cons_zero, List.set_cons_succ])
                    | ((with_reducible refine wpQuiet_pass ?_ ?_)
                       · (first | rfl | (go_simp; done))
                       simp only [Act.put, List.setIfInBounds_toArray, List.set_cons_zero, List.set_cons_succ])
                with_reducible refine wpQuiet_nil ?_
                intro w5 hW5
                go_wp2
                go_ret
                exact ⟨by rw [hf.out]; rfl, hW5.bel⟩
              · have hkx := Lib.hid hkx
                refine wp_region_class (C := EntQ w g gs os l x) (by kernel_rfl) (by kernel_rfl) hS.drew ?_
                repeat
                  first
                    | ((with_reducible refine wpQuiet_ex ?_ ?_)
                       · (go_simp; done)
                       apply Exists.intro
                       refine ⟨fun W hW => ?_, ?_⟩
                       · first
                           | (have f1 := hW.name_
                              have f3 := hW.kind_ hkx.out
                              have f2 : W.cell? ⟨gs, os + u * 34, none⟩ = some (.string (B q.name)) := (range_ent (hW.at_ _ q hqu.out)).1
                              go_simp
                              first
                                | rfl
                                | (go_at_call 14; with_reducible exact keepE (hnm _) hW))
                       simp only [Act.put, List.setIfInBounds_toArray, List.set_cons_zero, List.set_cons_succ])
                    | ((with_reducible refine wpQuiet_pass ?_ ?_)
                       · (first | rfl | (go_simp; done))
                       simp only [Act.put, List.setIfInBounds_toArray, List.set_cons_zero, List.set_cons_succ])
                with_reducible refine wpQuiet_nil ?_
                intro w5 hW5
                go_wp2
                go_ret
                exact ⟨by rw [hf.out]; rfl, hW5.bel⟩
        · have d1 : (x.kind != 1) = true := by simp only [bne_iff_ne]; exact fun e => hk12 (.inl e)
          have d2 : (x.kind != 2) = true := by simp only [bne_iff_ne]; exact fun e => hk12 (.inr e)
          have d3 : (x.kind == 1) = false := by rw [beq_eq_false_iff_ne]; exact fun e => hk12 (.inl e)
          have d4 : (x.kind == 2) = false := by rw [beq_eq_false_iff_ne]; exact fun e => hk12 (.inr e)
          have heb : entB x = false := by unfold entB; rw [d3, d4]; simp
          have hf : Hid (r = false) := by show r = false; rw [hr.out]; exact ents_bad hlt (entAt_no hx.out heb)
          have d5 : ¬ x.kind = 1 := fun e => hk12 (.inl e)
          have d6 : ¬ x.kind = 2 := fun e => hk12 (.inr e)
          clear hr hall bn hk12 heb
          refine wp_region_class (C := EntQ w g gs os l x) (by kernel_rfl) (by kernel_rfl) hS.drew ?_
          repeat
            first
              | ((with_reducible refine wpQuiet_ex ?_ ?_)
                 · (go_simp; done)
                 apply Exists.intro
                 refine ⟨fun W hW => ?_, ?_⟩
                 · first
                     | (have f1 := hW.name_
                        have f3 := hW.kind_ rfl
                        go_simp
                        first
                          | rfl
                          | (go_at_call 14; with_reducible exact keepE (hnm _) hW))
                 simp only [Act.put, List.setIfInBounds_toArray, List.set_cons_zero, List.set_cons_succ])
              | ((with_reducible refine wpQuiet_pass ?_ ?_)
                 · (first | rfl | (go_simp; done))
                 simp only [Act.put, List.setIfInBounds_toArray, List.set_cons_zero, List.set_cons_succ])
          with_reducible refine wpQuiet_nil ?_
          intro w5 hW5
          go_wp2
          go_ret
          exact ⟨by rw [hf.out]; rfl, hW5.bel⟩
    · have hki : ¬ (k : Int) < (l.length : Int) := by omega
      have hf : Hid (r = decide (l.length ≤ 64)) := by
        show r = _
        rw [hr.out]
        have := hall.out
        rw [show k = l.length from by omega] at this
        exact ents_all this
      clear hall hat hr
      by_cases h64 : l.length ≤ 64
      · have i64 : (l.length : Int) ≤ 64 := by omega
        go_wp2
        go_ret
        exact ⟨by rw [hf.out, decide_eq_true h64]; rfl, hbel⟩
      · have i64 : ¬ (l.length : Int) ≤ 64 := by omega
        go_wp2
        go_ret
        exact ⟨by rw [hf.out, decide_eq_false h64]; rfl, hbel⟩
end Go.Proofs.Ytlanconcbpdneaa
