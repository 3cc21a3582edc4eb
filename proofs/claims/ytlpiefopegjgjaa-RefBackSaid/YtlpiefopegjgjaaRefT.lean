/- The walk of layer 9's reference: Wrong. Written by wip/tools/gen_wrong.py. No condition. -/
import Derived.Test.YtlpiefopegjgjaaRefY
import Derived.Test.YtlpiefopegjgjaaRefG
import Derived.Test.YtlpiefopegjgjaaRefV
import Derived.Deep.RegionWith
namespace Go.Proofs.Ytlpiefopegjgjaa
open Go.RowKit
attribute [local go_sem ↓] ldvI_eq
/-- What an update is told by the document. -/
def codeS (l : List RefL) (p : List UpdL) (x : UpdL) : Nat := if rightOf p x then (if findOr l x.name = x.old then (if (setL l x.name x.new).length ≤ 64 then 0 else 3) else 10) else 8
theorem codeS_wrong {l : List RefL} {p : List UpdL} {x : UpdL} (h : rightOf p x = false) : codeS l p x = 8 := by simp [codeS, h]
theorem codeS_lease {l : List RefL} {p : List UpdL} {x : UpdL} (h : rightOf p x = true) (h1 : ¬ findOr l x.name = x.old) : codeS l p x = 10 := by simp [codeS, h, h1]
theorem codeS_limit {l : List RefL} {p : List UpdL} {x : UpdL} (h : rightOf p x = true) (h1 : findOr l x.name = x.old) (h2 : ¬ (setL l x.name x.new).length ≤ 64) : codeS l p x = 3 := by rw [codeS, if_pos h, if_pos h1, if_neg h2]
theorem codeS_ok {l : List RefL} {p : List UpdL} {x : UpdL} (h : rightOf p x = true) (h1 : findOr l x.name = x.old) (h2 : (setL l x.name x.new).length ≤ 64) : codeS l p x = 0 := by rw [codeS, if_pos h, if_pos h1, if_pos h2]
theorem twice_at {u : List UpdL} {i k : Nat} {y : UpdL} {n : List UInt8} (hk : k < i) (hy : u[k]? = some y) (h : (y.name == n) = true) : (u.take i).any (fun z => z.name == n) = true := by
  rw [List.any_eq_true]
  refine ⟨y, ?_, h⟩
  have : (u.take i)[k]? = some y := by rw [List.getElem?_take, if_pos hk]; exact hy
  exact List.mem_of_getElem? this
theorem once_all {u : List UpdL} {n : List UInt8} (h : u.all (fun z => !(z.name == n)) = true) : u.any (fun z => z.name == n) = false := by
  rw [List.any_eq_false]
  intro z hz
  have := List.all_eq_true.1 h z hz
  simpa using this
/-- What lies there while an update is looked at, on the document's side. -/
structure WrC (w : World) (g gs os : Nat) (u : List UpdL) (w' : World) : Prop where
  upds : ∀ j y, u[j]? = some y → w'.rangeAt gs (os + j * 65) (updC y)
  gs_ : gs < w'.heap.size
  zer : Blk w' g 37 (u8s (List.replicate 32 0))
  bel : Below w.heap.size w w'
theorem WrC.drew {w : World} {g gs os : Nat} {u : List UpdL} {w' : World} (h : WrC w g gs os u w') : WrC w g gs os u w'.drew := ⟨h.upds, h.gs_, h.zer, h.bel.drew⟩
theorem WrC.drewN {w : World} {g gs os : Nat} {u : List UpdL} {w' : World} (h : WrC w g gs os u w') (n : Nat) : WrC w g gs os u (w'.drewN n) := ⟨h.upds, h.gs_, h.zer, bdrewN h.bel n⟩
theorem WrC.below {w : World} {g gs os : Nat} {u : List UpdL} {w' w'' : World} (h : WrC w g gs os u w') (hb : Below w'.heap.size w' w'') : WrC w g gs os u w'' :=
  ⟨fun j y hy => rangeAt_below (h.upds j y hy) h.gs_ hb, Nat.lt_of_lt_of_le h.gs_ hb.size, h.zer.below hb h.zer.lt, bthen h.bel h.bel.size hb⟩
structure WrD (w : World) (g gs os : Nat) (u : List UpdL) (g2 : Nat) (fo : List UInt8) (w' : World) : Prop where
  c : WrC w g gs os u w'
  got : Blk w' g2 37 (u8s fo)
theorem WrD.drew {w : World} {g gs os : Nat} {u : List UpdL} {g2 : Nat} {fo : List UInt8} {w' : World} (h : WrD w g gs os u g2 fo w') : WrD w g gs os u g2 fo w'.drew := ⟨h.c.drew, h.got⟩
theorem quiet_eql_id {C : World → Prop} {W : World} {a : Act} {d : Option Tmp} {rt t' : TypeId} {pos : String} {af : Array Edge} {gd : Option (Nat × Bool)} {x y : Operand} (p q : List UInt8) (hp : p.length = 32) (hq : q.length = 32) {b : Bool} (hb : decide (p = q) = b)
    (hx : a.eval x = .agg (u8s p)) (hy : a.eval y = .agg (u8s q)) : Oper.quietUpon Try.prog C W (.bool b) ((execOp a.eval { dst := d, op := .binOp .eql 37 x y t', type := rt, pos := pos, after := af, guard := gd }).run Try.prog W) := by
  subst hb
  unfold execOp
  simp only [hx, hy, Sem.run_bind, run_eqGuard_agg _ _ _ _ _ _ _ Try.eqGuardType37, run_eql_id W p q hp hq, Result.andThen_ok]
  exact ⟨rfl, rfl⟩
theorem quiet_neq_id {C : World → Prop} {W : World} {a : Act} {d : Option Tmp} {rt t' : TypeId} {pos : String} {af : Array Edge} {gd : Option (Nat × Bool)} {x y : Operand} (p q : List UInt8) (hp : p.length = 32) (hq : q.length = 32) {b : Bool} (hb : (!decide (p = q)) = b)
    (hx : a.eval x = .agg (u8s p)) (hy : a.eval y = .agg (u8s q)) : Oper.quietUpon Try.prog C W (.bool b) ((execOp a.eval { dst := d, op := .binOp .neq 37 x y t', type := rt, pos := pos, after := af, guard := gd }).run Try.prog W) := by
  subst hb
  unfold execOp
  simp only [hx, hy, Sem.run_bind, run_eqGuard_agg _ _ _ _ _ _ _ Try.eqGuardType37, run_neq_id W p q hp hq, Result.andThen_ok]
  exact ⟨rfl, rfl⟩
set_option maxRecDepth 100000 in
set_option maxHeartbeats 4000000 in
theorem refWrong_calls (l : List RefL) (hok : RefsOk l) (hbig : l.length ≤ 100000) (vl : Value) (u : List UpdL) (huok : UpdsOk u) (i : Nat) (x : UpdL) (hx : u[i]? = some x) (vu : Value) (w : World) (hl : Refs w vl l) (hu : Upds w vu u) :
    Calls Try.prog 25 #[vl, vu, .int .i64 i] w fun e w' => e = .returned (.int .i64 (codeS l (u.take i) x : Nat)) ∧ Below w.heap.size w w' := by
  have hlen := hu.len
  have hil : i < u.length := (List.getElem?_eq_some_iff.1 hx).1
  have hxok : UpdOk x := huok x (List.mem_of_getElem? hx)
  have hfind := fun W (hb : Below w.heap.size w W) => Lib.hid (refFind_calls l hok vl x.name W (hl.below hb))
  have hset := fun W (hb : Below w.heap.size w W) => Lib.hid (refSet_calls l hok hbig vl x.name x.new hxok.2.1 hxok.2.2 W (hl.below hb))
  obtain ⟨A, cap, rfl, hcap1, hcap2, hat⟩ := hu
  obtain ⟨gs, os, rfl, hgs, hcell⟩ := hat (by omega)
  have hii : (i : Int) < (u.length : Int) := by omega
  have hnm := fun W => refName_calls x.name hxok.2.2 W
  have hzO := fun W => equalIn_ids x.old (List.replicate 32 0) hxok.1 zeros32 W
  have hzN := fun W => equalIn_ids x.new (List.replicate 32 0) hxok.2.1 zeros32 W
  have hiO : (Try.prog.info? 37).map (·.size) = some (u8s x.old).toList.length := by rw [Array.length_toList, u8s_size, hxok.1]; exact sz32
  have hiN : (Try.prog.info? 37).map (·.size) = some (u8s x.new).toList.length := by rw [Array.length_toList, u8s_size, hxok.2.1]; exact sz32
  have hiZ : (Try.prog.info? 37).map (·.size) = some (u8s (List.replicate 32 0)).toList.length := by rw [Array.length_toList, u8s_size, zeros32]; exact sz32
  have hfl := findOr_len hok x.name
  have hiF : (Try.prog.info? 37).map (·.size) = some (u8s (findOr l x.name)).toList.length := by rw [Array.length_toList, u8s_size, hfl]; exact sz32
  have hq := fun W => equalIn_ids (findOr l x.name) x.old hfl hxok.1 W
  have hxh := Lib.hid hx
  have hxo : x.old.length = 32 := hxok.1
  have hxn : x.new.length = 32 := hxok.2.1
  have hr : Hid (rightOf (u.take i) x = (nameOk x.name && !((u.take i).any (fun y => y.name == x.name)) && !(isNone x.old && isNone x.new))) := by show _ = _; rfl
  have hbO : Hid (isNone x.old = decide (x.old = List.replicate 32 0)) := by show _ = _; rfl
  have hbN : Hid (isNone x.new = decide (x.new = List.replicate 32 0)) := by show _ = _; rfl
  clear hx hat
  go_enter Try.func25, Try.ntmps25
  generalize hbn : nameOk x.name = bn at *
  generalize hbo : decide (x.old = List.replicate 32 0) = bo at *
  generalize hbw : decide (x.new = List.replicate 32 0) = bw at *
  have hbo := Lib.hid hbo
  have hbw := Lib.hid hbw
  clear hbn
  go_wp2_with (first
    | ((with_reducible refine lit_new_id (.tmp 7) (.tmp 12) (List.replicate 32 0) zeros32 _ ?_ ?_ ?_ ?_); rfl; rfl; rfl; intro W1 hb1 hbl1
       have hS1 : WrC w w.heap.size gs os u W1 := ⟨fun j y hy => rangeAt_below (hcell j y hy) hgs hbl1, Nat.lt_of_lt_of_le hgs hbl1.size, hb1, hbl1⟩
       have c0 := range_uname (hS1.upds i x hxh.out)
       clear hb1 hbl1)
    | (go_at_call 22; go_must (refine (hnm _).mono ?_); rintro e w1 ⟨rfl, rfl⟩))
  clear hcell c0
  have hgz : w.heap.size < W1.heap.size := hS1.zer.lt
  generalize hg : w.heap.size = g at hS1
  clear hg
  cases bn
  · clear hzO hzN
    refine wp_region_class (C := WrC w g gs os u) (by kernel_rfl) (by kernel_rfl) hS1.drew ?_
    repeat
      first
        | ((with_reducible refine wpQuiet_ex ?_ ?_)
           · (go_simp; done)
           apply Exists.intro
           refine ⟨fun W hW => ?_, ?_⟩
           · first
               | exact quiet_load_mid _ _ rfl gs (os + i * 65 + 1) rfl (u8s x.old).toList _ (range_old (hW.upds i x hxh.out)) Try.underlying37 rfl hiO rfl
               | exact quiet_load_mid _ _ rfl gs (os + i * 65 + 33) rfl (u8s x.new).toList _ (range_new hxok (hW.upds i x hxh.out)) Try.underlying37 rfl hiN rfl
               | exact quiet_load_mid _ _ rfl g 0 rfl (u8s (List.replicate 32 0)).toList _ (range_blk hW.zer) Try.underlying37 rfl hiZ rfl
               | ((with_reducible refine quiet_eql_id x.old (List.replicate 32 0) hxo zeros32 hbo.out ?_ ?_) <;> rfl)
               | ((with_reducible refine quiet_eql_id x.new (List.replicate 32 0) hxn zeros32 hbw.out ?_ ?_) <;> rfl)
               | (go_simp
                  first
                    | rfl)
           simp only [Act.put, List.setIfInBounds_toArray, List.set_cons_zero, List.set_cons_succ])
        | ((with_reducible refine wpQuiet_pass ?_ ?_)
           · (first | rfl | (go_simp; done))
           simp only [Act.put, List.setIfInBounds_toArray, List.set_cons_zero, List.set_cons_succ])
    with_reducible refine wpQuiet_nil ?_
    intro w5 hW5
    go_wp2
    go_ret
    exact ⟨by rw [codeS_wrong (by rw [hr.out]; simp)]; rfl, hW5.bel⟩
  · cases bo
    · clear hzN
      refine wp_region_class (C := WrC w g gs os u) (by kernel_rfl) (by kernel_rfl) hS1.drew ?_
      repeat
        first
          | ((with_reducible refine wpQuiet_ex ?_ ?_)
             · (go_simp; done)
             apply Exists.intro
             refine ⟨fun W hW => ?_, ?_⟩
             · first
                 | exact quiet_load_mid _ _ rfl gs (os + i * 65 + 1) rfl (u8s x.old).toList _ (range_old (hW.upds i x hxh.out)) Try.underlying37 rfl hiO rfl
                 | exact quiet_load_mid _ _ rfl gs (os + i * 65 + 33) rfl (u8s x.new).toList _ (range_new hxok (hW.upds i x hxh.out)) Try.underlying37 rfl hiN rfl
                 | exact quiet_load_mid _ _ rfl g 0 rfl (u8s (List.replicate 32 0)).toList _ (range_blk hW.zer) Try.underlying37 rfl hiZ rfl
                 | ((with_reducible refine quiet_eql_id x.old (List.replicate 32 0) hxo zeros32 hbo.out ?_ ?_) <;> rfl)
                 | ((with_reducible refine quiet_eql_id x.new (List.replicate 32 0) hxn zeros32 hbw.out ?_ ?_) <;> rfl)
                 | (go_simp
                    first
                      | rfl)
             simp only [Act.put, List.setIfInBounds_toArray, List.set_cons_zero, List.set_cons_succ])
          | ((with_reducible refine wpQuiet_pass ?_ ?_)
             · (first | rfl | (go_simp; done))
             simp only [Act.put, List.setIfInBounds_toArray, List.set_cons_zero, List.set_cons_succ])
      with_reducible refine wpQuiet_nil ?_
      intro w5 hW5
      go_wp2
      go_loopw [9] (fun vk wr => ∃ k : Nat, vk = .int .i64 k ∧ k ≤ i ∧ Hid ((u.take k).all (fun z => !(z.name == x.name)) = true) ∧ WrC w g gs os u wr) (fun vk _ => i - (intOf vk).toNat)
      case atStart => exact ⟨0, rfl, by omega, by show _ = _; simp, hW5⟩
      case round =>
        clear hW5
        obtain ⟨k, rfl, hk, hall, hS⟩ := hrel
        have hgz2 := hS.zer.lt
        by_cases hlt : k < i
        · have hki : (k : Int) < (i : Int) := by omega
          have hku : (k : Int) < (u.length : Int) := by omega
          obtain ⟨y, hy⟩ : ∃ y, u[k]? = some y := ⟨_, List.getElem?_eq_getElem (by omega)⟩
          have c1 := range_uname (hS.upds k y hy)
          have c2 := range_uname (hS.upds i x hxh.out)
          have hyh := Lib.hid hy
          clear hy hfind hset hq hzO hnm
          cases hp : (y.name == x.name)
          · have hst := Lib.hid (none_step (p := fun z : UpdL => z.name == x.name) hall.out hyh.out hp)
            go_wp2
            go_quiet (fail)
            go_wp2
            go_roundw
            case rel => exact ⟨k + 1, by go_num, by omega, hst, hS.drewN nq⟩
            case measure => simp [intOf]; omega
          · have htw := Lib.hid (twice_at hlt hyh.out hp)
            go_wp2
            go_quiet (fail)
            go_wp2
            go_ret
            exact ⟨by rw [codeS_wrong (by rw [hr.out, htw.out]; simp)]; rfl, (hS.drewN nq).bel⟩
        · have hki : ¬ (k : Int) < (i : Int) := by omega
          have hany : Hid ((u.take i).any (fun z => z.name == x.name) = false) := by
            have := hall.out
            rw [show k = i from by omega] at this
            exact once_all this
          have hri : Hid (rightOf (u.take i) x = true) := by show _ = _; rw [hr.out, hany.out, hbO.out]; rfl
          have c2 := range_uname (hS.upds i x hxh.out)
          have hbs := hS.bel
          have hf1 := hfind _ hbs
          clear hfind hzO hnm hr hany hall
          by_cases he : findOr l x.name = x.old
          · have hneq : Hid ((!decide (findOr l x.name = x.old)) = false) := by show _ = _; rw [decide_eq_true he]; rfl
            by_cases h64 : (setL l x.name x.new).length ≤ 64
            · have hcode := Lib.hid (codeS_ok hri.out he h64)
              have h64i : ¬ (64 : Int) < ((setL l x.name x.new).length : Int) := by omega
              clear he h64 hq
              go_wp2_with (first
                | (go_at_call 20; go_must (refine hf1.out.mono ?_); rintro e w3 ⟨rfl, hb3⟩
                   have hS3 := hS.below hb3
                   clear hb3)
                | ((with_reducible refine lit_new_id (.tmp 10) (.tmp 63) (findOr l x.name) hfl _ ?_ ?_ ?_ ?_); rfl; rfl; rfl; intro W4 hb4 hbl4
                   have hD' := WrD.mk (hS3.below hbl4) hb4
                   clear hb4 hbl4 hS3))
              generalize w3.heap.size = g2 at hD' ⊢
              have hD := hD'
              clear hD' c2
              refine wp_region_class (C := WrD w g gs os u g2 (findOr l x.name)) (by kernel_rfl) (by kernel_rfl) hD.drew ?_
              repeat
                first
                  | ((with_reducible refine wpQuiet_ex ?_ ?_)
                     · (go_simp; done)
                     apply Exists.intro
                     refine ⟨fun W hW => ?_, ?_⟩
                     · first
                         | exact quiet_load_mid _ _ rfl gs (os + i * 65 + 1) rfl (u8s x.old).toList _ (range_old (hW.c.upds i x hxh.out)) Try.underlying37 rfl hiO rfl
                         | exact quiet_load_mid _ _ rfl g2 0 rfl (u8s (findOr l x.name)).toList _ (range_blk hW.got) Try.underlying37 rfl hiF rfl
                         | ((with_reducible refine quiet_neq_id (findOr l x.name) x.old hfl hxo hneq.out ?_ ?_) <;> rfl)
                         | (go_simp
                            first
                              | rfl)
                     simp only [Act.put, List.setIfInBounds_toArray, List.set_cons_zero, List.set_cons_succ])
                  | ((with_reducible refine wpQuiet_pass ?_ ?_)
                     · (first | rfl | (go_simp; done))
                     simp only [Act.put, List.setIfInBounds_toArray, List.set_cons_zero, List.set_cons_succ])
              with_reducible refine wpQuiet_nil ?_
              intro w6 hW6
              have c3 : w6.drew.cell? ⟨gs, os + i * 65, none⟩ = some (.string (B x.name)) := range_uname (hW6.drew.c.upds i x hxh.out)
              have q3 : (ldvI ⟨gs, os + i * 65 + 33, none⟩).run Try.prog w6.drew = .ok (.agg (u8s x.new)) w6.drew := run_ldvI_mid (range_new hxok (hW6.drew.c.upds i x hxh.out)) hxn
              have hbd := hW6.c.bel.drew
              have hs6 := hset _ hbd
              go_wp2
              go_region_with (first
                | (go_at_call 26; go_must (refine hs6.out.mono ?_); rintro e w7 ⟨v7, rfl, ho7, hb7⟩
                   obtain ⟨A7, cap7, rfl⟩ := own_form' ho7))
              all_goals
                --T
                go_wp2
                go_ret
                exact ⟨by rw [hcode.out]; rfl, bthen hbd hbd.size hb7⟩
            · have hcode := Lib.hid (codeS_limit hri.out he h64)
              have h64i : (64 : Int) < ((setL l x.name x.new).length : Int) := by omega
              clear he h64 hq
              go_wp2_with (first
                | (go_at_call 20; go_must (refine hf1.out.mono ?_); rintro e w3 ⟨rfl, hb3⟩
                   have hS3 := hS.below hb3
                   clear hb3)
                | ((with_reducible refine lit_new_id (.tmp 10) (.tmp 63) (findOr l x.name) hfl _ ?_ ?_ ?_ ?_); rfl; rfl; rfl; intro W4 hb4 hbl4
                   have hD' := WrD.mk (hS3.below hbl4) hb4
                   clear hb4 hbl4 hS3))
              generalize w3.heap.size = g2 at hD' ⊢
              have hD := hD'
              clear hD' c2
              refine wp_region_class (C := WrD w g gs os u g2 (findOr l x.name)) (by kernel_rfl) (by kernel_rfl) hD.drew ?_
              repeat
                first
                  | ((with_reducible refine wpQuiet_ex ?_ ?_)
                     · (go_simp; done)
                     apply Exists.intro
                     refine ⟨fun W hW => ?_, ?_⟩
                     · first
                         | exact quiet_load_mid _ _ rfl gs (os + i * 65 + 1) rfl (u8s x.old).toList _ (range_old (hW.c.upds i x hxh.out)) Try.underlying37 rfl hiO rfl
                         | exact quiet_load_mid _ _ rfl g2 0 rfl (u8s (findOr l x.name)).toList _ (range_blk hW.got) Try.underlying37 rfl hiF rfl
                         | ((with_reducible refine quiet_neq_id (findOr l x.name) x.old hfl hxo hneq.out ?_ ?_) <;> rfl)
                         | (go_simp
                            first
                              | rfl)
                     simp only [Act.put, List.setIfInBounds_toArray, List.set_cons_zero, List.set_cons_succ])
                  | ((with_reducible refine wpQuiet_pass ?_ ?_)
                     · (first | rfl | (go_simp; done))
                     simp only [Act.put, List.setIfInBounds_toArray, List.set_cons_zero, List.set_cons_succ])
              with_reducible refine wpQuiet_nil ?_
              intro w6 hW6
              have c3 : w6.drew.cell? ⟨gs, os + i * 65, none⟩ = some (.string (B x.name)) := range_uname (hW6.drew.c.upds i x hxh.out)
              have q3 : (ldvI ⟨gs, os + i * 65 + 33, none⟩).run Try.prog w6.drew = .ok (.agg (u8s x.new)) w6.drew := run_ldvI_mid (range_new hxok (hW6.drew.c.upds i x hxh.out)) hxn
              have hbd := hW6.c.bel.drew
              have hs6 := hset _ hbd
              go_wp2
              go_region_with (first
                | (go_at_call 26; go_must (refine hs6.out.mono ?_); rintro e w7 ⟨v7, rfl, ho7, hb7⟩
                   obtain ⟨A7, cap7, rfl⟩ := own_form' ho7))
              all_goals
                --T
                go_wp2
                go_ret
                exact ⟨by rw [hcode.out]; rfl, bthen hbd hbd.size hb7⟩
          · have hneq : Hid ((!decide (findOr l x.name = x.old)) = true) := by show _ = _; rw [decide_eq_false he]; rfl
            have hcode := Lib.hid (codeS_lease hri.out he)
            clear he hset hq
            go_wp2_with (first
              | (go_at_call 20; go_must (refine hf1.out.mono ?_); rintro e w3 ⟨rfl, hb3⟩
                 have hS3 := hS.below hb3
                 clear hb3)
              | ((with_reducible refine lit_new_id (.tmp 10) (.tmp 63) (findOr l x.name) hfl _ ?_ ?_ ?_ ?_); rfl; rfl; rfl; intro W4 hb4 hbl4
                 have hD' := WrD.mk (hS3.below hbl4) hb4
                 clear hb4 hbl4 hS3))
            generalize w3.heap.size = g2 at hD' ⊢
            have hD := hD'
            clear hD' c2
            refine wp_region_class (C := WrD w g gs os u g2 (findOr l x.name)) (by kernel_rfl) (by kernel_rfl) hD.drew ?_
            repeat
              first
                | ((with_reducible refine wpQuiet_ex ?_ ?_)
                   · (go_simp; done)
                   apply Exists.intro
                   refine ⟨fun W hW => ?_, ?_⟩
                   · first
                       | exact quiet_load_mid _ _ rfl gs (os + i * 65 + 1) rfl (u8s x.old).toList _ (range_old (hW.c.upds i x hxh.out)) Try.underlying37 rfl hiO rfl
                       | exact quiet_load_mid _ _ rfl g2 0 rfl (u8s (findOr l x.name)).toList _ (range_blk hW.got) Try.underlying37 rfl hiF rfl
                       | ((with_reducible refine quiet_neq_id (findOr l x.name) x.old hfl hxo hneq.out ?_ ?_) <;> rfl)
                       | (go_simp
                          first
                            | rfl)
                   simp only [Act.put, List.setIfInBounds_toArray, List.set_cons_zero, List.set_cons_succ])
                | ((with_reducible refine wpQuiet_pass ?_ ?_)
                   · (first | rfl | (go_simp; done))
                   simp only [Act.put, List.setIfInBounds_toArray, List.set_cons_zero, List.set_cons_succ])
            with_reducible refine wpQuiet_nil ?_
            intro w6 hW6
            go_wp2
            go_ret
            exact ⟨by rw [hcode.out]; rfl, hW6.c.bel⟩
    · cases bw
      · refine wp_region_class (C := WrC w g gs os u) (by kernel_rfl) (by kernel_rfl) hS1.drew ?_
        repeat
          first
            | ((with_reducible refine wpQuiet_ex ?_ ?_)
               · (go_simp; done)
               apply Exists.intro
               refine ⟨fun W hW => ?_, ?_⟩
               · first
                   | exact quiet_load_mid _ _ rfl gs (os + i * 65 + 1) rfl (u8s x.old).toList _ (range_old (hW.upds i x hxh.out)) Try.underlying37 rfl hiO rfl
                   | exact quiet_load_mid _ _ rfl gs (os + i * 65 + 33) rfl (u8s x.new).toList _ (range_new hxok (hW.upds i x hxh.out)) Try.underlying37 rfl hiN rfl
                   | exact quiet_load_mid _ _ rfl g 0 rfl (u8s (List.replicate 32 0)).toList _ (range_blk hW.zer) Try.underlying37 rfl hiZ rfl
                   | ((with_reducible refine quiet_eql_id x.old (List.replicate 32 0) hxo zeros32 hbo.out ?_ ?_) <;> rfl)
                   | ((with_reducible refine quiet_eql_id x.new (List.replicate 32 0) hxn zeros32 hbw.out ?_ ?_) <;> rfl)
                   | (go_simp
                      first
                        | rfl)
               simp only [Act.put, List.setIfInBounds_toArray, List.set_cons_zero, List.set_cons_succ])
            | ((with_reducible refine wpQuiet_pass ?_ ?_)
               · (first | rfl | (go_simp; done))
               simp only [Act.put, List.setIfInBounds_toArray, List.set_cons_zero, List.set_cons_succ])
        with_reducible refine wpQuiet_nil ?_
        intro w5 hW5
        go_wp2
        go_loopw [9] (fun vk wr => ∃ k : Nat, vk = .int .i64 k ∧ k ≤ i ∧ Hid ((u.take k).all (fun z => !(z.name == x.name)) = true) ∧ WrC w g gs os u wr) (fun vk _ => i - (intOf vk).toNat)
        case atStart => exact ⟨0, rfl, by omega, by show _ = _; simp, hW5⟩
        case round =>
          clear hW5
          obtain ⟨k, rfl, hk, hall, hS⟩ := hrel
          have hgz2 := hS.zer.lt
          by_cases hlt : k < i
          · have hki : (k : Int) < (i : Int) := by omega
            have hku : (k : Int) < (u.length : Int) := by omega
            obtain ⟨y, hy⟩ : ∃ y, u[k]? = some y := ⟨_, List.getElem?_eq_getElem (by omega)⟩
            have c1 := range_uname (hS.upds k y hy)
            have c2 := range_uname (hS.upds i x hxh.out)
            have hyh := Lib.hid hy
            clear hy hfind hset hq hzO hzN hnm
            cases hp : (y.name == x.name)
            · have hst := Lib.hid (none_step (p := fun z : UpdL => z.name == x.name) hall.out hyh.out hp)
              go_wp2
              go_quiet (fail)
              go_wp2
              go_roundw
              case rel => exact ⟨k + 1, by go_num, by omega, hst, hS.drewN nq⟩
              case measure => simp [intOf]; omega
            · have htw := Lib.hid (twice_at hlt hyh.out hp)
              go_wp2
              go_quiet (fail)
              go_wp2
              go_ret
              exact ⟨by rw [codeS_wrong (by rw [hr.out, htw.out]; simp)]; rfl, (hS.drewN nq).bel⟩
          · have hki : ¬ (k : Int) < (i : Int) := by omega
            have hany : Hid ((u.take i).any (fun z => z.name == x.name) = false) := by
              have := hall.out
              rw [show k = i from by omega] at this
              exact once_all this
            have hri : Hid (rightOf (u.take i) x = true) := by show _ = _; rw [hr.out, hany.out, hbO.out, hbN.out]; rfl
            have c2 := range_uname (hS.upds i x hxh.out)
            have hbs := hS.bel
            have hf1 := hfind _ hbs
            clear hfind hzO hzN hnm hr hany hall
            by_cases he : findOr l x.name = x.old
            · have hneq : Hid ((!decide (findOr l x.name = x.old)) = false) := by show _ = _; rw [decide_eq_true he]; rfl
              by_cases h64 : (setL l x.name x.new).length ≤ 64
              · have hcode := Lib.hid (codeS_ok hri.out he h64)
                have h64i : ¬ (64 : Int) < ((setL l x.name x.new).length : Int) := by omega
                clear he h64 hq
                go_wp2_with (first
                  | (go_at_call 20; go_must (refine hf1.out.mono ?_); rintro e w3 ⟨rfl, hb3⟩
                     have hS3 := hS.below hb3
                     clear hb3)
                  | ((with_reducible refine lit_new_id (.tmp 10) (.tmp 63) (findOr l x.name) hfl _ ?_ ?_ ?_ ?_); rfl; rfl; rfl; intro W4 hb4 hbl4
                     have hD' := WrD.mk (hS3.below hbl4) hb4
                     clear hb4 hbl4 hS3))
                generalize w3.heap.size = g2 at hD' ⊢
                have hD := hD'
                clear hD' c2
                refine wp_region_class (C := WrD w g gs os u g2 (findOr l x.name)) (by kernel_rfl) (by kernel_rfl) hD.drew ?_
                repeat
                  first
                    | ((with_reducible refine wpQuiet_ex ?_ ?_)
                       · (go_simp; done)
                       apply Exists.intro
                       refine ⟨fun W hW => ?_, ?_⟩
                       · first
                           | exact quiet_load_mid _ _ rfl gs (os + i * 65 + 1) rfl (u8s x.old).toList _ (range_old (hW.c.upds i x hxh.out)) Try.underlying37 rfl hiO rfl
                           | exact quiet_load_mid _ _ rfl g2 0 rfl (u8s (findOr l x.name)).toList _ (range_blk hW.got) Try.underlying37 rfl hiF rfl
                           | ((with_reducible refine quiet_neq_id (findOr l x.name) x.old hfl hxo hneq.out ?_ ?_) <;> rfl)
                           | (go_simp
                              first
                                | rfl)
                       simp only [Act.put, List.setIfInBounds_toArray, List.set_cons_zero, List.set_cons_succ])
                    | ((with_reducible refine wpQuiet_pass ?_ ?_)
                       · (first | rfl | (go_simp; done))
                       simp only [Act.put, List.setIfInBounds_toArray, List.set_cons_zero, List.set_cons_succ])
                with_reducible refine wpQuiet_nil ?_
                intro w6 hW6
                have c3 : w6.drew.cell? ⟨gs, os + i * 65, none⟩ = some (.string (B x.name)) := range_uname (hW6.drew.c.upds i x hxh.out)
                have q3 : (ldvI ⟨gs, os + i * 65 + 33, none⟩).run Try.prog w6.drew = .ok (.agg (u8s x.new)) w6.drew := run_ldvI_mid (range_new hxok (hW6.drew.c.upds i x hxh.out)) hxn
                have hbd := hW6.c.bel.drew
                have hs6 := hset _ hbd
                go_wp2
                go_region_with (first
                  | (go_at_call 26; go_must (refine hs6.out.mono ?_); rintro e w7 ⟨v7, rfl, ho7, hb7⟩
                     obtain ⟨A7, cap7, rfl⟩ := own_form' ho7))
                all_goals
                  --T
                  go_wp2
                  go_ret
                  exact ⟨by rw [hcode.out]; rfl, bthen hbd hbd.size hb7⟩
              · have hcode := Lib.hid (codeS_limit hri.out he h64)
                have h64i : (64 : Int) < ((setL l x.name x.new).length : Int) := by omega
                clear he h64 hq
                go_wp2_with (first
                  | (go_at_call 20; go_must (refine hf1.out.mono ?_); rintro e w3 ⟨rfl, hb3⟩
                     have hS3 := hS.below hb3
                     clear hb3)
                  | ((with_reducible refine lit_new_id (.tmp 10) (.tmp 63) (findOr l x.name) hfl _ ?_ ?_ ?_ ?_); rfl; rfl; rfl; intro W4 hb4 hbl4
                     have hD' := WrD.mk (hS3.below hbl4) hb4
                     clear hb4 hbl4 hS3))
                generalize w3.heap.size = g2 at hD' ⊢
                have hD := hD'
                clear hD' c2
                refine wp_region_class (C := WrD w g gs os u g2 (findOr l x.name)) (by kernel_rfl) (by kernel_rfl) hD.drew ?_
                repeat
                  first
                    | ((with_reducible refine wpQuiet_ex ?_ ?_)
                       · (go_simp; done)
                       apply Exists.intro
                       refine ⟨fun W hW => ?_, ?_⟩
                       · first
                           | exact quiet_load_mid _ _ rfl gs (os + i * 65 + 1) rfl (u8s x.old).toList _ (range_old (hW.c.upds i x hxh.out)) Try.underlying37 rfl hiO rfl
                           | exact quiet_load_mid _ _ rfl g2 0 rfl (u8s (findOr l x.name)).toList _ (range_blk hW.got) Try.underlying37 rfl hiF rfl
                           | ((with_reducible refine quiet_neq_id (findOr l x.name) x.old hfl hxo hneq.out ?_ ?_) <;> rfl)
                           | (go_simp
                              first
                                | rfl)
                       simp only [Act.put, List.setIfInBounds_toArray, List.set_cons_zero, List.set_cons_succ])
                    | ((with_reducible refine wpQuiet_pass ?_ ?_)
                       · (first | rfl | (go_simp; done))
                       simp only [Act.put, List.setIfInBounds_toArray, List.set_cons_zero, List.set_cons_succ])
                with_reducible refine wpQuiet_nil ?_
                intro w6 hW6
                have c3 : w6.drew.cell? ⟨gs, os + i * 65, none⟩ = some (.string (B x.name)) := range_uname (hW6.drew.c.upds i x hxh.out)
                have q3 : (ldvI ⟨gs, os + i * 65 + 33, none⟩).run Try.prog w6.drew = .ok (.agg (u8s x.new)) w6.drew := run_ldvI_mid (range_new hxok (hW6.drew.c.upds i x hxh.out)) hxn
                have hbd := hW6.c.bel.drew
                have hs6 := hset _ hbd
                go_wp2
                go_region_with (first
                  | (go_at_call 26; go_must (refine hs6.out.mono ?_); rintro e w7 ⟨v7, rfl, ho7, hb7⟩
                     obtain ⟨A7, cap7, rfl⟩ := own_form' ho7))
                all_goals
                  --T
                  go_wp2
                  go_ret
                  exact ⟨by rw [hcode.out]; rfl, bthen hbd hbd.size hb7⟩
            · have hneq : Hid ((!decide (findOr l x.name = x.old)) = true) := by show _ = _; rw [decide_eq_false he]; rfl
              have hcode := Lib.hid (codeS_lease hri.out he)
              clear he hset hq
              go_wp2_with (first
                | (go_at_call 20; go_must (refine hf1.out.mono ?_); rintro e w3 ⟨rfl, hb3⟩
                   have hS3 := hS.below hb3
                   clear hb3)
                | ((with_reducible refine lit_new_id (.tmp 10) (.tmp 63) (findOr l x.name) hfl _ ?_ ?_ ?_ ?_); rfl; rfl; rfl; intro W4 hb4 hbl4
                   have hD' := WrD.mk (hS3.below hbl4) hb4
                   clear hb4 hbl4 hS3))
              generalize w3.heap.size = g2 at hD' ⊢
              have hD := hD'
              clear hD' c2
              refine wp_region_class (C := WrD w g gs os u g2 (findOr l x.name)) (by kernel_rfl) (by kernel_rfl) hD.drew ?_
              repeat
                first
                  | ((with_reducible refine wpQuiet_ex ?_ ?_)
                     · (go_simp; done)
                     apply Exists.intro
                     refine ⟨fun W hW => ?_, ?_⟩
                     · first
                         | exact quiet_load_mid _ _ rfl gs (os + i * 65 + 1) rfl (u8s x.old).toList _ (range_old (hW.c.upds i x hxh.out)) Try.underlying37 rfl hiO rfl
                         | exact quiet_load_mid _ _ rfl g2 0 rfl (u8s (findOr l x.name)).toList _ (range_blk hW.got) Try.underlying37 rfl hiF rfl
                         | ((with_reducible refine quiet_neq_id (findOr l x.name) x.old hfl hxo hneq.out ?_ ?_) <;> rfl)
                         | (go_simp
                            first
                              | rfl)
                     simp only [Act.put, List.setIfInBounds_toArray, List.set_cons_zero, List.set_cons_succ])
                  | ((with_reducible refine wpQuiet_pass ?_ ?_)
                     · (first | rfl | (go_simp; done))
                     simp only [Act.put, List.setIfInBounds_toArray, List.set_cons_zero, List.set_cons_succ])
              with_reducible refine wpQuiet_nil ?_
              intro w6 hW6
              go_wp2
              go_ret
              exact ⟨by rw [hcode.out]; rfl, hW6.c.bel⟩
      · refine wp_region_class (C := WrC w g gs os u) (by kernel_rfl) (by kernel_rfl) hS1.drew ?_
        repeat
          first
            | ((with_reducible refine wpQuiet_ex ?_ ?_)
               · (go_simp; done)
               apply Exists.intro
               refine ⟨fun W hW => ?_, ?_⟩
               · first
                   | exact quiet_load_mid _ _ rfl gs (os + i * 65 + 1) rfl (u8s x.old).toList _ (range_old (hW.upds i x hxh.out)) Try.underlying37 rfl hiO rfl
                   | exact quiet_load_mid _ _ rfl gs (os + i * 65 + 33) rfl (u8s x.new).toList _ (range_new hxok (hW.upds i x hxh.out)) Try.underlying37 rfl hiN rfl
                   | exact quiet_load_mid _ _ rfl g 0 rfl (u8s (List.replicate 32 0)).toList _ (range_blk hW.zer) Try.underlying37 rfl hiZ rfl
                   | ((with_reducible refine quiet_eql_id x.old (List.replicate 32 0) hxo zeros32 hbo.out ?_ ?_) <;> rfl)
                   | ((with_reducible refine quiet_eql_id x.new (List.replicate 32 0) hxn zeros32 hbw.out ?_ ?_) <;> rfl)
                   | (go_simp
                      first
                        | rfl)
               simp only [Act.put, List.setIfInBounds_toArray, List.set_cons_zero, List.set_cons_succ])
            | ((with_reducible refine wpQuiet_pass ?_ ?_)
               · (first | rfl | (go_simp; done))
               simp only [Act.put, List.setIfInBounds_toArray, List.set_cons_zero, List.set_cons_succ])
        with_reducible refine wpQuiet_nil ?_
        intro w5 hW5
        go_wp2
        go_ret
        exact ⟨by rw [codeS_wrong (by rw [hr.out, hbO.out, hbN.out]; simp)]; rfl, hW5.bel⟩
end Go.Proofs.Ytlpiefopegjgjaa
