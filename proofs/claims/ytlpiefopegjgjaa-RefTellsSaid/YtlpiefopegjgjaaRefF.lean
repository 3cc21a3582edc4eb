/- The walks of layer 9 (ref): Fine, on both sides. No condition. -/
import Derived.Test.YtlpiefopegjgjaaRefM
namespace Go.Proofs.Ytlpiefopegjgjaa
open Go.RowKit
set_option maxRecDepth 100000 in
set_option maxHeartbeats 1000000 in
theorem fine_calls (l : List RefL) (hok : RefsOk l) (v : Value) (w : World) (hv : Refs w v l) :
    Calls Try.prog 14 #[v] w fun e w' => e = .returned (.bool (fineL l)) ∧ Below w.heap.size w w' := by
  have hlen := hv.len
  obtain ⟨A, cap, rfl, hcap1, hcap2, hat⟩ := hv
  go_enter Try.func14, Try.ntmps14
  go_wp2
  go_loopw [7] (fun i wr => ∃ k : Nat, i = .int .i64 k ∧ k ≤ l.length ∧ Hid ((List.range k).all (fineAt l) = true) ∧ Below w.heap.size w wr) (fun i _ => l.length - (intOf i).toNat)
  case atStart => exact ⟨0, rfl, by omega, rfl, Below.refl _ _⟩
  case round =>
    obtain ⟨k, rfl, hk, hall, hbel⟩ := hrel
    by_cases hlt : k < l.length
    · have hki : (k : Int) < (l.length : Int) := by omega
      obtain ⟨gs, os, rfl, hgs, hcell⟩ := hat (by omega)
      obtain ⟨x, hx⟩ : ∃ x, l[k]? = some x := ⟨_, List.getElem?_eq_getElem hlt⟩
      have hxok : RefOk x := hok x (List.mem_of_getElem? hx)
      have hx0 := rangeAt_below (hcell k x hx) hgs hbel
      have hxh := Lib.hid hx
      clear hx
      have hsz := hbel.size
      go_wp2_with (first
        | (refine wpList_load_mid rfl 54 (.tmp 10) rfl gs (os + k * 33) rfl (refC x) _ hx0 Try.underlying54 rfl (sizedRef hxok) ?_)
        | (refine wpList_store_newRef rfl (.tmp 4) (.tmp 11) rfl x hxok _ rfl rfl rfl ?_; intro W1 hb1 hbl1))
      obtain ⟨g, hg⟩ : ∃ g, wr.heap.size = g := ⟨_, rfl⟩
      have hS : FineC w g gs os cap l x W1 := by
        have h1 := bthen hbel hsz hbl1
        exact ⟨hg ▸ hb1, fun i y hy => rangeAt_below (hcell i y hy) hgs h1, Nat.lt_of_lt_of_le hgs h1.size, h1⟩
      rw [hg]
      clear hb1 hbl1 hx0 hg hbel hat hcell
      have hid : (Try.prog.info? 37).map (·.size) = some (u8s x.id).toList.length := by rw [Array.length_toList, u8s_size, hxok.1]; exact sz32
      have hnm := fun W => name_calls x.name hxok.2 W
      have hno := fun W => none_calls x.id hxok.1 W
      cases bn : nameOk x.name
      · rw [bn] at hnm
        have hbad := Lib.hid (fineL_bad hlt (fineAt_name hxh.out bn))
        clear bn
        refine wp_region_class (C := FineC w g gs os cap l x) (by kernel_rfl) (by kernel_rfl) hS.drew ?_
        repeat
          first
            | ((with_reducible refine wpQuiet_ex ?_ ?_)
               · (go_simp; done)
               apply Exists.intro
               refine ⟨fun W hW => ?_, ?_⟩
               · first
                   | exact quiet_load_mid _ _ rfl g 1 rfl (u8s x.id).toList _ hW.id_ Try.underlying37 rfl hid rfl
                   | (have f1 := hW.name_
                      go_simp
                      first
                        | rfl
                        | (go_at_call 21; with_reducible exact keepF (calls_same (hnm _)) hW)
                        | (go_at_call 27; with_reducible exact keepF (hno _) hW))
               simp only [Act.put, List.setIfInBounds_toArray, List.set_cons_zero, List.set_cons_succ])
            | ((with_reducible refine wpQuiet_pass ?_ ?_)
               · (first | rfl | (go_simp; done))
               simp only [Act.put, List.setIfInBounds_toArray, List.set_cons_zero, List.set_cons_succ])
        with_reducible refine wpQuiet_nil ?_
        intro w5 hW5
        go_wp2
        go_ret
        exact ⟨by rw [hbad.out]; rfl, hW5.bel⟩
      · rw [bn] at hnm
        have bnh := Lib.hid bn
        clear bn
        cases bz : isNone x.id
        · rw [bz] at hno
          have bzh := Lib.hid bz
          clear bz
          rcases Nat.eq_zero_or_pos k with h0 | h0
          · have hst := Lib.hid (fine_step hall.out (fineAt_of hxh.out bnh.out bzh.out (fun h => absurd h (by omega))))
            have hk0 : ¬ (0 : Int) < (k : Int) := by omega
            have hk0d : decide ((0 : Int) < (k : Int)) = false := by simpa using h0
            have hk0n : decide (0 < k) = false := by simp [h0]
            clear h0
            refine wp_region_class (C := FineC w g gs os cap l x) (by kernel_rfl) (by kernel_rfl) hS.drew ?_
            repeat
              first
                | ((with_reducible refine wpQuiet_ex ?_ ?_)
                   · (go_simp; done)
                   apply Exists.intro
                   refine ⟨fun W hW => ?_, ?_⟩
                   · first
                       | exact quiet_load_mid _ _ rfl g 1 rfl (u8s x.id).toList _ hW.id_ Try.underlying37 rfl hid rfl
                       | (have f1 := hW.name_
                          go_simp
                          first
                            | rfl
                            | (go_at_call 21; with_reducible exact keepF (calls_same (hnm _)) hW)
                            | (go_at_call 27; with_reducible exact keepF (hno _) hW))
                   simp only [Act.put, List.setIfInBounds_toArray, List.set_cons_zero, List.set_cons_succ])
                | ((with_reducible refine wpQuiet_pass ?_ ?_)
                   · (first | rfl | (go_simp; done))
                   simp only [Act.put, List.setIfInBounds_toArray, List.set_cons_zero, List.set_cons_succ])
            with_reducible refine wpQuiet_nil ?_
            intro w5 hW5
            clear hk0 hk0d hk0n
            go_wp2
            go_roundw
            case rel => exact ⟨k + 1, by go_num, by omega, hst, hW5.bel⟩
            case measure => simp [intOf]; omega
          · obtain ⟨q, hq⟩ : ∃ q, l[k - 1]? = some q := ⟨_, List.getElem?_eq_getElem (show k - 1 < l.length by omega)⟩
            have hqh := Lib.hid hq
            clear hq
            have hk0 : (0 : Int) < (k : Int) := by omega
            obtain ⟨u, s1, hu⟩ : ∃ u : Nat, IntKind.i64.wrap ((k : Int) - 1) = (u : Int) ∧ u = k - 1 := ⟨k - 1, by rw [IntWalk.i64_in _ (by omega)]; omega, rfl⟩
            have s3 : (u : Int) < (l.length : Int) := by omega
            have s4 : u < l.length := by omega
            have hqu : Hid (l[u]? = some q) := by show _ = _; rw [hu]; exact hqh.out
            clear hu
            cases bl : Op.bytesLess q.name x.name
            · have hbad := Lib.hid (fineL_bad hlt (fineAt_less hxh.out h0 hqh.out bl))
              refine wp_region_class (C := FineC w g gs os cap l x) (by kernel_rfl) (by kernel_rfl) hS.drew ?_
              repeat
                first
                  | ((with_reducible refine wpQuiet_ex ?_ ?_)
                     · (go_simp; done)
                     apply Exists.intro
                     refine ⟨fun W hW => ?_, ?_⟩
                     · first
                         | exact quiet_load_mid _ _ rfl g 1 rfl (u8s x.id).toList _ hW.id_ Try.underlying37 rfl hid rfl
                         | (have f1 := hW.name_
                            have f2 : W.cell? ⟨gs, os + u * 33, none⟩ = some (.string (B q.name)) := range_name (hW.at_ _ q hqu.out)
                            go_simp
                            first
                              | rfl
                              | (go_at_call 21; with_reducible exact keepF (calls_same (hnm _)) hW)
                              | (go_at_call 27; with_reducible exact keepF (hno _) hW))
                     simp only [Act.put, List.setIfInBounds_toArray, List.set_cons_zero, List.set_cons_succ])
                  | ((with_reducible refine wpQuiet_pass ?_ ?_)
                     · (first | rfl | (go_simp; done))
                     simp only [Act.put, List.setIfInBounds_toArray, List.set_cons_zero, List.set_cons_succ])
              with_reducible refine wpQuiet_nil ?_
              intro w5 hW5
              go_wp2
              go_ret
              exact ⟨by rw [hbad.out]; rfl, hW5.bel⟩
            · have hst := Lib.hid (fine_step hall.out (fineAt_of hxh.out bnh.out bzh.out (fun _ => ⟨q, hqh.out, bl⟩)))
              refine wp_region_class (C := FineC w g gs os cap l x) (by kernel_rfl) (by kernel_rfl) hS.drew ?_
              repeat
                first
                  | ((with_reducible refine wpQuiet_ex ?_ ?_)
                     · (go_simp; done)
                     apply Exists.intro
                     refine ⟨fun W hW => ?_, ?_⟩
                     · first
                         | exact quiet_load_mid _ _ rfl g 1 rfl (u8s x.id).toList _ hW.id_ Try.underlying37 rfl hid rfl
                         | (have f1 := hW.name_
                            have f2 : W.cell? ⟨gs, os + u * 33, none⟩ = some (.string (B q.name)) := range_name (hW.at_ _ q hqu.out)
                            go_simp
                            first
                              | rfl
                              | (go_at_call 21; with_reducible exact keepF (calls_same (hnm _)) hW)
                              | (go_at_call 27; with_reducible exact keepF (hno _) hW))
                     simp only [Act.put, List.setIfInBounds_toArray, List.set_cons_zero, List.set_cons_succ])
                  | ((with_reducible refine wpQuiet_pass ?_ ?_)
                     · (first | rfl | (go_simp; done))
                     simp only [Act.put, List.setIfInBounds_toArray, List.set_cons_zero, List.set_cons_succ])
              with_reducible refine wpQuiet_nil ?_
              intro w5 hW5
              clear s1 s3 s4 bl
              go_wp2
              go_roundw
              case rel => exact ⟨k + 1, by go_num, by omega, hst, hW5.bel⟩
              case measure => simp [intOf]; omega
        · rw [bz] at hno
          have hbad := Lib.hid (fineL_bad hlt (fineAt_none hxh.out bz))
          clear bz
          refine wp_region_class (C := FineC w g gs os cap l x) (by kernel_rfl) (by kernel_rfl) hS.drew ?_
          repeat
            first
              | ((with_reducible refine wpQuiet_ex ?_ ?_)
                 · (go_simp; done)
                 apply Exists.intro
                 refine ⟨fun W hW => ?_, ?_⟩
                 · first
                     | exact quiet_load_mid _ _ rfl g 1 rfl (u8s x.id).toList _ hW.id_ Try.underlying37 rfl hid rfl
                     | (have f1 := hW.name_
                        go_simp
                        first
                          | rfl
                          | (go_at_call 21; with_reducible exact keepF (calls_same (hnm _)) hW)
                          | (go_at_call 27; with_reducible exact keepF (hno _) hW))
                 simp only [Act.put, List.setIfInBounds_toArray, List.set_cons_zero, List.set_cons_succ])
              | ((with_reducible refine wpQuiet_pass ?_ ?_)
                 · (first | rfl | (go_simp; done))
                 simp only [Act.put, List.setIfInBounds_toArray, List.set_cons_zero, List.set_cons_succ])
          with_reducible refine wpQuiet_nil ?_
          intro w5 hW5
          go_wp2
          go_ret
          exact ⟨by rw [hbad.out]; rfl, hW5.bel⟩
    · have hki : ¬ (k : Int) < (l.length : Int) := by omega
      have hf : Hid (fineL l = decide (l.length ≤ 64)) := by
        have := hall.out
        rw [show k = l.length from by omega] at this
        exact fineL_all this
      clear hall
      by_cases h64 : l.length ≤ 64
      · have h64i : (l.length : Int) ≤ 64 := by omega
        go_wp2
        go_ret
        exact ⟨by rw [hf.out]; simp [h64], hbel⟩
      · have h64i : ¬ (l.length : Int) ≤ 64 := by omega
        go_wp2
        go_ret
        exact ⟨by rw [hf.out]; simp [h64], hbel⟩
end Go.Proofs.Ytlpiefopegjgjaa
