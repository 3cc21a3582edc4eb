/- The walk of layer 9's reference: Fine. No condition. -/
import Derived.Test.YtlpiefopegjgjaaRefM
namespace Go.Proofs.Ytlpiefopegjgjaa
open Go.RowKit
attribute [local go_sem ↓] ldvI_eq
set_option maxRecDepth 100000 in
set_option maxHeartbeats 1000000 in
theorem refFine_calls (l : List RefL) (hok : RefsOk l) (v : Value) (w : World) (hv : Refs w v l) :
    Calls Try.prog 11 #[v] w fun e w' => e = .returned (.bool (fineL l)) ∧ Below w.heap.size w w' := by
  have hlen := hv.len
  obtain ⟨A, cap, rfl, hcap1, hcap2, hat⟩ := hv
  go_enter Try.func11, Try.ntmps11
  by_cases h64 : l.length ≤ 64
  · have h64i : ¬ (64 : Int) < (l.length : Int) := by omega
    go_wp2
    go_loopw [3] (fun i wr => ∃ k : Nat, i = .int .i64 k ∧ k ≤ l.length ∧ Hid ((List.range k).all (fineAt l) = true) ∧ Below w.heap.size w wr) (fun i _ => l.length - (intOf i).toNat)
    case atStart => exact ⟨0, rfl, by omega, rfl, Below.refl _ _⟩
    case round =>
      obtain ⟨k, rfl, hk, hall, hbel⟩ := hrel
      by_cases hlt : k < l.length
      · have hki : (k : Int) < (l.length : Int) := by omega
        obtain ⟨gs, os, rfl, hgs, hcell⟩ := hat (by omega)
        obtain ⟨x, hx⟩ : ∃ x, l[k]? = some x := ⟨_, List.getElem?_eq_getElem hlt⟩
        have hxok : RefOk x := hok x (List.mem_of_getElem? hx)
        have hx0 := rangeAt_below (hcell k x hx) hgs hbel
        have hxh := Lib.hid hx
        clear hx
        have c0 := range_name hx0
        have c1 := run_ldvI_mid (range_id hx0) hxok.1
        have hnm := fun W => refName_calls x.name hxok.2 W
        have hzz := fun W => equalIn_zero x.id hxok.1 W
        cases bn : nameOk x.name
        · rw [bn] at hnm
          have hbad := Lib.hid (fineL_bad hlt (fineAt_name hxh.out bn))
          clear bn
          go_wp2_with (first
            | (go_at_call 22; go_must (refine (hnm _).mono ?_); rintro e w1 ⟨rfl, rfl⟩))
          go_ret
          exact ⟨by rw [hbad.out]; rfl, hbel⟩
        · rw [bn] at hnm
          have bnh := Lib.hid bn
          clear bn
          cases bz : isNone x.id
          · have hz0 : decide (x.id = List.replicate 32 0) = false := bz
            rw [hz0] at hzz
            have bzh := Lib.hid bz
            clear bz hz0
            rcases Nat.eq_zero_or_pos k with h0 | h0
            · have hst := Lib.hid (fine_step hall.out (fineAt_of hxh.out bnh.out bzh.out (fun h => absurd h (by omega))))
              have hk0 : ¬ (0 : Int) < (k : Int) := by omega
              have hk0d : decide ((0 : Int) < (k : Int)) = false := by simpa using h0
              have hk0n : decide (0 < k) = false := by simp [h0]
              clear h0
              go_wp2_with (first
                | (go_at_call 22; go_must (refine (hnm _).mono ?_); rintro e w1 ⟨rfl, rfl⟩))
              go_quiet (fail)
              clear hk0 hk0d hk0n
              go_wp2
              go_roundw
              case rel => exact ⟨k + 1, by go_num, by omega, hst, bdrewN hbel nq⟩
              case measure => simp [intOf]; omega
            · obtain ⟨q, hq⟩ : ∃ q, l[k - 1]? = some q := ⟨_, List.getElem?_eq_getElem (show k - 1 < l.length by omega)⟩
              have hqh := Lib.hid hq
              clear hq
              have hk0 : (0 : Int) < (k : Int) := by omega
              obtain ⟨u, s1, hu⟩ : ∃ u : Nat, IntKind.i64.wrap ((k : Int) - 1) = (u : Int) ∧ u = k - 1 := ⟨k - 1, by rw [IntWalk.i64_in _ (by omega)]; omega, rfl⟩
              have s3 : (u : Int) < (l.length : Int) := by omega
              have s4 : u < l.length := by omega
              have c2 : wr.cell? ⟨gs, os + u * 33, none⟩ = some (.string (B q.name)) := range_name (rangeAt_below (hcell u q (by rw [hu]; exact hqh.out)) hgs hbel)
              have hor := Lib.hid (leq_not_less x.name q.name)
              clear hu
              cases bl : Op.bytesLess q.name x.name
              · have hbad := Lib.hid (fineL_bad hlt (fineAt_less hxh.out h0 hqh.out bl))
                have ht : (Op.bytesLess x.name q.name || x.name == q.name) = true := by rw [hor.out, bl]; rfl
                clear bl
                go_wp2_with (first
                  | (go_at_call 22; go_must (refine (hnm _).mono ?_); rintro e w1 ⟨rfl, rfl⟩))
                go_quiet (fail)
                go_wp2
                go_ret
                exact ⟨by rw [hbad.out]; rfl, bdrewN hbel nq⟩
              · have hst := Lib.hid (fine_step hall.out (fineAt_of hxh.out bnh.out bzh.out (fun _ => ⟨q, hqh.out, bl⟩)))
                have ht : (Op.bytesLess x.name q.name || x.name == q.name) = false := by rw [hor.out, bl]; rfl
                clear bl
                go_wp2_with (first
                  | (go_at_call 22; go_must (refine (hnm _).mono ?_); rintro e w1 ⟨rfl, rfl⟩))
                go_quiet (fail)
                clear s1 s3 s4 ht
                go_wp2
                go_roundw
                case rel => exact ⟨k + 1, by go_num, by omega, hst, bdrewN hbel nq⟩
                case measure => simp [intOf]; omega
          · have hz0 : decide (x.id = List.replicate 32 0) = true := bz
            rw [hz0] at hzz
            have hbad := Lib.hid (fineL_bad hlt (fineAt_none hxh.out bz))
            clear bz hz0
            go_wp2_with (first
              | (go_at_call 22; go_must (refine (hnm _).mono ?_); rintro e w1 ⟨rfl, rfl⟩))
            go_ret
            exact ⟨by rw [hbad.out]; rfl, hbel⟩
      · have hki : ¬ (k : Int) < (l.length : Int) := by omega
        have hf : Hid (fineL l = true) := by
          have := hall.out
          rw [show k = l.length from by omega] at this
          show _ = _
          rw [fineL_all this]
          simp [h64]
        clear hall
        go_wp2
        go_ret
        exact ⟨by rw [hf.out]; rfl, hbel⟩
  · have h64i : (64 : Int) < (l.length : Int) := by omega
    have hf := Lib.hid (fineL_long h64)
    go_wp2
    go_ret
    exact ⟨by rw [hf.out]; rfl, Below.refl _ _⟩
end Go.Proofs.Ytlpiefopegjgjaa
