/- The walks of figures: Unhex, Less, on the program's side and on the document's. No condition. -/
import Derived.Test.YtlpiefopegjgjaaHex
import Derived.Test.YtlpiefopegjgjaaUnhex0
import Derived.Test.YtlpiefopegjgjaaShelf
import Derived.StillTailTactics
namespace Go.Proofs.Ytlpiefopegjgjaa
open Go.RowKit

theorem or_fig (x n : Nat) (hx : x < 16) (hn : n < 16) : bits .or .u8 ((x : Int) * 16 % 256) ((n : Int) % 256) = ((16 * x + n : Nat) : Int) := by
  have : ∀ a b : Fin 16, bits .or .u8 ((a.val : Int) * 16 % 256) ((b.val : Int) % 256) = ((16 * a.val + b.val : Nat) : Int) := by decide +kernel
  exact this ⟨x, hx⟩ ⟨n, hn⟩
theorem or_fig' (x n : Nat) (hx : x < 16) (hn : n < 16) : bits .or .u8 ((x : Int) * 16) (n : Int) = ((16 * x + n : Nat) : Int) := by
  have : ∀ a b : Fin 16, bits .or .u8 ((a.val : Int) * 16) (b.val : Int) = ((16 * a.val + b.val : Nat) : Int) := by decide +kernel
  exact this ⟨x, hx⟩ ⟨n, hn⟩
theorem index_calls (c : UInt8) (w : World) :
    Calls Try.prog 41 #[.string ⟨#[48, 49, 50, 51, 52, 53, 54, 55, 56, 57, 97, 98, 99, 100, 101, 102]⟩, .int .u8 (c.toNat : Nat)] w fun e w' => e = .returned (.int .i64 (if figN c < 16 then (figN c : Int) else -1)) ∧ w = w' := by
  refine (Try.strings_IndexByte _ _ w).mono fun e w' ⟨he, hw⟩ => ⟨?_, hw.symm⟩
  rw [he, ← index_fig]
  simp [figures]
theorem index_yes (c : UInt8) (h : figN c < 16) (w : World) :
    Calls Try.prog 41 #[.string ⟨#[48, 49, 50, 51, 52, 53, 54, 55, 56, 57, 97, 98, 99, 100, 101, 102]⟩, .int .u8 (c.toNat : Nat)] w fun e w' => e = .returned (.int .i64 (figN c : Nat)) ∧ w = w' := by
  have := index_calls c w
  rwa [if_pos h] at this
theorem index_no (c : UInt8) (h : ¬ figN c < 16) (w : World) :
    Calls Try.prog 41 #[.string ⟨#[48, 49, 50, 51, 52, 53, 54, 55, 56, 57, 97, 98, 99, 100, 101, 102]⟩, .int .u8 (c.toNat : Nat)] w fun e w' => e = .returned (.int .i64 (-1)) ∧ w = w' := by
  have := index_calls c w
  rwa [if_neg h] at this
set_option maxRecDepth 100000 in
set_option maxHeartbeats 1000000 in
theorem unhex_calls (s : List UInt8) (hs : s.length ≤ 9223372036854775807) (w : World) :
    Calls Try.prog 33 #[.string (B s)] w fun e w' => e = .returned (.tuple #[.agg (u8s (unhexOr s)), .bool (isHex s)]) ∧ Below w.heap.size w w' := by
  have hz := zeros32
  have b0 : Blk ((w.alloc (.cells (u8s (List.replicate 32 0)) 37)).alloc (.cells (u8s (List.replicate 32 0)) 37)) w.heap.size 37 (u8s (List.replicate 32 0)) := (Blk.new w _ _).alloc _
  have b1 : Blk ((w.alloc (.cells (u8s (List.replicate 32 0)) 37)).alloc (.cells (u8s (List.replicate 32 0)) 37)) (w.heap.size + 1) 37 (u8s (List.replicate 32 0)) := blk_at2 _ _ _ _
  have bb : Below w.heap.size w ((w.alloc (.cells (u8s (List.replicate 32 0)) 37)).alloc (.cells (u8s (List.replicate 32 0)) 37)) := ((Below.refl _ _).alloc (Nat.le_refl _) _).alloc (by simp) _
  have hi0 := sized32 zeros32
  have hall0 := u8s_one (List.replicate 32 0)
  go_enter Try.func33, Try.ntmps33
  by_cases hl : s.length = 64
  · have hlh := Lib.hid hl
    have hl1 : (s.length : Int) ≤ 64 := by omega
    have hl2 : (64 : Int) ≤ (s.length : Int) := by omega
    have hli : ((s.length : Int) != 64) = false := by rw [hl]; rfl
    clear hl
    go_wp2
    go_loopw [13] (fun i wr => ∃ k : Nat, i = .int .i64 k ∧ k ≤ 64 ∧ Figs s k ∧ Blk wr (w.heap.size + 1) 37 (u8s (partsH s k)) ∧ Blk wr w.heap.size 37 (u8s (List.replicate 32 0)) ∧ Below w.heap.size w wr) (fun i _ => 64 - (intOf i).toNat)
    case atStart => exact ⟨0, rfl, by omega, fun j hj => absurd hj (by omega), by rw [partsH_zero]; exact b1, b0, bb⟩
    case round =>
      clear b0 b1 bb
      obtain ⟨k, rfl, hk, hfig, h1, h0, hbel⟩ := hrel
      have hbs := h1.lt
      have hfigh := Lib.hid hfig
      by_cases hlt : k < 64
      · have hki : (k : Int) < 64 := by omega
        have hks : (k : Int) < (s.length : Int) := by omega
        have hfg : fg s k = figN (s.getD k 0) := rfl
        obtain ⟨c, hc⟩ : ∃ c, s.getD k 0 = c := ⟨_, rfl⟩
        have hck : ∀ h : k < s.length, s[k]'h = c := fun h => by rw [← hc, getD_at]
        rw [hc] at hfg
        have hfgh := Lib.hid hfg
        clear hc hfg
        by_cases hf : figN c < 16
        · have hx16 := (partH_here hfig).1
          have hstep := Lib.hid (partsH_step hfig)
          have hcell : wr.cell? ⟨w.heap.size + 1, k / 2, none⟩ = some (.int .u8 (partH s k (k / 2) : Nat)) := by
            rw [h1.cell, u8s_get _ _ (by rw [partsH_length]; omega), partsH_get hfig (by omega)]
          have hfr := h1.frozen (k / 2)
          have hnf : Hid (Figs s (k + 1)) := hfig.step (by rw [hfgh.out]; exact hf)
          rw [hfgh.out] at hstep
          generalize partH s k (k / 2) = x at *
          have hst : Hid ((partsH s k).set (k / 2) (16 * x + figN c).toUInt8 = partsH s (k + 1)) := hstep
          clear hstep hfig
          have hn0 : (figN c : Int) < 16 := by omega
          obtain ⟨n, hn⟩ : ∃ n, figN c = n := ⟨_, rfl⟩
          have e1 := or_fig x n hx16 (by omega)
          have e2 := or_fig' x n hx16 (by omega)
          have hxi : (x : Int) < 16 := by omega
          have hq : (k : Int) / 2 < 32 := by omega
          have hq0 : (0 : Int) ≤ (k : Int) / 2 := by omega
          have hqn : k / 2 < 32 := by omega
          have hyes := index_yes c hf
          rw [hn] at hyes hst hn0
          have hyesh := fun W => Lib.hid (hyes W)
          clear hyes hn
          go_wp2_with (first
            | (go_at_call 41; go_must (refine ((hyesh _).out).mono ?_); rintro e w1 ⟨rfl, rfl⟩))
          have hn1 := h1.set_ (k / 2) (.int .u8 ((16 * x + n : Nat) : Int))
          rw [u8s_set _ _ _ (by omega), hst.out] at hn1
          go_roundw
          case rel => exact ⟨k + 1, by go_num, by omega, hnf.out, hn1, h0.far (by simp) _, hbel.setCell (by simp) _⟩
          case measure => simp [intOf]; omega
        · have hno := fun W => Lib.hid (index_no c hf W)
          have hnx : isHex s = false := isHex_false (i := k) (by rw [hlh.out]; exact hlt) (by rw [hfgh.out]; exact hf)
          have hnxh := Lib.hid hnx
          have hor : Hid (unhexOr s = List.replicate 32 0) := by show _ = _; rw [unhexOr, hnx]; rfl
          clear hnx
          go_wp2_with (first
            | (refine wpList_store_row rfl 37 (.tmp 2) (.tmp 22) rfl w.heap.size (u8s (List.replicate 32 0)) rfl rfl _ _ h0 hi0 rfl hall0 ?_)
            | (go_at_call 41; go_must (refine ((hno _).out).mono ?_); rintro e w1 ⟨rfl, rfl⟩))
          refine bodyPost_ret (results_row_tmp rfl _ _ w.heap.size _ _ _ _ rfl (setRow_heap _ _ _ _ _ _ h0) Try.underlying37 rfl hi0) rfl ⟨?_, below_setRow hbel (Nat.le_refl _) _⟩
          rw [hor.out, hnxh.out]
          rfl
      · have hk64 : k = 64 := by omega
        have hki : ¬ (k : Int) < 64 := by omega
        rw [hk64] at hfig h1
        have hyx := isHex_of_figs hlh.out hfig
        have hyxh := Lib.hid hyx
        have hor : Hid (unhexOr s = unhexId s) := by show _ = _; rw [unhexOr, hyx]; rfl
        rw [partsH_all] at h1
        clear hk64 hyx hfig hfigh
        have hi2 := sized32 (unhexId_length s)
        have hall2 := u8s_one (unhexId s)
        have hold2 := same32 zeros32 (unhexId_length s)
        go_wp2_with (first
          | (refine wpList_load_row rfl 37 (.tmp 4) rfl (w.heap.size + 1) rfl _ _ _ _ h1 Try.underlying37 rfl hi2 ?_)
          | (refine wpList_store_row rfl 37 (.tmp 2) (.tmp 35) rfl w.heap.size (u8s (unhexId s)) rfl rfl _ _ h0 hi2 hold2 hall2 ?_))
        refine bodyPost_ret (results_row_tmp rfl _ _ w.heap.size _ _ _ _ rfl (setRow_heap _ _ _ _ _ _ h0) Try.underlying37 rfl hi2) rfl ⟨?_, below_setRow hbel (Nat.le_refl _) _⟩
        rw [hor.out, hyxh.out]
        rfl
  · have hli : ((s.length : Int) != 64) = true := by simp; omega
    have hnx := isHex_len hl
    have hnxh := Lib.hid hnx
    have hor : Hid (unhexOr s = List.replicate 32 0) := by show _ = _; rw [unhexOr, hnx]; rfl
    clear hnx hl
    go_wp2_with (first
      | (refine wpList_load_row rfl 37 (.tmp 4) rfl (w.heap.size + 1) rfl _ _ _ _ b1 Try.underlying37 rfl hi0 ?_)
      | (refine wpList_store_row rfl 37 (.tmp 2) (.tmp 10) rfl w.heap.size (u8s (List.replicate 32 0)) rfl rfl _ _ b0 hi0 rfl hall0 ?_))
    refine bodyPost_ret (results_row_tmp rfl _ _ w.heap.size _ _ _ _ rfl (setRow_heap _ _ _ _ _ _ b0) Try.underlying37 rfl hi0) rfl ⟨?_, below_setRow bb (Nat.le_refl _) _⟩
    rw [hor.out, hnxh.out]
    rfl
theorem fig_test (c : UInt8) (d : Nat) (hd : d < 16) : (c == figC d) = decide (figN c = d) := by
  rw [Bool.eq_iff_iff]
  simp only [beq_iff_eq, decide_eq_true_eq]
  exact figC_eq c d hd
/-- What was found behind d figures. -/
def foundAt (c : UInt8) (d : Nat) : Int := if figN c < d then (figN c : Int) else -1
theorem foundAt_here {c : UInt8} {d : Nat} (h : figN c = d) : foundAt c (d + 1) = (d : Int) := by rw [foundAt, if_pos (by omega), h]
theorem foundAt_next {c : UInt8} {d : Nat} (h : ¬ figN c = d) : foundAt c (d + 1) = foundAt c d := by
  unfold foundAt
  by_cases h1 : figN c < d
  · rw [if_pos h1, if_pos (by omega)]
  · rw [if_neg h1, if_neg (by omega)]
theorem foundAt_yes {c : UInt8} (h : figN c < 16) : foundAt c 16 = (figN c : Int) := by rw [foundAt, if_pos h]
theorem foundAt_no {c : UInt8} (h : ¬ figN c < 16) : foundAt c 16 = -1 := by rw [foundAt, if_neg h]
set_option maxRecDepth 100000 in
set_option maxHeartbeats 1000000 in
theorem refUnhex_calls (s : List UInt8) (hs : s.length ≤ 9223372036854775807) (w : World) :
    Calls Try.prog 34 #[.string (B s)] w fun e w' => e = .returned (.tuple #[.agg (u8s (unhexOr s)), .bool (isHex s)]) ∧ Below w.heap.size w w' := by
  have b1' : Blk ((w.alloc (.cells (u8s (List.replicate 32 0)) 37)).alloc (.cells (u8s (List.replicate 32 0)) 37)) (w.heap.size + 1) 37 (u8s (List.replicate 32 0)) := blk_at2 _ _ _ _
  have hi0 := sized32 zeros32
  have hall0 := u8s_one (List.replicate 32 0)
  go_enter Try.func34, Try.ntmps34
  have b1 := setRow_heap _ _ _ (u8s (List.replicate 32 0)) _ _ b1'
  have b0 : Blk (World.setRow ((w.alloc (.cells (u8s (List.replicate 32 0)) 37)).alloc (.cells (u8s (List.replicate 32 0)) 37)) (w.heap.size + 1) (u8s (List.replicate 32 0))) w.heap.size 37 (u8s (List.replicate 32 0)) := by
    unfold Blk; rw [setRow_other _ _ _ _ (by omega)]; exact (Blk.new w _ _).alloc _
  have bb : Below w.heap.size w (World.setRow ((w.alloc (.cells (u8s (List.replicate 32 0)) 37)).alloc (.cells (u8s (List.replicate 32 0)) 37)) (w.heap.size + 1) (u8s (List.replicate 32 0))) :=
    below_setRow (((Below.refl _ _).alloc (Nat.le_refl _) _).alloc (by simp) _) (by omega) _
  by_cases hl : s.length = 64
  · have hlh := Lib.hid hl
    have hl1 : (s.length : Int) ≤ 64 := by omega
    have hl2 : (64 : Int) ≤ (s.length : Int) := by omega
    have hli : ((s.length : Int) != 64) = false := by rw [hl]; rfl
    clear hl
    go_wp2_with (first
      | (refine wpList_store_row rfl 37 (.tmp 4) (.tmp 8) rfl (w.heap.size + 1) (u8s (List.replicate 32 0)) rfl rfl _ _ b1' hi0 rfl hall0 ?_))
    clear b1'
    obtain ⟨wz, hwz⟩ : ∃ wz, World.setRow ((w.alloc (.cells (u8s (List.replicate 32 0)) 37)).alloc (.cells (u8s (List.replicate 32 0)) 37)) (w.heap.size + 1) (u8s (List.replicate 32 0)) = wz := ⟨_, rfl⟩
    rw [hwz] at b0 b1 bb
    go_loopw [5] (fun i wr => ∃ k : Nat, i = .int .i64 k ∧ k ≤ 64 ∧ Figs s k ∧ Blk wr (w.heap.size + 1) 37 (u8s (partsH s k)) ∧ Blk wr w.heap.size 37 (u8s (List.replicate 32 0)) ∧ Below w.heap.size w wr) (fun i _ => 64 - (intOf i).toNat)
    case atStart => exact ⟨0, rfl, by omega, fun j hj => absurd hj (by omega), by rw [partsH_zero]; exact hwz ▸ b1, hwz ▸ b0, hwz ▸ bb⟩
    case round =>
      clear b0 b1 bb hwz
      obtain ⟨k, rfl, hk, hfig, h1, h0, hbel⟩ := hrel
      have hbs := h1.lt
      have hfigh := Lib.hid hfig
      by_cases hlt : k < 64
      · have hki : (k : Int) < 64 := by omega
        have hks : (k : Int) < (s.length : Int) := by omega
        have hfg : fg s k = figN (s.getD k 0) := rfl
        obtain ⟨c, hc⟩ : ∃ c, s.getD k 0 = c := ⟨_, rfl⟩
        have hcut : (s.drop k).take 1 = [c] := by
          have hks' : k < s.length := by omega
          rw [List.drop_eq_getElem_cons hks', List.take_succ_cons, List.take_zero, ← hc, getD_at]
        have hcuth := Lib.hid hcut
        rw [hc] at hfg
        have hfgh := Lib.hid hfg
        clear hc hfg hfig
        have hks1 : (k : Int) + 1 ≤ (s.length : Int) := by omega
        obtain ⟨wo, rfl⟩ : ∃ wo : World, wo = wr := ⟨_, rfl⟩
        go_wp2
        go_loopw [7, 6] (fun d n wr => ∃ d' : Nat, d = .int .i64 d' ∧ d' ≤ 16 ∧ n = .int .i64 (foundAt c d') ∧ Below wo.heap.size wo wr) (fun d _ _ => 16 - (intOf d).toNat)
        case atStart => exact ⟨0, rfl, by omega, rfl, Below.refl _ _⟩
        case round =>
          obtain ⟨d, rfl, hd, rfl, hb⟩ := hrel
          have hbsz := hb.size
          by_cases hd16 : d < 16
          · have hdi : (d : Int) < 16 := by omega
            have s1 : IntKind.i64.wrap ((k : Int) + 1) = (k : Int) + 1 := IntWalk.i64_in _ (by omega)
            have s2 : 0 ≤ (k : Int) + 1 := by omega
            have s3 : (k : Int) ≤ (k : Int) + 1 := by omega
            have s4 : ((k : Int) + 1).toNat = k + 1 := by omega
            have s5 : k + 1 - k = 1 := by omega
            have hdc := fun W => Lib.hid (digit_calls d hd16 W)
            have hft := fig_test c d hd16
            by_cases he : figN c = d
            · have hft2 : (c == figC d) = true := by rw [hft]; simpa using he
              have hnext := Lib.hid (foundAt_here he)
              clear hft he
              go_wp2
              go_region_with (first
                | (go_at_call 39; go_must (refine ((hdc _).out).mono ?_); rintro e w1 ⟨rfl, hb1⟩))
              all_goals
                clear s1 s2 s3 s4 s5 hft2 hdc
                have hb2 : Below wo.heap.size wo w1 := bthen hb.drew hbsz hb1
                go_wp2
                go_roundw
                case rel => exact ⟨d + 1, by go_num, by omega, by rw [hnext.out], hb2⟩
                case measure => simp [intOf]; omega
            · have hft2 : (c == figC d) = false := by rw [hft]; simpa using he
              have hnext := Lib.hid (foundAt_next he)
              clear hft he
              go_wp2
              go_region_with (first
                | (go_at_call 39; go_must (refine ((hdc _).out).mono ?_); rintro e w1 ⟨rfl, hb1⟩))
              all_goals
                clear s1 s2 s3 s4 s5 hft2 hdc
                have hb2 : Below wo.heap.size wo w1 := bthen hb.drew hbsz hb1
                go_wp2
                go_roundw
                case rel => exact ⟨d + 1, by go_num, by omega, by rw [hnext.out], hb2⟩
                case measure => simp [intOf]; omega
          · have hd16' : d = 16 := by omega
            have hdi : ¬ (d : Int) < 16 := by omega
            rw [hd16']
            clear hd16' hd16
            have g1 := h1.below hb h1.lt
            have g0 := h0.below hb h0.lt
            have gbel := bthen hbel hbel.size hb
            clear h1 h0 hbel hb
            have hbs := g1.lt
            by_cases hf : figN c < 16
            · have hfig := hfigh.out
              have hx16 := (partH_here hfig).1
              have hstep := partsH_step hfig
              have hcell : wr.cell? ⟨w.heap.size + 1, k / 2, none⟩ = some (.int .u8 (partH s k (k / 2) : Nat)) := by
                rw [g1.cell, u8s_get _ _ (by rw [partsH_length]; omega), partsH_get hfig (by omega)]
              have hfr := g1.frozen (k / 2)
              have hnf : Hid (Figs s (k + 1)) := hfig.step (by rw [hfgh.out]; exact hf)
              rw [hfgh.out] at hstep
              generalize partH s k (k / 2) = x at *
              have hst : Hid ((partsH s k).set (k / 2) (16 * x + figN c).toUInt8 = partsH s (k + 1)) := hstep
              clear hstep hfig
              rw [foundAt_yes hf]
              have hn0 : (figN c : Int) < 16 := by omega
              obtain ⟨n, hn⟩ : ∃ n, figN c = n := ⟨_, rfl⟩
              rw [hn] at hst hn0 ⊢
              clear hn hf
              have hxi : (x : Int) < 16 := by omega
              have hq : (k : Int) / 2 < 32 := by omega
              have hq0 : (0 : Int) ≤ (k : Int) / 2 := by omega
              have hqn : k / 2 < 32 := by omega
              have hx1 : (x : Int) % 16 = (x : Int) := by omega
              have hx2 : (16 * (x : Int) + (n : Int)) % 256 = ((16 * x + n : Nat) : Int) := by omega
              go_wp2
              have hn1 := g1.set_ (k / 2) (.int .u8 ((16 * x + n : Nat) : Int))
              rw [u8s_set _ _ _ (by omega), hst.out] at hn1
              have hn2 : ((16 * x + n : Nat) : Int) = 16 * (x : Int) + (n : Int) := by omega
              rw [hn2] at hn1
              go_roundw
              case rel => exact ⟨k + 1, by go_num, by omega, hnf.out, hn1, g0.far (by simp) _, gbel.setCell (by simp) _⟩
              case measure => simp [intOf]; omega
            · rw [foundAt_no hf]
              have hnx : isHex s = false := isHex_false (i := k) (by rw [hlh.out]; exact hlt) (by rw [hfgh.out]; exact hf)
              have hnxh := Lib.hid hnx
              have hor : Hid (unhexOr s = List.replicate 32 0) := by show _ = _; rw [unhexOr, hnx]; rfl
              clear hnx
              go_wp2_with (first
                | (refine wpList_store_row rfl 37 (.tmp 2) (.tmp 32) rfl w.heap.size (u8s (List.replicate 32 0)) rfl rfl _ _ g0 hi0 rfl hall0 ?_))
              refine bodyPost_ret (results_row_tmp rfl _ _ w.heap.size _ _ _ _ rfl (setRow_heap _ _ _ _ _ _ g0) Try.underlying37 rfl hi0) rfl ⟨?_, below_setRow gbel (Nat.le_refl _) _⟩
              rw [hor.out, hnxh.out]
              rfl
      · have hk64 : k = 64 := by omega
        have hki : ¬ (k : Int) < 64 := by omega
        rw [hk64] at hfig h1
        have hyx := isHex_of_figs hlh.out hfig
        have hyxh := Lib.hid hyx
        have hor : Hid (unhexOr s = unhexId s) := by show _ = _; rw [unhexOr, hyx]; rfl
        rw [partsH_all] at h1
        clear hk64 hyx hfig hfigh
        have hi2 := sized32 (unhexId_length s)
        have hall2 := u8s_one (unhexId s)
        have hold2 := same32 zeros32 (unhexId_length s)
        go_wp2_with (first
          | (refine wpList_load_row rfl 37 (.tmp 4) rfl (w.heap.size + 1) rfl _ _ _ _ h1 Try.underlying37 rfl hi2 ?_)
          | (refine wpList_store_row rfl 37 (.tmp 2) (.tmp 46) rfl w.heap.size (u8s (unhexId s)) rfl rfl _ _ h0 hi2 hold2 hall2 ?_))
        refine bodyPost_ret (results_row_tmp rfl _ _ w.heap.size _ _ _ _ rfl (setRow_heap _ _ _ _ _ _ h0) Try.underlying37 rfl hi2) rfl ⟨?_, below_setRow hbel (Nat.le_refl _) _⟩
        rw [hor.out, hyxh.out]
        rfl
  · have hli : ((s.length : Int) != 64) = true := by simp; omega
    have hnx := isHex_len hl
    have hnxh := Lib.hid hnx
    have hor : Hid (unhexOr s = List.replicate 32 0) := by show _ = _; rw [unhexOr, hnx]; rfl
    clear hnx hl
    go_wp2_with (first
      | (refine wpList_store_row rfl 37 (.tmp 4) (.tmp 8) rfl (w.heap.size + 1) (u8s (List.replicate 32 0)) rfl rfl _ _ b1' hi0 rfl hall0 ?_)
      | (refine wpList_load_row rfl 37 (.tmp 4) rfl (w.heap.size + 1) rfl _ _ _ _ b1 Try.underlying37 rfl hi0 ?_)
      | (refine wpList_store_row rfl 37 (.tmp 2) (.tmp 12) rfl w.heap.size (u8s (List.replicate 32 0)) rfl rfl _ _ b0 hi0 rfl hall0 ?_))
    refine bodyPost_ret (results_row_tmp rfl _ _ w.heap.size _ _ _ _ rfl (setRow_heap _ _ _ _ _ _ b0) Try.underlying37 rfl hi0) rfl ⟨?_, below_setRow bb (Nat.le_refl _) _⟩
    rw [hor.out, hnxh.out]
    rfl
end Go.Proofs.Ytlpiefopegjgjaa
