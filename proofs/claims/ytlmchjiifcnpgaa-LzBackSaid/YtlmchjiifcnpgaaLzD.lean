/- What LzBack of the statements of layer 5 returns: true. No condition but sizes that every memory has. -/
import Derived.Test.YtlmchjiifcnpgaaLzC
namespace Go.Proofs.Ytlmchjiifcnpgaa
open Go.RowKit

theorem unpack_is (l : List UInt8) (most : Int) (t : List UInt8) (k : Nat) (hl : l.length ≤ 70368744177664) (h0 : -9223372036854775808 ≤ most) (h1 : most ≤ 70368744170000) (h : unp l most = (t, k)) (w : World) :
    Calls Try.prog 7 #[.string (B l), .int .i64 most] w fun e w' => e = .returned (.tuple #[.string (B t), .int .i64 k]) ∧ Below w.heap.size w w' :=
  (unpack_calls l most hl h0 h1 w).mono fun e w' ⟨he, hb⟩ => ⟨by rw [he, h]; rfl, hb⟩
theorem refUnpack_is (l : List UInt8) (most : Int) (t : List UInt8) (k : Nat) (hl : l.length ≤ 70368744177664) (h0 : -9223372036854775808 ≤ most) (h1 : most ≤ 70368744170000) (h : unp l most = (t, k)) (w : World) :
    Calls Try.prog 8 #[.string (B l), .int .i64 most] w fun e w' => e = .returned (.tuple #[.string (B t), .int .i64 k]) ∧ Below w.heap.size w w' :=
  (refUnpack_calls l most hl h0 h1 w).mono fun e w' ⟨he, hb⟩ => ⟨by rw [he, h]; rfl, hb⟩
/-- What a text with one byte fewer let comes to. -/
theorem PackOk.fewer' {s p : List UInt8} (h : PackOk s p) : unp p ((s.length : Int) - 1) = ([], if s = [] then 1 else 3) := by
  by_cases hs : s = []
  · subst hs
    rw [if_pos rfl]
    exact unp_neg (by simp)
  · rw [if_neg hs]
    exact h.fewer hs

set_option maxRecDepth 100000 in
set_option maxHeartbeats 2000000 in
theorem lzBack_calls (s : List UInt8) (by_ times : Nat) (hl : s.length ≤ 9223372036854775807) (hby : by_ < 256) (ht : times < 65536) (w : World) :
    Calls Try.prog 5 #[.string (B s), .int .u8 by_, .int .u16 times] w fun e w' => e = .returned (.bool true) ∧ Below w.heap.size w w' := by
  by_cases h1 : 1500 < s.length
  · go_enter Try.func5, Try.ntmps5
    go_wp2_with (go_at_call 6; go_must (refine (knows05_calls _).mono ?_); rintro e w1 ⟨rfl, hb1⟩)
    all_goals first | (exfalso; omega) | skip
    go_ret
    exact ⟨rfl, hb1⟩
  · obtain ⟨E, hE, hEb⟩ : ∃ E : Nat, E = (if s = [] then 1 else 3) ∧ ((s.isEmpty = true ∧ ((E : Int) == 1) = true ∧ ((E : Int) == 3) = false) ∨ (s.isEmpty = false ∧ ((E : Int) == 1) = false ∧ ((E : Int) == 3) = true)) := by
      by_cases hs : s = []
      · exact ⟨1, by rw [if_pos hs], .inl ⟨by simp [hs], rfl, rfl⟩⟩
      · exact ⟨3, by rw [if_neg hs], .inr ⟨by simp [hs], rfl, rfl⟩⟩
    have hEh := Lib.hid hE
    clear hE
    have hmod : (times : Int) % 4097 = ((times % 4097 : Nat) : Int) := by omega
    have hN := Nat.mod_lt times (show 0 < 4097 by omega)
    generalize times % 4097 = N at *
    go_enter Try.func5, Try.ntmps5
    go_wp2_with fail
    all_goals first | (exfalso; omega) | skip
    refine (pack_calls s (by omega) _).mono ?_
    rintro e w1 ⟨p, rfl, hp, hb1⟩
    have hpl := hp.most
    have hj := Lib.hid hp.just
    have hf : Hid (unp p ((s.length : Int) - 1) = ([], E)) := by rw [hEh.out]; exact hp.fewer'
    clear hp
    go_wp2_with fail
    refine (unpack_is p s.length s 0 (by omega) (by omega) (by omega) hj.out _).mono ?_
    rintro e w2 ⟨rfl, hb2⟩
    have hb2' := bthen hb1 hb1.size hb2
    clear hb2
    go_wp2_with fail
    refine (refUnpack_is p s.length s 0 (by omega) (by omega) (by omega) hj.out _).mono ?_
    rintro e w3 ⟨rfl, hb3⟩
    have hb3' := bthen hb2' hb2'.size hb3
    clear hb3
    go_wp2_with fail
    all_goals first | (exfalso; omega) | skip
    refine (unpack_is p ((s.length : Int) - 1) [] E (by omega) (by omega) (by omega) hf.out _).mono ?_
    rintro e w4 ⟨rfl, hb4⟩
    have hb4' := bthen hb3' hb3'.size hb4
    clear hb4 hb3' hb2' hb1
    have hs4 := hb4'.size
    rcases hEb with ⟨k1, k2, k3⟩ | ⟨k1, k2, k3⟩
    all_goals
      have k4 : ((E : Int) != 1) = !((E : Int) == 1) := rfl
      have k5 : ((E : Int) != 3) = !((E : Int) == 3) := rfl
      rw [k2] at k4
      rw [k3] at k5
      go_wp2_with fail
      all_goals first | (exfalso; omega) | skip
      go_loopw [14, 15] (fun v i wr => ∃ k : Nat, i = .int .i64 k ∧ k ≤ N ∧ OwnB wr w.heap.size 5 v (List.replicate k (UInt8.ofNat by_)) ∧ Below w.heap.size w wr) (fun _ i _ => N - (intOf i).toNat)
      case atStart => exact ⟨0, rfl, by omega, OwnB.nil _ _ _, hb4'⟩
      case round =>
        obtain ⟨k, rfl, hk, hown, hb⟩ := hrel
        have hbs := hb.size
        have hrl : (List.replicate k (UInt8.ofNat by_)).length = k := List.length_replicate
        obtain ⟨A, cap, rfl⟩ := hown.form'
        by_cases hkn : k < N
        · go_wp2_with (at_builtin; go_must (refine wpList_append_byte rfl _ _ _ rfl _ Try.bytesTy w.heap.size _ _ rfl (hown.alloc _) _ _ rfl (cell_new1 _ _ _) (by omega) (by omega) (by omega) w (hb.alloc hbs _) (by simp; omega) ?_); intro v2 w5 hown2 hbel2 hg2; clear hg2)
          all_goals first | (exfalso; omega) | skip
          rw [Int.toNat_natCast, ← List.replicate_succ'] at hown2
          go_roundw
          case rel => exact ⟨k + 1, by go_num, by omega, hown2, hbel2⟩
          case measure => simp [intOf]; omega
        · obtain rfl : k = N := by omega
          generalize hrun : List.replicate k (UInt8.ofNat by_) = run at *
          have hown1 := hown
          have hrunh := Lib.hid hrun
          have hrl1 : run.length ≤ 4096 := by omega
          clear hrun hown hrl
          have hcv := Try.str_of_own wr hown1
          go_wp2_with fail
          all_goals first | (exfalso; omega) | skip
          refine (pack_calls run (by omega) _).mono ?_
          rintro e w5 ⟨q, rfl, hq, hb5⟩
          have hql := hq.most
          have hq8 := hq.run _ _ hrunh.out.symm (by omega)
          have hqj := Lib.hid hq.just
          have hb5' := bthen hb hbs hb5
          have hown2 := hown1.below hb5
          clear hq hcv
          go_wp2_with fail
          refine (unpack_is q run.length run 0 (by omega) (by omega) (by omega) hqj.out _).mono ?_
          rintro e w6 ⟨rfl, hb6⟩
          have hb6' := bthen hb5' hb5'.size hb6
          have hown3 := hown2.below hb6
          go_wp2_with fail
          refine (knows05_calls _).mono ?_
          rintro e w7 ⟨rfl, hb7⟩
          have hb7' := bthen hb6' hb6'.size hb7
          have hown4 := hown3.below hb7
          have hcv := Try.str_of_own w7 hown4
          clear hown1 hown2 hown3 hown4
          go_wp2_with fail
          all_goals first | (exfalso; omega) | skip
          go_ret
          exact ⟨rfl, hb7'⟩
end Go.Proofs.Ytlmchjiifcnpgaa
