/- The walk of the reference's Unpack (layer 5). No condition but sizes that every memory has. -/
import Derived.Test.YtlmchjiifcnpgaaLzU
namespace Go.Proofs.Ytlmchjiifcnpgaa
open Go.RowKit

theorem refGet_some {l : List UInt8} {n k : Nat} (h : get l = some (n, k)) (hl : l.length ≤ 4611686018427387904) (w : World) :
    Calls Try.prog 12 #[.string (B l)] w fun e w' => e = .returned (.tuple #[.int .u64 n, .int .i64 k]) ∧ w = w' :=
  (refGet_calls l hl w).mono fun e w' ⟨he, hw⟩ => ⟨by rw [he, h]; rfl, hw.symm⟩
theorem refGet_non {l : List UInt8} (h : get l = none) (hl : l.length ≤ 4611686018427387904) (w : World) :
    Calls Try.prog 12 #[.string (B l)] w fun e w' => e = .returned (.tuple #[.int .u64 0, .int .i64 0]) ∧ w = w' :=
  (refGet_calls l hl w).mono fun e w' ⟨he, hw⟩ => ⟨by rw [he, h]; rfl, hw.symm⟩

set_option maxRecDepth 100000 in
set_option maxHeartbeats 4000000 in
theorem refUnpack_calls (l : List UInt8) (most : Int) (hl : l.length ≤ 70368744177664) (h0 : -9223372036854775808 ≤ most) (h1 : most ≤ 70368744170000) (w : World) :
    Calls Try.prog 8 #[.string (B l), .int .i64 most] w fun e w' => e = .returned (unpVal (unp l most)) ∧ Below w.heap.size w w' := by
  by_cases hneg : most < 0
  · have hR := Lib.hid (unp_neg (l := l) hneg)
    go_enter Try.func8, Try.ntmps8
    go_wp2
    go_ret2
    exact ⟨by rw [hR.out]; rfl, Below.refl _ _⟩
  · cases l with
    | nil =>
      have hR := Lib.hid (unp_nil (most := most) (by omega))
      go_enter Try.func8, Try.ntmps8
      go_wp2
      go_ret2
      exact ⟨by rw [hR.out]; rfl, Below.refl _ _⟩
    | cons c r =>
      rw [List.length_cons] at hl
      by_cases hc : 1 < c.toNat
      · have hR := Lib.hid (unp_way (r := r) (most := most) (by omega) hc)
        go_enter Try.func8, Try.ntmps8
        go_wp2
        go_ret2
        exact ⟨by rw [hR.out]; rfl, Below.refl _ _⟩
      · by_cases hz : c.toNat = 0
        · have hzi : ((c.toNat : Int) == 0) = true := by simp [hz]
          by_cases hb : most < r.length
          · have hR := Lib.hid (unp_stored_big (r := r) (most := most) (by omega) hz hb)
            have hzh := Lib.hid hz
            clear hz
            go_enter Try.func8, Try.ntmps8
            go_wp2
            all_goals first | (exfalso; omega) | skip
            go_ret2
            exact ⟨by rw [hR.out]; rfl, Below.refl _ _⟩
          · have hR := Lib.hid (unp_stored (r := r) (most := most) (by omega) hz (by omega))
            have hzh := Lib.hid hz
            clear hz
            go_enter Try.func8, Try.ntmps8
            go_wp2
            all_goals first | (exfalso; omega) | skip
            go_ret2
            exact ⟨by rw [hR.out]; rfl, Below.refl _ _⟩
        · have hzi : ((c.toNat : Int) == 0) = false := by simp; omega
          have hR := Lib.hid (unp_steps (c := c) (r := r) (most := most) (by omega) (by omega))
          obtain ⟨M, rfl⟩ := Int.eq_ofNat_of_zero_le (show 0 ≤ most by omega)
          rw [Int.toNat_natCast] at hR
          generalize hgo : unF r.length r [] M = goal at hR
          have hgoal := Lib.hid hgo
          clear hgo
          obtain ⟨l, hl0, hl1, hne, hlR, hlg⟩ : ∃ l : List UInt8, c :: r = l ∧ (∃ h : 0 < l.length, l[0] = c) ∧ l.isEmpty = false ∧ l.length ≤ 70368744177664 ∧ Hid (unF (l.length - 1) (l.drop 1) [] M = goal) :=
            ⟨c :: r, rfl, ⟨by simp, rfl⟩, rfl, by rw [List.length_cons]; omega, by simpa using hgoal⟩
          rw [hl0] at hR ⊢
          clear hl0 hgoal hl
          obtain ⟨hl1, hg0⟩ := hl1
          have hl1i : (0 : Int) < (l.length : Int) := by omega
          go_enter Try.func8, Try.ntmps8
          go_wp2
          all_goals first | (exfalso; omega) | skip
          go_loopw [6, 7] (fun v p wr => ∃ (fu at_ : Nat) (out : List UInt8), p = .int .i64 at_ ∧ at_ ≤ l.length ∧ OwnB wr w.heap.size 5 v out ∧ Hid (unF fu (l.drop at_) out M = goal) ∧ l.length ≤ at_ + fu ∧ out.length ≤ M ∧ Below w.heap.size w wr) (fun _ p _ => l.length - (intOf p).toNat)
          case atStart => exact ⟨l.length - 1, 1, [], rfl, by omega, OwnB.nil _ _ _, hlg, by omega, by simp, Below.refl _ _⟩
          case round =>
            obtain ⟨fu, p, out, rfl, hpl, hown, hun, hf1, hout, hbel⟩ := hrel
            obtain ⟨wo, rfl⟩ : ∃ wo : World, wo = wr := ⟨_, rfl⟩
            obtain ⟨A, cap, rfl⟩ := hown.form'
            have hbs := hbel.size
            by_cases hlt : p < l.length
            · obtain ⟨fu, rfl⟩ : ∃ g, fu = g + 1 := ⟨fu - 1, by omega⟩
              have hdl : (l.drop p).length ≤ 4611686018427387904 := by rw [List.length_drop]; omega
              have hdn : Hid (l.drop p ≠ []) := by intro h; have := congrArg List.length h; rw [List.length_drop] at this; simp at this; omega
              rcases hg : get (l.drop p) with _ | ⟨n, k⟩
              · have hG := Lib.hid hg
                have hR2 : Hid (goal = ([], 2)) := by rw [← hun.out]; exact unF_bad hdn.out (rd_none hg)
                clear hg
                go_wp2_with (go_at_call 12; go_must (refine (refGet_non hG.out hdl _).mono ?_); rintro e w1 ⟨rfl, rfl⟩)
                go_ret2
                exact ⟨by rw [hR.out, hR2.out]; rfl, hbel⟩
              · obtain ⟨hn, hk0, hkl⟩ := get_bounds hg
                rw [List.length_drop] at hkl
                have hki : ((k : Int) == 0) = false := by simp; omega
                have hG := Lib.hid hg
                clear hg
                by_cases h2 : n % 2 = 0
                · have h2h := Lib.hid h2
                  have h2i : ((n : Int) % 2 == 1) = false := by simp; omega
                  clear h2
                  by_cases h3 : n = 0 ∨ l.length - p - k < n / 2
                  · have hR2 : Hid (goal = ([], 2)) := by rw [← hun.out]; exact unF_bad hdn.out (rd_plain_bad hG.out h2h.out (by rw [List.length_drop, List.length_drop]; exact h3))
                    have h3h := Lib.hid h3
                    clear h3
                    go_wp2_with (go_at_call 12; go_must (refine (refGet_some hG.out hdl _).mono ?_); rintro e w1 ⟨rfl, rfl⟩)
                    all_goals first | (exfalso; have := h3h.out; omega) | skip
                    all_goals (go_ret2; exact ⟨by rw [hR.out, hR2.out]; rfl, hbel⟩)
                  · have hrd := rd_plain (hv := out.length) hG.out h2h.out (by omega) (by rw [List.length_drop, List.length_drop]; omega)
                    rw [List.drop_drop] at hrd
                    have h3a : 1 ≤ n / 2 := by have := h2h.out; omega
                    have h3b : n / 2 ≤ l.length - p - k := by omega
                    clear h3
                    by_cases hbig : M - out.length < n / 2
                    · have hR2 : Hid (goal = ([], 3)) := by rw [← hun.out]; exact unF_big hdn.out hrd hbig
                      clear hrd
                      go_wp2_with (go_at_call 12; go_must (refine (refGet_some hG.out hdl _).mono ?_); rintro e w1 ⟨rfl, rfl⟩)
                      all_goals first | (exfalso; omega) | skip
                      all_goals (go_ret2; exact ⟨by rw [hR.out, hR2.out]; rfl, hbel⟩)
                    · have hR2 : Hid (unF fu ((l.drop (p + k)).drop (n / 2)) (out ++ (l.drop (p + k)).take (n / 2)) M = goal) := by rw [← hun.out]; exact (unF_plain hdn.out hrd (by omega)).symm
                      clear hrd
                      go_wp2_with (go_at_call 12; go_must (refine (refGet_some hG.out hdl _).mono ?_); rintro e w1 ⟨rfl, rfl⟩)
                      all_goals first | (exfalso; omega) | skip
                      go_loopw [6, 7, 14] (fun v q i wr => ∃ (j : Nat) (o : List UInt8), i = .int .i64 j ∧ q = .int .i64 ((p + k + j : Nat) : Int) ∧ j ≤ n / 2 ∧ OwnB wr w.heap.size 5 v o ∧ Hid (o = out ++ (l.drop (p + k)).take j) ∧ o.length ≤ out.length + j ∧ Below w.heap.size w wr) (fun _ _ i _ => n - (intOf i).toNat)
                      case atStart => exact ⟨0, out, rfl, by go_num, by omega, hown, Lib.hid (by simp), by omega, hbel⟩
                      case round =>
                        obtain ⟨j, o, rfl, rfl, hj, hown', hbk, ho2, hbel'⟩ := hrel
                        obtain ⟨A', cap', rfl⟩ := hown'.form'
                        have hbs' := hbel'.size
                        by_cases hjn : j < n / 2
                        · generalize hgx : l[p + k + j]'(by omega) = x
                          have hgxh := Lib.hid hgx
                          have hx := x.toNat_lt
                          go_wp2_with (at_builtin; go_must (refine wpList_append_byte rfl _ _ _ rfl _ Try.bytesTy w.heap.size _ _ rfl (hown'.alloc _) _ _ rfl (cell_new1 _ _ _) (by omega) (by omega) (by omega) w (hbel'.alloc hbs' _) (by simp; omega) ?_); intro v2 w2 hown2 hbel2 hg2; clear hg2)
                          rw [Int.toNat_natCast, UInt8.ofNat_toNat] at hown2
                          go_roundw
                          case rel => exact ⟨j + 1, _, by go_num, by go_num, by omega, hown2, Lib.hid (by rw [hbk.out, take_drop_succ (by omega), hgxh.out, List.append_assoc]), by rw [List.length_append, List.length_singleton]; omega, hbel2⟩
                          case measure => simp [intOf]; omega
                        · obtain rfl : j = n / 2 := by omega
                          go_wp2
                          all_goals first | (exfalso; omega) | skip
                          go_roundw
                          case rel => exact ⟨fu, _, _, rfl, by omega, hown', by rw [← List.drop_drop, hbk.out]; exact hR2, by omega, by omega, hbel'⟩
                          case measure => simp [intOf]; omega
                · have h2h : Hid (n % 2 = 1) := by show n % 2 = 1; omega
                  have h2i : ((n : Int) % 2 == 1) = true := by simp; omega
                  clear h2
                  have hdl2 : (l.drop (p + k)).length ≤ 4611686018427387904 := by rw [List.length_drop]; omega
                  rcases hg2 : get (l.drop (p + k)) with _ | ⟨f, m⟩
                  · have hR2 : Hid (goal = ([], 2)) := by rw [← hun.out]; exact unF_bad hdn.out (rd_far_none hG.out h2h.out (by rw [List.drop_drop]; exact hg2))
                    have hG2 := Lib.hid hg2
                    clear hg2
                    go_wp2_with (go_at_call 12; go_must (first | with_reducible refine (refGet_some hG.out hdl _).mono ?_ | with_reducible refine (refGet_non hG2.out hdl2 _).mono ?_); rintro e w1 ⟨rfl, rfl⟩)
                    all_goals first | (exfalso; omega) | skip
                    go_ret2
                    exact ⟨by rw [hR.out, hR2.out]; rfl, hbel⟩
                  · obtain ⟨hf, hm0, hml⟩ := get_bounds hg2
                    rw [List.length_drop] at hml
                    have hmi : ((m : Int) == 0) = false := by simp; omega
                    have hG2 := Lib.hid hg2
                    clear hg2
                    by_cases hb : n / 2 < 4 ∨ f < 1 ∨ 65535 < f ∨ out.length < f
                    · have hR2 : Hid (goal = ([], 2)) := by rw [← hun.out]; exact unF_bad hdn.out (rd_far_bad hG.out h2h.out (by rw [List.drop_drop]; exact hG2.out) hb)
                      have hbh := Lib.hid hb
                      clear hb
                      go_wp2_with (go_at_call 12; go_must (first | with_reducible refine (refGet_some hG.out hdl _).mono ?_ | with_reducible refine (refGet_some hG2.out hdl2 _).mono ?_); rintro e w1 ⟨rfl, rfl⟩)
                      all_goals first | (exfalso; have := hbh.out; omega) | skip
                      all_goals (go_ret2; exact ⟨by rw [hR.out, hR2.out]; rfl, hbel⟩)
                    · have hrd := rd_far (hv := out.length) hG.out h2h.out (by rw [List.drop_drop]; exact hG2.out) (by omega) (by omega) (by omega) (by omega)
                      rw [List.drop_drop, List.drop_drop] at hrd
                      have hb1 : 4 ≤ n / 2 := by omega
                      have hb2 : 1 ≤ f := by omega
                      have hb3 : f ≤ 65535 := by omega
                      have hb4 : f ≤ out.length := by omega
                      have hfi : ((f : Int) == 0) = false := by simp; omega
                      clear hb
                      by_cases hbig : M - out.length < n / 2
                      · have hR2 : Hid (goal = ([], 3)) := by rw [← hun.out]; exact unF_big hdn.out hrd hbig
                        clear hrd
                        go_wp2_with (go_at_call 12; go_must (first | with_reducible refine (refGet_some hG.out hdl _).mono ?_ | with_reducible refine (refGet_some hG2.out hdl2 _).mono ?_); rintro e w1 ⟨rfl, rfl⟩)
                        all_goals first | (exfalso; omega) | skip
                        all_goals (go_ret2; exact ⟨by rw [hR.out, hR2.out]; rfl, hbel⟩)
                      · have hR2 : Hid (unF fu (l.drop (p + (k + m))) (back (n / 2) f out) M = goal) := by rw [← hun.out]; exact (unF_far hdn.out hrd (by omega) (by omega)).symm
                        clear hrd
                        go_wp2_with (go_at_call 12; go_must (first | with_reducible refine (refGet_some hG.out hdl _).mono ?_ | with_reducible refine (refGet_some hG2.out hdl2 _).mono ?_); rintro e w1 ⟨rfl, rfl⟩)
                        all_goals first | (exfalso; omega) | skip
                        go_loopw [6, 7, 14] (fun v q i wr => ∃ (j : Nat) (o : List UInt8), i = .int .i64 j ∧ q = .int .i64 ((p + (k + m) : Nat) : Int) ∧ j ≤ n / 2 ∧ OwnB wr w.heap.size 5 v o ∧ Hid (back (n / 2 - j) f o = back (n / 2) f out) ∧ out.length ≤ o.length ∧ o.length ≤ out.length + j ∧ Below w.heap.size w wr) (fun _ _ i _ => n - (intOf i).toNat)
                        case atStart => exact ⟨0, out, rfl, by go_num, by omega, hown, by rw [Nat.sub_zero]; exact Lib.hid rfl, by omega, by omega, hbel⟩
                        case round =>
                          obtain ⟨j, o, rfl, rfl, hj, hown', hbk, ho1, ho2, hbel'⟩ := hrel
                          obtain ⟨A', cap', rfl⟩ := hown'.form'
                          have hbs' := hbel'.size
                          by_cases hjn : j < n / 2
                          · obtain ⟨g, rfl, _, hg, hcell⟩ := OwnB.cell hown' (j := o.length - f) (by omega)
                            generalize hgx : o[o.length - f]'(by omega) = x at hcell
                            have hgxh := Lib.hid hgx
                            clear hgx
                            have hx := x.toNat_lt
                            go_wp2_with (at_builtin; go_must (refine wpList_append_byte rfl _ _ _ rfl _ Try.bytesTy w.heap.size _ _ rfl (hown'.alloc _) _ _ rfl (cell_new1 _ _ _) (by omega) (by omega) (by omega) w (hbel'.alloc hbs' _) (by simp; omega) ?_); intro v2 w2 hown2 hbel2 hg2; clear hg2)
                            all_goals first | (exfalso; omega) | skip
                            rw [Int.toNat_natCast, UInt8.ofNat_toNat] at hown2
                            go_roundw
                            case rel => exact ⟨j + 1, _, by go_num, rfl, by omega, hown2, by rw [← back_step hjn (by omega) hgxh.out]; exact hbk, by rw [List.length_append]; omega, by rw [List.length_append, List.length_singleton]; omega, hbel2⟩
                            case measure => simp [intOf]; omega
                          · obtain rfl : j = n / 2 := by omega
                            have hR3 : Hid (o = back (n / 2) f out) := by rw [← hbk.out, Nat.sub_self]; rfl
                            go_wp2
                            all_goals first | (exfalso; omega) | skip
                            go_roundw
                            case rel => exact ⟨fu, p + (k + m), _, by go_num, by omega, hown', by rw [hR3.out]; exact hR2, by omega, by omega, hbel'⟩
                            case measure => simp [intOf]; omega
            · have hcv := Try.str_of_own wo hown
              have hR2 : Hid (goal = (out, 0)) := by rw [← hun.out, List.drop_of_length_le (by omega)]; exact unF_nil _ _ _
              go_wp2
              all_goals first | (exfalso; omega) | skip
              go_ret2
              exact ⟨by rw [hR.out, hR2.out]; rfl, hbel⟩
end Go.Proofs.Ytlmchjiifcnpgaa
