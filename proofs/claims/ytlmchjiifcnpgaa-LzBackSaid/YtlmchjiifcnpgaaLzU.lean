/- The walk of layer 5's Unpack. No condition but sizes that every memory has. -/
import Derived.Test.YtlmchjiifcnpgaaLz
namespace Go.Proofs.Ytlmchjiifcnpgaa
open Go.RowKit

/-- What Unpack returns. -/
def unpVal (x : List UInt8 × Nat) : Value := .tuple #[.string (B x.1), .int .i64 x.2]

theorem read_some {l r : List UInt8} {hv n f : Nat} (h : rd l hv = some (n, f, r)) (hl : l.length ≤ 4611686018427387904) (hh : hv ≤ 4611686018427387904) (w : World) :
    Calls Try.prog 11 #[.string (B l), .int .i64 hv] w fun e w' => e = .returned (.tuple #[.agg #[.int .u64 n, .int .u64 f], .string (B r), .int .i64 0]) ∧ Below w.heap.size w w' :=
  (read_calls l hv hl hh w).mono fun e w' ⟨he, hw⟩ => ⟨by rw [he, h]; rfl, hw⟩
theorem read_non {l : List UInt8} {hv : Nat} (h : rd l hv = none) (hl : l.length ≤ 4611686018427387904) (hh : hv ≤ 4611686018427387904) (w : World) :
    Calls Try.prog 11 #[.string (B l), .int .i64 hv] w fun e w' => e = .returned (.tuple #[.agg #[.int .u64 0, .int .u64 0], .string (B []), .int .i64 2]) ∧ Below w.heap.size w w' :=
  (read_calls l hv hl hh w).mono fun e w' ⟨he, hw⟩ => ⟨by rw [he, h]; rfl, hw⟩

set_option maxRecDepth 100000 in
set_option maxHeartbeats 2000000 in
theorem unpack_calls (l : List UInt8) (most : Int) (hl : l.length ≤ 70368744177664) (h0 : -9223372036854775808 ≤ most) (h1 : most ≤ 70368744170000) (w : World) :
    Calls Try.prog 7 #[.string (B l), .int .i64 most] w fun e w' => e = .returned (unpVal (unp l most)) ∧ Below w.heap.size w w' := by
  by_cases hneg : most < 0
  · have hR := Lib.hid (unp_neg (l := l) hneg)
    go_enter Try.func7, Try.ntmps7
    go_wp2
    go_ret2
    exact ⟨by rw [hR.out]; rfl, Below.refl _ _⟩
  · cases l with
    | nil =>
      have hR := Lib.hid (unp_nil (most := most) (by omega))
      go_enter Try.func7, Try.ntmps7
      go_wp2
      go_ret2
      exact ⟨by rw [hR.out]; rfl, Below.refl _ _⟩
    | cons c r =>
      rw [List.length_cons] at hl
      by_cases hc : 1 < c.toNat
      · have hR := Lib.hid (unp_way (r := r) (most := most) (by omega) hc)
        go_enter Try.func7, Try.ntmps7
        go_wp2
        go_ret2
        exact ⟨by rw [hR.out]; rfl, Below.refl _ _⟩
      · by_cases hz : c.toNat = 0
        · have hzi : ((c.toNat : Int) == 0) = true := by simp [hz]
          by_cases hb : most < r.length
          · have hR := Lib.hid (unp_stored_big (r := r) (most := most) (by omega) hz hb)
            have hzh := Lib.hid hz
            clear hz
            go_enter Try.func7, Try.ntmps7
            go_wp2
            all_goals first | (exfalso; omega) | skip
            go_ret2
            exact ⟨by rw [hR.out]; rfl, Below.refl _ _⟩
          · have hR := Lib.hid (unp_stored (r := r) (most := most) (by omega) hz (by omega))
            have hzh := Lib.hid hz
            clear hz
            go_enter Try.func7, Try.ntmps7
            go_wp2
            all_goals first | (exfalso; omega) | skip
            go_ret2
            exact ⟨by rw [hR.out]; rfl, Below.refl _ _⟩
        · have hzi : ((c.toNat : Int) == 0) = false := by simp; omega
          have hR := Lib.hid (unp_steps (c := c) (r := r) (most := most) (by omega) (by omega))
          obtain ⟨M, rfl⟩ := Int.eq_ofNat_of_zero_le (show 0 ≤ most by omega)
          rw [Int.toNat_natCast] at hR
          generalize hgo : unF r.length r [] M = goal at hR
          have hgoal := Lib.hid hgo
          clear hgo
          go_enter Try.func7, Try.ntmps7
          go_wp2
          all_goals first | (exfalso; omega) | skip
          go_loopw [0, 6] (fun s v wr => ∃ (fu : Nat) (t out : List UInt8), s = .string (B t) ∧ OwnB wr w.heap.size 5 v out ∧ Hid (unF fu t out M = goal) ∧ t.length ≤ fu ∧ fu ≤ r.length ∧ out.length ≤ M ∧ Below w.heap.size w wr) (fun s _ _ => (strOf s).length)
          case atStart => exact ⟨r.length, r, [], rfl, OwnB.nil _ _ _, hgoal, by omega, by omega, by simp, Below.refl _ _⟩
          case round =>
            obtain ⟨fu, t, out, rfl, hown, hun, hf1, hf2, hout, hbel⟩ := hrel
            obtain ⟨wo, rfl⟩ : ∃ wo : World, wo = wr := ⟨_, rfl⟩
            obtain ⟨A, cap, rfl⟩ := hown.form'
            have hbs := hbel.size
            cases t with
            | nil =>
              have hcv := Try.str_of_own wo hown
              have hR2 : Hid (goal = (out, 0)) := by rw [← hun.out]; exact unF_nil _ _ _
              go_wp2
              go_ret2
              exact ⟨by rw [hR.out, hR2.out]; rfl, hbel⟩
            | cons d u =>
              rw [List.length_cons] at hf1
              obtain ⟨fu, rfl⟩ : ∃ g, fu = g + 1 := ⟨fu - 1, by omega⟩
              rcases hrd : rd (d :: u) out.length with _ | ⟨n, f, rr⟩
              · have hRd := Lib.hid hrd
                have hR2 : Hid (goal = ([], 2)) := by rw [← hun.out]; exact unF_bad (by simp) hrd
                clear hrd
                go_wp2_with (go_at_call 11; go_must (refine (read_non hRd.out (by rw [List.length_cons]; omega) (by omega) _).mono ?_); rintro e w1 ⟨rfl, hb1⟩; have hbel1 := bthen hbel hbs hb1; have hbs1 := hbel1.size; have hown1 := hown.below hb1)
                go_ret2
                exact ⟨by rw [hR.out, hR2.out]; rfl, hbel1.alloc hbs1 _⟩
              · obtain ⟨q1, q2, q3, q4, q5, q6⟩ := rd_bounds hrd
                rw [List.length_cons] at q2
                have hRd := Lib.hid hrd
                clear hrd
                by_cases hbig : M - out.length < n
                · have hR2 : Hid (goal = ([], 3)) := by rw [← hun.out]; exact unF_big (by simp) hRd.out hbig
                  clear q5 q6
                  go_wp2_with (go_at_call 11; go_must (refine (read_some hRd.out (by rw [List.length_cons]; omega) (by omega) _).mono ?_); rintro e w1 ⟨rfl, hb1⟩; have hbel1 := bthen hbel hbs hb1; have hbs1 := hbel1.size; have hown1 := hown.below hb1)
                  all_goals first | (exfalso; omega) | skip
                  go_ret2
                  exact ⟨by rw [hR.out, hR2.out]; rfl, hbel1.alloc hbs1 _⟩
                · by_cases hf : f = 0
                  · subst hf
                    have hR2 : Hid (unF fu (rr.drop n) (out ++ rr.take n) M = goal) := by rw [← hun.out]; exact (unF_plain (by simp) hRd.out (by omega)).symm
                    have q5' := q5 rfl
                    have hlt : (rr.take n).length = n := by rw [List.length_take]; omega
                    have hltl : (rr.take n).length ≤ n := by omega
                    have hlth := Lib.hid hlt
                    clear q5 q6 hlt
                    go_wp2_with (first
                      | (go_at_call 11; go_must (refine (read_some hRd.out (by rw [List.length_cons]; omega) (by omega) _).mono ?_); rintro e w1 ⟨rfl, hb1⟩; have hbel1 := bthen hbel hbs hb1; have hbs1 := hbel1.size; have hown1 := hown.below hb1)
                      | (at_builtin; go_must (refine wpList_append_bytes rfl _ _ _ _ rfl _ Try.bytesTy Try.underlying9 w.heap.size _ _ rfl (hown1.alloc _) (rr.take n) rfl (by omega) w (hbel1.alloc hbs1 _) (by simp; omega) ?_); intro v2 w2 hown2 hbel2 hg2; have hblk2 := blk_own_step (Blk.new w1 40 #[.int .u64 n, .int .u64 0]) (hown1.alloc _) hg2 (by decide); have hc0 := hblk2.cell 0; simp only [List.getElem?_toArray, List.getElem?_cons_zero] at hc0))
                    all_goals first | (exfalso; omega) | skip
                    go_roundw
                    case rel => exact ⟨fu, _, _, rfl, hown2, hR2, by rw [List.length_drop]; omega, by omega, by rw [List.length_append]; omega, hbel2⟩
                    case measure => simp [strOf_B]; omega
                  · have hR2 : Hid (unF fu rr (back n f out) M = goal) := by rw [← hun.out]; exact (unF_far (by simp) hRd.out hf (by omega)).symm
                    have q6' := q6 hf
                    have hfi : ((f : Int) == 0) = false := by simp; omega
                    clear q5 q6
                    go_wp2_with (go_at_call 11; go_must (refine (read_some hRd.out (by rw [List.length_cons]; omega) (by omega) _).mono ?_); rintro e w1 ⟨rfl, hb1⟩; have hbel1 := bthen hbel hbs hb1; have hbs1 := hbel1.size; have hown1 := hown.below hb1)
                    all_goals first | (exfalso; omega) | skip
                    go_loopw [6, 78] (fun v i wr => ∃ (j : Nat) (o : List UInt8), i = .int .u64 j ∧ j ≤ n ∧ OwnB wr w.heap.size 5 v o ∧ Hid (back (n - j) f o = back n f out) ∧ out.length ≤ o.length ∧ o.length ≤ out.length + j ∧ Blk wr w1.heap.size 40 #[.int .u64 n, .int .u64 f] ∧ Below w.heap.size w wr) (fun _ i _ => n - (intOf i).toNat)
                    case atStart => exact ⟨0, out, rfl, by omega, hown1.alloc _, by rw [Nat.sub_zero]; exact Lib.hid rfl, by omega, by omega, Blk.new _ _ _, hbel1.alloc hbs1 _⟩
                    case round =>
                      obtain ⟨j, o, rfl, hj, hown', hbk, ho1, ho2, hblk, hbel'⟩ := hrel
                      obtain ⟨A', cap', rfl⟩ := hown'.form'
                      have hbs' := hbel'.size
                      have hc0 := hblk.cell 0
                      have hc1 := hblk.cell 1
                      simp only [List.getElem?_toArray, List.getElem?_cons_zero, List.getElem?_cons_succ] at hc0 hc1
                      by_cases hjn : j < n
                      · have hji : ((j : Int) < (n : Int)) := by omega
                        obtain ⟨g, rfl, _, hg, hcell⟩ := OwnB.cell hown' (j := o.length - f) (by omega)
                        generalize hgx : o[o.length - f]'(by omega) = x at hcell
                        have hgxh := Lib.hid hgx
                        clear hgx
                        have hx := x.toNat_lt
                        go_wp2_with (at_builtin; go_must (refine wpList_append_byte rfl _ _ _ rfl _ Try.bytesTy w.heap.size _ _ rfl (hown'.alloc _) _ _ rfl (cell_new1 _ _ _) (by omega) (by omega) (by omega) w (hbel'.alloc hbs' _) (by simp; omega) ?_); intro v2 w2 hown2 hbel2 hg2; have hblk2 := blk_own_step (hblk.alloc _) (hown'.alloc _) hg2 (by decide); clear hg2)
                        rw [Int.toNat_natCast, UInt8.ofNat_toNat] at hown2
                        go_roundw
                        case rel => exact ⟨j + 1, _, by go_num, by omega, hown2, by rw [← back_step hjn (by omega) hgxh.out]; exact hbk, by rw [List.length_append]; omega, by rw [List.length_append, List.length_singleton]; omega, hblk2, hbel2⟩
                        case measure => simp [intOf]; omega
                      · obtain rfl : j = n := by omega
                        have hR3 : Hid (o = back j f out) := by rw [← hbk.out, Nat.sub_self]; rfl
                        go_wp2
                        all_goals first | (exfalso; omega) | skip
                        go_roundw
                        case rel => exact ⟨fu, _, _, rfl, hown', by rw [hR3.out]; exact hR2, by omega, by omega, by omega, hbel'⟩
                        case measure => simp only [strOf_B, List.length_cons]; omega
end Go.Proofs.Ytlmchjiifcnpgaa
