/- Lemmas and walks of this seat, laid together: LzU, Take, PkA, InvA, PkB, LzR, PkS. -/
import Derived.Test.YtoekdiklbfdpiaaDoorMb
import Derived.Lib.Hide
import Derived.Lib.BufferWrite
import Derived.Deep.CutBlock
/- The walk of layer 5's Unpack. No condition but sizes that every memory has. -/
namespace Go.Proofs.YtoekdiklbfdpiaaDoor
open Go.RowKit

/-- What Unpack returns. -/
def unpVal (x : List UInt8 × Nat) : Value := .tuple #[.string (B x.1), .int .i64 x.2]

theorem read_some {l r : List UInt8} {hv n f : Nat} (h : rd l hv = some (n, f, r)) (hl : l.length ≤ 4611686018427387904) (hh : hv ≤ 4611686018427387904) (w : World) :
    Calls Tryd.prog 63 #[.string (B l), .int .i64 hv] w fun e w' => e = .returned (.tuple #[.agg #[.int .u64 n, .int .u64 f], .string (B r), .int .i64 0]) ∧ Below w.heap.size w w' :=
  (read_calls l hv hl hh w).mono fun e w' ⟨he, hw⟩ => ⟨by rw [he, h]; rfl, hw⟩
theorem read_non {l : List UInt8} {hv : Nat} (h : rd l hv = none) (hl : l.length ≤ 4611686018427387904) (hh : hv ≤ 4611686018427387904) (w : World) :
    Calls Tryd.prog 63 #[.string (B l), .int .i64 hv] w fun e w' => e = .returned (.tuple #[.agg #[.int .u64 0, .int .u64 0], .string (B []), .int .i64 2]) ∧ Below w.heap.size w w' :=
  (read_calls l hv hl hh w).mono fun e w' ⟨he, hw⟩ => ⟨by rw [he, h]; rfl, hw⟩

set_option maxRecDepth 100000 in
set_option maxHeartbeats 2000000 in
theorem unpack_calls (l : List UInt8) (most : Int) (hl : l.length ≤ 70368744177664) (h0 : -9223372036854775808 ≤ most) (h1 : most ≤ 70368744170000) (w : World) :
    Calls Tryd.prog 59 #[.string (B l), .int .i64 most] w fun e w' => e = .returned (unpVal (unp l most)) ∧ Below w.heap.size w w' := by
  by_cases hneg : most < 0
  · have hR := Lib.hid (unp_neg (l := l) hneg)
    go_enter Tryd.func59, Tryd.ntmps59
    go_wp2
    go_ret2
    exact ⟨by rw [hR.out]; rfl, Below.refl _ _⟩
  · cases l with
    | nil =>
      have hR := Lib.hid (unp_nil (most := most) (by omega))
      go_enter Tryd.func59, Tryd.ntmps59
      go_wp2
      go_ret2
      exact ⟨by rw [hR.out]; rfl, Below.refl _ _⟩
    | cons c r =>
      rw [List.length_cons] at hl
      by_cases hc : 1 < c.toNat
      · have hR := Lib.hid (unp_way (r := r) (most := most) (by omega) hc)
        go_enter Tryd.func59, Tryd.ntmps59
        go_wp2
        go_ret2
        exact ⟨by rw [hR.out]; rfl, Below.refl _ _⟩
      · by_cases hz : c.toNat = 0
        · have hzi : ((c.toNat : Int) == 0) = true := by simp [hz]
          by_cases hb : most < r.length
          · have hR := Lib.hid (unp_stored_big (r := r) (most := most) (by omega) hz hb)
            have hzh := Lib.hid hz
            clear hz
            go_enter Tryd.func59, Tryd.ntmps59
            go_wp2
            all_goals first | (exfalso; omega) | skip
            go_ret2
            exact ⟨by rw [hR.out]; rfl, Below.refl _ _⟩
          · have hR := Lib.hid (unp_stored (r := r) (most := most) (by omega) hz (by omega))
            have hzh := Lib.hid hz
            clear hz
            go_enter Tryd.func59, Tryd.ntmps59
            go_wp2
            all_goals first | (exfalso; omega) | skip
            go_ret2
            exact ⟨by rw [hR.out]; rfl, Below.refl _ _⟩
        · have hzi : ((c.toNat : Int) == 0) = false := by simp; omega
          have hR := Lib.hid (unp_steps (c := c) (r := r) (most := most) (by omega) (by omega))
          obtain ⟨M, rfl⟩ := Int.eq_ofNat_of_zero_le (show 0 ≤ most by omega)
          rw [Int.toNat_natCast] at hR
          generalize hgo : unF r.length r [] M = goal at hR
          have hgoal := Lib.hid hgo
          clear hgo
          go_enter Tryd.func59, Tryd.ntmps59
          go_wp2
          all_goals first | (exfalso; omega) | skip
          go_loopw [0, 6] (fun s v wr => ∃ (fu : Nat) (t out : List UInt8), s = .string (B t) ∧ OwnB wr w.heap.size 5 v out ∧ Hid (unF fu t out M = goal) ∧ t.length ≤ fu ∧ fu ≤ r.length ∧ out.length ≤ M ∧ Below w.heap.size w wr) (fun s _ _ => (strOf s).length)
          case atStart => exact ⟨r.length, r, [], rfl, OwnB.nil _ _ _, hgoal, by omega, by omega, by simp, Below.refl _ _⟩
          case round =>
            obtain ⟨fu, t, out, rfl, hown, hun, hf1, hf2, hout, hbel⟩ := hrel
            obtain ⟨wo, rfl⟩ : ∃ wo : World, wo = wr := ⟨_, rfl⟩
            obtain ⟨A, cap, rfl⟩ := hown.form'
            have hbs := hbel.size
            cases t with
            | nil =>
              have hcv := Tryd.str_of_own wo hown
              have hR2 : Hid (goal = (out, 0)) := by rw [← hun.out]; exact unF_nil _ _ _
              go_wp2
              go_ret2
              exact ⟨by rw [hR.out, hR2.out]; rfl, hbel⟩
            | cons d u =>
              rw [List.length_cons] at hf1
              obtain ⟨fu, rfl⟩ : ∃ g, fu = g + 1 := ⟨fu - 1, by omega⟩
              rcases hrd : rd (d :: u) out.length with _ | ⟨n, f, rr⟩
              · have hRd := Lib.hid hrd
                have hR2 : Hid (goal = ([], 2)) := by rw [← hun.out]; exact unF_bad (by simp) hrd
                clear hrd
                go_wp2_with (go_at_call 63; go_must (refine (read_non hRd.out (by rw [List.length_cons]; omega) (by omega) _).mono ?_); rintro e w1 ⟨rfl, hb1⟩; have hbel1 := bthen hbel hbs hb1; have hbs1 := hbel1.size; have hown1 := hown.below hb1)
                go_ret2
                exact ⟨by rw [hR.out, hR2.out]; rfl, hbel1.alloc hbs1 _⟩
              · obtain ⟨q1, q2, q3, q4, q5, q6⟩ := rd_bounds hrd
                rw [List.length_cons] at q2
                have hRd := Lib.hid hrd
                clear hrd
                by_cases hbig : M - out.length < n
                · have hR2 : Hid (goal = ([], 3)) := by rw [← hun.out]; exact unF_big (by simp) hRd.out hbig
                  clear q5 q6
                  go_wp2_with (go_at_call 63; go_must (refine (read_some hRd.out (by rw [List.length_cons]; omega) (by omega) _).mono ?_); rintro e w1 ⟨rfl, hb1⟩; have hbel1 := bthen hbel hbs hb1; have hbs1 := hbel1.size; have hown1 := hown.below hb1)
                  all_goals first | (exfalso; omega) | skip
                  go_ret2
                  exact ⟨by rw [hR.out, hR2.out]; rfl, hbel1.alloc hbs1 _⟩
                · by_cases hf : f = 0
                  · subst hf
                    have hR2 : Hid (unF fu (rr.drop n) (out ++ rr.take n) M = goal) := by rw [← hun.out]; exact (unF_plain (by simp) hRd.out (by omega)).symm
                    have q5' := q5 rfl
                    have hlt : (rr.take n).length = n := by rw [List.length_take]; omega
                    have hltl : (rr.take n).length ≤ n := by omega
                    have hlth := Lib.hid hlt
                    clear q5 q6 hlt
                    go_wp2_with (first
                      | (go_at_call 63; go_must (refine (read_some hRd.out (by rw [List.length_cons]; omega) (by omega) _).mono ?_); rintro e w1 ⟨rfl, hb1⟩; have hbel1 := bthen hbel hbs hb1; have hbs1 := hbel1.size; have hown1 := hown.below hb1)
                      | (at_builtin; go_must (refine wpList_append_bytes rfl _ _ _ _ rfl _ Tryd.bytesTy Tryd.underlying9 w.heap.size _ _ rfl (hown1.alloc _) (rr.take n) rfl (by omega) w (hbel1.alloc hbs1 _) (by simp; omega) ?_); intro v2 w2 hown2 hbel2 hg2; have hblk2 := blk_own_step (Blk.new w1 121 #[.int .u64 n, .int .u64 0]) (hown1.alloc _) hg2 (by decide); have hc0 := hblk2.cell 0; simp only [List.getElem?_toArray, List.getElem?_cons_zero] at hc0))
                    all_goals first | (exfalso; omega) | skip
                    go_roundw
                    case rel => exact ⟨fu, _, _, rfl, hown2, hR2, by rw [List.length_drop]; omega, by omega, by rw [List.length_append]; omega, hbel2⟩
                    case measure => simp [strOf_B]; omega
                  · have hR2 : Hid (unF fu rr (back n f out) M = goal) := by rw [← hun.out]; exact (unF_far (by simp) hRd.out hf (by omega)).symm
                    have q6' := q6 hf
                    have hfi : ((f : Int) == 0) = false := by simp; omega
                    clear q5 q6
                    go_wp2_with (go_at_call 63; go_must (refine (read_some hRd.out (by rw [List.length_cons]; omega) (by omega) _).mono ?_); rintro e w1 ⟨rfl, hb1⟩; have hbel1 := bthen hbel hbs hb1; have hbs1 := hbel1.size; have hown1 := hown.below hb1)
                    all_goals first | (exfalso; omega) | skip
                    go_loopw [6, 78] (fun v i wr => ∃ (j : Nat) (o : List UInt8), i = .int .u64 j ∧ j ≤ n ∧ OwnB wr w.heap.size 5 v o ∧ Hid (back (n - j) f o = back n f out) ∧ out.length ≤ o.length ∧ o.length ≤ out.length + j ∧ Blk wr w1.heap.size 121 #[.int .u64 n, .int .u64 f] ∧ Below w.heap.size w wr) (fun _ i _ => n - (intOf i).toNat)
                    case atStart => exact ⟨0, out, rfl, by omega, hown1.alloc _, by rw [Nat.sub_zero]; exact Lib.hid rfl, by omega, by omega, Blk.new _ _ _, hbel1.alloc hbs1 _⟩
                    case round =>
                      obtain ⟨j, o, rfl, hj, hown', hbk, ho1, ho2, hblk, hbel'⟩ := hrel
                      obtain ⟨A', cap', rfl⟩ := hown'.form'
                      have hbs' := hbel'.size
                      have hc0 := hblk.cell 0
                      have hc1 := hblk.cell 1
                      simp only [List.getElem?_toArray, List.getElem?_cons_zero, List.getElem?_cons_succ] at hc0 hc1
                      by_cases hjn : j < n
                      · have hji : ((j : Int) < (n : Int)) := by omega
                        obtain ⟨g, rfl, _, hg, hcell⟩ := OwnB.cell hown' (j := o.length - f) (by omega)
                        generalize hgx : o[o.length - f]'(by omega) = x at hcell
                        have hgxh := Lib.hid hgx
                        clear hgx
                        have hx := x.toNat_lt
                        go_wp2_with (at_builtin; go_must (refine wpList_append_byte rfl _ _ _ rfl _ Tryd.bytesTy w.heap.size _ _ rfl (hown'.alloc _) _ _ rfl (cell_new1 _ _ _) (by omega) (by omega) (by omega) w (hbel'.alloc hbs' _) (by simp; omega) ?_); intro v2 w2 hown2 hbel2 hg2; have hblk2 := blk_own_step (hblk.alloc _) (hown'.alloc _) hg2 (by decide); clear hg2)
                        rw [Int.toNat_natCast, UInt8.ofNat_toNat] at hown2
                        go_roundw
                        case rel => exact ⟨j + 1, _, by go_num, by omega, hown2, by rw [← back_step hjn (by omega) hgxh.out]; exact hbk, by rw [List.length_append]; omega, by rw [List.length_append, List.length_singleton]; omega, hblk2, hbel2⟩
                        case measure => simp [intOf]; omega
                      · obtain rfl : j = n := by omega
                        have hR3 : Hid (o = back j f out) := by rw [← hbk.out, Nat.sub_self]; rfl
                        go_wp2
                        all_goals first | (exfalso; omega) | skip
                        go_roundw
                        case rel => exact ⟨fu, _, _, rfl, hown', by rw [hR3.out]; exact hR2, by omega, by omega, by omega, hbel'⟩
                        case measure => simp only [strOf_B, List.length_cons]; omega
end Go.Proofs.YtoekdiklbfdpiaaDoor
/- The walks of layer 1's Take on both sides. No condition. -/
namespace Go.Proofs.YtoekdiklbfdpiaaDoor
open Go.RowKit
def takeV (s : Txt) : Value := match takeP s with
  | some (t, q) => .tuple #[.string (B t), .string (B q), .int .i64 0]
  | none => .tuple #[.string (B []), .string (B []), .int .i64 2]
theorem takeV_some {s t q : Txt} (h : takeP s = some (t, q)) : takeV s = .tuple #[.string (B t), .string (B q), .int .i64 0] := by unfold takeV; rw [h]
theorem takeV_none {s : Txt} (h : takeP s = none) : takeV s = .tuple #[.string (B []), .string (B []), .int .i64 2] := by unfold takeV; rw [h]
set_option maxRecDepth 100000 in
set_option maxHeartbeats 800000 in
theorem take_calls (s : Txt) (hs : s.length ≤ 4611686018427387904) (w : World) : Calls Tryd.prog 48 #[.string (B s)] w fun e w' => e = .returned (takeV s) ∧ ∃ n, w' = w.drewN n := by
  have hget := get_calls s hs w
  obtain ⟨r, hr⟩ : ∃ r, Hid (takeV s = r) := ⟨_, Lib.hid rfl⟩
  rw [hr.out]
  cases h : get s with
  | none =>
    rw [h] at hget
    have hget : Calls Tryd.prog 46 #[.string (B s)] w fun e w' => e = .returned (.tuple #[.int .u64 0, .string (B []), .int .i64 2]) ∧ ∃ n, w' = w.drewN n := hget
    have hget := Lib.hid hget
    have hrr : Hid (_ = r) := (takeV_none (takeP_none h)).symm.trans hr.out
    clear h hr
    go_enter Tryd.func48, Tryd.ntmps48
    go_wp2_with (first
      | ((with_reducible refine hget.out.mono ?_); rintro e w1 ⟨rfl, nq, rfl⟩))
    go_ret3
    exact ⟨by rw [← hrr.out]; rfl, nq, rfl⟩
  | some p =>
    obtain ⟨n, k⟩ := p
    rw [h] at hget
    have hget : Calls Tryd.prog 46 #[.string (B s)] w fun e w' => e = .returned (.tuple #[.int .u64 n, .string (B (s.drop k)), .int .i64 0]) ∧ ∃ n, w' = w.drewN n := hget
    have hget := Lib.hid hget
    have hle : (s.drop k).length ≤ s.length := by rw [List.length_drop]; omega
    by_cases hlt : (s.drop k).length < n
    · have hrr : Hid (_ = r) := (takeV_none (takeP_short h hlt)).symm.trans hr.out
      generalize s.drop k = R at *
      have hi : (R.length : Int) < (n : Int) := by omega
      clear h hr
      go_enter Tryd.func48, Tryd.ntmps48
      go_wp2_with (first
        | ((with_reducible refine hget.out.mono ?_); rintro e w1 ⟨rfl, nq, rfl⟩))
      all_goals try (exfalso; omega)
      go_ret3
      exact ⟨by rw [← hrr.out]; rfl, nq, rfl⟩
    · have hrr : Hid (_ = r) := (takeV_some (takeP_yes h (by omega))).symm.trans hr.out
      generalize s.drop k = R at *
      have hi : ¬ (R.length : Int) < (n : Int) := by omega
      have hle2 : (n : Int) ≤ (R.length : Int) := by omega
      have hle3 : n ≤ R.length := by omega
      have x1 : (B R).extract 0 n = B (R.take n) := extract_B_to R n
      have x2 : (B R).extract n R.length = B (R.drop n) := extract_B_from R n
      clear h hr
      go_enter Tryd.func48, Tryd.ntmps48
      go_wp2_with (first
        | ((with_reducible refine hget.out.mono ?_); rintro e w1 ⟨rfl, nq, rfl⟩))
      all_goals try (exfalso; omega)
      go_quiet (fail)
      go_wp2
      go_ret3
      exact ⟨by rw [← hrr.out]; rfl, _, World.drewN_drewN _ _ _⟩
def takeNV (s : Txt) : Value := .tuple #[.string (B (takeN s).1), .int .i64 (takeN s).2]
set_option maxRecDepth 100000 in
set_option maxHeartbeats 800000 in
theorem refTake_calls (s : Txt) (hs : s.length ≤ 4611686018427387904) (w : World) : Calls Tryd.prog 36 #[.string (B s)] w fun e w' => e = .returned (takeNV s) ∧ w' = w := by
  have hget := refGet_calls s hs w
  have hgg : getPair (get s) = .tuple #[.int .u64 (getN s).1, .int .i64 (getN s).2] := by
    unfold getN
    cases get s <;> rfl
  rw [hgg] at hget
  have hget := Lib.hid hget
  have hb1 := getN_le s
  have hb2 := getN_num s
  obtain ⟨r, hr⟩ : ∃ r, Hid (takeNV s = r) := ⟨_, Lib.hid rfl⟩
  rw [hr.out]
  have hr0 := @takeN_zero s
  have hr1 := @takeN_short s
  have hr2 := @takeN_yes s
  unfold takeNV at hr
  generalize (getN s).1 = n at *
  generalize (getN s).2 = k at *
  by_cases h0 : k = 0
  · have hrr : Hid (_ = r) := (by rw [← hr.out, hr0 h0]; rfl : Value.tuple #[.string (B []), .int .i64 0] = r)
    have i0 : (k : Int) = 0 := by omega
    clear hr hr0 hr1 hr2 hgg
    subst h0
    go_enter Tryd.func36, Tryd.ntmps36
    go_wp2_with (first
      | ((with_reducible refine hget.out.mono ?_); rintro e w1 ⟨rfl, rfl⟩))
    all_goals try (exfalso; omega)
    go_ret2
    exact ⟨by rw [← hrr.out]; rfl, rfl⟩
  · have i0 : ¬ (k : Int) = 0 := by omega
    have i1 : 1 ≤ k := by omega
    have x0 : IntKind.u64.wrap ((s.length : Int) - (k : Int)) = ((s.length - k : Nat) : Int) := by
      rw [IntWalk.u64_in _ (by omega)]; omega
    by_cases hlt : s.length - k < n
    · have hrr : Hid (_ = r) := (by rw [← hr.out, hr1 h0 hlt]; rfl : Value.tuple #[.string (B []), .int .i64 0] = r)
      have hi : ((s.length - k : Nat) : Int) < (n : Int) := by omega
      have hj : (s.length : Int) - (k : Int) < (n : Int) := by omega
      clear hr hr0 hr1 hr2 hgg h0 hlt x0
      go_enter Tryd.func36, Tryd.ntmps36
      go_wp2_with (first
        | ((with_reducible refine hget.out.mono ?_); rintro e w1 ⟨rfl, rfl⟩))
      all_goals try (exfalso; omega)
      go_ret2
      exact ⟨by rw [← hrr.out]; rfl, rfl⟩
    · have hrr : Hid (_ = r) := (by rw [← hr.out, hr2 h0 (by omega)]; rfl : Value.tuple #[.string (B ((s.drop k).take n)), .int .i64 ((k : Int) + (n : Int))] = r)
      have hi : ¬ ((s.length - k : Nat) : Int) < (n : Int) := by omega
      have hj : ¬ (s.length : Int) - (k : Int) < (n : Int) := by omega
      have y0 : k + n ≤ s.length := by omega
      have x1 : (B s).extract k (k + n) = B ((s.drop k).take n) := by rw [extract_B]; rw [Nat.add_sub_cancel_left]
      clear hr hr0 hr1 hr2 hgg h0 hlt x0
      go_enter Tryd.func36, Tryd.ntmps36
      go_wp2_with (first
        | ((with_reducible refine hget.out.mono ?_); rintro e w1 ⟨rfl, rfl⟩))
      all_goals try (exfalso; omega)
      go_ret2
      refine ⟨?_, rfl⟩
      rw [← hrr.out]
      show Ending.returned (.tuple #[.string (B ((s.drop k).take (k + n - k))), .int .i64 ((k : Int) + (n : Int))]) = _
      rw [Nat.add_sub_cancel_left]
end Go.Proofs.YtoekdiklbfdpiaaDoor
/- The walks of layer 15: base, data. No condition. -/
namespace Go.Proofs.YtoekdiklbfdpiaaDoor
open Go.RowKit
attribute [local go_sem ↓] ldvP_eq
theorem bytes_cells (l : Txt) : Lib.byteCells l = (u8s l).toList := by simp [Lib.byteCells, u8s, u8v]
/-- copy(dst, s), s at least as long as dst, dst lying in row g from place o on. -/
theorem run_copy_row_long {P : Program} (w : World) (dT sT ty elem : TypeId) (g o dLen dCap : Nat) (s : ByteArray) (cur : Array Value) (t : TypeId)
    (hu : P.underlying dT = some (.slice elem)) (hs : (P.info? elem).map (·.size) = some 1) (hg : w.heap[g]? = some (.cells cur t (0, 0))) (hle : dLen ≤ s.size) (hfit : o + dLen ≤ cur.size) :
    (Builtin.copy_ #[dT, sT] ty #[.slice (some ⟨g, o, none⟩) dLen dCap, .string s]).run P w =
      .ok (goInt dLen) (w.setRow g (cur.toList.take o ++ Lib.byteCells (s.data.toList.take dLen) ++ cur.toList.drop (o + dLen)).toArray) := by
  have hlen : (Lib.byteCells (s.data.toList.take dLen)).length = dLen := by
    rw [Lib.byteCells_length, List.length_take]
    have : s.data.toList.length = s.size := rfl
    omega
  have hst := run_storeCells_at P g o t (Lib.byteCells (s.data.toList.take dLen)) 0 cur w hg (by rw [hlen]; simpa using hfit) (Lib.byteCells_one _)
  have hmin : Nat.min s.size dLen = dLen := Nat.min_eq_right hle
  have htk : List.take dLen (List.map (fun b : UInt8 => Value.int IntKind.u8 (b.toNat : Int)) s.data.toList) = Lib.byteCells (s.data.toList.take dLen) := by
    rw [← List.map_take]; rfl
  rw [hlen] at hst
  simp only [Nat.add_zero] at hst
  cases hq : P.info? elem with
  | none => simp [hq] at hs
  | some i =>
    simp [Builtin.copy_, run_underlying hu, Builtin.lenOf, Builtin.firstCells, sizeOf, typeInfo, hq, hmin]
    rw [htk, hst]
    simp [Result.andThen]
def stvP (p : Addr) (v : Value) : Sem Unit := storeVar 54 p v
theorem stvP_eq (p : Addr) (v : Value) : storeVar 54 p v = stvP p v := rfl
attribute [local go_sem ↓] stvP_eq
def baseV (k : Nat) (s : Txt) (ahead : Nat) : Value := match baseP k s ahead with
  | none => .tuple #[.agg (pitC zPit).toArray, .string (B []), .bool false]
  | some (b, i, r) => .tuple #[.agg (pitC ⟨k, b, i, []⟩).toArray, .string (B r), .bool true]
theorem baseV_none {k : Nat} {s : Txt} {ahead : Nat} (h : baseP k s ahead = none) : baseV k s ahead = .tuple #[.agg (pitC zPit).toArray, .string (B []), .bool false] := by unfold baseV; rw [h]
theorem baseV_some {k : Nat} {s : Txt} {ahead : Nat} {b : Nat} {i r : Txt} (h : baseP k s ahead = some (b, i, r)) : baseV k s ahead = .tuple #[.agg (pitC ⟨k, b, i, []⟩).toArray, .string (B r), .bool true] := by unfold baseV; rw [h]
set_option maxRecDepth 100000 in
set_option maxHeartbeats 4000000 in
theorem base_calls (k : Nat) (hk : k < 256) (s : Txt) (hs : s.length ≤ 4611686018427387904) (ahead : Nat) (ha : ahead ≤ 4611686018427387904) (w : World) :
    Calls Tryd.prog 47 #[.agg (pitC ⟨k, 0, noId', []⟩).toArray, .string (B s), .int .i64 ahead] w fun e w' => e = .returned (baseV k s ahead) ∧ Below w.heap.size w w' := by
  obtain ⟨r, hr⟩ : ∃ r, Hid (baseV k s ahead = r) := ⟨_, Lib.hid rfl⟩
  rw [hr.out]
  have hzv := zeroPit
  have hzl : (pitC zPit).toArray.size = 35 := pitC_size noId_len'
  have hrb := fun W => run_build (P := Tryd.prog) W _ _ _ built_zPit
  have hone := pitC_all zPit
  have hsz : (Tryd.prog.info? 54).map (·.size) = some (pitC zPit).toArray.size := by rw [hzl]; exact szPit
  obtain ⟨Z, hZ⟩ : ∃ Z, (pitC zPit).toArray = Z := ⟨_, rfl⟩
  have hbn := @baseV_none k s ahead
  have hbs := @baseV_some k s ahead
  rw [hZ] at hbn
  rw [hZ] at hzv hzl hrb hone hsz
  obtain ⟨cx, hcx⟩ : ∃ cx, (pitC ⟨k, 0, noId', []⟩).toArray = cx := ⟨_, rfl⟩
  obtain ⟨W1, hW1⟩ : ∃ W1, w.alloc (.cells cx 54) = W1 := ⟨_, rfl⟩
  have hx1 : PitB W1 w.heap.size ⟨k, 0, noId', []⟩ := ⟨by rw [← hW1, hcx]; exact Blk.new _ _ _, noId_len'⟩
  rw [hcx]
  clear hcx hZ
  have b1 : Below w.heap.size w W1 := by rw [← hW1]; exact (Below.refl _ _).alloc (Nat.le_refl _) _
  obtain ⟨W2, hW2⟩ : ∃ W2, W1.alloc (.cells Z 54) = W2 := ⟨_, rfl⟩
  have hz2 : Blk W2 W1.heap.size 54 Z := by rw [← hW2]; exact Blk.new _ _ _
  have bb2 : Below W1.heap.size W1 W2 := by rw [← hW2]; exact (Below.refl _ _).alloc (Nat.le_refl _) _
  have hx2 := hx1.below bb2
  have b2 := bthen b1 b1.size bb2
  have hlt : w.heap.size < W1.heap.size := hx1.blk.lt
  have c0 := hx2.kind
  have c1 := hx2.back
  have f1 := hx2.fr 1
  simp only at c0 c1
  clear hx1 b1 bb2
  go_enter Tryd.func47, Tryd.ntmps47
  go_upto_region 1 with (fail)
  clear hW1 hW2
  have hle1 := Nat.le_of_lt hlt
  generalize W1.heap.size = gZ at *
  obtain ⟨gX, hgX⟩ : ∃ gX, gX = w.heap.size := ⟨_, rfl⟩
  rw [← hgX] at hx2 c0 c1 f1 hlt hle1 b2 ⊢
  have HG := Lib.hid hgX
  clear hgX
  by_cases k0 : k = 0
  · subst k0
    have hrr : Hid (_ = r) := (hbs (b := 0) (i := noId') (r := s) rfl).symm.trans hr.out
    have hq := hx2.load
    have hcs := pitC_size hx2.base
    have hco := pitC_all ⟨(0 : Nat), 0, noId', []⟩
    have hii : (Tryd.prog.info? 54).map (·.size) = some (pitC ⟨(0 : Nat), 0, noId', []⟩).toArray.size := by rw [hcs]; exact szPit
    have hss : Z.size = (pitC ⟨(0 : Nat), 0, noId', []⟩).toArray.size := by rw [hcs, hzl]
    have hrr : Hid (Value.tuple #[.agg (pitC ⟨(0 : Nat), 0, noId', []⟩).toArray, .string (B s), .bool true] = r) := hrr
    clear hr hbn hbs hx2 hcs
    generalize (pitC ⟨(0 : Nat), 0, noId', []⟩).toArray = cs at *
    go_wp2_with (first
      | (refine wpList_store_row rfl 54 (.tmp 6) (.tmp 16) rfl gZ cs rfl rfl _ _ hz2 hii hss hco ?_))
    refine bodyPost_ret (results_row_tmp2 rfl _ _ gZ _ _ _ _ rfl (setRow_heap _ _ _ _ _ _ hz2) Tryd.underlying54 rfl hii) rfl ⟨by rw [← hrr.out]; rfl, ?_⟩
    rw [← HG.out]; exact below_setRow b2 hle1 _
  · have e0 : ((k : Int) == 0) = false := by simp; omega
    by_cases k1 : k = 1
    · have e1 : ((k : Int) == 1) = true := by simp; omega
      have hb1 : baseP k s ahead = (match get s with | none => none | some (n, m) => if n < 1 ∨ ahead < n then none else some (n, noId', s.drop m)) := by unfold baseP; rw [if_neg k0, if_pos k1]; rfl
      have hget := get_calls s (by omega) W2
      cases hg : get s with
      | none =>
        rw [hg] at hget hb1
        have hget : Calls Tryd.prog 46 #[.string (B s)] W2 fun e w' => e = .returned (.tuple #[.int .u64 0, .string (B []), .int .i64 2]) ∧ ∃ n, w' = W2.drewN n := hget
        have hget := Lib.hid hget
        have hrr : Hid (_ = r) := (hbn hb1).symm.trans hr.out
        clear hr hbn hbs hb1 hg k0 k1
        go_wp2_with (first
          | ((with_reducible refine hget.out.mono ?_); rintro e w1 ⟨rfl, nq, rfl⟩
             have hz3 := hz2.drewN nq
             have b3 := bdrewN b2 nq)
          | (refine wpList_store_row rfl 54 (.tmp 6) (.tmp 38) rfl gZ Z rfl rfl _ _ hz3 hsz rfl hone ?_))
        refine bodyPost_ret (results_row_tmp2 rfl _ _ gZ _ _ _ _ rfl (setRow_heap _ _ _ _ _ _ hz3) Tryd.underlying54 rfl hsz) rfl ⟨by rw [← hrr.out]; rfl, ?_⟩
        rw [← HG.out]; exact below_setRow b3 hle1 _
      | some p =>
        obtain ⟨n, m⟩ := p
        rw [hg] at hget hb1
        have hget : Calls Tryd.prog 46 #[.string (B s)] W2 fun e w' => e = .returned (.tuple #[.int .u64 n, .string (B (s.drop m)), .int .i64 0]) ∧ ∃ n, w' = W2.drewN n := hget
        have hget := Lib.hid hget
        simp only at hb1
        by_cases hn : n < 1 ∨ ahead < n
        · rw [if_pos hn] at hb1
          have hrr : Hid (_ = r) := (hbn hb1).symm.trans hr.out
          clear hr hbn hbs hb1 hg k0 k1
          by_cases hn1 : n < 1
          · have i1 : (n : Int) < 1 := by omega
            clear hn
            go_wp2_with (first
              | ((with_reducible refine hget.out.mono ?_); rintro e w1 ⟨rfl, nq, rfl⟩
                 have hz3 := hz2.drewN nq
                 have b3 := bdrewN b2 nq)
              | (refine wpList_store_row rfl 54 (.tmp 6) (.tmp 38) rfl gZ Z rfl rfl _ _ hz3 hsz rfl hone ?_))
            all_goals try (exfalso; omega)
            refine bodyPost_ret (results_row_tmp2 rfl _ _ gZ _ _ _ _ rfl (setRow_heap _ _ _ _ _ _ hz3) Tryd.underlying54 rfl hsz) rfl ⟨by rw [← hrr.out]; rfl, ?_⟩
            rw [← HG.out]; exact below_setRow b3 hle1 _
          · have i1 : ¬ (n : Int) < 1 := by omega
            have i2 : (ahead : Int) < (n : Int) := by omega
            clear hn
            go_wp2_with (first
              | ((with_reducible refine hget.out.mono ?_); rintro e w1 ⟨rfl, nq, rfl⟩
                 have hz3 := hz2.drewN nq
                 have b3 := bdrewN b2 nq)
              | (refine wpList_store_row rfl 54 (.tmp 6) (.tmp 38) rfl gZ Z rfl rfl _ _ hz3 hsz rfl hone ?_))
            all_goals try (exfalso; omega)
            refine bodyPost_ret (results_row_tmp2 rfl _ _ gZ _ _ _ _ rfl (setRow_heap _ _ _ _ _ _ hz3) Tryd.underlying54 rfl hsz) rfl ⟨by rw [← hrr.out]; rfl, ?_⟩
            rw [← HG.out]; exact below_setRow b3 hle1 _
        · rw [if_neg hn] at hb1
          have hrr : Hid (_ = r) := (hbs hb1).symm.trans hr.out
          have i1 : ¬ (n : Int) < 1 := by omega
          have i2 : ¬ (ahead : Int) < (n : Int) := by omega
          have i3 : (n : Int) ≤ 4611686018427387904 := by omega
          have hx3 : ∀ nq, PitB ((W2.drewN nq).setCell ⟨gX, 1, none⟩ (.int .i64 n)) gX ⟨k, n, noId', []⟩ := fun nq => (hx2.drewN nq).setBack n
          have hco := pitC_all ⟨k, n, noId', []⟩
          have hcs : (pitC ⟨k, n, noId', []⟩).toArray.size = 35 := pitC_size noId_len'
          have hii : (Tryd.prog.info? 54).map (·.size) = some (pitC ⟨k, n, noId', []⟩).toArray.size := by rw [hcs]; exact szPit
          have hss : Z.size = (pitC ⟨k, n, noId', []⟩).toArray.size := by rw [hcs, hzl]
          have hq := fun nq => (hx3 nq).load
          have hz3 : ∀ nq, Blk ((W2.drewN nq).setCell ⟨gX, 1, none⟩ (.int .i64 n)) gZ 54 Z := fun nq => (hz2.drewN nq).far (by simp; omega) _
          have b3 : ∀ nq, Below gX w ((W2.drewN nq).setCell ⟨gX, 1, none⟩ (.int .i64 n)) := fun nq => (bdrewN b2 nq).setCell (Nat.le_refl _) _
          clear hr hbn hbs hb1 hg k0 k1 hx2 hx3 hcs hn
          generalize (pitC ⟨k, n, noId', []⟩).toArray = cs at *
          go_wp2_with (first
            | ((with_reducible refine hget.out.mono ?_); rintro e w1 ⟨rfl, nq, rfl⟩
               have hq := hq nq
               have hz3 := hz3 nq
               have b3 := b3 nq)
            | (refine wpList_store_row rfl 54 (.tmp 6) (.tmp 42) rfl gZ cs rfl rfl _ _ hz3 hii hss hco ?_))
          all_goals try (exfalso; omega)
          refine bodyPost_ret (results_row_tmp2 rfl _ _ gZ _ _ _ _ rfl (setRow_heap _ _ _ _ _ _ hz3) Tryd.underlying54 rfl hii) rfl ⟨by rw [← hrr.out]; rfl, ?_⟩
          rw [← HG.out]; exact below_setRow b3 hle1 _
    · have e1 : ((k : Int) == 1) = false := by simp; omega
      by_cases k2 : k = 2
      · have e2 : ((k : Int) == 2) = true := by simp; omega
        have hb1 : baseP k s ahead = (if s.length < 32 then none else some (0, s.take 32, s.drop 32)) := by unfold baseP; rw [if_neg k0, if_neg k1, if_pos k2]
        by_cases hl : s.length < 32
        · rw [if_pos hl] at hb1
          have hrr : Hid (_ = r) := (hbn hb1).symm.trans hr.out
          have i1 : (s.length : Int) < 32 := by omega
          clear hr hbn hbs hb1 k0 k1 k2
          go_wp2_with (first
            | (refine wpList_store_row rfl 54 (.tmp 6) (.tmp 49) rfl gZ Z rfl rfl _ _ hz2 hsz rfl hone ?_))
          all_goals try (exfalso; omega)
          refine bodyPost_ret (results_row_tmp2 rfl _ _ gZ _ _ _ _ rfl (setRow_heap _ _ _ _ _ _ hz2) Tryd.underlying54 rfl hsz) rfl ⟨by rw [← hrr.out]; rfl, ?_⟩
          rw [← HG.out]; exact below_setRow b2 hle1 _
        · rw [if_neg hl] at hb1
          have hrr : Hid (_ = r) := (hbs hb1).symm.trans hr.out
          have i1 : ¬ (s.length : Int) < 32 := by omega
          have i2 : (32 : Int) ≤ (s.length : Int) := by omega
          have i3 : 32 ≤ s.length := by omega
          have x2 : (B s).extract 32 s.length = B (s.drop 32) := extract_B_from s 32
          have h32 : (s.take 32).length = 32 := by rw [List.length_take]; omega
          have hcp := fun ty => run_copy_row_long (P := Tryd.prog) W2 38 9 ty 5 gX 2 32 32 (B s) (pitC ⟨k, 0, noId', []⟩).toArray 54 Tryd.underlying38 (by kernel_rfl) hx2.blk (by rw [size_B]; exact i3) (by rw [pitC_size noId_len']; decide)
          have hrow : ((pitC ⟨k, 0, noId', []⟩).toArray.toList.take 2 ++ Lib.byteCells ((B s).data.toList.take 32) ++ (pitC ⟨k, 0, noId', []⟩).toArray.toList.drop (2 + 32)).toArray = (pitC ⟨k, 0, s.take 32, []⟩).toArray := by
            rw [bytes_cells]
            congr 1
          rw [hrow] at hcp
          have hx3 : PitB (W2.setRow gX (pitC ⟨k, 0, s.take 32, []⟩).toArray) gX ⟨k, 0, s.take 32, []⟩ := ⟨setRow_heap _ _ _ _ _ _ hx2.blk, h32⟩
          have hz3 : Blk (W2.setRow gX (pitC ⟨k, 0, s.take 32, []⟩).toArray) gZ 54 Z := by unfold Blk; rw [setRow_other _ _ _ _ (by omega)]; exact hz2
          have b3 : Below gX w (W2.setRow gX (pitC ⟨k, 0, s.take 32, []⟩).toArray) := below_setRow b2 (Nat.le_refl _) _
          have hco := pitC_all ⟨k, 0, s.take 32, []⟩
          have hcs : (pitC ⟨k, 0, s.take 32, []⟩).toArray.size = 35 := pitC_size h32
          have hii : (Tryd.prog.info? 54).map (·.size) = some (pitC ⟨k, 0, s.take 32, []⟩).toArray.size := by rw [hcs]; exact szPit
          have hss : Z.size = (pitC ⟨k, 0, s.take 32, []⟩).toArray.size := by rw [hcs, hzl]
          have hrr : Hid (Value.tuple #[.agg (pitC ⟨k, 0, s.take 32, []⟩).toArray, .string (B (s.drop 32)), .bool true] = r) := hrr
          have hq2 := (PitB.drewN hx3 1).load
          clear hr hbn hbs hb1 k0 k1 k2 hx2 hx3 hcs hrow hl
          generalize (pitC ⟨k, 0, s.take 32, []⟩).toArray = cs at *
          generalize W2.setRow gX cs = W3 at *
          go_upto_region 14 with (first
            | (at_builtin; fail)
            | (refine wpList_copy_run _ rfl _ _ 38 9 rfl _ _ rfl rfl (hcp _) ?_))
          all_goals try (exfalso; omega)
          have hq : (ldvP ⟨gX, 0, none⟩).run Tryd.prog W3.drew = .ok (.agg cs) W3.drew := hq2
          have hst : (stvP ⟨gZ, 0, none⟩ (.agg cs)).run Tryd.prog W3.drew = .ok () (W3.drew.setRow gZ cs) := by
            rw [← stvP_eq]
            exact run_storeVar_row W3.drew gZ _ _ Z cs hz3.drew hii hss hco
          have b4 : Below gX w (W3.drew.setRow gZ cs) := below_setRow b3.drew hle1 _
          clear hcp hq2
          go_region
          all_goals
            go_wp2_with (fail)
            refine bodyPost_ret (results_row_tmp2 rfl _ _ gZ _ _ _ _ rfl (setRow_heap _ _ _ _ _ _ hz3.drew) Tryd.underlying54 rfl hii) rfl ⟨by rw [← hrr.out]; rfl, ?_⟩
            rw [← HG.out]; exact b4
      · have e2 : ((k : Int) == 2) = false := by simp; omega
        have hb1 : baseP k s ahead = none := by unfold baseP; rw [if_neg k0, if_neg k1, if_neg k2]
        have hrr : Hid (_ = r) := (hbn hb1).symm.trans hr.out
        clear hr hbn hbs hb1 k0 k1 k2
        go_wp2_with (first
          | (refine wpList_store_row rfl 54 (.tmp 6) (.tmp 57) rfl gZ Z rfl rfl _ _ hz2 hsz rfl hone ?_))
        refine bodyPost_ret (results_row_tmp2 rfl _ _ gZ _ _ _ _ rfl (setRow_heap _ _ _ _ _ _ hz2) Tryd.underlying54 rfl hsz) rfl ⟨by rw [← hrr.out]; rfl, ?_⟩
        rw [← HG.out]; exact below_setRow b2 hle1 _
end Go.Proofs.YtoekdiklbfdpiaaDoor
/- Regions that draw their order, by a class that may speak of the frame too: 'x, y := f(..)' where x is laid amid the region. No condition; no program. -/
namespace Go.Proofs.YtoekdiklbfdpiaaDoor
open Go.RowKit
section
variable {P : Program} {ops : Array Oper} {a0 : Act} {C : Array Bool → Act → World → Prop} {R : Nat → Value → World → Prop} {Q : Exit → Act → World → Prop}
theorem Left.as {C C' : Array Bool → World → Prop} {listed : Array Bool} {a : Act} {w : World} (h : Left ops a0 C R listed a w) (hc : C' listed w) : Left ops a0 C' R listed a w := ⟨hc, h.size, h.closed, h.tsize, h.defers, h.old, h.new⟩
theorem wpAny_leftA (hac : acyc ops = true) (hd : apartB ops = true) (hsz : ∀ (i : Nat) o (t : Nat), ops[i]? = some o → o.dst = some t → t < a0.tmps.size)
    (hstep : ∀ i o listed a w, ops[i]? = some o → i ∈ Region.ready .any ops listed → Left ops a0 (fun l w => C l a w) R listed a w → wpOp P ops Q i (fun a' w' => ∃ v, a' = a.put o.dst v ∧ R i v w' ∧ C (listed.setIfInBounds i true) (a.put o.dst v) w' ∧ ∀ j u, listed.getD j false = true → R j u w → R j u w') a w)
    (hend : ∀ a w listed, Left ops a0 (fun l w => C l a w) R listed a w → (∀ i, i < ops.size → listed.getD i false = true) → Q .normal a w) :
    ∀ (fuel : Nat) (listed : Array Bool) (a : Act) (w : World), Left ops a0 (fun l w => C l a w) R listed a w → unlisted listed ops.size ≤ fuel → wpAny P .any ops Q fuel listed a w
  | 0, listed, a, w, h, hu => by
    have hall : ∀ i, i < ops.size → listed.getD i false = true := by
      intro i hi
      cases hl : listed.getD i false with
      | true => rfl
      | false =>
        have hm : i ∈ ((List.range ops.size).filter fun i => !listed.getD i false) := by
          rw [List.mem_filter, List.mem_range]
          exact ⟨hi, by rw [hl]; rfl⟩
        have := List.length_pos_of_mem hm
        unfold unlisted at hu
        omega
    refine ⟨?_, hend a w listed h hall⟩
    rw [List.eq_nil_iff_forall_not_mem]
    intro i hi
    obtain ⟨h1, h2, _⟩ := ready_spec hi
    rw [← getD_of_size (by rw [h.size]; exact h1), hall i h1] at h2
    cases h2
  | fuel + 1, listed, a, w, h, hu => by
    refine ⟨fun h0 => hend a w listed h (all_listed hac h.size h0), fun i hi => ?_⟩
    obtain ⟨h1, h2, _⟩ := ready_spec hi
    have ho : ops[i]? = some ops[i] := Array.getElem?_eq_getElem h1
    refine wpOp_mono ?_ (hstep i _ listed a w ho hi h)
    rintro a' w' ⟨v, rfl, hR, hC, hst⟩
    have h' : Left ops a0 (fun _ _ => True) R listed a w := h.as trivial
    have hs := (h'.step hd hsz hi ho hR trivial hst).as (C' := fun l w => C l (a.put ops[i].dst v) w) hC
    refine wpAny_leftA hac hd hsz hstep hend fuel _ _ _ hs ?_
    have := unlisted_set h1 h.size (by rw [getD_of_size (by rw [h.size]; exact h1)]; exact h2)
    omega
theorem wp_region_leftA {id : Nat} {w0 : World} (hm : P.follows .mixedOrders = true) (hac : acyc ops = true) (hd : apartB ops = true) (hsz : ∀ (i : Nat) o (t : Nat), ops[i]? = some o → o.dst = some t → t < a0.tmps.size)
    (hC : C (Array.replicate ops.size false) a0 { w0 with drawn := w0.drawn + 1 })
    (hstep : ∀ i o listed a w, ops[i]? = some o → i ∈ Region.ready .any ops listed → Left ops a0 (fun l w => C l a w) R listed a w → wpOp P ops Q i (fun a' w' => ∃ v, a' = a.put o.dst v ∧ R i v w' ∧ C (listed.setIfInBounds i true) (a.put o.dst v) w' ∧ ∀ j u, listed.getD j false = true → R j u w → R j u w') a w)
    (hend : ∀ a w listed, Left ops a0 (fun l w => C l a w) R listed a w → (∀ i, i < ops.size → listed.getD i false = true) → Q .normal a w) : (Code.region id ops true).wp P Q a0 w0 := by
  refine wp_region_any hm (wpAny_leftA (C := C) (R := R) hac hd hsz hstep hend _ _ _ _ ⟨hC, by simp, ?_, rfl, rfl, fun _ _ => rfl, ?_⟩ ?_)
  · intro i o ho hl
    exfalso
    have hi := (Array.getElem?_eq_some_iff.1 ho).1
    simp [Array.getD, hi] at hl
  · intro i o t ho hl
    exfalso
    have hi := (Array.getElem?_eq_some_iff.1 ho).1
    simp [Array.getD, hi] at hl
  · unfold unlisted
    exact Nat.le_trans (List.length_filter_le _ _) (by simp)
end
/-- A variable is laid by operation al into slot s, and written by operation st. -/
structure VarC (al st s : Nat) (T : TypeId) (B : Nat) (Z cs : Array Value) (I : World → Prop) (listed : Array Bool) (a : Act) (w : World) : Prop where
  inv : I w
  size : B ≤ w.heap.size
  at_ : listed.getD al false = true → ∃ b, a.eval (.tmp s) = .pointer (some ⟨b, 0, none⟩) ∧ B ≤ b ∧ Blk w b T (if listed.getD st false = true then cs else Z)
section
variable {al st s i : Nat} {T : TypeId} {B : Nat} {Z cs : Array Value} {I : World → Prop} {listed : Array Bool} {a : Act} {w w' : World}
theorem eval_put {d : Option Tmp} {v : Value} (h : d ≠ some s) : (a.put d v).eval (.tmp s) = a.eval (.tmp s) := by
  simp only [Act.eval, Array.getD_eq_getD_getElem?, put_at h]
theorem VarC.start {n : Nat} (hI : I w) (hB : B ≤ w.heap.size) : VarC al st s T B Z cs I (Array.replicate n false) a w := ⟨hI, hB, fun h => by rw [getD_none] at h; cases h⟩
theorem VarC.below (h : VarC al st s T B Z cs I listed a w) (h1 : i ≠ al) (h2 : i ≠ st) {d : Option Tmp} {v : Value} (hd : d ≠ some s) (hb : Below w.heap.size w w') (hI : I w') : VarC al st s T B Z cs I (listed.setIfInBounds i true) (a.put d v) w' :=
  ⟨hI, Nat.le_trans h.size hb.size, fun hl => by
    rw [getD_other h1] at hl
    rw [getD_other h2]
    obtain ⟨b, e1, e2, e3⟩ := h.at_ hl
    exact ⟨b, by rw [eval_put hd]; exact e1, e2, e3.below hb e3.lt⟩⟩
theorem VarC.same (h : VarC al st s T B Z cs I listed a w) (h1 : i ≠ al) (h2 : i ≠ st) {d : Option Tmp} {v : Value} (hd : d ≠ some s) : VarC al st s T B Z cs I (listed.setIfInBounds i true) (a.put d v) w := h.below h1 h2 hd (Below.refl _ _) h.inv
variable {P : Program} {o : Oper} {K : Act → World → Prop} {Q : Exit → Act → World → Prop}
theorem alloc_step (ho : o.op = .alloc T) (hz : (zeroValue T).run P w = .ok (.agg Z) w) (h : K (a.put o.dst (.pointer (some ⟨w.heap.size, 0, none⟩))) (w.alloc (.cells Z T))) : o.wp P a w K Q := by
  unfold Oper.wp execOp
  simp only [ho]
  go_simp
  exact h
theorem VarC.laid (h : VarC al st s T B Z cs I listed a w) (hs : listed.getD st false = false) (hne : al ≠ st) (ht : s < a.tmps.size) (hI : I (w.alloc (.cells Z T))) : VarC al st s T B Z cs I (listed.setIfInBounds al true) (a.put (some s) (.pointer (some ⟨w.heap.size, 0, none⟩))) (w.alloc (.cells Z T)) :=
  ⟨hI, by rw [size_alloc']; have := h.size; omega, fun _ => ⟨w.heap.size, by simp [Act.eval, Act.put, ht], h.size, by rw [getD_other hne, hs, if_neg (by simp)]; exact Blk.new _ _ _⟩⟩
theorem VarC.stored (h : VarC al st s T B Z cs I listed a w) (hl : listed.getD al false = true) (hs : listed.getD st false = false) (hi : st < listed.size) {y : Operand} (ho : o.op = .store T (.tmp s) y) (hy : a.eval y = .agg cs) (hsz : (P.info? T).map (·.size) = some cs.size) (hzc : Z.size = cs.size) (hone : cs.all (·.oneCell') = true) (hne : al ≠ st)
    (hd : o.dst = none) (hI : ∀ b, B ≤ b → I (w.setRow b cs)) (hK : ∀ w', (∃ b, B ≤ b ∧ b < w.heap.size ∧ w' = w.setRow b cs ∧ Blk w b T Z) → VarC al st s T B Z cs I (listed.setIfInBounds st true) (a.put o.dst undef) w' → K (a.put o.dst undef) w') : o.wp P a w K Q := by
  obtain ⟨b, e1, e2, e3⟩ := h.at_ hl
  rw [hs, if_neg (by simp)] at e3
  refine wp_store_row T (.tmp s) y ho b cs e1 hy T Z e3 hsz hzc hone (hK _ ⟨b, e2, e3.lt, rfl, e3⟩ ⟨hI b e2, by simpa using h.size, fun _ => ⟨b, by rw [hd]; exact e1, e2, ?_⟩⟩)
  rw [getD_here hi, if_pos rfl]
  exact setRow_heap _ _ _ _ _ _ e3
end
end Go.Proofs.YtoekdiklbfdpiaaDoor
/- The walks of layer 15: data, item. No condition. -/
namespace Go.Proofs.YtoekdiklbfdpiaaDoor
open Go.RowKit
attribute [local go_sem ↓] ldvP_eq
def datP (p : Txt) : Txt × Nat := if (unp p 4096).2 = 0 ∨ (unp p 4096).2 = 3 then unp p 4096 else ([], 2)
set_option maxRecDepth 100000 in
set_option maxHeartbeats 1000000 in
theorem data_calls (p : Txt) (hp : p.length ≤ 70368744177664) (w : World) : Calls Tryd.prog 49 #[.string (B p)] w fun e w' => e = .returned (.tuple #[.string (B (datP p).1), .int .i64 (datP p).2]) ∧ Below w.heap.size w w' := by
  have hun : ∀ W, Calls Tryd.prog 59 #[.string (B p), .int .i64 4096] W fun e w' => e = .returned (.tuple #[.string (B (unp p 4096).1), .int .i64 (unp p 4096).2]) ∧ Below W.heap.size W w' := fun W => unpack_calls p 4096 hp (by omega) (by omega) W
  have hun := Lib.hid (hun w)
  obtain ⟨D, hD⟩ : ∃ D, Hid (datP p = D) := ⟨_, Lib.hid rfl⟩
  rw [hD.out]
  have hdd : Hid (D = if (unp p 4096).2 = 0 ∨ (unp p 4096).2 = 3 then unp p 4096 else ([], 2)) := hD.out.symm
  generalize unp p 4096 = u at *
  clear hD
  by_cases h0 : u.2 = 0
  · have i0 : ((u.2 : Int) == 0) = true := by simp; omega
    have hf : Hid (D = u) := by show _ = _; rw [hdd.out, if_pos (.inl h0)]
    clear hdd h0
    go_enter Tryd.func49, Tryd.ntmps49
    go_wp2_with (first
      | ((with_reducible refine hun.out.mono ?_); rintro e w1 ⟨rfl, hb1⟩))
    go_ret2
    exact ⟨by rw [hf.out]; rfl, hb1⟩
  · have i0 : ((u.2 : Int) == 0) = false := by simp; omega
    by_cases h3 : u.2 = 3
    · have i3 : ((u.2 : Int) == 3) = true := by simp; omega
      have hf : Hid (D = u) := by show _ = _; rw [hdd.out, if_pos (.inr h3)]
      clear hdd h0 h3
      go_enter Tryd.func49, Tryd.ntmps49
      go_wp2_with (first
        | ((with_reducible refine hun.out.mono ?_); rintro e w1 ⟨rfl, hb1⟩))
      go_ret2
      exact ⟨by rw [hf.out]; rfl, hb1⟩
    · have i3 : ((u.2 : Int) == 3) = false := by simp; omega
      have hf : Hid (D = ([], 2)) := by
        show _ = _
        rw [hdd.out, if_neg]
        rintro (h | h)
        · exact h0 h
        · exact h3 h
      clear hdd h0 h3
      go_enter Tryd.func49, Tryd.ntmps49
      go_wp2_with (first
        | ((with_reducible refine hun.out.mono ?_); rintro e w1 ⟨rfl, hb1⟩))
      go_ret2
      exact ⟨by rw [hf.out]; rfl, hb1⟩
def itemV (s : Txt) (ahead : Nat) : Value := match itemP s ahead with
  | .inr e => .tuple #[.agg (pitC zPit).toArray, .string (B []), .int .i64 e]
  | .inl (x, q) => .tuple #[.agg (pitC x).toArray, .string (B q), .int .i64 0]
theorem itemV_err {s : Txt} {ahead e : Nat} (h : itemP s ahead = .inr e) : itemV s ahead = .tuple #[.agg (pitC zPit).toArray, .string (B []), .int .i64 e] := by unfold itemV; rw [h]
theorem itemV_ok {s q : Txt} {ahead : Nat} {x : PItL} (h : itemP s ahead = .inl (x, q)) : itemV s ahead = .tuple #[.agg (pitC x).toArray, .string (B q), .int .i64 0] := by unfold itemV; rw [h]
set_option maxRecDepth 100000 in
set_option maxHeartbeats 4000000 in
theorem item_calls (s : Txt) (hs : s.length ≤ 1000000000) (ahead : Nat) (ha : ahead ≤ 1000000000) (w : World) : Calls Tryd.prog 35 #[.string (B s), .int .i64 ahead] w fun e w' => e = .returned (itemV s ahead) ∧ Below w.heap.size w w' := by
  obtain ⟨r, hr⟩ : ∃ r, Hid (itemV s ahead = r) := ⟨_, Lib.hid rfl⟩
  rw [hr.out]
  have hzv := zeroPit
  have hzl : (pitC zPit).toArray.size = 35 := pitC_size noId_len'
  have hrb := fun W => run_build (P := Tryd.prog) W _ _ _ built_zPit
  have hone := pitC_all zPit
  have hsz : (Tryd.prog.info? 54).map (·.size) = some (pitC zPit).toArray.size := by rw [hzl]; exact szPit
  have hie := fun e => @itemV_err s ahead e
  have hio := @itemV_ok s
  generalize hZ : (pitC zPit).toArray = Z at *
  obtain ⟨W1, hW1⟩ : ∃ W1, w.alloc (.cells Z 54) = W1 := ⟨_, rfl⟩
  have hz1 : Blk W1 w.heap.size 54 Z := by rw [← hW1]; exact Blk.new _ _ _
  have b1 : Below w.heap.size w W1 := by rw [← hW1]; exact (Below.refl _ _).alloc (Nat.le_refl _) _
  cases s with
  | nil =>
    have hrr : Hid (_ = r) := (hie 2 rfl).symm.trans hr.out
    clear hr hie hio hZ
    go_enter Tryd.func35, Tryd.ntmps35
    go_wp2_with (first
      | (refine wpList_store_row rfl 54 (.tmp 4) (.tmp 16) rfl w.heap.size Z rfl rfl _ _ hz1 hsz rfl hone ?_))
    exact bodyPost_ret (results_row_tmp2 rfl _ _ w.heap.size _ _ _ _ rfl (setRow_heap _ _ _ _ _ _ hz1) Tryd.underlying54 rfl hsz) rfl ⟨by rw [← hrr.out]; rfl, below_setRow b1 (Nat.le_refl _) _⟩
  | cons c q =>
    simp only [List.length_cons] at hs
    have hd0 : 0 ≤ (c.toNat : Int) := by omega
    have hd1 : (c.toNat : Int) < 256 := by have := c.toNat_lt; omega
    have hbd := built_kPit (c.toNat : Int)
    have hex : (B (c :: q)).extract 1 (q.length + 1) = B q := by
      rw [extract_B]
      simp
--ITEMTAIL
    have hbc0 := fun W => base_calls c.toNat c.toNat_lt q (by omega) ahead (by omega) W
    obtain ⟨bx, br, bo, bxx, hbv, hbx, hbt⟩ : ∃ bx br bo bxx, baseV c.toNat q ahead = .tuple #[.agg bx, .string (B br), .bool bo] ∧ bx = (pitC bxx).toArray ∧ Hid (bxx.base.length = 32 ∧ br.length ≤ q.length ∧ ((bo = false ∧ baseP c.toNat q ahead = none) ∨ (bo = true ∧ ∃ b i, baseP c.toNat q ahead = some (b, i, br) ∧ bxx = ⟨c.toNat, b, i, []⟩))) := by
      cases hb : baseP c.toNat q ahead with
      | none => exact ⟨_, [], false, zPit, by rw [baseV_none hb], rfl, noId_len', by simp, .inl ⟨rfl, rfl⟩⟩
      | some p =>
        obtain ⟨b, i, r2⟩ := p
        have hl := baseP_len hb
        exact ⟨_, r2, true, ⟨c.toNat, b, i, []⟩, by rw [baseV_some hb], rfl, hl.1, hl.2.1, .inr ⟨rfl, b, i, rfl, rfl⟩⟩
    rw [hbv] at hbc0
    have hbc := fun W => Lib.hid (hbc0 W)
    have hb32 := hbt.out.1
    have hbl := hbt.out.2.1
    have hb35 : bx.size = 35 := by rw [hbx, pitC_size hb32]
    have hbsz : (Tryd.prog.info? 54).map (·.size) = some bx.size := by rw [hb35]; exact szPit
    have hbzc : Z.size = bx.size := by rw [hb35, hzl]
    have hbone : bx.all (·.oneCell') = true := by rw [hbx]; exact pitC_all bxx
    have HBX := Lib.hid hbx
    have hII : ∀ W, Blk W w.heap.size 54 Z ∧ Below w.heap.size w W ↔ Blk W w.heap.size 54 Z ∧ Below w.heap.size w W := fun _ => Iff.rfl
    obtain ⟨II, hI2⟩ : ∃ II : World → Prop, II = fun W => Blk W w.heap.size 54 Z ∧ Below w.heap.size w W := ⟨_, rfl⟩
    have hIu : ∀ W, II W → Blk W w.heap.size 54 Z ∧ Below w.heap.size w W := fun W h => by rw [hI2] at h; exact h
    have hIb : ∀ W W', II W → Below W.heap.size W W' → II W' := fun W W' h hb => by rw [hI2] at *; exact ⟨h.1.below hb h.1.lt, bthen h.2 h.2.size hb⟩
    have hIr : ∀ W b ds, II W → W1.heap.size ≤ b → II (W.setRow b ds) := fun W b ds h hb => by
      rw [hI2] at *
      have h0 := hz1.lt
      exact ⟨by unfold Blk; rw [setRow_other _ _ _ _ (by omega)]; exact h.1, below_setRow h.2 (by omega) _⟩
    have hI0 : II W1.drew := by rw [hI2]; exact ⟨hz1.drew, b1.drew⟩
    have hB0 : W1.heap.size ≤ W1.drew.heap.size := Nat.le_refl _
    clear hbx hb35 hbc0 hbv hII hI2
    obtain ⟨ck, hck⟩ : ∃ ck, (pitC ⟨c.toNat, 0, noId', []⟩).toArray = ck := ⟨_, rfl⟩
    rw [hck] at hbc hbd
    clear hck
    go_enter Tryd.func35, Tryd.ntmps35
    go_upto_region 3 with (fail)
    clear hW1
    have hbd1 : Tryd.prog.built 54 [(0, .int .i64 c.toNat)] = some ck := hbd
    obtain ⟨V, hV⟩ : ∃ V : Nat → Value, V = fun i => [(.string (B (c :: q))), (.int .u8 c.toNat), (.int .i64 c.toNat), (.agg ck), (.string (B (c :: q))), (.string (B q)), (.int .i64 ahead), (.tuple #[.agg bx, .string (B br), .bool bo]), (.tuple #[.agg bx, .string (B br), .bool bo]), (.agg bx), (.string (B br)), (.bool bo), undef, undef, (.string (B br)), (.bool bo)].getD i undef := ⟨_, rfl⟩
    have v0 : V 0 = (.string (B (c :: q))) := by rw [hV]; rfl
    have v1 : V 1 = (.int .u8 c.toNat) := by rw [hV]; rfl
    have v2 : V 2 = (.int .i64 c.toNat) := by rw [hV]; rfl
    have v3 : V 3 = (.agg ck) := by rw [hV]; rfl
    have v4 : V 4 = (.string (B (c :: q))) := by rw [hV]; rfl
    have v5 : V 5 = (.string (B q)) := by rw [hV]; rfl
    have v6 : V 6 = (.int .i64 ahead) := by rw [hV]; rfl
    have v7 : V 7 = (.tuple #[.agg bx, .string (B br), .bool bo]) := by rw [hV]; rfl
    have v8 : V 8 = (.tuple #[.agg bx, .string (B br), .bool bo]) := by rw [hV]; rfl
    have v9 : V 9 = (.agg bx) := by rw [hV]; rfl
    have v10 : V 10 = (.string (B br)) := by rw [hV]; rfl
    have v11 : V 11 = (.bool bo) := by rw [hV]; rfl
    have v13 : V 13 = undef := by rw [hV]; rfl
    have v14 : V 14 = (.string (B br)) := by rw [hV]; rfl
    have v15 : V 15 = (.bool bo) := by rw [hV]; rfl
    clear hV
    refine wp_region_leftA (C := VarC 12 13 7 54 W1.heap.size Z bx II) (R := fun i v _ => i = 12 ∨ v = V i) (by kernel_rfl) (by kernel_rfl) (by kernel_rfl) ?_ ?_ ?_ ?_
    · exact sizes_spec (n := 54) (by kernel_rfl)
    · exact VarC.start hI0 hB0
    · intro i o listed a w1 ho hi hL
      have hin := (ready_spec hi).1
      have hsz : listed.size = 16 := hL.size
      match i, ho with
      | 0, ho =>
        obtain rfl := (Option.some.inj ho).symm
        have e0 : a.tmps[0]?.getD undef = (.string (B (c :: q))) := (slot_eval a 0).trans (hL.get_old hi (by kernel_rfl))
        have hcl := hL.cls
        refine step_wp rfl rfl ?_
        clear hi ho hL hin
        refine wp_val (v := (.string (B (c :: q)))) ?_ ⟨_, rfl, .inr v0.symm, VarC.same hcl (by decide) (by decide) (by decide), fun _ _ _ h => h⟩
        clear v0 v1 v2 v3 v4 v5 v6 v7 v8 v9 v10 v11 v13 v14 v15 hcl
        unfold execOp
        go_simp
      | 1, ho =>
        obtain rfl := (Option.some.inj ho).symm
        have e0 : a.tmps[18]?.getD undef = (.string (B (c :: q))) := (slot_eval a 18).trans (((hL.get_new (j := 0) hi (by kernel_rfl)).resolve_left (by decide)).trans v0)
        have hcl := hL.cls
        refine step_wp rfl rfl ?_
        clear hi ho hL hin
        refine wp_val (v := (.int .u8 c.toNat)) ?_ ⟨_, rfl, .inr v1.symm, VarC.same hcl (by decide) (by decide) (by decide), fun _ _ _ h => h⟩
        clear v0 v1 v2 v3 v4 v5 v6 v7 v8 v9 v10 v11 v13 v14 v15 hcl
        unfold execOp
        go_simp
      | 2, ho =>
        obtain rfl := (Option.some.inj ho).symm
        have e0 : a.tmps[19]?.getD undef = (.int .u8 c.toNat) := (slot_eval a 19).trans (((hL.get_new (j := 1) hi (by kernel_rfl)).resolve_left (by decide)).trans v1)
        have hcl := hL.cls
        refine step_wp rfl rfl ?_
        clear hi ho hL hin
        refine wp_val (v := (.int .i64 c.toNat)) ?_ ⟨_, rfl, .inr v2.symm, VarC.same hcl (by decide) (by decide) (by decide), fun _ _ _ h => h⟩
        clear v0 v1 v2 v3 v4 v5 v6 v7 v8 v9 v10 v11 v13 v14 v15 hcl
        unfold execOp
        go_simp
        exact IntWalk.i64_in _ (by omega)
      | 3, ho =>
        obtain rfl := (Option.some.inj ho).symm
        have e0 : a.tmps[20]?.getD undef = (.int .i64 c.toNat) := (slot_eval a 20).trans (((hL.get_new (j := 2) hi (by kernel_rfl)).resolve_left (by decide)).trans v2)
        refine step_wp rfl rfl ?_
        exact build_step rfl hbd (parts1 (slot_is e0)) ⟨_, rfl, .inr v3.symm, VarC.same hL.cls (by decide) (by decide) (by decide), fun _ _ _ h => h⟩
      | 4, ho =>
        obtain rfl := (Option.some.inj ho).symm
        have e0 : a.tmps[0]?.getD undef = (.string (B (c :: q))) := (slot_eval a 0).trans (hL.get_old hi (by kernel_rfl))
        have hcl := hL.cls
        refine step_wp rfl rfl ?_
        clear hi ho hL hin
        refine wp_val (v := (.string (B (c :: q)))) ?_ ⟨_, rfl, .inr v4.symm, VarC.same hcl (by decide) (by decide) (by decide), fun _ _ _ h => h⟩
        clear v0 v1 v2 v3 v4 v5 v6 v7 v8 v9 v10 v11 v13 v14 v15 hcl
        unfold execOp
        go_simp
      | 5, ho =>
        obtain rfl := (Option.some.inj ho).symm
        have e0 : a.tmps[22]?.getD undef = (.string (B (c :: q))) := (slot_eval a 22).trans (((hL.get_new (j := 4) hi (by kernel_rfl)).resolve_left (by decide)).trans v4)
        have hcl := hL.cls
        refine step_wp rfl rfl ?_
        clear hi ho hL hin
        refine wp_val (v := (.string (B q))) ?_ ⟨_, rfl, .inr v5.symm, VarC.same hcl (by decide) (by decide) (by decide), fun _ _ _ h => h⟩
        clear v0 v1 v2 v3 v4 v5 v6 v7 v8 v9 v10 v11 v13 v14 v15 hcl
        unfold execOp
        go_simp
        intro h
        omega
      | 6, ho =>
        obtain rfl := (Option.some.inj ho).symm
        have e0 : a.tmps[1]?.getD undef = (.int .i64 ahead) := (slot_eval a 1).trans (hL.get_old hi (by kernel_rfl))
        have hcl := hL.cls
        refine step_wp rfl rfl ?_
        clear hi ho hL hin
        refine wp_val (v := (.int .i64 ahead)) ?_ ⟨_, rfl, .inr v6.symm, VarC.same hcl (by decide) (by decide) (by decide), fun _ _ _ h => h⟩
        clear v0 v1 v2 v3 v4 v5 v6 v7 v8 v9 v10 v11 v13 v14 v15 hcl
        unfold execOp
        go_simp
      | 7, ho =>
        obtain rfl := (Option.some.inj ho).symm
        have e0 : a.tmps[21]?.getD undef = (.agg ck) := (slot_eval a 21).trans (((hL.get_new (j := 3) hi (by kernel_rfl)).resolve_left (by decide)).trans v3)
        have e1 : a.tmps[23]?.getD undef = (.string (B q)) := (slot_eval a 23).trans (((hL.get_new (j := 5) hi (by kernel_rfl)).resolve_left (by decide)).trans v5)
        have e2 : a.tmps[24]?.getD undef = (.int .i64 ahead) := (slot_eval a 24).trans (((hL.get_new (j := 6) hi (by kernel_rfl)).resolve_left (by decide)).trans v6)
        refine step_wp rfl rfl ?_
        refine call_step rfl (vals := #[.agg ck, .string (B q), .int .i64 ahead]) (map3 (slot_is e0) (slot_is e1) (slot_is e2)) (by go_simp) (hbc w1).out ?_
        rintro e w2 ⟨rfl, hb2⟩
        exact ⟨_, rfl, _, rfl, .inr v7.symm, VarC.below hL.cls (by decide) (by decide) (by decide) hb2 (hIb _ _ hL.cls.inv hb2), fun _ _ _ h => h⟩
      | 8, ho =>
        obtain rfl := (Option.some.inj ho).symm
        have e0 : a.tmps[25]?.getD undef = (.tuple #[.agg bx, .string (B br), .bool bo]) := (slot_eval a 25).trans (((hL.get_new (j := 7) hi (by kernel_rfl)).resolve_left (by decide)).trans v7)
        have hcl := hL.cls
        refine step_wp rfl rfl ?_
        clear hi ho hL hin
        refine wp_val (v := (.tuple #[.agg bx, .string (B br), .bool bo])) ?_ ⟨_, rfl, .inr v8.symm, VarC.same hcl (by decide) (by decide) (by decide), fun _ _ _ h => h⟩
        clear v0 v1 v2 v3 v4 v5 v6 v7 v8 v9 v10 v11 v13 v14 v15 hcl
        unfold execOp
        go_simp
      | 9, ho =>
        obtain rfl := (Option.some.inj ho).symm
        have e0 : a.tmps[17]?.getD undef = (.tuple #[.agg bx, .string (B br), .bool bo]) := (slot_eval a 17).trans (((hL.get_new (j := 8) hi (by kernel_rfl)).resolve_left (by decide)).trans v8)
        have hcl := hL.cls
        refine step_wp rfl rfl ?_
        clear hi ho hL hin
        refine wp_val (v := (.agg bx)) ?_ ⟨_, rfl, .inr v9.symm, VarC.same hcl (by decide) (by decide) (by decide), fun _ _ _ h => h⟩
        clear v0 v1 v2 v3 v4 v5 v6 v7 v8 v9 v10 v11 v13 v14 v15 hcl
        unfold execOp
        go_simp
      | 10, ho =>
        obtain rfl := (Option.some.inj ho).symm
        have e0 : a.tmps[17]?.getD undef = (.tuple #[.agg bx, .string (B br), .bool bo]) := (slot_eval a 17).trans (((hL.get_new (j := 8) hi (by kernel_rfl)).resolve_left (by decide)).trans v8)
        have hcl := hL.cls
        refine step_wp rfl rfl ?_
        clear hi ho hL hin
        refine wp_val (v := (.string (B br))) ?_ ⟨_, rfl, .inr v10.symm, VarC.same hcl (by decide) (by decide) (by decide), fun _ _ _ h => h⟩
        clear v0 v1 v2 v3 v4 v5 v6 v7 v8 v9 v10 v11 v13 v14 v15 hcl
        unfold execOp
        go_simp
      | 11, ho =>
        obtain rfl := (Option.some.inj ho).symm
        have e0 : a.tmps[17]?.getD undef = (.tuple #[.agg bx, .string (B br), .bool bo]) := (slot_eval a 17).trans (((hL.get_new (j := 8) hi (by kernel_rfl)).resolve_left (by decide)).trans v8)
        have hcl := hL.cls
        refine step_wp rfl rfl ?_
        clear hi ho hL hin
        refine wp_val (v := (.bool bo)) ?_ ⟨_, rfl, .inr v11.symm, VarC.same hcl (by decide) (by decide) (by decide), fun _ _ _ h => h⟩
        clear v0 v1 v2 v3 v4 v5 v6 v7 v8 v9 v10 v11 v13 v14 v15 hcl
        unfold execOp
        go_simp
      | 12, ho =>
        obtain rfl := (Option.some.inj ho).symm
        have hls : listed.getD 13 false = false := hL.later (j := 13) hi (by kernel_rfl)
        have hta : a.tmps.size = 54 := hL.tsize
        have hc := VarC.laid (al := 12) hL.cls hls (by decide) (by rw [hta]; decide) (hIb _ _ hL.cls.inv ((Below.refl _ _).alloc (Nat.le_refl _) (.cells Z 54)))
        refine step_wp rfl rfl ?_
        exact alloc_step rfl (hzv w1) ⟨_, rfl, .inl rfl, hc, fun j u _ h => h⟩
      | 13, ho =>
        obtain rfl := (Option.some.inj ho).symm
        have e0 : a.tmps[26]?.getD undef = (.agg bx) := (slot_eval a 26).trans (((hL.get_new (j := 9) hi (by kernel_rfl)).resolve_left (by decide)).trans v9)
        have hla : listed.getD 12 false = true := hL.before hi (by kernel_rfl)
        have hls : listed.getD 13 false = false := (getD_of_size (by rw [hsz]; exact hin)).trans (ready_spec hi).2.1
        refine step_wp rfl rfl ?_
        refine VarC.stored hL.cls hla hls (by rw [hsz]; decide) rfl (slot_is e0) hbsz hbzc hbone (by decide) rfl (fun b hb => hIr _ b _ hL.cls.inv hb) ?_
        intro w2 _ hc2
        exact ⟨_, rfl, .inr v13.symm, hc2, fun j u _ h => h⟩
      | 14, ho =>
        obtain rfl := (Option.some.inj ho).symm
        have e0 : a.tmps[27]?.getD undef = (.string (B br)) := (slot_eval a 27).trans (((hL.get_new (j := 10) hi (by kernel_rfl)).resolve_left (by decide)).trans v10)
        have hcl := hL.cls
        refine step_wp rfl rfl ?_
        clear hi ho hL hin
        refine wp_val (v := (.string (B br))) ?_ ⟨_, rfl, .inr v14.symm, VarC.same hcl (by decide) (by decide) (by decide), fun _ _ _ h => h⟩
        clear v0 v1 v2 v3 v4 v5 v6 v7 v8 v9 v10 v11 v13 v14 v15 hcl
        unfold execOp
        go_simp
      | 15, ho =>
        obtain rfl := (Option.some.inj ho).symm
        have e0 : a.tmps[28]?.getD undef = (.bool bo) := (slot_eval a 28).trans (((hL.get_new (j := 11) hi (by kernel_rfl)).resolve_left (by decide)).trans v11)
        have hcl := hL.cls
        refine step_wp rfl rfl ?_
        clear hi ho hL hin
        refine wp_val (v := (.bool bo)) ?_ ⟨_, rfl, .inr v15.symm, VarC.same hcl (by decide) (by decide) (by decide), fun _ _ _ h => h⟩
        clear v0 v1 v2 v3 v4 v5 v6 v7 v8 v9 v10 v11 v13 v14 v15 hcl
        unfold execOp
        go_simp
      | (n + 16), ho => exact absurd hin (by simp)
    · intro a w2 listed hL hall
      obtain ⟨gb, e7, hgb, hblk⟩ := hL.cls.at_ (hall 12 (by decide))
      rw [hall 13 (by decide), if_pos rfl] at hblk
      obtain ⟨hz2, b2⟩ := hIu _ hL.cls.inv
      obtain ⟨vs, rfl, hR⟩ := hL.frame (by kernel_rfl) (sizes_spec (n := 54) (by kernel_rfl)) hall
      have h14 : vs 14 = .string (B br) := ((hR 14 _ _ rfl rfl).resolve_left (by decide)).trans v14
      have h15 : vs 15 = .bool bo := ((hR 15 _ _ rfl rfl).resolve_left (by decide)).trans v15
      have hgw : gb ≠ w.heap.size := by have := hz1.lt; omega
      have b1sz : w.heap.size ≤ gb := by have := hz1.lt; omega
      clear hL hall hR v0 v1 v2 v3 v4 v5 v6 v7 v8 v9 v10 v11 v13 v14 v15 hIb hIr hIu hI0 hB0 hbc hbd hbd1 hex b1 hz1
      simp only [putAll, Act.put, List.setIfInBounds_toArray, List.set_cons_zero, List.set_cons_succ] at e7 ⊢
      simp only [Nat.zero_add, Nat.reduceAdd] at e7 ⊢
      have e7' : vs 12 = .pointer (some ⟨gb, 0, none⟩) := e7
      rw [h14, h15, e7']
      clear e7 e7' h14 h15
      have hsz' : (Tryd.prog.info? 54).map (·.size) = some Z.size := by rw [hzl]; exact szPit
      rcases hbt.out.2.2 with ⟨rfl, hbp⟩ | ⟨rfl, bb, bi, hbp, hbe⟩
      · have hrr : Hid (_ = r) := (hie 2 (by unfold itemP; simp only [hbp])).symm.trans hr.out
        clear hr hie hio hbt hbp hblk
        go_wp2_with (first
          | (refine wpList_store_row rfl 54 (.tmp 4) (.tmp 31) rfl w.heap.size Z rfl rfl _ _ hz2 hsz' rfl hone ?_))
        refine bodyPost_ret (results_row_tmp2 rfl _ _ w.heap.size _ _ _ _ rfl (setRow_heap _ _ _ _ _ _ hz2) Tryd.underlying54 rfl hsz') rfl ⟨by rw [← hrr.out]; rfl, below_setRow b2 (Nat.le_refl _) _⟩
      · have hpit : PitB w2 gb bxx := ⟨by rw [← HBX.out]; exact hblk, hb32⟩
        have htk := take_calls br (by omega) w2
        cases ht : takeP br with
        | none =>
          rw [takeV_none ht] at htk
          have htk := Lib.hid htk
          have hrr : Hid (_ = r) := (hie 2 (by unfold itemP; simp only [hbp, ht])).symm.trans hr.out
          clear hr hie hio hbt hbp hblk ht hpit hbe
          go_wp2_with (first
            | ((with_reducible refine htk.out.mono ?_); rintro e w3 ⟨rfl, nq, rfl⟩
               have hz3 := hz2.drewN nq
               have b3 := bdrewN b2 nq)
            | (refine wpList_store_row rfl 54 (.tmp 4) (.tmp 40) rfl w.heap.size Z rfl rfl _ _ hz3 hsz' rfl hone ?_))
          refine bodyPost_ret (results_row_tmp2 rfl _ _ w.heap.size _ _ _ _ rfl (setRow_heap _ _ _ _ _ _ hz3) Tryd.underlying54 rfl hsz') rfl ⟨by rw [← hrr.out]; rfl, below_setRow b3 (Nat.le_refl _) _⟩
        | some p =>
          obtain ⟨pk, behind⟩ := p
          rw [takeV_some ht] at htk
          have htk := Lib.hid htk
          have hpl := (takeP_len ht).1
          have hda := fun W => Lib.hid (data_calls pk (by omega) W)
          have hdc : datP pk = if (unp pk 4096).2 = 0 ∨ (unp pk 4096).2 = 3 then unp pk 4096 else ([], 2) := rfl
          by_cases h0 : (datP pk).2 = 0
          · have hu0 : (unp pk 4096).2 = 0 ∧ datP pk = unp pk 4096 := by
              by_cases hx : (unp pk 4096).2 = 0 ∨ (unp pk 4096).2 = 3
              · rw [if_pos hx] at hdc
                exact ⟨by rw [← hdc]; exact h0, hdc⟩
              · rw [if_neg hx] at hdc
                rw [hdc] at h0
                cases h0
            have hrr : Hid (Value.tuple #[.agg (pitC { bxx with data := (datP pk).1 }).toArray, .string (B behind), .int .i64 0] = r) := by
              have := (hio (x := { bxx with data := (datP pk).1 }) (q := behind) (ahead := ahead) (by unfold itemP; simp only [hbp, ht]; rw [if_pos hu0.1, hu0.2, hbe])).symm.trans hr.out
              exact this
            have i0 : ((datP pk).2 : Int) = 0 := by omega
            clear hr hie hio hbt hbp hblk ht hbe hdc hu0 h0
            generalize datP pk = dp at *
            have hp3 : ∀ W, PitB W gb bxx → PitB (W.setCell ⟨gb, 34, none⟩ (.string (B dp.1))) gb { bxx with data := dp.1 } := fun W h => h.setData dp.1
            have hc35 : (pitC { bxx with data := dp.1 }).toArray.size = 35 := pitC_size hb32
            have hcone := pitC_all { bxx with data := dp.1 }
            have hcsz : (Tryd.prog.info? 54).map (·.size) = some (pitC { bxx with data := dp.1 }).toArray.size := by rw [hc35]; exact szPit
            have hczz : Z.size = (pitC { bxx with data := dp.1 }).toArray.size := by rw [hc35, hzl]
            have hld : ∀ W, PitB W gb { bxx with data := dp.1 } → (ldvP ⟨gb, 0, none⟩).run Tryd.prog W = .ok (.agg (pitC { bxx with data := dp.1 }).toArray) W := fun W h => h.load
            generalize (pitC { bxx with data := dp.1 }).toArray = cs at *
            go_wp2_with (first
              | ((with_reducible refine htk.out.mono ?_); rintro e w3 ⟨rfl, nq, rfl⟩
                 have hz3 := hz2.drewN nq
                 have b3 := bdrewN b2 nq
                 have hp4 := hpit.drewN nq
                 have hda := hda (w2.drewN nq)
                 clear hz2 b2 hpit)
              | ((with_reducible refine hda.out.mono ?_); rintro e w5 ⟨rfl, hb5⟩
                 have hz5 := hz3.below hb5 hz3.lt
                 have b5 := bthen b3 b3.size hb5
                 have hp5 := hp4.below hb5
                 have f34 := hp5.fr 34
                 have c34 := hp5.data
                 have hp6 := hp3 w5 hp5
                 have hq6 := hld _ hp6
                 have hz6 := hz5.far (p := ⟨gb, 34, none⟩) (by simpa using hgw.symm) (.string (B dp.1))
                 have b6 := b5.setCell (p := ⟨gb, 34, none⟩) (by show w.heap.size ≤ gb; have := b1sz; omega) (.string (B dp.1))
                 clear hda hz3 b3 hp4 hp5 hz5)
              | (refine wpList_store_row rfl 54 (.tmp 4) (.tmp 52) rfl w.heap.size cs rfl rfl _ _ hz6 hcsz hczz hcone ?_))
            refine bodyPost_ret (results_row_tmp2 rfl _ _ w.heap.size _ _ _ _ rfl (setRow_heap _ _ _ _ _ _ hz6) Tryd.underlying54 rfl hcsz) rfl ⟨by rw [← hrr.out]; rfl, below_setRow b6 (Nat.le_refl _) _⟩
          · have hu0 : (unp pk 4096).2 ≠ 0 ∧ (datP pk).2 = (if (unp pk 4096).2 = 3 then 3 else 2) := by
              by_cases hx : (unp pk 4096).2 = 0 ∨ (unp pk 4096).2 = 3
              · rw [if_pos hx] at hdc
                rw [hdc] at h0
                rcases hx with hx | hx
                · exact absurd hx h0
                · exact ⟨h0, by rw [hdc, if_pos hx]; exact hx⟩
              · rw [if_neg hx] at hdc
                exact ⟨fun h => hx (.inl h), by rw [hdc, if_neg (fun h => hx (.inr h))]⟩
            have hrr : Hid (_ = r) := (hie (datP pk).2 (by unfold itemP; simp only [hbp, ht]; rw [if_neg hu0.1, hu0.2])).symm.trans hr.out
            have i0 : ¬ ((datP pk).2 : Int) = 0 := by omega
            clear hr hie hio hbt hbp hblk ht hbe hdc hu0 h0 hpit
            generalize datP pk = dp at *
            go_wp2_with (first
              | ((with_reducible refine htk.out.mono ?_); rintro e w3 ⟨rfl, nq, rfl⟩
                 have hz3 := hz2.drewN nq
                 have b3 := bdrewN b2 nq
                 have hda := hda (w2.drewN nq))
              | ((with_reducible refine hda.out.mono ?_); rintro e w5 ⟨rfl, hb5⟩
                 have hz5 := hz3.below hb5 hz3.lt
                 have b5 := bthen b3 b3.size hb5)
              | (refine wpList_store_row rfl 54 (.tmp 4) (.tmp 48) rfl w.heap.size Z rfl rfl _ _ hz5 hsz' rfl hone ?_))
            refine bodyPost_ret (results_row_tmp2 rfl _ _ w.heap.size _ _ _ _ rfl (setRow_heap _ _ _ _ _ _ hz5) Tryd.underlying54 rfl hsz') rfl ⟨by rw [← hrr.out]; rfl, below_setRow b5 (Nat.le_refl _) _⟩
end Go.Proofs.YtoekdiklbfdpiaaDoor
/- The walk of the reference's Unpack (layer 5). No condition but sizes that every memory has. -/
namespace Go.Proofs.YtoekdiklbfdpiaaDoor
open Go.RowKit

theorem refGet_some {l : List UInt8} {n k : Nat} (h : get l = some (n, k)) (hl : l.length ≤ 4611686018427387904) (w : World) :
    Calls Tryd.prog 22 #[.string (B l)] w fun e w' => e = .returned (.tuple #[.int .u64 n, .int .i64 k]) ∧ w = w' :=
  (refGet_calls l hl w).mono fun e w' ⟨he, hw⟩ => ⟨by rw [he, h]; rfl, hw.symm⟩
theorem refGet_non {l : List UInt8} (h : get l = none) (hl : l.length ≤ 4611686018427387904) (w : World) :
    Calls Tryd.prog 22 #[.string (B l)] w fun e w' => e = .returned (.tuple #[.int .u64 0, .int .i64 0]) ∧ w = w' :=
  (refGet_calls l hl w).mono fun e w' ⟨he, hw⟩ => ⟨by rw [he, h]; rfl, hw.symm⟩

set_option maxRecDepth 100000 in
set_option maxHeartbeats 4000000 in
theorem refUnpack_calls (l : List UInt8) (most : Int) (hl : l.length ≤ 70368744177664) (h0 : -9223372036854775808 ≤ most) (h1 : most ≤ 70368744170000) (w : World) :
    Calls Tryd.prog 37 #[.string (B l), .int .i64 most] w fun e w' => e = .returned (unpVal (unp l most)) ∧ Below w.heap.size w w' := by
  by_cases hneg : most < 0
  · have hR := Lib.hid (unp_neg (l := l) hneg)
    go_enter Tryd.func37, Tryd.ntmps37
    go_wp2
    go_ret2
    exact ⟨by rw [hR.out]; rfl, Below.refl _ _⟩
  · cases l with
    | nil =>
      have hR := Lib.hid (unp_nil (most := most) (by omega))
      go_enter Tryd.func37, Tryd.ntmps37
      go_wp2
      go_ret2
      exact ⟨by rw [hR.out]; rfl, Below.refl _ _⟩
    | cons c r =>
      rw [List.length_cons] at hl
      by_cases hc : 1 < c.toNat
      · have hR := Lib.hid (unp_way (r := r) (most := most) (by omega) hc)
        go_enter Tryd.func37, Tryd.ntmps37
        go_wp2
        go_ret2
        exact ⟨by rw [hR.out]; rfl, Below.refl _ _⟩
      · by_cases hz : c.toNat = 0
        · have hzi : ((c.toNat : Int) == 0) = true := by simp [hz]
          by_cases hb : most < r.length
          · have hR := Lib.hid (unp_stored_big (r := r) (most := most) (by omega) hz hb)
            have hzh := Lib.hid hz
            clear hz
            go_enter Tryd.func37, Tryd.ntmps37
            go_wp2
            all_goals first | (exfalso; omega) | skip
            go_ret2
            exact ⟨by rw [hR.out]; rfl, Below.refl _ _⟩
          · have hR := Lib.hid (unp_stored (r := r) (most := most) (by omega) hz (by omega))
            have hzh := Lib.hid hz
            clear hz
            go_enter Tryd.func37, Tryd.ntmps37
            go_wp2
            all_goals first | (exfalso; omega) | skip
            go_ret2
            exact ⟨by rw [hR.out]; rfl, Below.refl _ _⟩
        · have hzi : ((c.toNat : Int) == 0) = false := by simp; omega
          have hR := Lib.hid (unp_steps (c := c) (r := r) (most := most) (by omega) (by omega))
          obtain ⟨M, rfl⟩ := Int.eq_ofNat_of_zero_le (show 0 ≤ most by omega)
          rw [Int.toNat_natCast] at hR
          generalize hgo : unF r.length r [] M = goal at hR
          have hgoal := Lib.hid hgo
          clear hgo
          obtain ⟨l, hl0, hl1, hne, hlR, hlg⟩ : ∃ l : List UInt8, c :: r = l ∧ (∃ h : 0 < l.length, l[0] = c) ∧ l.isEmpty = false ∧ l.length ≤ 70368744177664 ∧ Hid (unF (l.length - 1) (l.drop 1) [] M = goal) :=
            ⟨c :: r, rfl, ⟨by simp, rfl⟩, rfl, by rw [List.length_cons]; omega, by simpa using hgoal⟩
          rw [hl0] at hR ⊢
          clear hl0 hgoal hl
          obtain ⟨hl1, hg0⟩ := hl1
          have hl1i : (0 : Int) < (l.length : Int) := by omega
          go_enter Tryd.func37, Tryd.ntmps37
          go_wp2
          all_goals first | (exfalso; omega) | skip
          go_loopw [6, 7] (fun v p wr => ∃ (fu at_ : Nat) (out : List UInt8), p = .int .i64 at_ ∧ at_ ≤ l.length ∧ OwnB wr w.heap.size 5 v out ∧ Hid (unF fu (l.drop at_) out M = goal) ∧ l.length ≤ at_ + fu ∧ out.length ≤ M ∧ Below w.heap.size w wr) (fun _ p _ => l.length - (intOf p).toNat)
          case atStart => exact ⟨l.length - 1, 1, [], rfl, by omega, OwnB.nil _ _ _, hlg, by omega, by simp, Below.refl _ _⟩
          case round =>
            obtain ⟨fu, p, out, rfl, hpl, hown, hun, hf1, hout, hbel⟩ := hrel
            obtain ⟨wo, rfl⟩ : ∃ wo : World, wo = wr := ⟨_, rfl⟩
            obtain ⟨A, cap, rfl⟩ := hown.form'
            have hbs := hbel.size
            by_cases hlt : p < l.length
            · obtain ⟨fu, rfl⟩ : ∃ g, fu = g + 1 := ⟨fu - 1, by omega⟩
              have hdl : (l.drop p).length ≤ 4611686018427387904 := by rw [List.length_drop]; omega
              have hdn : Hid (l.drop p ≠ []) := by intro h; have := congrArg List.length h; rw [List.length_drop] at this; simp at this; omega
              rcases hg : get (l.drop p) with _ | ⟨n, k⟩
              · have hG := Lib.hid hg
                have hR2 : Hid (goal = ([], 2)) := by rw [← hun.out]; exact unF_bad hdn.out (rd_none hg)
                clear hg
                go_wp2_with (go_at_call 22; go_must (refine (refGet_non hG.out hdl _).mono ?_); rintro e w1 ⟨rfl, rfl⟩)
                go_ret2
                exact ⟨by rw [hR.out, hR2.out]; rfl, hbel⟩
              · obtain ⟨hn, hk0, hkl⟩ := get_bounds hg
                rw [List.length_drop] at hkl
                have hki : ((k : Int) == 0) = false := by simp; omega
                have hG := Lib.hid hg
                clear hg
                by_cases h2 : n % 2 = 0
                · have h2h := Lib.hid h2
                  have h2i : ((n : Int) % 2 == 1) = false := by simp; omega
                  clear h2
                  by_cases h3 : n = 0 ∨ l.length - p - k < n / 2
                  · have hR2 : Hid (goal = ([], 2)) := by rw [← hun.out]; exact unF_bad hdn.out (rd_plain_bad hG.out h2h.out (by rw [List.length_drop, List.length_drop]; exact h3))
                    have h3h := Lib.hid h3
                    clear h3
                    go_wp2_with (go_at_call 22; go_must (refine (refGet_some hG.out hdl _).mono ?_); rintro e w1 ⟨rfl, rfl⟩)
                    all_goals first | (exfalso; have := h3h.out; omega) | skip
                    all_goals (go_ret2; exact ⟨by rw [hR.out, hR2.out]; rfl, hbel⟩)
                  · have hrd := rd_plain (hv := out.length) hG.out h2h.out (by omega) (by rw [List.length_drop, List.length_drop]; omega)
                    rw [List.drop_drop] at hrd
                    have h3a : 1 ≤ n / 2 := by have := h2h.out; omega
                    have h3b : n / 2 ≤ l.length - p - k := by omega
                    clear h3
                    by_cases hbig : M - out.length < n / 2
                    · have hR2 : Hid (goal = ([], 3)) := by rw [← hun.out]; exact unF_big hdn.out hrd hbig
                      clear hrd
                      go_wp2_with (go_at_call 22; go_must (refine (refGet_some hG.out hdl _).mono ?_); rintro e w1 ⟨rfl, rfl⟩)
                      all_goals first | (exfalso; omega) | skip
                      all_goals (go_ret2; exact ⟨by rw [hR.out, hR2.out]; rfl, hbel⟩)
                    · have hR2 : Hid (unF fu ((l.drop (p + k)).drop (n / 2)) (out ++ (l.drop (p + k)).take (n / 2)) M = goal) := by rw [← hun.out]; exact (unF_plain hdn.out hrd (by omega)).symm
                      clear hrd
                      go_wp2_with (go_at_call 22; go_must (refine (refGet_some hG.out hdl _).mono ?_); rintro e w1 ⟨rfl, rfl⟩)
                      all_goals first | (exfalso; omega) | skip
                      go_loopw [6, 7, 14] (fun v q i wr => ∃ (j : Nat) (o : List UInt8), i = .int .i64 j ∧ q = .int .i64 ((p + k + j : Nat) : Int) ∧ j ≤ n / 2 ∧ OwnB wr w.heap.size 5 v o ∧ Hid (o = out ++ (l.drop (p + k)).take j) ∧ o.length ≤ out.length + j ∧ Below w.heap.size w wr) (fun _ _ i _ => n - (intOf i).toNat)
                      case atStart => exact ⟨0, out, rfl, by go_num, by omega, hown, Lib.hid (by simp), by omega, hbel⟩
                      case round =>
                        obtain ⟨j, o, rfl, rfl, hj, hown', hbk, ho2, hbel'⟩ := hrel
                        obtain ⟨A', cap', rfl⟩ := hown'.form'
                        have hbs' := hbel'.size
                        by_cases hjn : j < n / 2
                        · generalize hgx : l[p + k + j]'(by omega) = x
                          have hgxh := Lib.hid hgx
                          have hx := x.toNat_lt
                          go_wp2_with (at_builtin; go_must (refine wpList_append_byte rfl _ _ _ rfl _ Tryd.bytesTy w.heap.size _ _ rfl (hown'.alloc _) _ _ rfl (cell_new1 _ _ _) (by omega) (by omega) (by omega) w (hbel'.alloc hbs' _) (by simp; omega) ?_); intro v2 w2 hown2 hbel2 hg2; clear hg2)
                          rw [Int.toNat_natCast, UInt8.ofNat_toNat] at hown2
                          go_roundw
                          case rel => exact ⟨j + 1, _, by go_num, by go_num, by omega, hown2, Lib.hid (by rw [hbk.out, take_drop_succ (by omega), hgxh.out, List.append_assoc]), by rw [List.length_append, List.length_singleton]; omega, hbel2⟩
                          case measure => simp [intOf]; omega
                        · obtain rfl : j = n / 2 := by omega
                          go_wp2
                          all_goals first | (exfalso; omega) | skip
                          go_roundw
                          case rel => exact ⟨fu, _, _, rfl, by omega, hown', by rw [← List.drop_drop, hbk.out]; exact hR2, by omega, by omega, hbel'⟩
                          case measure => simp [intOf]; omega
                · have h2h : Hid (n % 2 = 1) := by show n % 2 = 1; omega
                  have h2i : ((n : Int) % 2 == 1) = true := by simp; omega
                  clear h2
                  have hdl2 : (l.drop (p + k)).length ≤ 4611686018427387904 := by rw [List.length_drop]; omega
                  rcases hg2 : get (l.drop (p + k)) with _ | ⟨f, m⟩
                  · have hR2 : Hid (goal = ([], 2)) := by rw [← hun.out]; exact unF_bad hdn.out (rd_far_none hG.out h2h.out (by rw [List.drop_drop]; exact hg2))
                    have hG2 := Lib.hid hg2
                    clear hg2
                    go_wp2_with (go_at_call 22; go_must (first | with_reducible refine (refGet_some hG.out hdl _).mono ?_ | with_reducible refine (refGet_non hG2.out hdl2 _).mono ?_); rintro e w1 ⟨rfl, rfl⟩)
                    all_goals first | (exfalso; omega) | skip
                    go_ret2
                    exact ⟨by rw [hR.out, hR2.out]; rfl, hbel⟩
                  · obtain ⟨hf, hm0, hml⟩ := get_bounds hg2
                    rw [List.length_drop] at hml
                    have hmi : ((m : Int) == 0) = false := by simp; omega
                    have hG2 := Lib.hid hg2
                    clear hg2
                    by_cases hb : n / 2 < 4 ∨ f < 1 ∨ 65535 < f ∨ out.length < f
                    · have hR2 : Hid (goal = ([], 2)) := by rw [← hun.out]; exact unF_bad hdn.out (rd_far_bad hG.out h2h.out (by rw [List.drop_drop]; exact hG2.out) hb)
                      have hbh := Lib.hid hb
                      clear hb
                      go_wp2_with (go_at_call 22; go_must (first | with_reducible refine (refGet_some hG.out hdl _).mono ?_ | with_reducible refine (refGet_some hG2.out hdl2 _).mono ?_); rintro e w1 ⟨rfl, rfl⟩)
                      all_goals first | (exfalso; have := hbh.out; omega) | skip
                      all_goals (go_ret2; exact ⟨by rw [hR.out, hR2.out]; rfl, hbel⟩)
                    · have hrd := rd_far (hv := out.length) hG.out h2h.out (by rw [List.drop_drop]; exact hG2.out) (by omega) (by omega) (by omega) (by omega)
                      rw [List.drop_drop, List.drop_drop] at hrd
                      have hb1 : 4 ≤ n / 2 := by omega
                      have hb2 : 1 ≤ f := by omega
                      have hb3 : f ≤ 65535 := by omega
                      have hb4 : f ≤ out.length := by omega
                      have hfi : ((f : Int) == 0) = false := by simp; omega
                      clear hb
                      by_cases hbig : M - out.length < n / 2
                      · have hR2 : Hid (goal = ([], 3)) := by rw [← hun.out]; exact unF_big hdn.out hrd hbig
                        clear hrd
                        go_wp2_with (go_at_call 22; go_must (first | with_reducible refine (refGet_some hG.out hdl _).mono ?_ | with_reducible refine (refGet_some hG2.out hdl2 _).mono ?_); rintro e w1 ⟨rfl, rfl⟩)
                        all_goals first | (exfalso; omega) | skip
                        all_goals (go_ret2; exact ⟨by rw [hR.out, hR2.out]; rfl, hbel⟩)
                      · have hR2 : Hid (unF fu (l.drop (p + (k + m))) (back (n / 2) f out) M = goal) := by rw [← hun.out]; exact (unF_far hdn.out hrd (by omega) (by omega)).symm
                        clear hrd
                        go_wp2_with (go_at_call 22; go_must (first | with_reducible refine (refGet_some hG.out hdl _).mono ?_ | with_reducible refine (refGet_some hG2.out hdl2 _).mono ?_); rintro e w1 ⟨rfl, rfl⟩)
                        all_goals first | (exfalso; omega) | skip
                        go_loopw [6, 7, 14] (fun v q i wr => ∃ (j : Nat) (o : List UInt8), i = .int .i64 j ∧ q = .int .i64 ((p + (k + m) : Nat) : Int) ∧ j ≤ n / 2 ∧ OwnB wr w.heap.size 5 v o ∧ Hid (back (n / 2 - j) f o = back (n / 2) f out) ∧ out.length ≤ o.length ∧ o.length ≤ out.length + j ∧ Below w.heap.size w wr) (fun _ _ i _ => n - (intOf i).toNat)
                        case atStart => exact ⟨0, out, rfl, by go_num, by omega, hown, by rw [Nat.sub_zero]; exact Lib.hid rfl, by omega, by omega, hbel⟩
                        case round =>
                          obtain ⟨j, o, rfl, rfl, hj, hown', hbk, ho1, ho2, hbel'⟩ := hrel
                          obtain ⟨A', cap', rfl⟩ := hown'.form'
                          have hbs' := hbel'.size
                          by_cases hjn : j < n / 2
                          · obtain ⟨g, rfl, _, hg, hcell⟩ := OwnB.cell hown' (j := o.length - f) (by omega)
                            generalize hgx : o[o.length - f]'(by omega) = x at hcell
                            have hgxh := Lib.hid hgx
                            clear hgx
                            have hx := x.toNat_lt
                            go_wp2_with (at_builtin; go_must (refine wpList_append_byte rfl _ _ _ rfl _ Tryd.bytesTy w.heap.size _ _ rfl (hown'.alloc _) _ _ rfl (cell_new1 _ _ _) (by omega) (by omega) (by omega) w (hbel'.alloc hbs' _) (by simp; omega) ?_); intro v2 w2 hown2 hbel2 hg2; clear hg2)
                            all_goals first | (exfalso; omega) | skip
                            rw [Int.toNat_natCast, UInt8.ofNat_toNat] at hown2
                            go_roundw
                            case rel => exact ⟨j + 1, _, by go_num, rfl, by omega, hown2, by rw [← back_step hjn (by omega) hgxh.out]; exact hbk, by rw [List.length_append]; omega, by rw [List.length_append, List.length_singleton]; omega, hbel2⟩
                            case measure => simp [intOf]; omega
                          · obtain rfl : j = n / 2 := by omega
                            have hR3 : Hid (o = back (n / 2) f out) := by rw [← hbk.out, Nat.sub_self]; rfl
                            go_wp2
                            all_goals first | (exfalso; omega) | skip
                            go_roundw
                            case rel => exact ⟨fu, p + (k + m), _, by go_num, by omega, hown', by rw [hR3.out]; exact hR2, by omega, by omega, hbel'⟩
                            case measure => simp [intOf]; omega
            · have hcv := Tryd.str_of_own wo hown
              have hR2 : Hid (goal = (out, 0)) := by rw [← hun.out, List.drop_of_length_le (by omega)]; exact unF_nil _ _ _
              go_wp2
              all_goals first | (exfalso; omega) | skip
              go_ret2
              exact ⟨by rw [hR.out, hR2.out]; rfl, hbel⟩
end Go.Proofs.YtoekdiklbfdpiaaDoor
/- The walk of layer 15's document: one. No condition. -/
namespace Go.Proofs.YtoekdiklbfdpiaaDoor
open Go.RowKit
attribute [local go_sem ↓] ldvR15_eq
theorem takeN_P (s : Txt) : ((takeN s).2 = 0 ∧ takeP s = none) ∨ (1 ≤ (takeN s).2 ∧ (takeN s).2 ≤ s.length ∧ takeP s = some ((takeN s).1, s.drop (takeN s).2)) := by
  cases h : get s with
  | none => exact .inl ⟨by rw [takeN_zero (by unfold getN; rw [h]; rfl)], takeP_none h⟩
  | some p =>
    obtain ⟨n, k⟩ := p
    have hb := get_bounds h
    have e1 : (getN s).1 = n := by unfold getN; rw [h]; rfl
    have e2 : (getN s).2 = k := by unfold getN; rw [h]; rfl
    have hk : ¬ (getN s).2 = 0 := by omega
    have hd : (s.drop k).length = s.length - k := List.length_drop ..
    by_cases hl : s.length - k < n
    · exact .inl ⟨by rw [takeN_short hk (by rw [e1, e2]; exact hl)], takeP_short h (by rw [hd]; exact hl)⟩
    · refine .inr ?_
      rw [takeN_yes hk (by rw [e1, e2]; omega), e1, e2, takeP_yes h (by rw [hd]; omega), List.drop_drop]
      exact ⟨by show 1 ≤ k + n; omega, by show k + n ≤ _; omega, rfl⟩
def idP15 (s : Txt) (k : Nat) : Txt := s.take k ++ List.replicate (32 - k) 0
theorem idP15_zero (s : Txt) : idP15 s 0 = noId' := by unfold idP15 noId'; simp
theorem idP15_end (s : Txt) : idP15 s 32 = s.take 32 := by unfold idP15; simp
theorem idP15_set {s : Txt} {k : Nat} (h1 : k < 32) (h2 : k < s.length) : (idP15 s k).set k s[k] = idP15 s (k + 1) := by
  unfold idP15
  have hk : (s.take k).length = k := by rw [List.length_take]; omega
  have e : s.take (k + 1) = s.take k ++ [s[k]] := by rw [List.take_add_one, List.getElem?_eq_getElem h2]; rfl
  rw [List.set_append_right _ _ (by omega), hk, Nat.sub_self, e, List.append_assoc, show 32 - k = (32 - (k + 1)) + 1 from by omega, List.replicate_succ]
  rfl
def oneV (s : Txt) (a ahead : Nat) : Value := match itemP (s.drop a) ahead with
  | .inr e => .tuple #[.agg (ritC zRit).toArray, .int .i64 e]
  | .inl (x, behind) => .tuple #[.agg (ritC (x, a, (s.drop a).length - behind.length)).toArray, .int .i64 0]
theorem oneV_err {s : Txt} {a ahead e : Nat} (h : itemP (s.drop a) ahead = .inr e) : oneV s a ahead = .tuple #[.agg (ritC zRit).toArray, .int .i64 e] := by unfold oneV; rw [h]
theorem oneV_ok {s behind : Txt} {a ahead : Nat} {x : PItL} (h : itemP (s.drop a) ahead = .inl (x, behind)) : oneV s a ahead = .tuple #[.agg (ritC (x, a, (s.drop a).length - behind.length)).toArray, .int .i64 0] := by unfold oneV; rw [h]
set_option maxRecDepth 100000 in
set_option maxHeartbeats 8000000 in
theorem one_calls (s : Txt) (hs : s.length ≤ 70368744177664) (a : Nat) (ha : a ≤ 4611686018427387904) (ahead : Nat) (hd : ahead ≤ 4611686018427387904) (w : World) :
    Calls Tryd.prog 23 #[.string (B s), .int .i64 a, .int .i64 ahead] w fun e w' => e = .returned (oneV s a ahead) ∧ Below w.heap.size w w' := by
  obtain ⟨r, hr⟩ : ∃ r, Hid (oneV s a ahead = r) := ⟨_, Lib.hid rfl⟩
  rw [hr.out]
  have hzv := zeroRit
  have hzl : (ritC zRit).toArray.size = 37 := ritC_size noId_len'
  have hrb := fun W => run_build (P := Tryd.prog) W _ _ _ built_zRit
  have hone := ritC_all zRit
  have hsz : (Tryd.prog.info? 45).map (·.size) = some (ritC zRit).toArray.size := by rw [hzl]; exact szRit
  have hie := fun e => @oneV_err s a ahead e
  have hio := fun x behind => @oneV_ok s behind a ahead x
  obtain ⟨Z, hZ⟩ : ∃ Z, (ritC zRit).toArray = Z := ⟨_, rfl⟩
  rw [hZ] at hzv hzl hrb hone hsz
  have hie : ∀ e : Nat, itemP (s.drop a) ahead = .inr e → oneV s a ahead = .tuple #[.agg Z, .int .i64 e] := fun e h => by rw [hie e h, hZ]
  obtain ⟨W1, hW1⟩ : ∃ W1, w.alloc (.cells Z 45) = W1 := ⟨_, rfl⟩
  have hz1 : Blk W1 w.heap.size 45 Z := by rw [← hW1]; exact Blk.new _ _ _
  have b1 : Below w.heap.size w W1 := by rw [← hW1]; exact (Below.refl _ _).alloc (Nat.le_refl _) _
  have hlt := hz1.lt
  clear hZ
  by_cases hal : s.length ≤ a
  · have i1 : (s.length : Int) ≤ (a : Int) := by omega
    have hrr : Hid (_ = r) := (hie 2 (by rw [List.drop_eq_nil_of_le hal]; rfl)).symm.trans hr.out
    clear hr hie hio hlt
    go_enter Tryd.func23, Tryd.ntmps23
    go_wp2_with (first
      | (refine wpList_store_row rfl 45 (.tmp 6) (.tmp 21) rfl w.heap.size Z rfl rfl _ _ hz1 hsz rfl hone ?_))
    all_goals try (exfalso; omega)
    refine bodyPost_ret (results_row_tmp rfl _ _ w.heap.size _ _ _ _ rfl (setRow_heap _ _ _ _ _ _ hz1) Tryd.underlying45 rfl hsz) rfl ⟨by rw [← hrr.out]; rfl, below_setRow b1 (Nat.le_refl _) _⟩
  · have hal2 : a < s.length := by omega
    have i1 : ¬ (s.length : Int) ≤ (a : Int) := by omega
    have i2 : (a : Int) < (s.length : Int) := by omega
    obtain ⟨c, hc⟩ : ∃ c, s[a] = c := ⟨_, rfl⟩
    have hdr : s.drop a = c :: s.drop (a + 1) := by rw [List.drop_eq_getElem_cons hal2, hc]
    have hbd := built_kRit' c.toNat a
    have hb0 : ∀ W g, Blk W g 45 (ritC (⟨c.toNat, 0, noId', []⟩, a, 0)).toArray → RitB W g (⟨c.toNat, 0, noId', []⟩, a, 0) := fun W g h => ⟨h, noId_len'⟩
    have hc37 : (ritC (⟨c.toNat, 0, noId', []⟩, a, 0)).toArray.size = 37 := ritC_size noId_len'
    have hcone := ritC_all (⟨c.toNat, 0, noId', []⟩, a, 0)
    have hc256 := c.toNat_lt
    obtain ⟨CS, hCS⟩ : ∃ CS, (ritC (⟨c.toNat, 0, noId', []⟩, a, 0)).toArray = CS := ⟨_, rfl⟩
    rw [hCS] at hbd hb0 hc37 hcone
    have HD := Lib.hid hdr
    clear hCS hdr
    go_enter Tryd.func23, Tryd.ntmps23
    go_upto_block 0 with (first
      | ((with_reducible refine lit_build2 hbd ?_ ?_ ?_); rfl; rfl)
      | ((with_reducible refine lit_new 45 (.tmp 8) (.tmp 27) CS 37 szRit hc37 hcone _ ?_ ?_ ?_ ?_)
         · first | exact hzl | rfl
         · rfl
         · rfl
         intro W3 hb3 hbl3
         have b3 := bthen b1 b1.size hbl3
         have hz3 := hz1.below hbl3 hz1.lt
         have hp3 := hb0 _ _ hb3
         have c0 := hp3.kind
         simp only at c0))
    all_goals try (exfalso; omega)
    clear hW1 hb3 hbl3 hbd hb0 hcone hc37 hz1
    have hs1 : w.heap.size < W1.heap.size := hlt
    generalize W1.heap.size = g at *
    obtain ⟨q, hq⟩ : ∃ q, s.drop (a + 1) = q := ⟨_, rfl⟩
    have hql : q.length = s.length - (a + 1) := by rw [← hq, List.length_drop]
    have hqd : ∀ j, q.drop j = s.drop (a + 1 + j) := fun j => by rw [← hq, List.drop_drop]
    have HQ := Lib.hid hq
    rw [hq] at HD
    have hk1 : a + 1 ≤ s.length := by omega
    have hie2 : ∀ e : Nat, itemP (c :: q) ahead = .inr e → Hid (Value.tuple #[.agg Z, .int .i64 e] = r) := fun e h => Lib.hid ((hie e (by rw [HD.out]; exact h)).symm.trans hr.out)
    have hio2 : ∀ (x : PItL) (behind : Txt), itemP (c :: q) ahead = .inl (x, behind) → Hid (Value.tuple #[.agg (ritC (x, a, (s.length - a) - behind.length)).toArray, .int .i64 0] = r) := fun x behind h => by
      have := (hio x behind (by rw [HD.out]; exact h)).symm.trans hr.out
      rw [List.length_drop] at this
      exact Lib.hid this
    have hbe : baseP c.toNat q ahead = none → Hid (Value.tuple #[.agg Z, .int .i64 (2 : Nat)] = r) := fun h => hie2 2 (by unfold itemP; simp only [h])
    clear hie hio hq hc hr
    clear hie
    go_cut [9, 10, 11, 12] from 34 to 84 (fun s9 s10 s11 s12 wx => ∃ (kk b : Nat) (i : Txt), s9 = .int .i64 kk ∧ a < kk ∧ kk ≤ s.length ∧ Hid (baseP c.toNat q ahead = some (b, i, s.drop kk)) ∧ RitB wx g (⟨c.toNat, b, i, []⟩, a, 0) ∧ Blk wx w.heap.size 45 Z ∧ Below w.heap.size w wx)
    case first =>
      clear hie2 hio2
      by_cases k0 : c.toNat = 0
      · have e0 : ((c.toNat : Int) == 0) = true := by simp; omega
        have hrel : Hid (baseP c.toNat q ahead = some (0, noId', s.drop (a + 1))) := by
          show _ = _
          unfold baseP
          rw [if_pos k0, HQ.out]
        clear k0
        go_wp2_with (fail)
        go_meet
        case rel => exact ⟨a + 1, 0, noId', by go_num, by omega, hk1, hrel, hp3, hz3, b3⟩
      · have e0 : ((c.toNat : Int) == 0) = false := by simp; omega
        by_cases k1 : c.toNat = 1
        · have e1 : ((c.toNat : Int) == 1) = true := by simp; omega
          have hb1 : baseP c.toNat q ahead = (match get q with | none => none | some (n, m) => if n < 1 ∨ ahead < n then none else some (n, noId', q.drop m)) := by unfold baseP; rw [if_neg k0, if_pos k1]; rfl
          have hget := refGet_calls q (by omega) W3
          have x1 : (B s).extract (a + 1) s.length = B q := by rw [← HQ.out]; exact extract_B_from s (a + 1)
          have j1 : (a : Int) + 1 ≤ (s.length : Int) := by omega
          have hn1 : ∀ n : Nat, RitB (W3.setCell ⟨g, 1, none⟩ (.int .i64 n)) g (⟨c.toNat, n, noId', []⟩, a, 0) := fun n => hp3.setBack n
          have f1 := hp3.fr 1
          have c1 := hp3.back
          have hqd := hqd
          cases hg : get q with
          | none =>
            rw [hg] at hget hb1
            have hget : Calls Tryd.prog 22 #[.string (B q)] W3 fun e w' => e = .returned (.tuple #[.int .u64 0, .int .i64 0]) ∧ w' = W3 := hget
            have hget := Lib.hid hget
            have hrr := hbe hb1
            clear hb1 hg hbe k0 k1 hn1 hqd
            go_wp2_with (first
              | ((with_reducible refine hget.out.mono ?_); rintro e w4 ⟨rfl, rfl⟩)
              | (refine wpList_store_row rfl 45 (.tmp 6) (.tmp 56) rfl w.heap.size Z rfl rfl _ _ hz3 hsz rfl hone ?_))
            all_goals try (exfalso; omega)
            refine bodyPost_ret (results_row_tmp rfl _ _ w.heap.size _ _ _ _ rfl (setRow_heap _ _ _ _ _ _ hz3) Tryd.underlying45 rfl hsz) rfl ⟨by rw [← hrr.out]; rfl, below_setRow b3 (Nat.le_refl _) _⟩
          | some pr =>
            obtain ⟨n, m⟩ := pr
            have hgb := get_bounds hg
            rw [hg] at hget hb1
            have hget : Calls Tryd.prog 22 #[.string (B q)] W3 fun e w' => e = .returned (.tuple #[.int .u64 n, .int .i64 m]) ∧ w' = W3 := hget
            have hget := Lib.hid hget
            have i0 : ¬ (m : Int) = 0 := by omega
            have w1 : IntKind.u64.wrap (ahead : Int) = ahead := IntWalk.u64_in _ (by omega)
            by_cases hn : n < 1 ∨ ahead < n
            · have hb1 : baseP c.toNat q ahead = none := by rw [hb1]; simp only; rw [if_pos hn]
              have hrr := hbe hb1
              by_cases hn1' : n < 1
              · have i3 : (n : Int) < 1 := by omega
                clear hb1 hg hbe k0 k1 hn1 hqd hn
                go_wp2_with (first
                  | ((with_reducible refine hget.out.mono ?_); rintro e w4 ⟨rfl, rfl⟩)
                  | (refine wpList_store_row rfl 45 (.tmp 6) (.tmp 56) rfl w.heap.size Z rfl rfl _ _ hz3 hsz rfl hone ?_))
                all_goals try (exfalso; omega)
                refine bodyPost_ret (results_row_tmp rfl _ _ w.heap.size _ _ _ _ rfl (setRow_heap _ _ _ _ _ _ hz3) Tryd.underlying45 rfl hsz) rfl ⟨by rw [← hrr.out]; rfl, below_setRow b3 (Nat.le_refl _) _⟩
              · have i3 : ¬ (n : Int) < 1 := by omega
                have i4 : (ahead : Int) < (n : Int) := by omega
                clear hb1 hg hbe k0 k1 hn1 hqd hn
                go_wp2_with (first
                  | ((with_reducible refine hget.out.mono ?_); rintro e w4 ⟨rfl, rfl⟩)
                  | (refine wpList_store_row rfl 45 (.tmp 6) (.tmp 56) rfl w.heap.size Z rfl rfl _ _ hz3 hsz rfl hone ?_))
                all_goals try (exfalso; omega)
                refine bodyPost_ret (results_row_tmp rfl _ _ w.heap.size _ _ _ _ rfl (setRow_heap _ _ _ _ _ _ hz3) Tryd.underlying45 rfl hsz) rfl ⟨by rw [← hrr.out]; rfl, below_setRow b3 (Nat.le_refl _) _⟩
            · have hb1 : baseP c.toNat q ahead = some (n, noId', q.drop m) := by rw [hb1]; simp only; rw [if_neg hn]
              have i3 : ¬ (n : Int) < 1 := by omega
              have i4 : ¬ (ahead : Int) < (n : Int) := by omega
              have i5 : (n : Int) ≤ 4611686018427387904 := by omega
              have hrel : Hid (baseP c.toNat q ahead = some (n, noId', s.drop (a + 1 + m))) := by
                show _ = _
                rw [hb1, hqd]
              have hml : a + 1 + m ≤ s.length := by omega
              have hp4 := hn1 n
              have hz4 : Blk (W3.setCell ⟨g, 1, none⟩ (.int .i64 n)) w.heap.size 45 Z := hz3.far (by simp; omega) _
              have b4 : Below w.heap.size w (W3.setCell ⟨g, 1, none⟩ (.int .i64 n)) := b3.setCell (Nat.le_of_lt hs1) _
              clear hb1 hg hbe k0 k1 hn1 hqd hn
              go_wp2_with (first
                | ((with_reducible refine hget.out.mono ?_); rintro e w4 ⟨rfl, rfl⟩))
              all_goals try (exfalso; omega)
              go_meet
              case rel => exact ⟨a + 1 + m, n, noId', by go_num, by omega, hml, hrel, hp4, hz4, b4⟩
        · have e1 : ((c.toNat : Int) == 1) = false := by simp; omega
          by_cases k2 : c.toNat = 2
          · have e2 : ((c.toNat : Int) == 2) = true := by simp; omega
            have hb1 : baseP c.toNat q ahead = (if q.length < 32 then none else some (0, q.take 32, q.drop 32)) := by unfold baseP; rw [if_neg k0, if_neg k1, if_pos k2]
            by_cases hl : q.length < 32
            · rw [if_pos hl] at hb1
              have hrr := hbe hb1
              have i3 : (s.length : Int) - ((a : Int) + 1) < 32 := by omega
              clear hb1 hbe k0 k1 k2 hqd hql
              go_wp2_with (first
                | (refine wpList_store_row rfl 45 (.tmp 6) (.tmp 70) rfl w.heap.size Z rfl rfl _ _ hz3 hsz rfl hone ?_))
              all_goals try (exfalso; omega)
              refine bodyPost_ret (results_row_tmp rfl _ _ w.heap.size _ _ _ _ rfl (setRow_heap _ _ _ _ _ _ hz3) Tryd.underlying45 rfl hsz) rfl ⟨by rw [← hrr.out]; rfl, below_setRow b3 (Nat.le_refl _) _⟩
            · rw [if_neg hl] at hb1
              have i3 : ¬ (s.length : Int) - ((a : Int) + 1) < 32 := by omega
              have hrl : Hid (baseP c.toNat q ahead = some (0, q.take 32, s.drop (a + 33))) := by
                show _ = _
                rw [hb1, hqd, show a + 1 + 32 = a + 33 from by omega]
              have hq32 : 32 ≤ q.length := by omega
              have hl33 : a + 33 ≤ s.length := by omega
              have hp0 : RitB W3 g (⟨c.toNat, 0, idP15 q 0, []⟩, a, 0) := by rw [idP15_zero]; exact hp3
              have hend := Lib.hid (idP15_end q)
              clear hb1 hbe k0 k1 k2 hqd hl c0
              go_wp2_with (fail)
              all_goals try (exfalso; omega)
              go_loopw [12] (fun vi wr => ∃ k : Nat, vi = .int .i64 k ∧ k ≤ 32 ∧ RitB wr g (⟨c.toNat, 0, idP15 q k, []⟩, a, 0) ∧ Blk wr w.heap.size 45 Z ∧ Below w.heap.size w wr) (fun vi _ => 32 - (intOf vi).toNat)
              case atStart => exact ⟨0, rfl, by omega, hp0, hz3, b3⟩
              case round =>
                obtain ⟨k, rfl, hk32, hpk, hzk, hbk⟩ := hrel
                clear hp3 hz3 b3 hp0
                by_cases hgo : k < 32
                · have m1 : (k : Int) < 32 := by omega
                  have hkq : k < q.length := by omega
                  have m2 : (a : Int) + 1 + (k : Int) < (s.length : Int) := by omega
                  obtain ⟨j, hj⟩ : ∃ j, a + 1 + k = j := ⟨_, rfl⟩
                  have m4 : j < s.length := by omega
                  have m5 : (j : Int) < (s.length : Int) := by omega
                  have m3 : IntKind.i64.wrap ((a : Int) + 1 + (k : Int)) = (j : Int) := by rw [IntWalk.i64_in _ (by omega)]; omega
                  obtain ⟨d, hdd⟩ : ∃ d, s[j] = d := ⟨_, rfl⟩
                  have hqk : q[k] = d := by
                    rw [← hdd]
                    simp only [← HQ.out, List.getElem_drop, hj]
                  have c2 := hpk.byte k hgo
                  have f2 := hpk.fr (2 + k)
                  have hp' := hpk.setByte k hgo d
                  have he : Hid ((idP15 q k).set k d = idP15 q (k + 1)) := by show _ = _; rw [← idP15_set hgo hkq, hqk]
                  simp only at c2 hp'
                  rw [he.out] at hp'
                  have hz' := hzk.far (p := ⟨g, 2 + k, none⟩) (by simp; omega) (.int .u8 (d.toNat : Nat))
                  have hb' := hbk.setCell (p := ⟨g, 2 + k, none⟩) (Nat.le_of_lt hs1) (.int .u8 (d.toNat : Nat))
                  clear hqk hpk hzk hbk he hgo hj m2
                  go_wp2_with (fail)
                  all_goals try (exfalso; omega)
                  go_roundw
                  case rel => exact ⟨k + 1, by go_num, by omega, hp', hz', hb'⟩
                  case measure => simp [intOf]; omega
                · obtain rfl : k = 32 := by omega
                  rw [hend.out] at hpk
                  go_wp2_with (fail)
                  all_goals try (exfalso; omega)
                  go_meet
                  case rel => exact ⟨a + 33, 0, q.take 32, by go_num, by omega, hl33, hrl, hpk, hzk, hbk⟩
          · have e2 : ((c.toNat : Int) == 2) = false := by simp; omega
            have hb1 : baseP c.toNat q ahead = none := by unfold baseP; rw [if_neg k0, if_neg k1, if_neg k2]
            have hrr := hbe hb1
            clear hb1 hbe k0 k1 k2 hqd hql
            go_wp2_with (first
              | (refine wpList_store_row rfl 45 (.tmp 6) (.tmp 32) rfl w.heap.size Z rfl rfl _ _ hz3 hsz rfl hone ?_))
            refine bodyPost_ret (results_row_tmp rfl _ _ w.heap.size _ _ _ _ rfl (setRow_heap _ _ _ _ _ _ hz3) Tryd.underlying45 rfl hsz) rfl ⟨by rw [← hrr.out]; rfl, below_setRow b3 (Nat.le_refl _) _⟩
    case rest =>
      obtain ⟨kk, b, i, rfl, hk2, hk3, hbs, hp4, hz4, b4⟩ := hcut
      clear hbe hqd hp3 hz3 b3 c0 i1 i2 b1 hlt
      obtain ⟨y, hy⟩ : ∃ y, s.drop kk = y := ⟨_, rfl⟩
      rw [hy] at hbs
      have x1 : (B s).extract kk s.length = B y := by rw [← hy]; exact extract_B_from s kk
      have hyl : y.length = s.length - kk := by rw [← hy, List.length_drop]
      have j1 : (kk : Int) ≤ (s.length : Int) := by omega
      have htk := Lib.hid (refTake_calls y (by omega) wc)
      have hwlt : w.heap.size < wc.heap.size := hz4.lt
      rcases takeN_P y with ⟨hz, ht⟩ | ⟨hm1, hm2, ht⟩
      · have hrr := hie2 2 (by unfold itemP; simp only [hbs.out, ht])
        obtain ⟨T, hT⟩ : ∃ T, takeN y = T := ⟨_, rfl⟩
        have htk : Hid (Calls Tryd.prog 36 #[.string (B y)] wc fun e w' => e = .returned (.tuple #[.string (B T.1), .int .i64 T.2]) ∧ w' = wc) := by rw [← hT]; exact htk
        rw [hT] at hz
        have i3 : (T.2 : Int) = 0 := by omega
        clear hie2 hio2 hbs ht hT hy hyl hz
        go_wp2_with (first
          | ((with_reducible refine htk.out.mono ?_); rintro e w4 ⟨rfl, rfl⟩)
          | (refine wpList_store_row rfl 45 (.tmp 6) (.tmp 94) rfl w.heap.size Z rfl rfl _ _ hz4 hsz rfl hone ?_))
        all_goals try (exfalso; omega)
        refine bodyPost_ret (results_row_tmp rfl _ _ w.heap.size _ _ _ _ rfl (setRow_heap _ _ _ _ _ _ hz4) Tryd.underlying45 rfl hsz) rfl ⟨by rw [← hrr.out]; rfl, below_setRow b4 (Nat.le_refl _) _⟩
      · obtain ⟨TT, hT⟩ : ∃ T, takeN y = T := ⟨_, rfl⟩
        have htk : Hid (Calls Tryd.prog 36 #[.string (B y)] wc fun e w' => e = .returned (.tuple #[.string (B (takeN y).1), .int .i64 (takeN y).2]) ∧ w' = wc) := htk
        rw [hT] at hm1 hm2 ht htk
        obtain ⟨t, m⟩ := TT
        simp only at hm1 hm2 ht htk
        have htl := (takeP_len ht).1
        have i3 : ¬ (m : Int) = 0 := by omega
        have hun : Hid (Calls Tryd.prog 37 #[.string (B t), .int .i64 4096] wc fun e w' => e = .returned (.tuple #[.string (B (unp t 4096).1), .int .i64 (unp t 4096).2]) ∧ Below wc.heap.size wc w') := Lib.hid (refUnpack_calls t 4096 (by omega) (by omega) (by omega) wc)
        by_cases hu0 : (unp t 4096).2 = 0
        · have hrr := hio2 ⟨c.toNat, b, i, (unp t 4096).1⟩ (y.drop m) (by unfold itemP; simp only [hbs.out, ht]; rw [if_pos hu0])
          rw [show (s.length - a) - (y.drop m).length = kk + m - a from by rw [List.length_drop]; omega] at hrr
          generalize unp t 4096 = u at *
          obtain ⟨L, hL⟩ : ∃ L, kk + m - a = L := ⟨_, rfl⟩
          have hLi : (kk : Int) + (m : Int) - (a : Int) = (L : Int) := by omega
          rw [hL] at hrr
          have hl1 : (kk : Int) + (m : Int) ≤ (s.length : Int) := by omega
          have i4 : ¬ (u.2 : Int) = 3 := by omega
          have i5 : (u.2 : Int) = 0 := by omega
          have hld : ∀ W, RitB W g (⟨c.toNat, b, i, u.1⟩, a, L) → (ldvR15 ⟨g, 0, none⟩).run Tryd.prog W = .ok (.agg (ritC (⟨c.toNat, b, i, u.1⟩, a, L)).toArray) W := fun W h => h.load
          have hib : i.length = 32 := hp4.base
          have hcf1 := ritC_all (⟨c.toNat, b, i, u.1⟩, a, L)
          have hcf2 : (ritC (⟨c.toNat, b, i, u.1⟩, a, L)).toArray.size = 37 := ritC_size hib
          have hsd : ∀ W, RitB W g (⟨c.toNat, b, i, []⟩, a, 0) → RitB (W.setCell ⟨g, 34, none⟩ (.string (B u.1))) g (⟨c.toNat, b, i, u.1⟩, a, 0) := fun W h => h.setData u.1
          have hsl : ∀ W, RitB W g (⟨c.toNat, b, i, u.1⟩, a, 0) → RitB (W.setCell ⟨g, 36, none⟩ (.int .i64 L)) g (⟨c.toNat, b, i, u.1⟩, a, L) := fun W h => h.setLen L
          obtain ⟨CF, hCF⟩ : ∃ CF, (ritC (⟨c.toNat, b, i, u.1⟩, a, L)).toArray = CF := ⟨_, rfl⟩
          have hszF : (Tryd.prog.info? 45).map (·.size) = some CF.size := by rw [← hCF, hcf2]; exact szRit
          have hzF : Z.size = CF.size := by rw [hzl, ← hCF, hcf2]
          rw [hCF] at hld hcf1 hrr
          clear hie2 hio2 hbs ht hT hy hyl hm1 hm2 hCF hcf2 hu0 hL htl hib
          go_wp2_with (first
            | ((with_reducible refine htk.out.mono ?_); rintro e w4 ⟨rfl, rfl⟩)
            | ((with_reducible refine hun.out.mono ?_); rintro e w5 ⟨rfl, b5⟩
               have b6 := bthen b4 b4.size b5
               have hz6 := hz4.below b5 hz4.lt
               have hp6 := hp4.below b5
               have c34 := hp6.data
               have f34 := hp6.fr 34
               have hp7 := hsd _ hp6
               have hz7 := hz6.far (p := ⟨g, 34, none⟩) (by simp; omega) (.string (B u.1))
               have b7 := b6.setCell (p := ⟨g, 34, none⟩) (Nat.le_of_lt hs1) (.string (B u.1))
               have c36 := hp7.len
               have f36 := hp7.fr 36
               have hp8 := hsl _ hp7
               have hz8 := hz7.far (p := ⟨g, 36, none⟩) (by simp; omega) (.int .i64 L)
               have b8 := b7.setCell (p := ⟨g, 36, none⟩) (Nat.le_of_lt hs1) (.int .i64 L)
               have ld8 := hld _ hp8
               simp only at c34 c36
               clear hp6 hp7 hp8 hz6 hz7 b6 b7)
            | (refine wpList_store_row rfl 45 (.tmp 6) (.tmp 114) rfl w.heap.size CF rfl rfl _ _ hz8 hszF hzF hcf1 ?_))
          all_goals try (exfalso; omega)
          refine bodyPost_ret (results_row_tmp rfl _ _ w.heap.size _ _ _ _ rfl (setRow_heap _ _ _ _ _ _ hz8) Tryd.underlying45 rfl hszF) rfl ⟨by rw [← hrr.out]; rfl, below_setRow b8 (Nat.le_refl _) _⟩
        · have hie3 := hie2 (if (unp t 4096).2 = 3 then 3 else 2) (by unfold itemP; simp only [hbs.out, ht]; rw [if_neg hu0])
          generalize unp t 4096 = u at *
          by_cases hu3 : u.2 = 3
          · rw [if_pos hu3] at hie3
            have hrr := hie3
            have i4 : (u.2 : Int) = 3 := by omega
            clear hie2 hio2 hbs ht hT hy hyl hm1 hm2 hu0 hu3 htl hie3
            go_wp2_with (first
              | ((with_reducible refine htk.out.mono ?_); rintro e w4 ⟨rfl, rfl⟩)
              | ((with_reducible refine hun.out.mono ?_); rintro e w5 ⟨rfl, b5⟩
                 have b6 := bthen b4 b4.size b5
                 have hz6 := hz4.below b5 hz4.lt)
              | (refine wpList_store_row rfl 45 (.tmp 6) (.tmp 102) rfl w.heap.size Z rfl rfl _ _ hz6 hsz rfl hone ?_))
            all_goals try (exfalso; omega)
            refine bodyPost_ret (results_row_tmp rfl _ _ w.heap.size _ _ _ _ rfl (setRow_heap _ _ _ _ _ _ hz6) Tryd.underlying45 rfl hsz) rfl ⟨by rw [← hrr.out]; rfl, below_setRow b6 (Nat.le_refl _) _⟩
          · rw [if_neg hu3] at hie3
            have hrr := hie3
            have i4 : ¬ (u.2 : Int) = 3 := by omega
            have i5 : ¬ (u.2 : Int) = 0 := by omega
            clear hie2 hio2 hbs ht hT hy hyl hm1 hm2 hu0 hu3 htl hie3
            go_wp2_with (first
              | ((with_reducible refine htk.out.mono ?_); rintro e w4 ⟨rfl, rfl⟩)
              | ((with_reducible refine hun.out.mono ?_); rintro e w5 ⟨rfl, b5⟩
                 have b6 := bthen b4 b4.size b5
                 have hz6 := hz4.below b5 hz4.lt)
              | (refine wpList_store_row rfl 45 (.tmp 6) (.tmp 105) rfl w.heap.size Z rfl rfl _ _ hz6 hsz rfl hone ?_))
            all_goals try (exfalso; omega)
            refine bodyPost_ret (results_row_tmp rfl _ _ w.heap.size _ _ _ _ rfl (setRow_heap _ _ _ _ _ _ hz6) Tryd.underlying45 rfl hsz) rfl ⟨by rw [← hrr.out]; rfl, below_setRow b6 (Nat.le_refl _) _⟩
end Go.Proofs.YtoekdiklbfdpiaaDoor
