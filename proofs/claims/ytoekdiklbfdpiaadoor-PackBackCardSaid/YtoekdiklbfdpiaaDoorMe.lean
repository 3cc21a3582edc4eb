/- Lemmas and walks of this seat, laid together: ShaU, ShaV, PkT, PkD, PkU, PkV, LzBP. -/
import Derived.Test.YtoekdiklbfdpiaaDoorMd
/- The walk of layer 2's reference: block. No condition. -/
namespace Go.Proofs.YtoekdiklbfdpiaaDoor
open Go.RowKit
attribute [local go_sem ↓] Go.wp_at_zero Go.wp_at_succ

theorem turn_at (x n : Nat) (m : Int) (hm : m = (n : Int)) (hx : x < 4294967296) (h0 : 1 ≤ n) (h1 : n ≤ 31) (w : World) :
    Calls Tryd.prog 38 #[.int .u32 x, .int .u64 m] w fun e w' => e = .returned (.int .u32 (rotr x n)) ∧ w = w' := hm ▸ turn_calls x n hx h0 h1 w
def zeros (n : Nat) : List Nat := List.replicate n 0
theorem zeros_length (n : Nat) : (zeros n).length = n := List.length_replicate
theorem first_step (b : List UInt8) (k : Nat) (hk : k < 16) : (first b k ++ List.replicate (64 - k) 0).set k (be4 b k) = first b (k + 1) ++ List.replicate (64 - (k + 1)) 0 := by
  have hl := first_length b k
  have := set_behind (first b k) (64 - k) (be4 b k) (by omega)
  rw [hl] at this
  rw [this, show 64 - k - 1 = 64 - (k + 1) from by omega]
  congr 1
  simp [first, List.range_succ]
theorem at_byte (b : List UInt8) (i : Nat) (h : i < b.length) : ((b[i]).toNat : Nat) = byteAt b i := by
  simp [byteAt, List.getD, List.getElem?_eq_getElem h]
theorem blk_new4 (w : World) (o1 o2 o3 : Obj) (t : TypeId) (cs : Array Value) : Blk ((((w.alloc o1).alloc o2).alloc o3).alloc (.cells cs t)) (w.heap.size + 3) t cs := by
  have := Blk.new (((w.alloc o1).alloc o2).alloc o3) t cs
  rwa [show (((w.alloc o1).alloc o2).alloc o3).heap.size = w.heap.size + 3 from by simp] at this
theorem quiet_left {P : Program} {f : FuncId} {args : Array Value} {w : World} {n : Nat} {v : Value}
    (h : Calls P f args (w.drewN n) fun e w' => e = .returned v ∧ w.drewN n = w') : Calls P f args (w.drewN n) fun e w'' => e = .returned v ∧ ∃ m, w'' = w.drewN m :=
  h.mono fun _ _ ⟨he, hm⟩ => ⟨he, n, hm.symm⟩
set_option maxRecDepth 100000 in
set_option maxHeartbeats 4000000 in
theorem refBlock_calls (s0 : H8) (hs0 : s0.Fit) (b : List UInt8) (hb : b.length = 64) (w : World) :
    Calls Tryd.prog 25 #[.agg (u32s s0.list), .string (B b), .agg (u32s K256)] w fun e w' => e = .returned (.agg (u32s (blockOf s0 b).list)) ∧ Below w.heap.size w w' := by
  obtain ⟨KK, hKK⟩ : ∃ KK, Hid (K256 = KK) := ⟨_, rfl⟩
  rw [hKK.out]
  have hKl : KK.length = 64 := by rw [← hKK.out]; exact K256_length
  go_enter Tryd.func25, Tryd.ntmps25
  have hv0 := blk_new4 w (.cells (u32s s0.list) 65) (.cells (u32s KK) 66) (.cells (u32s (List.replicate 8 0)) 65) 66 (u32s (zeros 64))
  have hi' : (Tryd.prog.info? 66).map (·.size) = some (u32s (zeros 64)).size := by rw [u32s_size, zeros_length]; exact sz64
  have hall' := u32s_one (zeros 64)
  go_wp2_with (first
    | (refine wpList_store_row rfl 66 (.tmp 7) (.tmp 17) rfl (w.heap.size + 3) (u32s (zeros 64)) rfl rfl _ _ hv0 hi' rfl hall' ?_))
  have h1 := setRow_heap _ _ _ (u32s (zeros 64)) _ _ hv0
  obtain ⟨wz, hwz⟩ : ∃ wz, wz = World.setRow ((((w.alloc (.cells (u32s s0.list) 65)).alloc (.cells (u32s KK) 66)).alloc (.cells (u32s (List.replicate 8 0)) 65)).alloc (.cells (u32s (zeros 64)) 66)) (w.heap.size + 3) (u32s (zeros 64)) := ⟨_, rfl⟩
  have b1 : Blk wz (w.heap.size + 1 + 1 + 1) 66 (u32s (first b 0 ++ zeros (64 - 0))) := by rw [hwz]; exact h1
  have b2 : Blk wz w.heap.size 65 (u32s s0.list) := by
    rw [hwz]; unfold Blk; rw [setRow_other _ _ _ _ (by omega)]; exact (((Blk.new w _ _).alloc _).alloc _).alloc _
  have b3 : Blk wz (w.heap.size + 1) 66 (u32s KK) := by
    rw [hwz]; unfold Blk; rw [setRow_other _ _ _ _ (by omega)]; exact ((blk_new2 w _ _ _).alloc _).alloc _
  have b4 : Blk wz (w.heap.size + 1 + 1) 65 (u32s (List.replicate 8 0)) := by
    rw [hwz]; unfold Blk; rw [setRow_other _ _ _ _ (by omega)]; exact (blk_new3 w _ _ _ _).alloc _
  have b5 : Below w.heap.size w wz := by
    rw [hwz]
    exact below_setRow (((((Below.refl _ _).alloc (Nat.le_refl _) _).alloc (by simp) _).alloc (by simp; omega) _).alloc (by simp; omega) _) (by omega) _
  clear h1 hv0
  obtain ⟨g, hg⟩ : ∃ g, g = w.heap.size := ⟨_, rfl⟩
  go_loopw [8] (fun i wr => ∃ k : Nat, i = .int .i64 k ∧ k ≤ 16 ∧ Blk wr (w.heap.size + 1 + 1 + 1) 66 (u32s (first b k ++ zeros (64 - k))) ∧ Blk wr w.heap.size 65 (u32s s0.list) ∧ Blk wr (w.heap.size + 1) 66 (u32s KK) ∧ Blk wr (w.heap.size + 1 + 1) 65 (u32s (List.replicate 8 0)) ∧ Below w.heap.size w wr) (fun i _ => 16 - (intOf i).toNat)
  case atStart => exact ⟨0, rfl, by omega, hwz ▸ b1, hwz ▸ b2, hwz ▸ b3, hwz ▸ b4, hwz ▸ b5⟩
  case round =>
    clear b1 b2 b3 b4 b5 hwz
    obtain ⟨k, rfl, hk, h1, h2, h3, h4, hbel⟩ := hrel
    have hbs := h1.lt
    by_cases hlt : k < 16
    · have hki : (k : Int) < 16 := by omega
      have hcz : wr.cell? ⟨w.heap.size + 1 + 1 + 1, k, none⟩ = some (.int .u32 ((first b k ++ zeros (64 - k)).getD k 0 : Nat)) := by
        rw [h1.cell, u32s_get _ _ (by rw [List.length_append, first_length, zeros_length]; omega)]
      have hf := h1.frozen k
      have hset := Lib.hid (first_step b k hlt)
      have y0 := at_byte b (4 * k) (by omega)
      have y1 := at_byte b (4 * k + 1) (by omega)
      have y2 := at_byte b (4 * k + 2) (by omega)
      have y3 := at_byte b (4 * k + 3) (by omega)
      have l0 := byteAt_lt b (4 * k)
      have l1 := byteAt_lt b (4 * k + 1)
      have l2 := byteAt_lt b (4 * k + 2)
      have l3 := byteAt_lt b (4 * k + 3)
      have hbe : Hid (be4 b k = byteAt b (4 * k) * 16777216 + byteAt b (4 * k + 1) * 65536 + byteAt b (4 * k + 2) * 256 + byteAt b (4 * k + 3)) := rfl
      generalize (first b k ++ zeros (64 - k)).getD k 0 = oz at *
      generalize byteAt b (4 * k) = c0 at *
      generalize byteAt b (4 * k + 1) = c1 at *
      generalize byteAt b (4 * k + 2) = c2 at *
      generalize byteAt b (4 * k + 3) = c3 at *
      have i0 : (4 * (k : Int)) < 64 := by omega
      have j0 : 0 ≤ (4 * (k : Int)) := by omega
      have i1 : (4 * (k : Int) + 1) < 64 := by omega
      have j1 : 0 ≤ (4 * (k : Int) + 1) := by omega
      have i2 : (4 * (k : Int) + 2) < 64 := by omega
      have j2 : 0 ≤ (4 * (k : Int) + 2) := by omega
      have i3 : (4 * (k : Int) + 3) < 64 := by omega
      have j3 : 0 ≤ (4 * (k : Int) + 3) := by omega
      have hk64 : (k : Int) < 64 := by omega
      go_wp2
      go_region
      go_wp2
      have hv : (c0 : Int) * 16777216 + (c1 : Int) * 65536 + (c2 : Int) * 256 + (c3 : Int) = ((be4 b k : Nat) : Int) := by rw [hbe.out]; simp
      rw [hv]
      have hn := (h1.set_ k (.int .u32 (be4 b k : Nat))).drew
      rw [u32s_set, show (first b k ++ zeros (64 - k)).set k (be4 b k) = first b (k + 1) ++ zeros (64 - (k + 1)) from hset.out] at hn
      go_roundw
      case rel => exact ⟨k + 1, by go_num, by omega, hn, (h2.far (by simp; omega) _).drew, (h3.far (by simp) _).drew, (h4.far (by simp) _).drew, (hbel.setCell (by simp; omega) _).drew⟩
      case measure => simp [intOf]; omega
    · have hk16 : k = 16 := by omega
      have hki : ¬ (k : Int) < 16 := by omega
      rw [hk16] at h1
      clear hk16
      have hgoal : Hid (sched 48 (first b 16) = wordsOf b) := rfl
      go_wp2
      go_loopw [9] (fun i wr => ∃ (t : Nat) (l : List Nat), i = .int .i64 t ∧ 16 ≤ t ∧ t ≤ 64 ∧ Hid (l.length = t) ∧ Hid (Fit32 l) ∧ Hid (sched (64 - t) l = wordsOf b) ∧ Blk wr (w.heap.size + 1 + 1 + 1) 66 (u32s (l ++ zeros (64 - t))) ∧ Blk wr w.heap.size 65 (u32s s0.list) ∧ Blk wr (w.heap.size + 1) 66 (u32s KK) ∧ Blk wr (w.heap.size + 1 + 1) 65 (u32s (List.replicate 8 0)) ∧ Below w.heap.size w wr) (fun i _ => 64 - (intOf i).toNat)
      case atStart => exact ⟨16, first b 16, rfl, by omega, by omega, first_length b 16, first_fit b 16, hgoal, h1, h2, h3, h4, hbel⟩
      case round =>
        clear h1 h2 h3 h4 hbel hbs
        obtain ⟨t, l, rfl, ht0, ht1, hlen, hfit, hsc, h1, h2, h3, h4, hbel⟩ := hrel
        have hbs := h1.lt
        by_cases hlt : t < 64
        · have hti : (t : Int) < 64 := by omega
          have get (j : Nat) (hj : j < t) : wr.cell? ⟨w.heap.size + 1 + 1 + 1, j, none⟩ = some (.int .u32 (l.getD j 0 : Nat)) := by
            rw [h1.cell, u32s_get _ _ (by rw [List.length_append, hlen.out, zeros_length]; omega), getD_left (by rw [hlen.out]; exact hj)]
          have c16 := get (t - 16) (by omega)
          have c15 := get (t - 15) (by omega)
          have c7 := get (t - 7) (by omega)
          have c2 := get (t - 2) (by omega)
          have ct : wr.cell? ⟨w.heap.size + 1 + 1 + 1, t, none⟩ = some (.int .u32 ((l ++ zeros (64 - t)).getD t 0 : Nat)) := by
            rw [h1.cell, u32s_get _ _ (by rw [List.length_append, hlen.out, zeros_length]; omega)]
          have hft := h1.frozen t
          have b16 := hfit.out (t - 16)
          have b15 := hfit.out (t - 15)
          have b7 := hfit.out (t - 7)
          have b2 := hfit.out (t - 2)
          have hnext : Hid (nextW l = (l.getD (t - 16) 0 + l.getD (t - 7) 0 + sig0 (l.getD (t - 15) 0) + sig1 (l.getD (t - 2) 0)) % 4294967296) := by
            unfold nextW; rw [hlen.out]; rfl
          clear get
          generalize l.getD (t - 16) 0 = x16 at *
          generalize l.getD (t - 15) 0 = x15 at *
          generalize l.getD (t - 7) 0 = x7 at *
          generalize l.getD (t - 2) 0 = x2 at *
          generalize (l ++ zeros (64 - t)).getD t 0 = old at *
          obtain ⟨u16, i16, v16⟩ : ∃ u : Nat, IntKind.i64.wrap ((t : Int) - 16) = (u : Int) ∧ u = t - 16 := ⟨t - 16, by rw [IntWalk.i64_in _ (by omega)]; omega, rfl⟩
          rw [← v16] at c16
          have m16 : (u16 : Int) < 64 := by omega
          have n16 : u16 < 64 := by omega
          have v16h := Lib.hid v16
          clear v16
          obtain ⟨u15, i15, v15⟩ : ∃ u : Nat, IntKind.i64.wrap ((t : Int) - 15) = (u : Int) ∧ u = t - 15 := ⟨t - 15, by rw [IntWalk.i64_in _ (by omega)]; omega, rfl⟩
          rw [← v15] at c15
          have m15 : (u15 : Int) < 64 := by omega
          have n15 : u15 < 64 := by omega
          have v15h := Lib.hid v15
          clear v15
          obtain ⟨u7, i7, v7⟩ : ∃ u : Nat, IntKind.i64.wrap ((t : Int) - 7) = (u : Int) ∧ u = t - 7 := ⟨t - 7, by rw [IntWalk.i64_in _ (by omega)]; omega, rfl⟩
          rw [← v7] at c7
          have m7 : (u7 : Int) < 64 := by omega
          have n7 : u7 < 64 := by omega
          have v7h := Lib.hid v7
          clear v7
          obtain ⟨u2, i2, v2⟩ : ∃ u : Nat, IntKind.i64.wrap ((t : Int) - 2) = (u : Int) ∧ u = t - 2 := ⟨t - 2, by rw [IntWalk.i64_in _ (by omega)]; omega, rfl⟩
          rw [← v2] at c2
          have m2 : (u2 : Int) < 64 := by omega
          have n2 : u2 < 64 := by omega
          have v2h := Lib.hid v2
          clear v2
          have r1 := rotr_lt (n := 7) b15 (by omega) (by omega)
          have r2 := rotr_lt (n := 18) b15 (by omega) (by omega)
          have r3 := rotr_lt (n := 17) b2 (by omega) (by omega)
          have r4 := rotr_lt (n := 19) b2 (by omega) (by omega)
          have e1 : bits .xor .u32 (rotr x15 7 : Int) (rotr x15 18 : Int) = ((rotr x15 7 ^^^ rotr x15 18 : Nat) : Int) := u32_xor_nat _ _ r1 r2
          have e2 : bits .xor .u32 ((rotr x15 7 ^^^ rotr x15 18 : Nat) : Int) ((x15 : Int) / 8) = ((sig0 x15 : Nat) : Int) := by
            rw [show (x15 : Int) / 8 = ((x15 / 8 : Nat) : Int) from by omega]; exact u32_xor_nat _ _ (xor_lt r1 r2) (by omega)
          have e3 : bits .xor .u32 (rotr x2 17 : Int) (rotr x2 19 : Int) = ((rotr x2 17 ^^^ rotr x2 19 : Nat) : Int) := u32_xor_nat _ _ r3 r4
          have e4 : bits .xor .u32 ((rotr x2 17 ^^^ rotr x2 19 : Nat) : Int) ((x2 : Int) / 1024) = ((sig1 x2 : Nat) : Int) := by
            rw [show (x2 : Int) / 1024 = ((x2 / 1024 : Nat) : Int) from by omega]; exact u32_xor_nat _ _ (xor_lt r3 r4) (by omega)
          go_wp2
          go_region_held3 (fun w' => w'.cell? ⟨w.heap.size + 1 + 1 + 1, u15, none⟩ = some (.int .u32 (x15 : Int))) (first | exact c15 | go_keep)
            (first
              | (go_at_call 38; (with_reducible refine (turn_at x15 7 7 rfl b15 (by omega) (by omega) _).mono ?_); rintro e w1 ⟨rfl, rfl⟩)
              | (go_at_call 38; (with_reducible refine (turn_at x15 18 18 rfl b15 (by omega) (by omega) _).mono ?_); rintro e w1 ⟨rfl, rfl⟩))
          go_wp2
          have c2d : wr.drew.cell? ⟨w.heap.size + 1 + 1 + 1, u2, none⟩ = some (.int .u32 (x2 : Int)) := c2
          go_region_held3 (fun w' => w'.cell? ⟨w.heap.size + 1 + 1 + 1, u2, none⟩ = some (.int .u32 (x2 : Int))) (first | exact c2 | exact c2d | go_keep)
            (first
              | (go_at_call 38; (with_reducible refine (turn_at x2 17 17 rfl b2 (by omega) (by omega) _).mono ?_); rintro e w1 ⟨rfl, rfl⟩)
              | (go_at_call 38; (with_reducible refine (turn_at x2 19 19 rfl b2 (by omega) (by omega) _).mono ?_); rintro e w1 ⟨rfl, rfl⟩))
          go_wp2
          have c16d : wr.drew.drew.cell? ⟨w.heap.size + 1 + 1 + 1, u16, none⟩ = some (.int .u32 (x16 : Int)) := c16
          have c7d : wr.drew.drew.cell? ⟨w.heap.size + 1 + 1 + 1, u7, none⟩ = some (.int .u32 (x7 : Int)) := c7
          have ctd : wr.drew.drew.cell? ⟨w.heap.size + 1 + 1 + 1, t, none⟩ = some (.int .u32 (old : Int)) := ct
          have h1d := h1.drew.drew
          have h2d := h2.drew.drew
          have h3d := h3.drew.drew
          have h4d := h4.drew.drew
          have hbeld := hbel.drew.drew
          have hftd : wr.drew.drew.frozen? ⟨w.heap.size + 1 + 1 + 1, t, none⟩ = false := hft
          clear h1 h2 h3 h4 hbel hft c16 c15 c7 c2 ct c2d e1 e2 e3 e4 r1 r2 r3 r4
          generalize wr.drew.drew = wo at *
          obtain ⟨nx, hval, hnx⟩ : ∃ nx : Nat, IntKind.u32.wrap (IntKind.u32.wrap (IntKind.u32.wrap ((x16 : Int) + ((sig0 x15 : Nat) : Int)) + (x7 : Int)) + ((sig1 x2 : Nat) : Int)) = (nx : Int) ∧ nx = nextW l := by
            refine ⟨nextW l, ?_, rfl⟩
            rw [hnext.out, IntKind.wrap_u32, IntKind.wrap_u32, IntKind.wrap_u32]
            omega
          have hnxh := Lib.hid hnx
          clear hnx
          have ne16 : u16 ≠ t := by have := v16h.out; omega
          have ne7 : u7 ≠ t := by have := v7h.out; omega
          go_region_held3 (fun w' => w'.cell? ⟨w.heap.size + 1 + 1 + 1, u16, none⟩ = some (.int .u32 (x16 : Int)) ∧ w'.cell? ⟨w.heap.size + 1 + 1 + 1, u7, none⟩ = some (.int .u32 (x7 : Int))) (first | exact ⟨c16d, c7d⟩ | exact ⟨keep_set c16d ne16, keep_set c7d ne7⟩ | go_keep) (fail)
          go_wp2
          have hn1 : Blk ((wo.setCell ⟨w.heap.size + 1 + 1 + 1, t, none⟩ (.int .u32 (nx : Int))).drew) (w.heap.size + 1 + 1 + 1) 66 (u32s ((l ++ [nx]) ++ zeros (64 - (t + 1)))) := by
            have := (h1d.set_ t (.int .u32 (nx : Int)))
            have hs : (l ++ zeros (64 - t)).set l.length nx = (l ++ [nx]) ++ zeros (64 - t - 1) := set_behind l (64 - t) nx (by omega)
            rw [hlen.out] at hs
            rw [u32s_set, hs, show 64 - t - 1 = 64 - (t + 1) from by omega] at this
            exact this.drew
          have hnlen : Hid ((l ++ [nx]).length = t + 1) := by rw [List.length_append, hlen.out]; rfl
          have hnfit : Hid (Fit32 (l ++ [nx])) := hfit.out.append (by rw [hnxh.out]; exact nextW_lt l)
          have hnsc : Hid (sched (64 - (t + 1)) (l ++ [nx]) = wordsOf b) := by
            rw [← hsc.out, show 64 - t = (64 - (t + 1)) + 1 from by omega, sched, ← hnxh.out]; rfl
          go_roundw
          case rel => exact ⟨t + 1, l ++ [nx], by go_num, by omega, by omega, hnlen, hnfit, hnsc, hn1, (h2d.far (by simp; omega) _).drew, (h3d.far (by simp) _).drew, (h4d.far (by simp) _).drew, (hbeld.setCell (by simp; omega) _).drew⟩
          case measure => simp [intOf]; omega
        · have ht64 : t = 64 := by omega
          have hti : ¬ (t : Int) < 64 := by omega
          have hl : l = wordsOf b := by have := hsc.out; rw [ht64] at this; exact this
          rw [ht64, hl, show zeros (64 - 64) = [] from rfl, List.append_nil] at h1
          clear ht64 hl hsc hfit hlen
          have q0 := Blk.new wr 65 (u32s (List.replicate 8 0))
          have hi8 : (Tryd.prog.info? 65).map (·.size) = some (u32s s0.list).size := by rw [u32s_list_size]; exact sz8
          have hall := u32s_one s0.list
          have hold : (u32s (List.replicate 8 0)).size = (u32s s0.list).size := by rw [u32s_list_size]; rfl
          go_wp2_with (first
            | (refine wpList_load_row rfl 65 (.tmp 3) rfl w.heap.size rfl _ _ _ _ h2 Tryd.underlying65 rfl hi8 ?_)
            | (refine wpList_store_row rfl 65 (.tmp 12) (.tmp 106) rfl wr.heap.size (u32s s0.list) rfl rfl _ _ q0 hi8 hold hall ?_))
          obtain ⟨vb, hvb⟩ : ∃ vb, vb = wr.heap.size := ⟨_, rfl⟩
          obtain ⟨wz, hwz⟩ : ∃ wz, wz = World.setRow (wr.alloc (.cells (u32s (List.replicate 8 0)) 65)) wr.heap.size (u32s s0.list) := ⟨_, rfl⟩
          have p0 : Blk wz vb 65 (u32s s0.list) := by rw [hwz, hvb]; exact setRow_heap _ _ _ _ _ _ q0
          have p1 : Blk wz (w.heap.size + 1 + 1 + 1) 66 (u32s (wordsOf b)) := by rw [hwz]; unfold Blk; rw [setRow_other _ _ _ _ (by omega)]; exact h1.alloc _
          have p2 : Blk wz w.heap.size 65 (u32s s0.list) := by rw [hwz]; unfold Blk; rw [setRow_other _ _ _ _ (by omega)]; exact h2.alloc _
          have p3 : Blk wz (w.heap.size + 1) 66 (u32s KK) := by rw [hwz]; unfold Blk; rw [setRow_other _ _ _ _ (by omega)]; exact h3.alloc _
          have p4 : Blk wz (w.heap.size + 1 + 1) 65 (u32s (List.replicate 8 0)) := by rw [hwz]; unfold Blk; rw [setRow_other _ _ _ _ (by omega)]; exact h4.alloc _
          have p5 : Below w.heap.size w wz := by rw [hwz]; exact below_setRow (hbel.alloc (by omega) _) (by omega) _
          have hvw : w.heap.size + 1 + 1 + 1 < vb := by omega
          clear h1 h2 h3 h4 hbel q0
          go_loopw [13] (fun i wr => ∃ (t : Nat) (s : H8), i = .int .i64 t ∧ t ≤ 64 ∧ Hid (s = after (wordsOf b) s0 t) ∧ s.Fit ∧ Blk wr vb 65 (u32s s.list) ∧ Blk wr (w.heap.size + 1 + 1 + 1) 66 (u32s (wordsOf b)) ∧ Blk wr w.heap.size 65 (u32s s0.list) ∧ Blk wr (w.heap.size + 1) 66 (u32s KK) ∧ Blk wr (w.heap.size + 1 + 1) 65 (u32s (List.replicate 8 0)) ∧ Below w.heap.size w wr) (fun i _ => 64 - (intOf i).toNat)
          case atStart => exact ⟨0, s0, rfl, by omega, rfl, hs0, hwz ▸ p0, hwz ▸ p1, hwz ▸ p2, hwz ▸ p3, hwz ▸ p4, hwz ▸ p5⟩
          case round =>
            rw [← hvb]
            clear p0 p1 p2 p3 p4 p5 hwz hbs hvb
            obtain ⟨t, s, rfl, ht, hst, hfit, h0, h1, h2, h3, h4, hbel⟩ := hrel
            have hbs := h0.lt
            by_cases hlt : t < 64
            · have hti : (t : Int) < 64 := by omega
              have hnext : Hid (after (wordsOf b) s0 (t + 1) = rnd s (KK.getD t 0) ((wordsOf b).getD t 0)) := by rw [← hKK.out, hst.out]; rfl
              have bw := wordsOf_fit b t
              have bk : KK.getD t 0 < 4294967296 := by rw [← hKK.out]; exact K256_fit t
              have ck : wr.cell? ⟨w.heap.size + 1, t, none⟩ = some (.int .u32 (KK.getD t 0 : Nat)) := by rw [h3.cell, u32s_get _ _ (by omega)]
              have cw : wr.cell? ⟨w.heap.size + 1 + 1 + 1, t, none⟩ = some (.int .u32 ((wordsOf b).getD t 0 : Nat)) := by rw [h1.cell, u32s_get _ _ (by rw [wordsOf_length]; omega)]
              generalize (wordsOf b).getD t 0 = wt at *
              generalize KK.getD t 0 = kt at *
              obtain ⟨xa, xb, xc, xd, xe, xf, xg, xh⟩ := s
              obtain ⟨ba, bb, bc, bd, be, bf, bg, bh⟩ := hfit
              simp only at ba bb bc bd be bf bg bh
              have c0 : wr.cell? ⟨vb, 0, none⟩ = some (.int .u32 (xa : Int)) := h0.cell 0
              have c1 : wr.cell? ⟨vb, 1, none⟩ = some (.int .u32 (xb : Int)) := h0.cell 1
              have c2 : wr.cell? ⟨vb, 2, none⟩ = some (.int .u32 (xc : Int)) := h0.cell 2
              have c3 : wr.cell? ⟨vb, 3, none⟩ = some (.int .u32 (xd : Int)) := h0.cell 3
              have c4 : wr.cell? ⟨vb, 4, none⟩ = some (.int .u32 (xe : Int)) := h0.cell 4
              have c5 : wr.cell? ⟨vb, 5, none⟩ = some (.int .u32 (xf : Int)) := h0.cell 5
              have c6 : wr.cell? ⟨vb, 6, none⟩ = some (.int .u32 (xg : Int)) := h0.cell 6
              have c7 : wr.cell? ⟨vb, 7, none⟩ = some (.int .u32 (xh : Int)) := h0.cell 7
              have r6 := rotr_lt (n := 6) be (by omega) (by omega)
              have r11 := rotr_lt (n := 11) be (by omega) (by omega)
              have r25 := rotr_lt (n := 25) be (by omega) (by omega)
              have r2 := rotr_lt (n := 2) ba (by omega) (by omega)
              have r13 := rotr_lt (n := 13) ba (by omega) (by omega)
              have r22 := rotr_lt (n := 22) ba (by omega) (by omega)
              have e1 : bits .xor .u32 (rotr xe 6 : Int) (rotr xe 11 : Int) = ((rotr xe 6 ^^^ rotr xe 11 : Nat) : Int) := u32_xor_nat _ _ r6 r11
              have e2 : bits .xor .u32 ((rotr xe 6 ^^^ rotr xe 11 : Nat) : Int) (rotr xe 25 : Int) = ((sum1 xe : Nat) : Int) := u32_xor_nat _ _ (xor_lt r6 r11) r25
              have e3 : bits .and .u32 (xe : Int) (xf : Int) = ((xe &&& xf : Nat) : Int) := u32_and_nat _ _ be bf
              have e4 : bits .xor .u32 IntKind.u32.max (xe : Int) = ((4294967295 ^^^ xe : Nat) : Int) := u32_xor_nat 4294967295 _ (by omega) be
              have bn : 4294967295 ^^^ xe < 4294967296 := xor_lt (by omega) be
              have e5 : bits .and .u32 ((4294967295 ^^^ xe : Nat) : Int) (xg : Int) = (((4294967295 ^^^ xe) &&& xg : Nat) : Int) := u32_and_nat _ _ bn bg
              have e6 : bits .xor .u32 ((xe &&& xf : Nat) : Int) (((4294967295 ^^^ xe) &&& xg : Nat) : Int) = (((xe &&& xf) ^^^ ((4294967295 ^^^ xe) &&& xg) : Nat) : Int) := u32_xor_nat _ _ (and_lt bf) (and_lt bg)
              obtain ⟨X, hX, hXe⟩ : ∃ X : Nat, IntKind.u32.wrap (IntKind.u32.wrap (IntKind.u32.wrap (IntKind.u32.wrap ((xh : Int) + ((sum1 xe : Nat) : Int)) + (((xe &&& xf) ^^^ ((4294967295 ^^^ xe) &&& xg) : Nat) : Int)) + (kt : Int)) + (wt : Int)) = (X : Int) ∧ X = rndX ⟨xa, xb, xc, xd, xe, xf, xg, xh⟩ kt wt := by
                refine ⟨_, ?_, rfl⟩
                unfold rndX
                generalize ((xe &&& xf) ^^^ ((4294967295 ^^^ xe) &&& xg)) = ch
                simp only [IntKind.wrap_u32]
                omega
              have hXh := Lib.hid hXe
              clear hXe
              have f1 : bits .xor .u32 (rotr xa 2 : Int) (rotr xa 13 : Int) = ((rotr xa 2 ^^^ rotr xa 13 : Nat) : Int) := u32_xor_nat _ _ r2 r13
              have f2 : bits .xor .u32 ((rotr xa 2 ^^^ rotr xa 13 : Nat) : Int) (rotr xa 22 : Int) = ((sum0 xa : Nat) : Int) := u32_xor_nat _ _ (xor_lt r2 r13) r22
              have f3 : bits .and .u32 (xa : Int) (xb : Int) = ((xa &&& xb : Nat) : Int) := u32_and_nat _ _ ba bb
              have f4 : bits .and .u32 (xa : Int) (xc : Int) = ((xa &&& xc : Nat) : Int) := u32_and_nat _ _ ba bc
              have f5 : bits .and .u32 (xb : Int) (xc : Int) = ((xb &&& xc : Nat) : Int) := u32_and_nat _ _ bb bc
              have f6 : bits .xor .u32 ((xa &&& xb : Nat) : Int) ((xa &&& xc : Nat) : Int) = (((xa &&& xb) ^^^ (xa &&& xc) : Nat) : Int) := u32_xor_nat _ _ (and_lt bb) (and_lt bc)
              have f7 : bits .xor .u32 (((xa &&& xb) ^^^ (xa &&& xc) : Nat) : Int) ((xb &&& xc : Nat) : Int) = (((xa &&& xb) ^^^ (xa &&& xc) ^^^ (xb &&& xc) : Nat) : Int) := u32_xor_nat _ _ (xor_lt (and_lt bb) (and_lt bc)) (and_lt bc)
              obtain ⟨Y, hY, hYe⟩ : ∃ Y : Nat, IntKind.u32.wrap (((sum0 xa : Nat) : Int) + (((xa &&& xb) ^^^ (xa &&& xc) ^^^ (xb &&& xc) : Nat) : Int)) = (Y : Int) ∧ Y = rndY ⟨xa, xb, xc, xd, xe, xf, xg, xh⟩ := by
                refine ⟨_, ?_, rfl⟩
                unfold rndY
                generalize (xa &&& xb) ^^^ (xa &&& xc) ^^^ (xb &&& xc) = mj
                simp only [IntKind.wrap_u32]
                omega
              have hYh := Lib.hid hYe
              clear hYe
              go_wp2
              go_quiet (first
                | (go_at_call 38; with_reducible exact quiet_left (turn_at xe 6 6 rfl be (by omega) (by omega) _))
                | (go_at_call 38; with_reducible exact quiet_left (turn_at xe 11 11 rfl be (by omega) (by omega) _))
                | (go_at_call 38; with_reducible exact quiet_left (turn_at xe 25 25 rfl be (by omega) (by omega) _)))
              have k0 := h0.drewN nq
              have k1 := h1.drewN nq
              have k2 := h2.drewN nq
              have k3 := h3.drewN nq
              have k4 := h4.drewN nq
              have kbel := bdrewN hbel nq
              have c0' : (wr.drewN nq).cell? ⟨vb, 0, none⟩ = some (.int .u32 (xa : Int)) := c0
              have c1' : (wr.drewN nq).cell? ⟨vb, 1, none⟩ = some (.int .u32 (xb : Int)) := c1
              have c2' : (wr.drewN nq).cell? ⟨vb, 2, none⟩ = some (.int .u32 (xc : Int)) := c2
              have hX2 : (((xh : Int) + ((sum1 xe : Nat) : Int) + bits .xor .u32 ((xe &&& xf : Nat) : Int) (bits .and .u32 (bits .xor .u32 (if IntKind.u32.signed = true then -1 else IntKind.u32.max) (xe : Int)) (xg : Int)) + (kt : Int)) % 4294967296 + (wt : Int)) % 4294967296 = (X : Int) := by
                rw [show (if IntKind.u32.signed = true then (-1 : Int) else IntKind.u32.max) = IntKind.u32.max from rfl, e4, e5, e6, hXh.out, rndX]
                generalize ((xe &&& xf) ^^^ ((4294967295 ^^^ xe) &&& xg)) = ch
                simp only
                omega
              rw [hX2]
              clear hX2
              clear h0 h1 h2 h3 h4 hbel c0 c1 c2 c3 c4 c5 c6 c7 ck cw hX e1 e2 e3 e4 e5 e6
              generalize wr.drewN nq = wo at *
              go_simp
              go_step
              go_step
              go_quiet (first
                | (go_at_call 38; with_reducible exact quiet_left (turn_at xa 2 2 rfl ba (by omega) (by omega) _))
                | (go_at_call 38; with_reducible exact quiet_left (turn_at xa 13 13 rfl ba (by omega) (by omega) _))
                | (go_at_call 38; with_reducible exact quiet_left (turn_at xa 22 22 rfl ba (by omega) (by omega) _)))
              have g0 := k0.drewN nq
              have g1 := k1.drewN nq
              have g2 := k2.drewN nq
              have g3 := k3.drewN nq
              have g4 := k4.drewN nq
              have gbel := bdrewN kbel nq
              clear k0 k1 k2 k3 k4 kbel c0' c1' c2' f1 f2 f3 f4 f5 f6 f7 hY r2 r13 r22 r6 r11 r25
              generalize wo.drewN nq = wp at *
              go_simp
              go_step
              have d0 : wp.cell? ⟨vb, 0, none⟩ = some (.int .u32 (xa : Int)) := g0.cell 0
              have d1 : wp.cell? ⟨vb, 1, none⟩ = some (.int .u32 (xb : Int)) := g0.cell 1
              have d2 : wp.cell? ⟨vb, 2, none⟩ = some (.int .u32 (xc : Int)) := g0.cell 2
              have d3 : wp.cell? ⟨vb, 3, none⟩ = some (.int .u32 (xd : Int)) := g0.cell 3
              have d4 : wp.cell? ⟨vb, 4, none⟩ = some (.int .u32 (xe : Int)) := g0.cell 4
              have d5 : wp.cell? ⟨vb, 5, none⟩ = some (.int .u32 (xf : Int)) := g0.cell 5
              have d6 : wp.cell? ⟨vb, 6, none⟩ = some (.int .u32 (xg : Int)) := g0.cell 6
              obtain ⟨D, hD, hDe⟩ : ∃ D : Nat, IntKind.u32.wrap ((xd : Int) + (X : Int)) = (D : Int) ∧ D = (xd + X) % 4294967296 := ⟨_, by rw [IntKind.wrap_u32]; omega, rfl⟩
              obtain ⟨A0, hA, hAe⟩ : ∃ A0 : Nat, IntKind.u32.wrap ((X : Int) + (Y : Int)) = (A0 : Int) ∧ A0 = (X + Y) % 4294967296 := ⟨_, by rw [IntKind.wrap_u32]; omega, rfl⟩
              have hDh := Lib.hid hDe
              have hAh := Lib.hid hAe
              clear hDe hAe
              have hiN : (Tryd.prog.info? 65).map (·.size) = some (u32s (H8.mk A0 xa xb xc D xe xf xg).list).size := by rw [u32s_list_size]; exact sz8
              have hallN := u32s_one (H8.mk A0 xa xb xc D xe xf xg).list
              go_wp2_with (first
                | (refine wpList_store_row rfl 65 (.tmp 12) (.tmp 194) rfl vb (u32s (H8.mk A0 xa xb xc D xe xf xg).list) rfl rfl _ _ g0 hiN rfl hallN ?_))
              have e0 : Blk (wp.setRow vb (u32s (H8.mk A0 xa xb xc D xe xf xg).list)) vb 65 (u32s (H8.mk A0 xa xb xc D xe xf xg).list) := setRow_heap _ _ _ _ _ _ g0
              have e1 : Blk (wp.setRow vb (u32s (H8.mk A0 xa xb xc D xe xf xg).list)) (w.heap.size + 1 + 1 + 1) 66 (u32s (wordsOf b)) := by unfold Blk; rw [setRow_other _ _ _ _ (by omega)]; exact g1
              have e2 : Blk (wp.setRow vb (u32s (H8.mk A0 xa xb xc D xe xf xg).list)) w.heap.size 65 (u32s s0.list) := by unfold Blk; rw [setRow_other _ _ _ _ (by omega)]; exact g2
              have e3 : Blk (wp.setRow vb (u32s (H8.mk A0 xa xb xc D xe xf xg).list)) (w.heap.size + 1) 66 (u32s KK) := by unfold Blk; rw [setRow_other _ _ _ _ (by omega)]; exact g3
              have e4 : Blk (wp.setRow vb (u32s (H8.mk A0 xa xb xc D xe xf xg).list)) (w.heap.size + 1 + 1) 65 (u32s (List.replicate 8 0)) := by unfold Blk; rw [setRow_other _ _ _ _ (by omega)]; exact g4
              have e5 : Below w.heap.size w (wp.setRow vb (u32s (H8.mk A0 xa xb xc D xe xf xg).list)) := below_setRow gbel (by omega) _
              have hns : Hid (H8.mk A0 xa xb xc D xe xf xg = after (wordsOf b) s0 (t + 1)) := by
                show _ = _
                rw [hnext.out, rnd, hAh.out, hDh.out, hXh.out, hYh.out]
              have hnf : (H8.mk A0 xa xb xc D xe xf xg).Fit := ⟨by have := hAh.out; show A0 < _; omega, ba, bb, bc, by have := hDh.out; show D < _; omega, be, bf, bg⟩
              clear d0 d1 d2 d3 d4 d5 d6 hD hA hiN hallN
              generalize wp.setRow vb (u32s (H8.mk A0 xa xb xc D xe xf xg).list) = wq at *
              go_wp2
              go_roundw
              case rel => exact ⟨t + 1, _, by go_num, by omega, hns, hnf, e0, e1, e2, e3, e4, e5⟩
              case measure => simp [intOf]; omega
            · have ht64 : t = 64 := by omega
              have hti : ¬ (t : Int) < 64 := by omega
              obtain ⟨R, hR⟩ : ∃ R, Hid (blockOf s0 b = R) := ⟨_, rfl⟩
              have hsv : Hid (R = s.plus s0) := by show _ = _; rw [← hR.out, blockOf, ← ht64, ← hst.out]
              clear ht64 hst
              go_wp2
              go_loopw [16] (fun i wr => ∃ i' : Nat, i = .int .i64 i' ∧ i' ≤ 8 ∧ Blk wr vb 65 (u32s (mixed s.list s0.list i')) ∧ Blk wr w.heap.size 65 (u32s s0.list) ∧ Blk wr (w.heap.size + 1 + 1) 65 (u32s (List.replicate 8 0)) ∧ Below w.heap.size w wr) (fun i _ => 8 - (intOf i).toNat)
              case atStart => exact ⟨0, rfl, by omega, h0, h2, h4, hbel⟩
              case round =>
                clear h0 h1 h2 h3 h4 hbel hbs
                obtain ⟨i, rfl, hi, h1, h2, h3, hbel⟩ := hrel
                have hbs := h1.lt
                by_cases hi8 : i < 8
                · have hii : (i : Int) < 8 := by omega
                  have ml : (mixed s.list s0.list i).length = 8 := mixed_length s.list s0.list rfl i hi
                  have cv : wr.cell? ⟨vb, i, none⟩ = some (.int .u32 (s.list.getD i 0 : Nat)) := by
                    rw [h1.cell, u32s_get _ _ (by omega), mixed_get s.list s0.list rfl i hi8]
                  have cs : wr.cell? ⟨w.heap.size, i, none⟩ = some (.int .u32 (s0.list.getD i 0 : Nat)) := by
                    rw [h2.cell, u32s_get _ _ hi8]
                  have zv := h1.frozen i
                  have hms := Lib.hid (mixed_step s.list s0.list rfl i hi8)
                  unfold add32 at hms
                  generalize s.list.getD i 0 = xv at *
                  generalize s0.list.getD i 0 = xs at *
                  obtain ⟨N, hN, hNe⟩ : ∃ N : Nat, IntKind.u32.wrap ((xv : Int) + (xs : Int)) = (N : Int) ∧ N = (xv + xs) % 4294967296 := ⟨_, by rw [IntKind.wrap_u32]; omega, rfl⟩
                  have hNh := Lib.hid hNe
                  clear hNe
                  go_wp2
                  go_region
                  go_wp2
                  go_roundw
                  case rel =>
                    refine ⟨i + 1, by go_num, by omega, ?_, ?_, ?_, ?_⟩
                    · have := (h1.set_ i (.int .u32 (N : Int))).drew
                      rw [u32s_set, hNh.out, hms.out] at this
                      rw [hNh.out]
                      exact this
                    · exact (h2.far (p := ⟨vb, i, none⟩) (by simp; omega) _).drew
                    · exact (h3.far (p := ⟨vb, i, none⟩) (by simp; omega) _).drew
                    · exact (hbel.setCell (p := ⟨vb, i, none⟩) (by simp; omega) _).drew
                  case measure => simp [intOf]; omega
                · have hi8' : i = 8 := by omega
                  have hii : ¬ (i : Int) < 8 := by omega
                  rw [hi8', mixed_all, ← hsv.out] at h1
                  clear hi8'
                  have hi' : (Tryd.prog.info? 65).map (·.size) = some (u32s R.list).size := by rw [u32s_list_size]; exact sz8
                  have hall' := u32s_one R.list
                  have hold' : (u32s (List.replicate 8 0)).size = (u32s R.list).size := by rw [u32s_list_size]; rfl
                  go_wp2_with (first
                    | (refine wpList_load_row rfl 65 (.tmp 12) rfl vb rfl _ _ _ _ h1 Tryd.underlying65 rfl hi' ?_)
                    | (refine wpList_store_row rfl 65 (.tmp 6) (.tmp 208) rfl (w.heap.size + 1 + 1) (u32s R.list) rfl rfl _ _ h3 hi' hold' hall' ?_))
                  exact bodyPost_ret (results_cell_row rfl _ _ (w.heap.size + 1 + 1) _ _ _ _ rfl (setRow_heap _ _ _ _ _ _ h3) Tryd.underlying65 rfl hi') rfl ⟨by rw [hR.out], below_setRow hbel (by omega) _⟩
end Go.Proofs.YtoekdiklbfdpiaaDoor
/- The walk of layer 2's reference: Sum. Condition: the text has at most 2^40 bytes. -/
namespace Go.Proofs.YtoekdiklbfdpiaaDoor
open Go.RowKit
attribute [local go_sem ↓] Go.wp_at_zero Go.wp_at_succ
attribute [local go_sem ↓] ldv8_eq stv8_eq
attribute [local go_sem] run_ldv8 run_stv8
/-- The load of 64 words, not to be opened by the walk. -/
def ldv64 (p : Addr) : Sem Value := loadVar 66 p
theorem ldv64_eq (p : Addr) : loadVar 66 p = ldv64 p := rfl
theorem run_ldv64 (w : World) (g : Nat) (hh : HasRow w g 66 64) : (ldv64 ⟨g, 0, none⟩).run Tryd.prog w = .ok (.agg (RowOf w g)) w := by
  obtain ⟨cs, hn, h⟩ := hh
  rw [rowOf_blk h]
  exact run_loadVar_row w g _ _ _ _ _ h Tryd.underlying66 rfl (by rw [hn]; exact sz64)
attribute [local go_sem ↓] ldv64_eq
attribute [local go_sem] run_ldv64
theorem pad_done (n j : Nat) (hj : j ≤ padLen n) (h : (n + 1 + j) % 64 = 56) : j = padLen n := by unfold padLen at *; omega
theorem pad_more (n j : Nat) (hj : j ≤ padLen n) (h : (n + 1 + j) % 64 ≠ 56) : j + 1 ≤ padLen n := by unfold padLen at *; omega
theorem lenBytes_step' (n j : Nat) (hj : j < 8) : (lenBytes n).take (7 - j) ++ [UInt8.ofNat ((n : Int) * 8 / 2 ^ (8 * j) % 256).toNat] = (lenBytes n).take (8 - j) := by
  have := lenBytes_step n (7 - j) (by omega)
  rwa [show 56 - 8 * (7 - j) = 8 * j from by omega, show 7 - j + 1 = 8 - j from by omega] at this
theorem blocks_take (m : Nat) (s : H8) (l : List UInt8) : blocks (m + 1) s l = blocks m (blockOf s (l.take 64)) (l.drop 64) := rfl
theorem k_calls' (KK : List Nat) (h : Hid (K256 = KK)) (w : World) :
    Calls Tryd.prog 24 #[] w fun e w' => e = .returned (.agg (u32s KK)) ∧ Below w.heap.size w w' := h.out ▸ k_calls w
theorem refBlock_calls' (KK : List Nat) (h : Hid (K256 = KK)) (s0 : H8) (hs0 : s0.Fit) (b : List UInt8) (hb : b.length = 64) (w : World) :
    Calls Tryd.prog 25 #[.agg (u32s s0.list), .string (B b), .agg (u32s KK)] w fun e w' => e = .returned (.agg (u32s (blockOf s0 b).list)) ∧ Below w.heap.size w w' := h.out ▸ refBlock_calls s0 hs0 b hb w
set_option maxRecDepth 100000 in
set_option maxHeartbeats 2000000 in
theorem refSum_calls (l : List UInt8) (w : World) (hlen : l.length ≤ 1099511627776) :
    Calls Tryd.prog 13 #[.string (B l)] w fun e w' => e = .returned (.agg (u8s (shaOf l))) ∧ Below w.heap.size w w' := by
  have hll : (l.length : Int) ≤ 1099511627776 := by omega
  obtain ⟨KK, hKK⟩ : ∃ KK, Hid (K256 = KK) := ⟨_, rfl⟩
  have hKl : KK.length = 64 := by rw [← hKK.out]; exact K256_length
  have hst1 := Tryd.str_of_one
  have hst2 := fun (o : Obj) (x : Int) => Tryd.str_of_oneAt (w.alloc o) (w.heap.size + 1) x (by simp)
  go_enter Tryd.func13, Tryd.ntmps13
  go_wp2
  clear hst2
  have g0 := (Blk.new w 36 (u8s (List.replicate 32 0))).alloc (.cells #[.int .u8 128] 5)
  have b0 : Below w.heap.size w ((w.alloc (.cells (u8s (List.replicate 32 0)) 36)).alloc (.cells #[.int .u8 128] 5)) := ((Below.refl _ _).alloc (Nat.le_refl _) _).alloc (by simp) _
  go_loopw [4] (fun tx wr => ∃ (j : Nat), j ≤ padLen l.length ∧ tx = .string (B (l ++ 128 :: List.replicate j 0)) ∧ Blk wr w.heap.size 36 (u8s (List.replicate 32 0)) ∧ Below w.heap.size w wr) (fun tx _ => l.length + 1 + 64 - (strOf tx).length)
  case atStart => exact ⟨0, by omega, by simp, g0, b0⟩
  case round =>
    clear g0 b0
    obtain ⟨j, hj, rfl, hr, hbel⟩ := hrel
    have hrl := hr.lt
    have hp64 : padLen l.length < 64 := by unfold padLen; omega
    have hjl : (j : Int) < 64 := by omega
    have hlen0 : (l ++ 128 :: List.replicate j 0).length = l.length + 1 + j := by simp; omega
    by_cases hd : (l.length + 1 + j) % 64 = 56
    · have hje := pad_done _ _ hj hd
      have ht1 : (((l ++ 128 :: List.replicate j 0).length : Int) % 64 != 56) = false := by rw [hlen0]; simp; omega
      have ht2 : (((l.length : Int) + ((j : Int) + 1)) % 64 != 56) = false := by simp; omega
      have ht3 : (((l.length : Int) + 1 + (j : Int)) % 64 != 56) = false := by simp; omega
      have hbsl := Lib.hid hlen0
      have hbse : Hid (l ++ 128 :: List.replicate j 0 = l ++ 128 :: List.replicate (padLen l.length) 0) := by show _ = _; rw [← hje]
      clear hje hd hj
      generalize l ++ 128 :: List.replicate j 0 = bs at *
      have hbl : bs.length ≤ 1099511627776 + 65 := by omega
      clear hlen0
      go_wp2
      go_loopw [5, 4] (fun i tx wr => ∃ k : Nat, i = .int .i64 (7 - (k : Int)) ∧ k ≤ 8 ∧ tx = .string (B (bs ++ (lenBytes l.length).take k)) ∧ Blk wr w.heap.size 36 (u8s (List.replicate 32 0)) ∧ Below w.heap.size w wr) (fun i _ _ => (intOf i + 1).toNat)
      case atStart => exact ⟨0, rfl, by omega, by rw [List.take_zero, List.append_nil], hr, hbel⟩
      case round =>
        clear hr hbel hrl ht1 ht2 ht3
        obtain ⟨k, rfl, hk, rfl, hr, hbel⟩ := hrel
        have hrl := hr.lt
        by_cases hk8 : k < 8
        · obtain ⟨i, hi⟩ : ∃ i : Nat, (7 - (k : Int)) = (i : Int) := ⟨7 - k, by omega⟩
          have hi8 : i < 8 := by omega
          have hii : (i : Int) < 8 := by omega
          have hstep := lenBytes_step' l.length i hi8
          rw [show 7 - i = k from by omega, show 8 - i = k + 1 from by omega] at hstep
          have hsteph := Lib.hid hstep
          clear hstep
          have hnext : Hid ((i : Int) - 1 = 7 - ((k + 1 : Nat) : Int)) := by show _ = _; omega
          rw [hi]
          clear hi
          have ht0 : ((lenBytes l.length).take k).length ≤ 8 := by rw [List.length_take]; omega
          generalize (lenBytes l.length).take k = t0 at *
          go_wp2
          go_roundw
          case rel => exact ⟨k + 1, congrArg (Value.int .i64) hnext.out, by omega, by rw [← hsteph.out], hr.alloc _, hbel.alloc (by omega) _⟩
          case measure => simp [intOf]
        · have hk8' : k = 8 := by omega
          have hki : (7 - (k : Int)) < 0 := by omega
          have hpd : bs ++ (lenBytes l.length).take k = padded l := by
            rw [hk8', List.take_of_length_le (by rw [lenBytes_length]; omega), hbse.out]
            simp [padded]
          rw [hpd]
          clear hpd hk8'
          obtain ⟨m0, hm0⟩ := padded_length l
          have hst0 : Hid (blocks m0 H0 (padded l) = stateOf l) := by
            show _ = _
            rw [stateOf, hm0, Nat.mul_div_cancel_left _ (by omega)]
          have hpdl : (padded l).length ≤ 1099511627976 := by
            have : (padded l).length = l.length + 1 + padLen l.length + 8 := by simp [padded, lenBytes_length]; omega
            rw [this]; omega
          have hm0h := Lib.hid hm0
          clear hm0 hbse hbsl
          generalize padded l = pd at *
          have hi8 : (Tryd.prog.info? 65).map (·.size) = some (u32s H0.list).size := by rw [u32s_list_size]; exact sz8
          have hall := u32s_one H0.list
          have hold : (u32s (List.replicate 8 0)).size = (u32s H0.list).size := rfl
          have hv0 := Blk.new wr 65 (u32s (List.replicate 8 0))
          have h0 : Blk (World.setRow (wr.alloc (.cells (u32s (List.replicate 8 0)) 65)) wr.heap.size (u32s H0.list)) wr.heap.size 65 (u32s H0.list) := setRow_heap _ _ _ _ _ _ hv0
          have h1 : Blk (World.setRow (wr.alloc (.cells (u32s (List.replicate 8 0)) 65)) wr.heap.size (u32s H0.list)) w.heap.size 36 (u8s (List.replicate 32 0)) := by
            unfold Blk; rw [setRow_other _ _ _ _ (by omega)]; exact hr.alloc _
          have h2 : Below w.heap.size w (World.setRow (wr.alloc (.cells (u32s (List.replicate 8 0)) 65)) wr.heap.size (u32s H0.list)) := below_setRow (hbel.alloc (by omega) _) (by omega) _
          have hi64 : (Tryd.prog.info? 66).map (·.size) = some (u32s KK).size := by rw [u32s_size, hKl]; exact sz64
          have hall64 := u32s_one KK
          have hold64 : (u32s (zeros 64)).size = (u32s KK).size := by rw [u32s_size, u32s_size, hKl, zeros_length]
          go_wp2_with (first
            | (refine wpList_store_row rfl 65 (.tmp 6) (.tmp 41) rfl wr.heap.size (u32s H0.list) rfl rfl _ _ hv0 hi8 hold hall ?_)
            | (refine wpList_store_row rfl 66 (.tmp 7) (.tmp 42) rfl w1.heap.size (u32s KK) rfl rfl _ _ (Blk.new w1 66 (u32s (zeros 64))) hi64 hold64 hall64 ?_)
            | (go_at_call 24; go_must (refine (k_calls' KK hKK _).mono ?_); rintro e w1 ⟨rfl, hb1⟩))
          clear hv0 hr hbel hall hold hi8 hold64 hall64 hi64
          have k0 := h0.below hb1 h0.lt
          have k1 := h1.below hb1 h1.lt
          have k2 := bthen h2 h2.size hb1
          have hvw1 : wr.heap.size < w1.heap.size := k0.lt
          have hv1 := Blk.new w1 66 (u32s (zeros 64))
          have q0 : Blk (World.setRow (w1.alloc (.cells (u32s (zeros 64)) 66)) w1.heap.size (u32s KK)) w1.heap.size 66 (u32s KK) := setRow_heap _ _ _ _ _ _ hv1
          have q1 : Blk (World.setRow (w1.alloc (.cells (u32s (zeros 64)) 66)) w1.heap.size (u32s KK)) wr.heap.size 65 (u32s H0.list) := by
            unfold Blk; rw [setRow_other _ _ _ _ (by omega)]; exact k0.alloc _
          have q2 : Blk (World.setRow (w1.alloc (.cells (u32s (zeros 64)) 66)) w1.heap.size (u32s KK)) w.heap.size 36 (u8s (List.replicate 32 0)) := by
            unfold Blk; rw [setRow_other _ _ _ _ (by omega)]; exact k1.alloc _
          have q3 : Below w.heap.size w (World.setRow (w1.alloc (.cells (u32s (zeros 64)) 66)) w1.heap.size (u32s KK)) := below_setRow (k2.alloc (by omega) _) (by omega) _
          obtain ⟨vb, hvb⟩ : ∃ vb, wr.heap.size = vb := ⟨_, rfl⟩
          obtain ⟨kb, hkb⟩ : ∃ kb, w1.heap.size = kb := ⟨_, rfl⟩
          have hvw : w.heap.size < vb := by omega
          have hkw : vb < kb := by omega
          obtain ⟨wz, hwz⟩ : ∃ wz, World.setRow (w1.alloc (.cells (u32s (zeros 64)) 66)) w1.heap.size (u32s KK) = wz := ⟨_, rfl⟩
          rw [hwz] at q0 q1 q2 q3
          clear h0 h1 h2 k0 k1 k2 hb1 hv1 hvw1
          go_loopw [8] (fun i wr => ∃ (i' m : Nat) (s : H8), i = .int .i64 i' ∧ i' ≤ 1099511627976 ∧ Hid (pd.length = i' + 64 * m) ∧ Hid (blocks m s (pd.drop i') = stateOf l) ∧ s.Fit ∧ Blk wr kb 66 (u32s KK) ∧ Blk wr vb 65 (u32s s.list) ∧ Blk wr w.heap.size 36 (u8s (List.replicate 32 0)) ∧ Below w.heap.size w wr) (fun i _ => pd.length + 64 - (intOf i).toNat)
          case atStart => exact ⟨0, m0, H0, rfl, by omega, by rw [Nat.zero_add]; exact hm0h, hst0, H0_fit, hwz ▸ hkb ▸ q0, hwz ▸ hvb ▸ q1, hwz ▸ q2, hwz ▸ q3⟩
          case round =>
            rw [hvb, hkb]
            clear q0 q1 q2 q3 hwz hvb hkb hm0h hst0 hrl
            obtain ⟨i, m, s, rfl, hi, hm, hst, hfit, h0, h1, h2, h3⟩ := hrel
            have hbs1 := h1.lt
            by_cases hlt : i + 64 ≤ pd.length
            · have hlti : (i : Int) + 64 ≤ (pd.length : Int) := by omega
              have hR : HasRow wr vb 65 8 := hasRow_blk h1 (u32s_list_size s)
              have hO : RowOf wr vb = u32s s.list := rowOf_blk h1
              have hRd : HasRow wr.drew vb 65 8 := hR
              have hOd : RowOf wr.drew vb = u32s s.list := hO
              have hRk : HasRow wr kb 66 64 := hasRow_blk h0 (by rw [u32s_size]; exact hKl)
              have hOk : RowOf wr kb = u32s KK := rowOf_blk h0
              have hRkd : HasRow wr.drew kb 66 64 := hRk
              have hOkd : RowOf wr.drew kb = u32s KK := hOk
              have h0d : Blk wr.drew kb 66 (u32s KK) := h0
              have h1d : Blk wr.drew vb 65 (u32s s.list) := h1
              have hbs1d : vb < wr.drew.heap.size := hbs1
              have hbs0d : kb < wr.drew.heap.size := h0.lt
              go_wp2
              have s1 : IntKind.i64.wrap ((i : Int) + 64) = (i : Int) + 64 := IntWalk.i64_in _ (by omega)
              have s2 : 0 ≤ (i : Int) + 64 := by omega
              have s3 : (i : Int) ≤ (i : Int) + 64 := by omega
              have s4 : ((i : Int) + 64).toNat = i + 64 := by omega
              have s5 : i + 64 - i = 64 := by omega
              go_region_with (first
                  | (go_at_call 25; go_must (refine (refBlock_calls' KK hKK s hfit ((pd.drop i).take 64) (by rw [List.length_take, List.length_drop]; omega) _).mono ?_); rintro e w1 ⟨rfl, hb1⟩; have hRc := hasRow_blk (h1d.below hb1 hbs1d) (u32s_list_size s); have hOc := rowOf_blk (h1d.below hb1 hbs1d)))
              all_goals
                clear s1 s2 s3 s4 s5
                have e0 : Blk (w1.setRow vb (u32s (blockOf s ((pd.drop i).take 64)).list)) kb 66 (u32s KK) := by
                  unfold Blk; rw [setRow_other _ _ _ _ (by omega)]; exact Blk.below (w := wr.drew) h0 hb1 h0.lt
                have e1 := setRow_heap w1 vb _ (u32s (blockOf s ((pd.drop i).take 64)).list) _ _ (h1d.below hb1 hbs1d)
                have e2 : Blk (w1.setRow vb (u32s (blockOf s ((pd.drop i).take 64)).list)) w.heap.size 36 (u8s (List.replicate 32 0)) := by
                  unfold Blk; rw [setRow_other _ _ _ _ (by omega)]; exact Blk.below (w := wr.drew) h2 hb1 h2.lt
                have e3 := below_setRow (bthen h3.drew (Nat.le_of_lt h2.lt) hb1) (Nat.le_of_lt hvw) (u32s (blockOf s ((pd.drop i).take 64)).list)
                have hml := hm.out
                obtain ⟨m', rfl⟩ : ∃ m', m = m' + 1 := ⟨m - 1, by omega⟩
                have hnst : Hid (blocks m' (blockOf s ((pd.drop i).take 64)) (pd.drop (i + 64)) = stateOf l) := by
                  have := hst.out
                  rw [blocks_take, List.drop_drop] at this
                  exact this
                have hnm : Hid (pd.length = i + 64 + 64 * m') := by show _ = _; omega
                have hfit2 : (blockOf s ((pd.drop i).take 64)).Fit := plus_fit _ _
                generalize blockOf s ((pd.drop i).take 64) = s' at *
                clear hRc hOc hb1 hml hm hst
                generalize w1.setRow vb (u32s s'.list) = wz at *
                go_wp2
                go_roundw
                case rel => exact ⟨i + 64, m', s', by go_num, by omega, hnm, hnst, hfit2, e0, e1, e2, e3⟩
                case measure => simp [intOf]; omega
            · have hlti : (pd.length : Int) < (i : Int) + 64 := by omega
              have hsl : Hid (s = stateOf l) := by
                have hm0' : m = 0 := by have := hm.out; omega
                have := hst.out
                rw [hm0'] at this
                exact this
              clear hst hm
              have hg0 := Blk.new wr 36 (u8s (List.replicate 32 0))
              have k0 : Blk (World.setRow (wr.alloc (.cells (u8s (List.replicate 32 0)) 36)) wr.heap.size (u8s (List.replicate 32 0))) wr.heap.size 36 (u8s (List.replicate 32 0)) := setRow_heap _ _ _ _ _ _ hg0
              have k1 : Blk (World.setRow (wr.alloc (.cells (u8s (List.replicate 32 0)) 36)) wr.heap.size (u8s (List.replicate 32 0))) vb 65 (u32s s.list) := by
                unfold Blk; rw [setRow_other _ _ _ _ (by omega)]; exact h1.alloc _
              have k2 : Blk (World.setRow (wr.alloc (.cells (u8s (List.replicate 32 0)) 36)) wr.heap.size (u8s (List.replicate 32 0))) w.heap.size 36 (u8s (List.replicate 32 0)) := by
                unfold Blk; rw [setRow_other _ _ _ _ (by omega)]; exact h2.alloc _
              have k3 : Below w.heap.size w (World.setRow (wr.alloc (.cells (u8s (List.replicate 32 0)) 36)) wr.heap.size (u8s (List.replicate 32 0))) := below_setRow (h3.alloc (Nat.le_of_lt h2.lt) _) (by omega) _
              have hi' : (Tryd.prog.info? 36).map (·.size) = some (u8s (List.replicate 32 0)).size := by rw [u8s_size, List.length_replicate]; exact sz32
              have hall' := u8s_one (List.replicate 32 0)
              go_wp2_with (first
                | (refine wpList_store_row rfl 36 (.tmp 9) (.tmp 58) rfl wr.heap.size (u8s (List.replicate 32 0)) rfl rfl _ _ hg0 hi' rfl hall' ?_))
              obtain ⟨ib, hib⟩ : ∃ ib, wr.heap.size = ib := ⟨_, rfl⟩
              have hvi : vb < ib := by omega
              clear h0 h1 h2 h3 hg0
              obtain ⟨wz, hwz⟩ : ∃ wz, World.setRow (wr.alloc (.cells (u8s (List.replicate 32 0)) 36)) wr.heap.size (u8s (List.replicate 32 0)) = wz := ⟨_, rfl⟩
              rw [hwz] at k0 k1 k2 k3
              go_loopw [10] (fun i wr => ∃ k : Nat, i = .int .i64 k ∧ k ≤ 32 ∧ Blk wr ib 36 (u8s ((idOf s).take k ++ List.replicate (32 - k) 0)) ∧ Blk wr vb 65 (u32s s.list) ∧ Blk wr w.heap.size 36 (u8s (List.replicate 32 0)) ∧ Below w.heap.size w wr) (fun i _ => 32 - (intOf i).toNat)
              case atStart => exact ⟨0, rfl, by omega, hwz ▸ hib ▸ k0, hwz ▸ k1, hwz ▸ k2, hwz ▸ k3⟩
              case round =>
                rw [hib]
                clear k0 k1 k2 k3 hwz hib hbs1
                obtain ⟨i, rfl, hi, h0, h1, h2, h3⟩ := hrel
                have hbi := h0.lt
                by_cases hi32 : i < 32
                · have hii : (i : Int) < 32 := by omega
                  have hq : (i : Int) / 4 < 8 := by omega
                  have hq0 : (0 : Int) ≤ (i : Int) / 4 := by omega
                  have hqn : i / 4 < 8 := by omega
                  have cw : wr.cell? ⟨vb, i / 4, none⟩ = some (.int .u32 (s.list.getD (i / 4) 0 : Nat)) := by
                    rw [h1.cell, u32s_get _ _ hqn]
                  have cz : wr.cell? ⟨ib, i, none⟩ = some (.int .u8 ((((idOf s).take i ++ List.replicate (32 - i) 0).getD i 0).toNat : Nat)) := by
                    rw [h0.cell, u8s_get _ _ (by rw [List.length_append, List.length_take, idOf_length, List.length_replicate]; omega)]
                  have fz := h0.frozen i
                  have hset := Lib.hid (take_set (idOf s) i 32 (by rw [idOf_length]; exact hi32) (idOf_length s).symm)
                  have hget := Lib.hid (idOf_get s i hi32)
                  generalize (((idOf s).take i ++ List.replicate (32 - i) 0).getD i 0).toNat = oz at *
                  generalize s.list.getD (i / 4) 0 = x at *
                  go_wp2
                  have hvv : (x : Int) / 2 ^ (24 - 8 * (i % 4)) % 256 = ((x / 2 ^ (24 - 8 * (i % 4)) % 256 : Nat) : Int) := by simp
                  rw [hvv]
                  have hlt := Nat.mod_lt (x / 2 ^ (24 - 8 * (i % 4))) (show 0 < 256 by omega)
                  have hn := h0.set_ i (.int .u8 ((x / 2 ^ (24 - 8 * (i % 4)) % 256 : Nat) : Int))
                  rw [u8s_set _ _ _ hlt, ← hget.out, hset.out] at hn
                  go_roundw
                  case rel => exact ⟨i + 1, by go_num, by omega, hn, h1.far (by simp; omega) _, h2.far (by simp; omega) _, h3.setCell (by simp; omega) _⟩
                  case measure => simp [intOf]; omega
                · have hi32' : i = 32 := by omega
                  have hii : ¬ (i : Int) < 32 := by omega
                  have h0' : Blk wr ib 36 (u8s (idOf s)) := by
                    rw [hi32', List.take_of_length_le (by rw [idOf_length]; omega), Nat.sub_self, List.replicate_zero, List.append_nil] at h0
                    exact h0
                  clear hi32' h0
                  have hid : (idOf s).length = 32 := idOf_length s
                  have hfin : Hid (shaOf l = idOf s) := by show _ = _; rw [hsl.out]; rfl
                  clear hsl
                  generalize idOf s = id at *
                  have hi2 : (Tryd.prog.info? 36).map (·.size) = some (u8s id).size := by rw [u8s_size, hid]; exact sz32
                  have hall2 := u8s_one id
                  have hold2 : (u8s (List.replicate 32 0)).size = (u8s id).size := by rw [u8s_size, u8s_size, hid, List.length_replicate]
                  go_wp2_with (first
                    | (refine wpList_load_row rfl 36 (.tmp 9) rfl ib rfl _ _ _ _ h0' Tryd.underlying36 rfl hi2 ?_)
                    | (refine wpList_store_row rfl 36 (.tmp 2) (.tmp 76) rfl w.heap.size (u8s id) rfl rfl _ _ h2 hi2 hold2 hall2 ?_))
                  exact bodyPost_ret (results_cell_row rfl _ _ w.heap.size _ _ _ _ rfl (setRow_heap _ _ _ _ _ _ h2) Tryd.underlying36 rfl hi2) rfl ⟨by rw [hfin.out], below_setRow h3 (Nat.le_refl _) _⟩
    · have hjm := pad_more _ _ hj hd
      have ht1 : (((l ++ 128 :: List.replicate j 0).length : Int) % 64 != 56) = true := by rw [hlen0]; simp; omega
      have ht2 : (((l.length : Int) + ((j : Int) + 1)) % 64 != 56) = true := by simp; omega
      have ht3 : (((l.length : Int) + 1 + (j : Int)) % 64 != 56) = true := by simp; omega
      have hq : Hid ((l ++ 128 :: List.replicate j 0) ++ [0] = l ++ 128 :: List.replicate (j + 1) 0) := by
        show _ = _
        rw [List.append_assoc, List.cons_append, ← List.replicate_succ']
      go_wp2
      go_roundw
      case rel => exact ⟨j + 1, hjm, by rw [← hq.out]; simp, hr.alloc _, hbel.alloc (by omega) _⟩
      case measure => rw [strOf_B, strOf_B]; simp; omega
end Go.Proofs.YtoekdiklbfdpiaaDoor
/- The walk of layer 15's document: sealed. No condition. -/
namespace Go.Proofs.YtoekdiklbfdpiaaDoor
open Go.RowKit
set_option maxRecDepth 100000 in
set_option maxHeartbeats 2000000 in
theorem sealed_calls (s : Txt) (hs : s.length ≤ 1099511627776) (w : World) :
    Calls Tryd.prog 20 #[.string (B s)] w fun e w' => e = .returned (.string (B (s ++ shaOf s))) ∧ Below w.heap.size w w' := by
  have hsum := Lib.hid (refSum_calls s w hs)
  have hl32 := shaOf_length s
  have hsI := sz32
  have hD32 : (u8s (shaOf s)).size = 32 := by rw [u8s_size, hl32]
  have hDone := u8s_one (shaOf s)
  have hstr := fun (W : World) (g : Nat) (h : Blk W g 36 (u8s (shaOf s))) => by
    have := str_of_blk W h
    rw [hl32] at this
    exact this
  have hzI : ∀ W : World, (zeroValue 36).run Tryd.prog W = .ok (.agg (u8s noId')) W := fun W => by
    have h : (Tryd.prog.info? 36).map (·.zero) = some (some (.agg (u8s noId'))) := by kernel_rfl
    obtain ⟨i, h1, h2⟩ := Option.map_eq_some_iff.1 h
    simp [zeroValue, typeInfo, h1, h2]
  have hzl : (u8s noId').size = 32 := by rw [u8s_size, noId_len']
  generalize shaOf s = SH at *
  generalize u8s noId' = ZI at *
  go_enter Tryd.func20, Tryd.ntmps20
  go_wp2_with (first
    | ((with_reducible refine hsum.out.mono ?_); rintro e w1 ⟨rfl, b1⟩)
    | ((with_reducible refine lit_new 36 (.tmp 3) (.tmp 5) (u8s SH) 32 hsI hD32 hDone _ ?_ ?_ ?_ ?_)
       · first | exact hzl | rfl
       · rfl
       · rfl
       intro W4 hb4 hbl4
       have b4 := bthen b1 b1.size hbl4
       have hcv := hstr W4 w1.heap.size hb4))
  go_ret
  exact ⟨rfl, b4⟩
end Go.Proofs.YtoekdiklbfdpiaaDoor
/- The walk of layer 15: read. Condition: the table of constants is as the program lays it. -/
namespace Go.Proofs.YtoekdiklbfdpiaaDoor
open Go.RowKit
attribute [local go_sem ↓] ldvP_eq
abbrev OwnPits (w : World) (B : Nat) (v : Value) (l : List Pl) : Prop := w.ownsRow B 54 35 v l.length (rowsOf (fun p : Pl => pitC p.1) l)
abbrev OwnPls (w : World) (B : Nat) (v : Value) (l : List Pl) : Prop := w.ownsRow B 43 2 v l.length (rowsOf plC l)
/-- Slices of unlike elements lie apart. -/
theorem own_apart {w : World} {B B' : Nat} {e e' : TypeId} {k k' n n' : Nat} {v v' : Value} {xs xs' : List Value} (h : w.ownsRow B e k v n xs) (h' : w.ownsRow B' e' k' v' n' xs') (hne : e ≠ e') : v.ownBlock = none ∨ v.ownBlock ≠ v'.ownBlock := by
  rcases h.2 with ⟨rfl, _⟩ | ⟨g, cap, cur, rfl, _, hh, _⟩
  · exact .inl rfl
  · refine .inr fun he => ?_
    have := own_blk_ne h' (g := g) (t := e) (cs := cur) hh (fun h => hne h.symm)
    exact this he
theorem readP_items (E : Nat) : ∀ (n i : Nat) (rest : Txt) (acc : List Pl), (∀ p ∈ acc, p.1.base.length = 32) → ∀ p ∈ (readP E n i rest acc).1, p.1.base.length = 32
  | 0, i, rest, acc, h => by
    rw [readP]
    split
    · exact h
    · intro p hp; cases hp
  | n + 1, i, rest, acc, h => by
    rw [readP]
    split
    · intro p hp; cases hp
    · rename_i x behind hi
      refine readP_items E n _ _ _ ?_
      intro p hp
      rcases List.mem_append.1 hp with hp | hp
      · exact h p hp
      · obtain rfl := List.mem_singleton.1 hp
        exact (itemP_len hi).1
theorem openP_err {s : Txt} {x : Nat} (h : openP s = .inr x) : x ≠ 0 := by
  unfold openP at h
  repeat' split at h
  all_goals first
    | (injection h with h; omega)
    | cases h
theorem openP_ok {s r : Txt} {n : Nat} (h : openP s = .inl (n, r)) : n ≤ 400 ∧ r.length ≤ s.length - 32 ∧ 37 ≤ s.length ∧ s.length ≤ 262144 := by
  unfold openP at h
  repeat' split at h
  all_goals first
    | (cases h; done)
    | (rename_i h1 h2 _ _ _ _ _ hn
       injection h with h; injection h with ha hb
       subst ha hb
       refine ⟨by omega, ?_, ?_, by omega⟩
       · simp only [List.length_drop, List.length_take]; omega
       · exact Nat.le_of_not_lt fun hc => h2 (.inl hc))
theorem itemP_err {s : Txt} {i x : Nat} (h : itemP s i = .inr x) : x ≠ 0 := by
  unfold itemP at h
  repeat' split at h
  all_goals first
    | (cases h; done)
    | (injection h with h; split at h <;> omega)
    | (injection h with h; omega)
/-- What read returns. -/
def ReadR (w : World) (x : List Pl × Nat) (e : Ending) (w' : World) : Prop := ∃ vl va, e = .returned (.tuple #[vl, va, .int .i64 x.2]) ∧ OwnPits w' w.heap.size vl x.1 ∧ OwnPls w' w.heap.size va x.1 ∧ Below w.heap.size w w'
theorem ReadR.nil {w w' : World} {k : Nat} (hb : Below w.heap.size w w') : ReadR w ([], k) (.returned (.tuple #[.slice none 0 0, .slice none 0 0, .int .i64 k])) w' := ⟨_, _, rfl, World.ownsRow_nil _ _ _ _, World.ownsRow_nil _ _ _ _, hb⟩
set_option maxRecDepth 100000 in
set_option maxHeartbeats 4000000 in
theorem read_calls15 (s : Txt) (hs : s.length ≤ 9223372036854775807) (w : World) (hK : TabK w) : Calls Tryd.prog 21 #[.string (B s)] w fun e w' => ReadR w (decP s) e w' := by
  have hop := open_calls s hs w hK
  have hdec : decP s = match openP s with | .inr x => ([], x) | .inl (n, r) => readP (s.length - 32) n 0 r [] := rfl
  obtain ⟨X, hX⟩ : ∃ X, Hid (decP s = X) := ⟨_, Lib.hid rfl⟩
  rw [hX.out] at hdec ⊢
  cases ho : openP s with
  | inr x =>
    rw [openV_err ho] at hop
    rw [ho] at hdec
    have hop := Lib.hid hop
    have HD : Hid (X = ([], x)) := hdec
    have ho' := ho
    clear hdec hX ho
    have hx0 : x ≠ 0 := openP_err ho'
    have i0 : ¬ (x : Int) = 0 := by omega
    go_enter Tryd.func21, Tryd.ntmps21
    go_wp2_with (first
      | ((with_reducible refine hop.out.mono ?_); rintro e w1 ⟨rfl, hb1⟩))
    go_ret3
    rw [HD.out]
    exact ReadR.nil hb1
  | inl p =>
    obtain ⟨n, r⟩ := p
    have hb := openP_ok ho
    rw [openV_ok ho] at hop
    rw [ho] at hdec
    have hop := Lib.hid hop
    have HD : Hid (readP (s.length - 32) n 0 r [] = X) := hdec.symm
    obtain ⟨E, hE⟩ : ∃ E, E = s.length - 32 := ⟨_, rfl⟩
    rw [← hE] at HD
    have hEi : (s.length : Int) - 32 = (E : Int) := by have := hb.2.2.1; omega
    have hn := hb.1
    have hrl := hb.2.1
    have hsl := hb.2.2.2
    have hE2 : E ≤ 262144 := by omega
    have hrE : r.length ≤ E := by omega
    have h37 := hb.2.2.1
    clear hdec hX ho hb hE
    have hzl : (pitC zPit).toArray.size = 35 := pitC_size noId_len'
    have hzv := zeroPit
    go_enter Tryd.func21, Tryd.ntmps21
    go_wp2_with (first
      | ((with_reducible refine hop.out.mono ?_); rintro e w1 ⟨rfl, hb1⟩))
    clear hop
    have hi0 : OwnPits w1 w.heap.size (.slice none 0 0) [] := World.ownsRow_nil _ _ _ _
    have hp0 : OwnPls w1 w.heap.size (.slice none 0 0) [] := World.ownsRow_nil _ _ _ _
    go_loopg [6, 8, 9, 28] n (fun f s6 s8 s9 s28 wr => ∃ (i : Nat) (rest : Txt) (acc : List Pl), s6 = .string (B rest) ∧ s28 = .int .i64 i ∧ i + f ≤ n ∧ n ≤ i + f ∧ rest.length ≤ E ∧ acc.length ≤ i ∧ Hid (readP E f i rest acc = X) ∧ OwnPits wr w.heap.size s8 acc ∧ OwnPls wr w.heap.size s9 acc ∧ Below w.heap.size w wr)
    case atStart => exact ⟨0, r, [], rfl, rfl, by omega, by omega, hrE, by simp, HD, hi0, hp0, hb1⟩
    case round =>
      obtain ⟨i, rest, acc, rfl, rfl, hi1, hi2, hre, hacc, hrel, hown, hpl, hbel⟩ := hrel
      clear hi0 hp0 hb1 HD
      cases gk with
      | zero =>
        have i1 : ¬ (i : Int) < (n : Int) := by omega
        cases rest with
        | nil =>
          have hx : Hid ((acc, 0) = X) := by show _ = _; rw [← hrel.out, readP, if_pos rfl]
          clear hrel
          go_wp2_with (fail)
          all_goals try (exfalso; omega)
          go_ret3
          rw [← hx.out]
          exact ⟨_, _, rfl, hown, hpl, hbel⟩
        | cons c q =>
          have hx : Hid (([], 2) = X) := by show _ = _; rw [← hrel.out, readP, if_neg (by simp)]
          clear hrel
          go_wp2_with (fail)
          all_goals try (exfalso; omega)
          go_ret3
          rw [← hx.out]
          exact ReadR.nil hbel
      | succ f =>
        have i1 : (i : Int) < (n : Int) := by omega
        have hit := fun W => item_calls rest (by omega) i (by omega) W
        cases hip : itemP rest i with
        | inr x =>
          rw [itemV_err hip] at hit
          have hit := Lib.hid (hit wr)
          have hx0 := itemP_err hip
          have i0 : ¬ (x : Int) = 0 := by omega
          have hx : Hid (([], x) = X) := by show _ = _; rw [← hrel.out, readP, hip]
          clear hrel hip hx0
          have hone := pitC_all zPit
          generalize hZ : (pitC zPit).toArray = Z at *
          clear hZ
          go_wp2_with (first
            | ((with_reducible refine hit.out.mono ?_); rintro e w2 ⟨rfl, hb2⟩
               have b2 := bthen hbel hbel.size hb2)
            | ((with_reducible refine lit_new 54 (.tmp 12) (.tmp 35) Z 35 szPit hzl hone _ ?_ ?_ ?_ ?_)
               · first | exact hzl | rfl
               · rfl
               · rfl
               intro W3 hb3 hbl3
               have b3 := bthen b2 b2.size hbl3))
          all_goals try (exfalso; omega)
          go_ret3
          rw [← hx.out]
          exact ReadR.nil b3
        | inl p =>
          obtain ⟨x, behind⟩ := p
          rw [itemV_ok hip] at hit
          have hit := Lib.hid (hit wr)
          have hlen := itemP_len hip
          have hx32 := hlen.1
          have hbl := hlen.2.1
          have hrel : Hid (readP E f (i + 1) behind (acc ++ [(x, E - rest.length, rest.length - behind.length)]) = X) := by
            show _ = _; rw [← hrel.out, readP, hip]
          have hc35 : (pitC x).toArray.size = 35 := pitC_size hx32
          have hcone := pitC_all x
          have hcl : (pitC x).toArray.size = 1 * 35 := hc35
          have hc1 : ∀ u ∈ ((pitC x).toArray : Array Value).toList, u.oneCell' = true := by intro u hu; rw [List.toList_toArray] at hu; exact pitC_one x u hu
          have hbd := built_pl ((E : Int) - (rest.length : Int)) ((rest.length : Int) - (behind.length : Int))
          have e1 : (E : Int) - (rest.length : Int) = ((E - rest.length : Nat) : Int) := by omega
          have e2 : (rest.length : Int) - (behind.length : Int) = ((rest.length - behind.length : Nat) : Int) := by omega
          have hplc : Hid (#[Value.int .i64 ((E : Int) - (rest.length : Int)), .int .i64 ((rest.length : Int) - (behind.length : Int))] = (plC (x, E - rest.length, rest.length - behind.length)).toArray) := by
            show _ = _; rw [e1, e2]; rfl
          have m1 : acc.length + 1 ≤ 9223372036854775807 := by omega
          have m2 : (acc.length + 1) * 64 ≤ 140737488355328 := by omega
          have m3 : (acc.length + 1) * 16 ≤ 140737488355328 := by omega
          have j1 : (rest.length : Int) ≤ (E : Int) := by omega
          have j2 : (behind.length : Int) ≤ (rest.length : Int) := by omega
          obtain ⟨vA, vK, rfl⟩ := own_form' hown
          obtain ⟨vB, vL, rfl⟩ := own_form' hpl
          have hld : ∀ W g, Blk W g 54 (pitC x).toArray → (ldvP ⟨g, 0, none⟩).run Tryd.prog W = .ok (.agg (pitC x).toArray) W := fun W g h => PitB.load ⟨h, hx32⟩
          clear hlen hip e1 e2
          obtain ⟨CS, hCS⟩ : ∃ CS, (pitC x).toArray = CS := ⟨_, rfl⟩
          rw [hCS] at hit hc35 hcone hcl hc1 hld
          have HCS := Lib.hid hCS
          clear hCS
          generalize hPC : #[Value.int .i64 ((E : Int) - (rest.length : Int)), .int .i64 ((rest.length : Int) - (behind.length : Int))] = PC at *
          have hp2 : PC.size = 1 * 2 := by rw [← hPC]; rfl
          have hp2' : PC.size = 2 := hp2
          have hp1 : ∀ u ∈ PC.toList, u.oneCell' = true := by rw [← hPC]; intro u hu; simp at hu; rcases hu with rfl | rfl <;> rfl
          clear hPC
          go_wp2_with (first
            | ((with_reducible refine hit.out.mono ?_); rintro e w2 ⟨rfl, hb2⟩
               have b2 := bthen hbel hbel.size hb2
               have o2 := own_below hown hb2
               have p2 := own_below hpl hb2
               clear hit hown hpl)
            | ((with_reducible refine lit_new 54 (.tmp 12) (.tmp 35) CS 35 szPit hc35 hcone _ ?_ ?_ ?_ ?_)
               · first | exact hzl | rfl
               · rfl
               · rfl
               intro W3 hb3 hbl3
               have b3 := bthen b2 b2.size hbl3
               have o3 := own_below o2 hbl3
               have p3 := own_below p2 hbl3
               have hq3 := hld W3 _ hb3
               have s3 := b3.size
               clear o2 p2)
            | ((with_reducible refine lit_slice1 (.tmp 42) Tryd.pitTy CS hc35 (by omega) ?_ ?_); rfl)
            | (at_builtin
               (with_reducible refine lit_append_new (.tmp 41) (.tmp 43) 1 _ Tryd.pitTy o3 CS hcl hc1 m1 m2 s3 ?_ ?_ ?_); rfl; rfl
               intro v4 w4 hv4 hbv4 hgv4 hnv4
               have p4 := World.ownsRow.kept p3 hgv4 (own_apart p3 o3 (by decide))
               have b4 := b3.trans hbv4
               have s4 := b4.size
               clear hnv4 p3 o3 hq3)
            | ((with_reducible refine lit_build2 hbd ?_ ?_ ?_); rfl; rfl)
            | ((with_reducible refine lit_slice1 (.tmp 55) Tryd.plTy PC hp2' (by omega) ?_ ?_); rfl)
            | (at_builtin
               (with_reducible refine lit_append_new (.tmp 45) (.tmp 56) 1 _ Tryd.plTy p4 PC hp2 hp1 m1 m3 s4 ?_ ?_ ?_); rfl; rfl
               intro v5 w5 hv5 hbv5 hgv5 hnv5
               have o5 := World.ownsRow.kept hv4 hgv5 (own_apart hv4 p4 (by decide))
               have b5 := b4.trans hbv5
               clear hnv5))
          all_goals try (exfalso; omega)
          have o6 : OwnPits w5 w.heap.size v4 (acc ++ [(x, E - rest.length, rest.length - behind.length)]) := by
            unfold OwnPits
            rw [rowsOf_append, rowsOf_one, List.length_append]
            rw [← HCS.out] at o5
            simpa using o5
          have p6 : OwnPls w5 w.heap.size v5 (acc ++ [(x, E - rest.length, rest.length - behind.length)]) := by
            unfold OwnPls
            rw [rowsOf_append, rowsOf_one, List.length_append]
            rw [hplc.out] at hv5
            simpa using hv5
          have hl6 : (acc ++ [(x, E - rest.length, rest.length - behind.length)]).length ≤ i + 1 := by rw [List.length_append]; simp only [List.length_cons, List.length_nil]; omega
          have hbE : behind.length ≤ E := by omega
          go_roundg f
          case rel => exact ⟨i + 1, behind, _, rfl, by go_num, by omega, by omega, hbE, hl6, hrel, o6, p6, b5⟩
          case measure => exact Nat.lt_succ_self f
end Go.Proofs.YtoekdiklbfdpiaaDoor
/- The walk of layer 15's document: Decode. Condition: the table of constants is as the program lays it. -/
namespace Go.Proofs.YtoekdiklbfdpiaaDoor
open Go.RowKit
attribute [local go_sem ↓] ldvR15_eq
abbrev OwnRits (w : World) (B : Nat) (v : Value) (l : List Pl) : Prop := w.ownsRow B 45 37 v l.length (rowsOf ritC l)
theorem baseP_drop {k : Nat} {s : Txt} {ahead : Nat} {b : Nat} {i r : Txt} (h : baseP k s ahead = some (b, i, r)) : ∃ j, r = s.drop j := by
  unfold baseP at h
  repeat' split at h
  all_goals first
    | (cases h; done)
    | (injection h with h; injection h with h1 h; injection h with h2 h3
       exact ⟨_, h3.symm⟩)
    | (injection h with h; injection h with h1 h; injection h with h2 h3
       exact ⟨0, h3.symm⟩)
theorem takeP_drop {s t q : Txt} (h : takeP s = some (t, q)) : ∃ j, q = s.drop j := by
  unfold takeP at h
  split at h
  · cases h
  · split at h
    · injection h with h; injection h with h1 h2
      exact ⟨_, by rw [← h2, List.drop_drop]⟩
    · cases h
theorem itemP_drop {s q : Txt} {ahead : Nat} {x : PItL} (h : itemP s ahead = .inl (x, q)) : q = s.drop (s.length - q.length) := by
  have hl := (itemP_len h).2.1
  have : ∃ j, q = s.drop j := by
    unfold itemP at h
    match s, h with
    | c :: r, h =>
      simp only at h
      split at h
      · cases h
      · rename_i b i r2 hb
        obtain ⟨j, hj⟩ := baseP_drop hb
        split at h
        · cases h
        · rename_i p behind ht
          obtain ⟨j2, hj2⟩ := takeP_drop ht
          split at h
          · injection h with h; injection h with h1 h2
            subst h2
            exact ⟨1 + j + j2, by rw [hj2, hj, List.drop_drop, show 1 + j + j2 = (j + j2) + 1 from by omega, List.drop_succ_cons]⟩
          · cases h
  obtain ⟨j, hj⟩ := this
  by_cases hjs : j ≤ s.length
  · have : q.length = s.length - j := by rw [hj, List.length_drop]
    rw [this, show s.length - (s.length - j) = j from by omega]
    exact hj
  · have h0 : q = [] := by rw [hj]; exact List.drop_eq_nil_of_le (by omega)
    rw [h0]
    simp
set_option maxRecDepth 100000 in
set_option maxHeartbeats 4000000 in
theorem refDecode_calls (s : Txt) (hs : s.length ≤ 9223372036854775807) (w : World) :
    Calls Tryd.prog 11 #[.string (B s)] w fun e w' => ∃ v, e = .returned (.tuple #[v, .int .i64 (decP s).2]) ∧ OwnRits w' w.heap.size v (decP s).1 ∧ Below w.heap.size w w' := by
  have hop : openP s = if 262144 < s.length then .inr 3 else if s.length < 37 ∨ s.take 5 ≠ pk5 then .inr 2 else if shaOf (s.take (s.length - 32)) ≠ s.drop (s.length - 32) then .inr 5 else (match get ((s.take (s.length - 32)).drop 5) with | none => .inr 2 | some (n, k) => if 400 < n then .inr 3 else .inl (n, ((s.take (s.length - 32)).drop 5).drop k)) := rfl
  have hnil : ∀ (W : World) (e : Nat), Below w.heap.size w W → ∃ v, Ending.returned (.tuple #[.slice none 0 0, .int .i64 e]) = Ending.returned (.tuple #[v, .int .i64 e]) ∧ OwnRits W w.heap.size v [] ∧ Below w.heap.size w W := fun W e hb => ⟨_, rfl, World.ownsRow_nil _ _ _ _, hb⟩
  have hdec : decP s = match openP s with | .inr x => ([], x) | .inl (n, r) => readP (s.length - 32) n 0 r [] := rfl
  obtain ⟨X, hX⟩ : ∃ X, Hid (decP s = X) := ⟨_, Lib.hid rfl⟩
  rw [hX.out] at hdec ⊢
  clear hX
  by_cases h1 : 262144 < s.length
  · rw [if_pos h1] at hop
    rw [hop] at hdec
    have HD : Hid (X = ([], 3)) := hdec
    have i1 : (262144 : Int) < (s.length : Int) := by omega
    clear hdec hop h1
    go_enter Tryd.func11, Tryd.ntmps11
    go_wp2
    all_goals try (exfalso; omega)
    go_ret2
    rw [HD.out]
    exact hnil _ _ (Below.refl _ _)
  · have i1 : ¬ (262144 : Int) < (s.length : Int) := by omega
    rw [if_neg h1] at hop
    by_cases h2 : s.length < 37
    · rw [if_pos (.inl h2)] at hop
      rw [hop] at hdec
      have HD : Hid (X = ([], 2)) := hdec
      have i2 : (s.length : Int) < 37 := by omega
      clear hdec hop h1 h2
      go_enter Tryd.func11, Tryd.ntmps11
      go_wp2
      all_goals try (exfalso; omega)
      go_ret2
      rw [HD.out]
      exact hnil _ _ (Below.refl _ _)
    · have i2 : ¬ (s.length : Int) < 37 := by omega
      have i3 : (5 : Int) ≤ (s.length : Int) := by omega
      have x5 : (B s).extract 0 5 = B (s.take 5) := extract_B_to s 5
      have hcv : (convert 38 9 (.slice (some ⟨w.heap.size, 0, none⟩) 1 1)).run Tryd.prog ((w.alloc (.cells #[.int .u8 1] 5)).drew) = .ok (.string (B [1])) ((w.alloc (.cells #[.int .u8 1] 5)).drew) := str_of_blk (l := [1]) _ ((Blk.new w 5 (u8s [1])).drewN 1)
      have hW1 : Below w.heap.size w ((w.alloc (.cells #[.int .u8 1] 5)).drew) := bdrewN ((Below.refl _ _).alloc (Nat.le_refl _) _) 1
      by_cases h5 : s.take 5 = pk5
      · have q5 : (s.take 5 == [75, 78, 65, 80, 1]) = true := by rw [beq_iff_eq]; exact h5
        have h25 : ¬ (s.length < 37 ∨ s.take 5 ≠ pk5) := by
          rintro (h | h)
          · exact h2 h
          · exact h h5
        rw [if_neg h25] at hop
        have h37 : 37 ≤ s.length := by omega
        obtain ⟨E, hE⟩ : ∃ E, E = s.length - 32 := ⟨_, rfl⟩
        rw [← hE] at hop hdec
        have hEi : (s.length : Int) - 32 = (E : Int) := by omega
        have hE1 : E ≤ s.length := by omega
        have hE5 : 5 ≤ E := by omega
        have hE2 : E ≤ 262144 := by omega
        have j1 : (E : Int) ≤ (s.length : Int) := by omega
        have j2 : (5 : Int) ≤ (E : Int) := by omega
        have x1 : (B s).extract 0 E = B (s.take E) := extract_B_to s E
        have x3 : (B (s.take E)).extract 5 (s.take E).length = B ((s.take E).drop 5) := extract_B_from _ 5
        have htl : (s.take E).length = E := by rw [List.length_take]; omega
        have hst : s.take E ++ s.drop E = s := List.take_append_drop E s
        have hse := sealed_calls (s.take E) (by omega)
        by_cases hS : shaOf (s.take E) = s.drop E
        · rw [if_neg (by simpa using hS)] at hop
          rw [hS, hst] at hse
          have q6 : (s == s) = true := by simp
          replace hse := Lib.hid hse
          clear hS h25 h5 h2 h1 hst
          have hget := fun W => refGet_calls ((s.take E).drop 5) (by rw [List.length_drop]; omega) W
          have hone := fun k i (hk : k ≤ 4611686018427387904) (hi : i ≤ 4611686018427387904) W => one_calls (s.take E) (by omega) k hk i hi W
          have hsz5 : ((s.take E).drop 5).length = E - 5 := by rw [List.length_drop, htl]
          obtain ⟨TK, hTK⟩ : ∃ TK, s.take E = TK := ⟨_, rfl⟩
          rw [hTK] at hop x1 x3 htl hse hget hone hsz5
          have hTi' : (TK.length : Int) ≤ 262144 := by omega
          have hT5 : (5 : Int) ≤ (TK.length : Int) := by omega
          replace htl := Lib.hid htl
          clear hTK
          cases hg : get (TK.drop 5) with
          | none =>
            rw [hg] at hop
            rw [hop] at hdec
            have HD : Hid (X = ([], 2)) := hdec
            replace hget : ∀ W, Hid (Calls Tryd.prog 22 #[.string (B (TK.drop 5))] W fun e w' => e = .returned (.tuple #[.int .u64 0, .int .i64 0]) ∧ w' = W) := fun W => by have := hget W; rw [hg] at this; exact Lib.hid this
            clear hdec hop hg hone hE hsz5
            go_enter Tryd.func11, Tryd.ntmps11
            go_wp2
            all_goals try (exfalso; omega)
            go_region
            go_wp2_with (first
              | ((with_reducible refine (hse.out _).mono ?_); rintro e w2 ⟨rfl, b2⟩
                 have b3 := bthen hW1 hW1.size b2)
              | ((with_reducible refine (hget _).out.mono ?_); rintro e w3 ⟨rfl, rfl⟩))
            all_goals try (exfalso; omega)
            go_ret2
            rw [HD.out]
            exact hnil _ _ b3
          | some pr =>
            obtain ⟨n, m⟩ := pr
            have hgb := get_bounds hg
            rw [hg] at hop
            simp only at hop
            replace hget : ∀ W, Hid (Calls Tryd.prog 22 #[.string (B (TK.drop 5))] W fun e w' => e = .returned (.tuple #[.int .u64 n, .int .i64 m]) ∧ w' = W) := fun W => by have := hget W; rw [hg] at this; exact Lib.hid this
            have n0 : ¬ (m : Int) = 0 := by omega
            have n0' : ((m : Int) == 0) = false := by simp; omega
            by_cases hn : 400 < n
            · rw [if_pos hn] at hop
              rw [hop] at hdec
              have HD : Hid (X = ([], 3)) := hdec
              have n1 : (400 : Int) < (n : Int) := by omega
              clear hdec hop hg hone hn hE hgb hsz5
              go_enter Tryd.func11, Tryd.ntmps11
              go_wp2
              all_goals try (exfalso; omega)
              go_region
              go_wp2_with (first
                | ((with_reducible refine (hse.out _).mono ?_); rintro e w2 ⟨rfl, b2⟩
                   have b3 := bthen hW1 hW1.size b2)
                | ((with_reducible refine (hget _).out.mono ?_); rintro e w3 ⟨rfl, rfl⟩))
              all_goals try (exfalso; omega)
              go_ret2
              rw [HD.out]
              exact hnil _ _ b3
            · rw [if_neg hn] at hop
              rw [hop] at hdec
              have HD : Hid (readP E n 0 (TK.drop (5 + m)) [] = X) := by show _ = _; rw [← List.drop_drop]; exact hdec.symm
              have n1 : ¬ (400 : Int) < (n : Int) := by omega
              have n2 : (n : Int) ≤ 400 := by omega
              have hmE : 5 + m ≤ E := by omega
              have hmi : (m : Int) ≤ 262144 := by omega
              clear hdec hop hg hn hE hgb hsz5
              go_enter Tryd.func11, Tryd.ntmps11
              go_wp2
              all_goals try (exfalso; omega)
              go_region
              go_wp2_with (first
                | ((with_reducible refine (hse.out _).mono ?_); rintro e w2 ⟨rfl, b2⟩
                   have b3 := bthen hW1 hW1.size b2)
                | ((with_reducible refine (hget _).out.mono ?_); rintro e w3 ⟨rfl, rfl⟩))
              all_goals try (exfalso; omega)
              clear hse hget
              have hr0 : OwnRits w3 w.heap.size (.slice none 0 0) [] := World.ownsRow_nil _ _ _ _
              have hzl : (ritC zRit).toArray.size = 37 := ritC_size noId_len'
              have hzv := zeroRit
              go_loopg [7, 8, 9] n (fun f s7 s8 s9 wr => ∃ (i k : Nat) (acc : List Pl), s8 = .int .i64 k ∧ s9 = .int .i64 i ∧ i + f ≤ n ∧ n ≤ i + f ∧ k ≤ E ∧ acc.length ≤ i ∧ Hid (readP E f i (TK.drop k) acc = X) ∧ OwnRits wr w.heap.size s7 acc ∧ Below w.heap.size w wr)
              case atStart => exact ⟨0, 5 + m, [], by go_num, rfl, by omega, by omega, hmE, by simp, HD, hr0, b3⟩
              case round =>
                obtain ⟨i, k, acc, rfl, rfl, hi1, hi2, hkE, hacc, hrel, hown, hbel⟩ := hrel
                clear hr0 b3 HD hW1 hcv
                cases gk with
                | zero =>
                  have l1 : ¬ (i : Int) < (n : Int) := by omega
                  by_cases hke : k = E
                  · have hx : Hid ((acc, 0) = X) := by show _ = _; rw [← hrel.out, readP, if_pos (List.drop_eq_nil_of_le (by rw [htl.out]; omega))]
                    have l2 : (k : Int) = (TK.length : Int) := by rw [htl.out]; omega
                    clear hrel hke
                    go_wp2_with (fail)
                    all_goals try (exfalso; omega)
                    go_ret2
                    rw [← hx.out]
                    exact ⟨_, rfl, hown, hbel⟩
                  · have hx : Hid (([], 2) = X) := by
                      show _ = _
                      rw [← hrel.out, readP, if_neg]
                      intro h
                      have h2 := congrArg List.length h
                      rw [List.length_drop, htl.out] at h2
                      simp at h2
                      omega
                    have l2 : ¬ (k : Int) = (TK.length : Int) := by rw [htl.out]; omega
                    clear hrel hke
                    go_wp2_with (fail)
                    all_goals try (exfalso; omega)
                    go_ret2
                    rw [← hx.out]
                    exact hnil _ _ hbel
                | succ f =>
                  have l1 : (i : Int) < (n : Int) := by omega
                  have hit := fun W => hone k i (by omega) (by omega) W
                  have hdl : (TK.drop k).length = E - k := by rw [List.length_drop, htl.out]
                  cases hip : itemP (TK.drop k) i with
                  | inr x =>
                    rw [oneV_err hip] at hit
                    replace hit := Lib.hid (hit wr)
                    have hx0 := itemP_err hip
                    have i0 : ¬ (x : Int) = 0 := by omega
                    have hx : Hid (([], x) = X) := by show _ = _; rw [← hrel.out, readP, hip]
                    clear hrel hip hx0 hdl hone
                    have hone := ritC_all zRit
                    generalize hZ : (ritC zRit).toArray = Z at *
                    clear hZ
                    go_wp2_with (first
                      | ((with_reducible refine hit.out.mono ?_); rintro e w4 ⟨rfl, hb4⟩
                         have b4 := bthen hbel hbel.size hb4)
                      | ((with_reducible refine lit_new 45 (.tmp 10) (.tmp 56) Z 37 szRit hzl hone _ ?_ ?_ ?_ ?_)
                         · first | exact hzl | rfl
                         · rfl
                         · rfl
                         intro W5 hb5 hbl5
                         have b5 := bthen b4 b4.size hbl5))
                    all_goals try (exfalso; omega)
                    go_ret2
                    rw [← hx.out]
                    exact hnil _ _ b5
                  | inl p =>
                    obtain ⟨x, behind⟩ := p
                    rw [oneV_ok hip] at hit
                    replace hit := Lib.hid (hit wr)
                    have hlen := itemP_len hip
                    have hdr := itemP_drop hip
                    have hx32 := hlen.1
                    have hbl := hlen.2.1
                    obtain ⟨L, hL⟩ : ∃ L, (TK.drop k).length - behind.length = L := ⟨_, rfl⟩
                    rw [hL] at hit hdr
                    have hkL : k + L ≤ E := by omega
                    have hrel : Hid (readP E f (i + 1) (TK.drop (k + L)) (acc ++ [(x, k, L)]) = X) := by
                      show _ = _
                      rw [← hrel.out, readP, hip]
                      simp only
                      rw [hL, show E - (TK.drop k).length = k from by omega, hdr, List.drop_drop]
                    have hc37 : (ritC (x, k, L)).toArray.size = 37 := ritC_size hx32
                    have hcone := ritC_all (x, k, L)
                    have hcl : (ritC (x, k, L)).toArray.size = 1 * 37 := hc37
                    have hc1 : ∀ u ∈ ((ritC (x, k, L)).toArray : Array Value).toList, u.oneCell' = true := by intro u hu; rw [List.toList_toArray] at hu; exact ritC_one (x, k, L) u hu
                    have m1 : acc.length + 1 ≤ 9223372036854775807 := by omega
                    have m2 : (acc.length + 1) * 80 ≤ 140737488355328 := by omega
                    obtain ⟨vA, vK, rfl⟩ := own_form' hown
                    have hld : ∀ W g, Blk W g 45 (ritC (x, k, L)).toArray → (ldvR15 ⟨g, 0, none⟩).run Tryd.prog W = .ok (.agg (ritC (x, k, L)).toArray) W := fun W g h => RitB.load (p := (x, k, L)) ⟨h, hx32⟩
                    have hln : ∀ W g, Blk W g 45 (ritC (x, k, L)).toArray → W.cell? ⟨g, 36, none⟩ = some (.int .i64 L) := fun W g h => RitB.len (p := (x, k, L)) ⟨h, hx32⟩
                    have hlw : (k : Int) + (L : Int) ≤ 262144 := by omega
                    clear hlen hip hdl hdr hbl hL hone
                    obtain ⟨CS, hCS⟩ : ∃ CS, (ritC (x, k, L)).toArray = CS := ⟨_, rfl⟩
                    rw [hCS] at hit hc37 hcone hcl hc1 hld hln
                    have HCS := Lib.hid hCS
                    clear hCS
                    go_wp2_with (first
                      | ((with_reducible refine hit.out.mono ?_); rintro e w4 ⟨rfl, hb4⟩
                         have b4 := bthen hbel hbel.size hb4
                         have o4 := own_below hown hb4
                         clear hit hown)
                      | ((with_reducible refine lit_new 45 (.tmp 10) (.tmp 56) CS 37 szRit hc37 hcone _ ?_ ?_ ?_ ?_)
                         · first | exact hzl | rfl
                         · rfl
                         · rfl
                         intro W5 hb5 hbl5
                         have b5 := bthen b4 b4.size hbl5
                         have o5 := own_below o4 hbl5
                         have hq5 := hld W5 _ hb5
                         have hb5' := hb5
                         have s5 := b5.size
                         have hne5 : some w4.heap.size ≠ (Value.slice vA acc.length vK).ownBlock := fun he => Nat.lt_irrefl _ (World.ownsRow.lt o4 _ he.symm).2
                         clear o4)
                      | ((with_reducible refine lit_slice1 (.tmp 62) Tryd.ritTy CS hc37 (by omega) ?_ ?_); rfl)
                      | (at_builtin
                         (with_reducible refine lit_append_new (.tmp 61) (.tmp 63) 1 _ Tryd.ritTy o5 CS hcl hc1 m1 m2 s5 ?_ ?_ ?_); rfl; rfl
                         intro v6 w6 hv6 hbv6 hgv6 hnv6
                         have b6 := b5.trans hbv6
                         have hb6 := hb5'.grown hgv6 hne5
                         have c36 := hln _ _ hb6
                         clear hgv6 hnv6 o5 hb5' hb6 hbv6 hq5))
                    all_goals try (exfalso; omega)
                    have o7 : OwnRits w6 w.heap.size v6 (acc ++ [(x, k, L)]) := by
                      unfold OwnRits
                      rw [rowsOf_append, rowsOf_one, List.length_append]
                      rw [← HCS.out] at hv6
                      simpa using hv6
                    have hl7 : (acc ++ [(x, k, L)]).length ≤ i + 1 := by rw [List.length_append]; simp only [List.length_cons, List.length_nil]; omega
                    go_roundg f
                    case rel => exact ⟨i + 1, k + L, _, by go_num, by go_num, by omega, by omega, hkL, hl7, hrel, o7, b6⟩
                    case measure => exact Nat.lt_succ_self f
        · have q6 : (s.take E ++ shaOf (s.take E) == s) = false := by
            rw [beq_eq_false_iff_ne]
            intro h
            exact hS (List.append_cancel_left (h.trans hst.symm))
          rw [if_pos hS] at hop
          rw [hop] at hdec
          have HD : Hid (X = ([], 5)) := hdec
          replace hse := Lib.hid hse
          clear hS h25 h5 h2 h1 hst hdec hop hE
          generalize s.take E ++ shaOf (s.take E) = TS at *
          go_enter Tryd.func11, Tryd.ntmps11
          go_wp2
          all_goals try (exfalso; omega)
          go_region
          go_wp2_with (first
            | ((with_reducible refine (hse.out _).mono ?_); rintro e w2 ⟨rfl, b2⟩
               have b3 := bthen hW1 hW1.size b2))
          all_goals try (exfalso; omega)
          go_ret2
          rw [HD.out]
          exact hnil _ _ b3
      · have q5 : (s.take 5 == [75, 78, 65, 80, 1]) = false := by rw [beq_eq_false_iff_ne]; exact h5
        rw [if_pos (.inr h5)] at hop
        rw [hop] at hdec
        have HD : Hid (X = ([], 2)) := hdec
        clear hdec hop h1 h2 h5
        go_enter Tryd.func11, Tryd.ntmps11
        go_wp2
        all_goals try (exfalso; omega)
        go_region
        go_wp2
        go_ret2
        rw [HD.out]
        exact hnil _ _ hW1
end Go.Proofs.YtoekdiklbfdpiaaDoor
/- Slices of items, read out of whatever memory: ours and the document's. No condition. -/
namespace Go.Proofs.YtoekdiklbfdpiaaDoor
open Go.RowKit
abbrev Pits (w : World) (v : Value) (l : List PItL) : Prop := SliceAt w 35 pitC v l
abbrev Rits (w : World) (v : Value) (l : List Pl) : Prop := SliceAt w 37 ritC v l
abbrev Pls (w : World) (v : Value) (l : List Pl) : Prop := SliceAt w 2 plC v l
/-- What is known of items: their bases are ids. -/
abbrev PitsOk (l : List PItL) : Prop := ∀ x ∈ l, x.base.length = 32
theorem OwnRits.rits {w : World} {base : Nat} {v : Value} {l : List Pl} (hok : ∀ p ∈ l, p.1.base.length = 32) (h : OwnRits w base v l) : Rits w v l := SliceAt.of_own (fun x hx => ritC_len (hok x hx)) h
theorem OwnPls.pls {w : World} {base : Nat} {v : Value} {l : List Pl} (h : OwnPls w base v l) : Pls w v l := SliceAt.of_own (fun x _ => rfl) h
theorem rowsOf_map {α β : Type} {f : α → β} {enc : β → List Value} (l : List α) : rowsOf enc (l.map f) = rowsOf (fun x => enc (f x)) l := by simp [rowsOf, List.flatMap_map]
theorem OwnPits.pits {w : World} {base : Nat} {v : Value} {l : List Pl} (hok : ∀ p ∈ l, p.1.base.length = 32) (h : OwnPits w base v l) : Pits w v (l.map (·.1)) := by
  refine SliceAt.of_own (base := base) (e := 54) (fun x hx => ?_) ?_
  · obtain ⟨p, hp, rfl⟩ := List.mem_map.1 hx
    exact pitC_len (hok p hp)
  · rw [rowsOf_map, List.length_map]
    exact h
section
variable {w : World} {g o : Nat}
theorem pit_kind {x : PItL} (h : w.rangeAt g o (pitC x)) : w.cell? ⟨g, o, none⟩ = some (.int .i64 x.kind) := by have := h 0 _ rfl; rwa [Nat.add_zero] at this
theorem pit_back {x : PItL} (h : w.rangeAt g o (pitC x)) : w.cell? ⟨g, o + 1, none⟩ = some (.int .i64 x.back) := h 1 _ rfl
theorem pit_base {x : PItL} (h : w.rangeAt g o (pitC x)) : w.rangeAt g (o + 2) (u8s x.base).toList := fun j u hu => by
  have := h (2 + j) u (by
    unfold pitC
    rw [show 2 + j = (j + 1) + 1 from by omega, List.getElem?_cons_succ, List.getElem?_cons_succ, List.getElem?_append_left (List.getElem?_eq_some_iff.1 hu).1]
    exact hu)
  rwa [← Nat.add_assoc] at this
theorem pit_data {x : PItL} (hx : x.base.length = 32) (h : w.rangeAt g o (pitC x)) : w.cell? ⟨g, o + 34, none⟩ = some (.string (B x.data)) := h 34 _ (by
  unfold pitC
  rw [show 34 = (32 + 1) + 1 from rfl, List.getElem?_cons_succ, List.getElem?_cons_succ, List.getElem?_append_right (by rw [u8s_len', hx]; omega), u8s_len', hx]
  rfl)
theorem rit_kind {x : Pl} (h : w.rangeAt g o (ritC x)) : w.cell? ⟨g, o, none⟩ = some (.int .i64 x.1.kind) := by have := h 0 _ rfl; rwa [Nat.add_zero] at this
theorem rit_back {x : Pl} (h : w.rangeAt g o (ritC x)) : w.cell? ⟨g, o + 1, none⟩ = some (.int .i64 x.1.back) := h 1 _ rfl
theorem rit_base {x : Pl} (h : w.rangeAt g o (ritC x)) : w.rangeAt g (o + 2) (u8s x.1.base).toList := fun j u hu => by
  have := h (2 + j) u (by
    unfold ritC
    rw [show 2 + j = (j + 1) + 1 from by omega, List.getElem?_cons_succ, List.getElem?_cons_succ, List.getElem?_append_left (List.getElem?_eq_some_iff.1 hu).1]
    exact hu)
  rwa [← Nat.add_assoc] at this
theorem rit_tail {x : Pl} (hx : x.1.base.length = 32) (h : w.rangeAt g o (ritC x)) (i : Nat) {v : Value} (hv : [Value.string (B x.1.data), .int .i64 x.2.1, .int .i64 x.2.2][i]? = some v) : w.cell? ⟨g, o + (34 + i), none⟩ = some v := h (34 + i) _ (by
  unfold ritC
  rw [show 34 + i = (32 + i + 1) + 1 from by omega, List.getElem?_cons_succ, List.getElem?_cons_succ, List.getElem?_append_right (by rw [u8s_len', hx]; omega), u8s_len', hx, Nat.add_sub_cancel_left]
  exact hv)
theorem rit_data {x : Pl} (hx : x.1.base.length = 32) (h : w.rangeAt g o (ritC x)) : w.cell? ⟨g, o + 34, none⟩ = some (.string (B x.1.data)) := rit_tail hx h 0 rfl
theorem rit_at {x : Pl} (hx : x.1.base.length = 32) (h : w.rangeAt g o (ritC x)) : w.cell? ⟨g, o + 35, none⟩ = some (.int .i64 x.2.1) := rit_tail hx h 1 rfl
theorem rit_len {x : Pl} (hx : x.1.base.length = 32) (h : w.rangeAt g o (ritC x)) : w.cell? ⟨g, o + 36, none⟩ = some (.int .i64 x.2.2) := rit_tail hx h 2 rfl
end
theorem run_ldvI15 {w : World} {g o : Nat} {l : Txt} (h : w.rangeAt g o (u8s l).toList) (hl : l.length = 32) : (ldvI ⟨g, o, none⟩).run Tryd.prog w = .ok (.agg (u8s l)) w := by
  have := run_loadVar_mid (P := Tryd.prog) w g o 36 (u8s l).toList _ h Tryd.underlying36 rfl (by rw [u8s_len', hl]; exact sz32)
  rwa [Array.toArray_toList] at this
theorem quiet_neq_id15 {C : World → Prop} {W : World} {a : Act} {d : Option Tmp} {rt t' : TypeId} {pos : String} {af : Array Edge} {gd : Option (Nat × Bool)} {x y : Operand} (p : Txt) (hp : p.length = 32)
    (hx : a.eval x = .agg (u8s p)) (hy : a.eval y = .agg (u8s p)) : Oper.quietUpon Tryd.prog C W (.bool false) ((execOp a.eval { dst := d, op := .binOp .neq 36 x y t', type := rt, pos := pos, after := af, guard := gd }).run Tryd.prog W) := by
  unfold execOp
  simp only [hx, hy, Sem.run_bind, run_eqGuard_agg _ _ _ _ _ _ _ Tryd.eqGuardType36, run_neq_id W p p hp hp, Result.andThen_ok, decide_true, Bool.not_true]
  exact ⟨rfl, rfl⟩
end Go.Proofs.YtoekdiklbfdpiaaDoor
/- The plain law of packing (layer 5): numbers are read as they were written; a text of steps is unpacked to what its steps say. No condition; no program. -/
namespace Go.Proofs.YtoekdiklbfdpiaaDoor
open Go.RowKit

theorem ofNat_toNat (n : Nat) (h : n < 256) : (UInt8.ofNat n).toNat = n := by simp [Nat.mod_eq_of_lt h]
theorem lead_split : ∀ (i : List UInt8) (c : UInt8) (r : List UInt8), (∀ x ∈ i, 128 ≤ x.toNat) → c.toNat < 128 → lead (i ++ c :: r) = i.length
  | [], c, r, _, hc => by rw [List.nil_append, lead, if_neg (by omega)]; rfl
  | x :: i, c, r, hi, hc => by
    rw [List.cons_append, lead, if_pos (hi x (by simp)), lead_split i c r (fun y hy => hi y (by simp [hy])) hc]
    rfl
theorem putF_split (f : Nat) : ∀ n, Fits f n → ∃ (i : List UInt8) (c : UInt8), putF f n = i ++ [c] ∧ (∀ x ∈ i, 128 ≤ x.toNat) ∧ c.toNat < 128 ∧ i.length ≤ f ∧ val7 (putF f n) = n ∧ (i ≠ [] → c.toNat ≠ 0) ∧ (i.length = f → c.toNat < 2) := by
  induction f with
  | zero =>
    intro n h
    have h0 : n < 2 := by unfold Fits at h; omega
    refine ⟨[], UInt8.ofNat n, rfl, by simp, ?_, by simp, ?_, by simp, ?_⟩
    · simp; omega
    · simp [putF, val7]; omega
    · intro _; simp; omega
  | succ f ih =>
    intro n h
    by_cases hn : n < 128
    · rw [putF_small _ _ hn]
      refine ⟨[], UInt8.ofNat n, rfl, by simp, ?_, by simp, ?_, by simp, by simp⟩
      · simp; omega
      · simp [val7]; omega
    · obtain ⟨i, c, h1, h2, h3, h4, h5, h6, h7⟩ := ih (n / 128) h.next
      rw [putF_big f n (by omega)]
      refine ⟨UInt8.ofNat (128 + n % 128) :: i, c, by rw [h1]; rfl, ?_, h3, by simpa using h4, ?_, ?_, ?_⟩
      · intro x hx
        rcases List.mem_cons.1 hx with rfl | hx
        · rw [ofNat_toNat _ (by omega)]; omega
        · exact h2 x hx
      · rw [val7, h5, ofNat_toNat _ (by omega)]; omega
      · intro _
        by_cases hi : i = []
        · subst hi
          intro hc
          rw [h1] at h5
          simp [val7] at h5
          omega
        · exact h6 hi
      · intro hl
        exact h7 (by simpa using hl)
/-- A number is read as it was written, whatever stands behind it. -/
theorem get_put (n : Nat) (h : n ≤ 18446744073709551615) (r : List UInt8) : get (put n ++ r) = some (n, (put n).length) := by
  obtain ⟨i, c, h1, h2, h3, h4, h5, h6, h7⟩ := putF_split 9 n (Fits.of64 h)
  have hp : put n = i ++ [c] := h1
  have hl : lead (put n ++ r) = i.length := by rw [hp, List.append_assoc]; exact lead_split i c r h2 h3
  have hlen : (put n).length = i.length + 1 := by rw [hp]; simp
  have hat : (put n ++ r)[i.length]'(by rw [List.length_append]; omega) = c := by simp [hp]
  have ht : (put n ++ r).take (i.length + 1) = put n := by rw [← hlen, List.take_left]
  rw [get_yes (e := i.length) (by rw [List.length_append]; omega) hl (by omega) (fun h9 => by rw [hat]; have := h7 h9; omega) (fun h0 => by rw [hat]; exact h6 (by intro hi; rw [hi] at h0; simp at h0)), ht, hlen]
  exact congrArg (fun v => some (v, i.length + 1)) h5
theorem put_small (n : Nat) (h : n < 128) : (put n).length = 1 := by unfold put; rw [putF_small _ _ h]; rfl
theorem put_two (n : Nat) (h : n < 16384) : (put n).length ≤ 2 := by
  unfold put
  by_cases h1 : n < 128
  · rw [putF_small _ _ h1]; simp
  · rw [putF_big 8 n (by omega), putF_small _ _ (by omega)]; simp

/-- How a text of steps is unpacked behind some bytes. -/
def un (s out : List UInt8) (most : Nat) : List UInt8 × Nat := unF s.length s out most
theorem unF_fuel : ∀ (fu : Nat) (s out : List UInt8) (most : Nat), s.length ≤ fu → unF fu s out most = un s out most := by
  intro fu
  induction fu using Nat.strongRecOn with
  | _ fu ih =>
    intro s out most hs
    cases s with
    | nil => rw [unF_nil, un, unF_nil]
    | cons c r =>
      obtain ⟨g, rfl⟩ : ∃ g, fu = g + 1 := ⟨fu - 1, by simp at hs; omega⟩
      unfold un
      rw [List.length_cons]
      have hne : c :: r ≠ [] := by simp
      rw [List.length_cons] at hs
      rcases hrd : rd (c :: r) out.length with _ | ⟨n, f, t⟩
      · rw [unF_bad hne hrd, unF_bad hne hrd]
      · obtain ⟨_, q2, _⟩ := rd_bounds hrd
        rw [List.length_cons] at q2
        by_cases hb : most - out.length < n
        · rw [unF_big hne hrd hb, unF_big hne hrd hb]
        · by_cases hf : f = 0
          · subst hf
            have hd : (t.drop n).length ≤ t.length := by rw [List.length_drop]; omega
            rw [unF_plain hne hrd (by omega), unF_plain hne hrd (by omega), ih g (by omega) _ _ _ (by omega)]
            by_cases hg : r.length = g
            · rw [hg, ih g (by omega) _ _ _ (by omega)]
            · rw [ih r.length (by omega) _ _ _ (by omega)]
          · rw [unF_far hne hrd hf (by omega), unF_far hne hrd hf (by omega), ih g (by omega) _ _ _ (by omega)]
            by_cases hg : r.length = g
            · rw [hg, ih g (by omega) _ _ _ (by omega)]
            · rw [ih r.length (by omega) _ _ _ (by omega)]
theorem un_nil (out : List UInt8) (most : Nat) : un [] out most = (out, 0) := unF_nil _ _ _
section
variable {most n f : Nat} {s out r : List UInt8}
theorem un_big (hs : s ≠ []) (h : rd s out.length = some (n, f, r)) (hb : most - out.length < n) : un s out most = ([], 3) := by
  obtain ⟨c, t, rfl⟩ : ∃ c t, s = c :: t := by cases s with
    | nil => exact absurd rfl hs
    | cons c t => exact ⟨c, t, rfl⟩
  exact unF_big hs h hb
theorem un_plain (hs : s ≠ []) (h : rd s out.length = some (n, 0, r)) (hb : n ≤ most - out.length) : un s out most = un (r.drop n) (out ++ r.take n) most := by
  obtain ⟨c, t, rfl⟩ : ∃ c t, s = c :: t := by cases s with
    | nil => exact absurd rfl hs
    | cons c t => exact ⟨c, t, rfl⟩
  obtain ⟨_, q2, _⟩ := rd_bounds h
  rw [List.length_cons] at q2
  unfold un
  rw [List.length_cons, unF_plain hs h hb]
  exact unF_fuel _ _ _ _ (by rw [List.length_drop]; omega)
theorem un_far (hs : s ≠ []) (h : rd s out.length = some (n, f, r)) (hf : f ≠ 0) (hb : n ≤ most - out.length) : un s out most = un r (back n f out) most := by
  obtain ⟨c, t, rfl⟩ : ∃ c t, s = c :: t := by cases s with
    | nil => exact absurd rfl hs
    | cons c t => exact ⟨c, t, rfl⟩
  obtain ⟨_, q2, _⟩ := rd_bounds h
  rw [List.length_cons] at q2
  unfold un
  rw [List.length_cons, unF_far hs h hf hb]
  exact unF_fuel _ _ _ _ (by omega)
end

/-- The text e leads from the bytes o to the bytes t; with fewer bytes let, it is told. -/
def Leads (e o t : List UInt8) : Prop :=
  o.length ≤ t.length ∧ (∀ r most, t.length ≤ most → un (e ++ r) o most = un r t most) ∧ ∀ r most, o.length ≤ most → most < t.length → un (e ++ r) o most = ([], 3)
theorem Leads.refl (o : List UInt8) : Leads [] o o := ⟨Nat.le_refl _, fun r most _ => rfl, fun r most h1 h2 => absurd h2 (by omega)⟩
theorem Leads.trans {e e' o t t' : List UInt8} (h : Leads e o t) (h' : Leads e' t t') : Leads (e ++ e') o t' := by
  refine ⟨Nat.le_trans h.1 h'.1, fun r most hm => ?_, fun r most h1 h2 => ?_⟩
  · rw [List.append_assoc, h.2.1 _ _ (Nat.le_trans h'.1 hm), h'.2.1 _ _ hm]
  · rw [List.append_assoc]
    rcases Nat.lt_or_ge most t.length with hlt | hge
    · exact h.2.2 _ _ h1 hlt
    · rw [h.2.1 _ _ hge, h'.2.2 _ _ hge h2]
theorem put_ne (n : Nat) (r : List UInt8) : put n ++ r ≠ [] := by
  intro h
  have h1 := congrArg List.length h
  have h2 : 0 < (put n).length := putF_pos 9 n
  rw [List.length_append, List.length_nil] at h1
  omega
/-- A step that copies bytes as they stand. -/
theorem Leads.plain (t o : List UInt8) (h0 : t ≠ []) (h1 : 2 * t.length ≤ 18446744073709551615) : Leads (put (2 * t.length) ++ t) o (o ++ t) := by
  have hpos : 0 < t.length := by
    cases t with
    | nil => exact absurd rfl h0
    | cons c r => simp
  have hrd : ∀ r, rd (put (2 * t.length) ++ t ++ r) o.length = some (t.length, 0, t ++ r) := by
    intro r
    have hg := get_put (2 * t.length) h1 (t ++ r)
    rw [← List.append_assoc] at hg
    have hd : (put (2 * t.length) ++ t ++ r).drop (put (2 * t.length)).length = t ++ r := by rw [List.append_assoc, List.drop_left]
    rw [rd_plain hg (by omega) (by omega) (by rw [hd, List.length_append]; omega), hd]
    congr 2
    omega
  have hne : ∀ r, put (2 * t.length) ++ t ++ r ≠ [] := fun r => by rw [List.append_assoc]; exact put_ne _ _
  refine ⟨by rw [List.length_append]; omega, fun r most hm => ?_, fun r most hm h2 => ?_⟩
  · rw [List.length_append] at hm
    rw [un_plain (hne r) (hrd r) (by omega), List.drop_left, List.take_left]
  · rw [List.length_append] at h2
    exact un_big (hne r) (hrd r) (by omega)
/-- A step that copies from back. -/
theorem Leads.far (n f : Nat) (o : List UInt8) (h0 : 4 ≤ n) (h1 : 2 * n + 1 ≤ 18446744073709551615) (h2 : 1 ≤ f) (h3 : f ≤ 65535) (h4 : f ≤ o.length) : Leads (put (2 * n + 1) ++ put f) o (back n f o) := by
  have hrd : ∀ r, rd (put (2 * n + 1) ++ put f ++ r) o.length = some (n, f, r) := by
    intro r
    have hg := get_put (2 * n + 1) h1 (put f ++ r)
    rw [← List.append_assoc] at hg
    have hd : (put (2 * n + 1) ++ put f ++ r).drop (put (2 * n + 1)).length = put f ++ r := by rw [List.append_assoc, List.drop_left]
    have hg2 := get_put f (by omega) r
    rw [rd_far hg (by omega) (by rw [hd]; exact hg2) (by omega) h2 h3 h4, hd, List.drop_left]
    congr 2
    omega
  have hne : ∀ r, put (2 * n + 1) ++ put f ++ r ≠ [] := fun r => by rw [List.append_assoc]; exact put_ne _ _
  have hlen := back_length n f o
  refine ⟨by omega, fun r most hm => ?_, fun r most hm h5 => ?_⟩
  · rw [un_far (hne r) (hrd r) (by omega) (by omega)]
  · exact un_big (hne r) (hrd r) (by omega)
/-- Bytes that are alike at two places are copied from the first. -/
theorem back_alike (s : List UInt8) (a i : Nat) (ha : a < i) : ∀ n, i + n ≤ s.length → (∀ j (h : i + j < s.length), j < n → s[a + j]'(by omega) = s[i + j]) → back n (i - a) (s.take i) = s.take (i + n) := by
  have key : ∀ n k, i + k + n ≤ s.length → (∀ j (h : i + j < s.length), j < k + n → s[a + j]'(by omega) = s[i + j]) → back n (i - a) (s.take (i + k)) = s.take (i + k + n) := by
    intro n
    induction n with
    | zero => intro k _ _; rfl
    | succ n ih =>
      intro k hk hj
      have hl : (s.take (i + k)).length = i + k := by rw [List.length_take]; omega
      have hx : (s.take (i + k)).getD ((s.take (i + k)).length - (i - a)) 0 = s[i + k] := by
        rw [hl, show i + k - (i - a) = a + k from by omega, getD_lt (by omega), List.getElem_take]
        exact hj k (by omega) (by omega)
      rw [back, hx, ← List.take_succ_eq_append_getElem (by omega)]
      have := ih (k + 1) (by omega) (fun j h hjn => hj j h (by omega))
      rw [show i + k + (n + 1) = i + (k + 1) + n from by omega]
      exact this
  intro n hn hj
  have := key n 0 (by omega) (fun j h hjn => hj j h (by omega))
  simpa using this
end Go.Proofs.YtoekdiklbfdpiaaDoor
