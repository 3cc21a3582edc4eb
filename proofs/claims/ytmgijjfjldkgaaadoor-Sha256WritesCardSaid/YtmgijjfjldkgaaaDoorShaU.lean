/- The walk of layer 2's reference: block. No condition. -/
import Derived.Test.YtmgijjfjldkgaaaDoorShaT
namespace Go.Proofs.YtmgijjfjldkgaaaDoor
open Go.RowKit
attribute [local go_sem ↓] Go.wp_at_zero Go.wp_at_succ

theorem turn_at (x n : Nat) (m : Int) (hm : m = (n : Int)) (hx : x < 4294967296) (h0 : 1 ≤ n) (h1 : n ≤ 31) (w : World) :
    Calls Tryd.prog 30 #[.int .u32 x, .int .u64 m] w fun e w' => e = .returned (.int .u32 (rotr x n)) ∧ w = w' := hm ▸ turn_calls x n hx h0 h1 w
def zeros (n : Nat) : List Nat := List.replicate n 0
theorem zeros_length (n : Nat) : (zeros n).length = n := List.length_replicate
theorem first_step (b : List UInt8) (k : Nat) (hk : k < 16) : (first b k ++ List.replicate (64 - k) 0).set k (be4 b k) = first b (k + 1) ++ List.replicate (64 - (k + 1)) 0 := by
  have hl := first_length b k
  have := set_behind (first b k) (64 - k) (be4 b k) (by omega)
  rw [hl] at this
  rw [this, show 64 - k - 1 = 64 - (k + 1) from by omega]
  congr 1
  simp [first, List.range_succ]
theorem at_byte (b : List UInt8) (i : Nat) (h : i < b.length) : ((b[i]).toNat : Nat) = byteAt b i := by
  simp [byteAt, List.getD, List.getElem?_eq_getElem h]
theorem blk_new4 (w : World) (o1 o2 o3 : Obj) (t : TypeId) (cs : Array Value) : Blk ((((w.alloc o1).alloc o2).alloc o3).alloc (.cells cs t)) (w.heap.size + 3) t cs := by
  have := Blk.new (((w.alloc o1).alloc o2).alloc o3) t cs
  rwa [show (((w.alloc o1).alloc o2).alloc o3).heap.size = w.heap.size + 3 from by simp] at this
theorem quiet_left {P : Program} {f : FuncId} {args : Array Value} {w : World} {n : Nat} {v : Value}
    (h : Calls P f args (w.drewN n) fun e w' => e = .returned v ∧ w.drewN n = w') : Calls P f args (w.drewN n) fun e w'' => e = .returned v ∧ ∃ m, w'' = w.drewN m :=
  h.mono fun _ _ ⟨he, hm⟩ => ⟨he, n, hm.symm⟩
set_option maxRecDepth 100000 in
set_option maxHeartbeats 4000000 in
theorem refBlock_calls (s0 : H8) (hs0 : s0.Fit) (b : List UInt8) (hb : b.length = 64) (w : World) :
    Calls Tryd.prog 19 #[.agg (u32s s0.list), .string (B b), .agg (u32s K256)] w fun e w' => e = .returned (.agg (u32s (blockOf s0 b).list)) ∧ Below w.heap.size w w' := by
  obtain ⟨KK, hKK⟩ : ∃ KK, Hid (K256 = KK) := ⟨_, rfl⟩
  rw [hKK.out]
  have hKl : KK.length = 64 := by rw [← hKK.out]; exact K256_length
  go_enter Tryd.func19, Tryd.ntmps19
  have hv0 := blk_new4 w (.cells (u32s s0.list) 42) (.cells (u32s KK) 45) (.cells (u32s (List.replicate 8 0)) 42) 45 (u32s (zeros 64))
  have hi' : (Tryd.prog.info? 45).map (·.size) = some (u32s (zeros 64)).size := by rw [u32s_size, zeros_length]; exact sz64
  have hall' := u32s_one (zeros 64)
  go_wp2_with (first
    | (refine wpList_store_row rfl 45 (.tmp 7) (.tmp 17) rfl (w.heap.size + 3) (u32s (zeros 64)) rfl rfl _ _ hv0 hi' rfl hall' ?_))
  have h1 := setRow_heap _ _ _ (u32s (zeros 64)) _ _ hv0
  obtain ⟨wz, hwz⟩ : ∃ wz, wz = World.setRow ((((w.alloc (.cells (u32s s0.list) 42)).alloc (.cells (u32s KK) 45)).alloc (.cells (u32s (List.replicate 8 0)) 42)).alloc (.cells (u32s (zeros 64)) 45)) (w.heap.size + 3) (u32s (zeros 64)) := ⟨_, rfl⟩
  have b1 : Blk wz (w.heap.size + 1 + 1 + 1) 45 (u32s (first b 0 ++ zeros (64 - 0))) := by rw [hwz]; exact h1
  have b2 : Blk wz w.heap.size 42 (u32s s0.list) := by
    rw [hwz]; unfold Blk; rw [setRow_other _ _ _ _ (by omega)]; exact (((Blk.new w _ _).alloc _).alloc _).alloc _
  have b3 : Blk wz (w.heap.size + 1) 45 (u32s KK) := by
    rw [hwz]; unfold Blk; rw [setRow_other _ _ _ _ (by omega)]; exact ((blk_new2 w _ _ _).alloc _).alloc _
  have b4 : Blk wz (w.heap.size + 1 + 1) 42 (u32s (List.replicate 8 0)) := by
    rw [hwz]; unfold Blk; rw [setRow_other _ _ _ _ (by omega)]; exact (blk_new3 w _ _ _ _).alloc _
  have b5 : Below w.heap.size w wz := by
    rw [hwz]
    exact below_setRow (((((Below.refl _ _).alloc (Nat.le_refl _) _).alloc (by simp) _).alloc (by simp; omega) _).alloc (by simp; omega) _) (by omega) _
  clear h1 hv0
  obtain ⟨g, hg⟩ : ∃ g, g = w.heap.size := ⟨_, rfl⟩
  go_loopw [8] (fun i wr => ∃ k : Nat, i = .int .i64 k ∧ k ≤ 16 ∧ Blk wr (w.heap.size + 1 + 1 + 1) 45 (u32s (first b k ++ zeros (64 - k))) ∧ Blk wr w.heap.size 42 (u32s s0.list) ∧ Blk wr (w.heap.size + 1) 45 (u32s KK) ∧ Blk wr (w.heap.size + 1 + 1) 42 (u32s (List.replicate 8 0)) ∧ Below w.heap.size w wr) (fun i _ => 16 - (intOf i).toNat)
  case atStart => exact ⟨0, rfl, by omega, hwz ▸ b1, hwz ▸ b2, hwz ▸ b3, hwz ▸ b4, hwz ▸ b5⟩
  case round =>
    clear b1 b2 b3 b4 b5 hwz
    obtain ⟨k, rfl, hk, h1, h2, h3, h4, hbel⟩ := hrel
    have hbs := h1.lt
    by_cases hlt : k < 16
    · have hki : (k : Int) < 16 := by omega
      have hcz : wr.cell? ⟨w.heap.size + 1 + 1 + 1, k, none⟩ = some (.int .u32 ((first b k ++ zeros (64 - k)).getD k 0 : Nat)) := by
        rw [h1.cell, u32s_get _ _ (by rw [List.length_append, first_length, zeros_length]; omega)]
      have hf := h1.frozen k
      have hset := Lib.hid (first_step b k hlt)
      have y0 := at_byte b (4 * k) (by omega)
      have y1 := at_byte b (4 * k + 1) (by omega)
      have y2 := at_byte b (4 * k + 2) (by omega)
      have y3 := at_byte b (4 * k + 3) (by omega)
      have l0 := byteAt_lt b (4 * k)
      have l1 := byteAt_lt b (4 * k + 1)
      have l2 := byteAt_lt b (4 * k + 2)
      have l3 := byteAt_lt b (4 * k + 3)
      have hbe : Hid (be4 b k = byteAt b (4 * k) * 16777216 + byteAt b (4 * k + 1) * 65536 + byteAt b (4 * k + 2) * 256 + byteAt b (4 * k + 3)) := rfl
      generalize (first b k ++ zeros (64 - k)).getD k 0 = oz at *
      generalize byteAt b (4 * k) = c0 at *
      generalize byteAt b (4 * k + 1) = c1 at *
      generalize byteAt b (4 * k + 2) = c2 at *
      generalize byteAt b (4 * k + 3) = c3 at *
      have i0 : (4 * (k : Int)) < 64 := by omega
      have j0 : 0 ≤ (4 * (k : Int)) := by omega
      have i1 : (4 * (k : Int) + 1) < 64 := by omega
      have j1 : 0 ≤ (4 * (k : Int) + 1) := by omega
      have i2 : (4 * (k : Int) + 2) < 64 := by omega
      have j2 : 0 ≤ (4 * (k : Int) + 2) := by omega
      have i3 : (4 * (k : Int) + 3) < 64 := by omega
      have j3 : 0 ≤ (4 * (k : Int) + 3) := by omega
      have hk64 : (k : Int) < 64 := by omega
      go_wp2
      go_region
      go_wp2
      have hv : (c0 : Int) * 16777216 + (c1 : Int) * 65536 + (c2 : Int) * 256 + (c3 : Int) = ((be4 b k : Nat) : Int) := by rw [hbe.out]; simp
      rw [hv]
      have hn := (h1.set_ k (.int .u32 (be4 b k : Nat))).drew
      rw [u32s_set, show (first b k ++ zeros (64 - k)).set k (be4 b k) = first b (k + 1) ++ zeros (64 - (k + 1)) from hset.out] at hn
      go_roundw
      case rel => exact ⟨k + 1, by go_num, by omega, hn, (h2.far (by simp; omega) _).drew, (h3.far (by simp) _).drew, (h4.far (by simp) _).drew, (hbel.setCell (by simp; omega) _).drew⟩
      case measure => simp [intOf]; omega
    · have hk16 : k = 16 := by omega
      have hki : ¬ (k : Int) < 16 := by omega
      rw [hk16] at h1
      clear hk16
      have hgoal : Hid (sched 48 (first b 16) = wordsOf b) := rfl
      go_wp2
      go_loopw [9] (fun i wr => ∃ (t : Nat) (l : List Nat), i = .int .i64 t ∧ 16 ≤ t ∧ t ≤ 64 ∧ Hid (l.length = t) ∧ Hid (Fit32 l) ∧ Hid (sched (64 - t) l = wordsOf b) ∧ Blk wr (w.heap.size + 1 + 1 + 1) 45 (u32s (l ++ zeros (64 - t))) ∧ Blk wr w.heap.size 42 (u32s s0.list) ∧ Blk wr (w.heap.size + 1) 45 (u32s KK) ∧ Blk wr (w.heap.size + 1 + 1) 42 (u32s (List.replicate 8 0)) ∧ Below w.heap.size w wr) (fun i _ => 64 - (intOf i).toNat)
      case atStart => exact ⟨16, first b 16, rfl, by omega, by omega, first_length b 16, first_fit b 16, hgoal, h1, h2, h3, h4, hbel⟩
      case round =>
        clear h1 h2 h3 h4 hbel hbs
        obtain ⟨t, l, rfl, ht0, ht1, hlen, hfit, hsc, h1, h2, h3, h4, hbel⟩ := hrel
        have hbs := h1.lt
        by_cases hlt : t < 64
        · have hti : (t : Int) < 64 := by omega
          have get (j : Nat) (hj : j < t) : wr.cell? ⟨w.heap.size + 1 + 1 + 1, j, none⟩ = some (.int .u32 (l.getD j 0 : Nat)) := by
            rw [h1.cell, u32s_get _ _ (by rw [List.length_append, hlen.out, zeros_length]; omega), getD_left (by rw [hlen.out]; exact hj)]
          have c16 := get (t - 16) (by omega)
          have c15 := get (t - 15) (by omega)
          have c7 := get (t - 7) (by omega)
          have c2 := get (t - 2) (by omega)
          have ct : wr.cell? ⟨w.heap.size + 1 + 1 + 1, t, none⟩ = some (.int .u32 ((l ++ zeros (64 - t)).getD t 0 : Nat)) := by
            rw [h1.cell, u32s_get _ _ (by rw [List.length_append, hlen.out, zeros_length]; omega)]
          have hft := h1.frozen t
          have b16 := hfit.out (t - 16)
          have b15 := hfit.out (t - 15)
          have b7 := hfit.out (t - 7)
          have b2 := hfit.out (t - 2)
          have hnext : Hid (nextW l = (l.getD (t - 16) 0 + l.getD (t - 7) 0 + sig0 (l.getD (t - 15) 0) + sig1 (l.getD (t - 2) 0)) % 4294967296) := by
            unfold nextW; rw [hlen.out]; rfl
          clear get
          generalize l.getD (t - 16) 0 = x16 at *
          generalize l.getD (t - 15) 0 = x15 at *
          generalize l.getD (t - 7) 0 = x7 at *
          generalize l.getD (t - 2) 0 = x2 at *
          generalize (l ++ zeros (64 - t)).getD t 0 = old at *
          obtain ⟨u16, i16, v16⟩ : ∃ u : Nat, IntKind.i64.wrap ((t : Int) - 16) = (u : Int) ∧ u = t - 16 := ⟨t - 16, by rw [IntWalk.i64_in _ (by omega)]; omega, rfl⟩
          rw [← v16] at c16
          have m16 : (u16 : Int) < 64 := by omega
          have n16 : u16 < 64 := by omega
          have v16h := Lib.hid v16
          clear v16
          obtain ⟨u15, i15, v15⟩ : ∃ u : Nat, IntKind.i64.wrap ((t : Int) - 15) = (u : Int) ∧ u = t - 15 := ⟨t - 15, by rw [IntWalk.i64_in _ (by omega)]; omega, rfl⟩
          rw [← v15] at c15
          have m15 : (u15 : Int) < 64 := by omega
          have n15 : u15 < 64 := by omega
          have v15h := Lib.hid v15
          clear v15
          obtain ⟨u7, i7, v7⟩ : ∃ u : Nat, IntKind.i64.wrap ((t : Int) - 7) = (u : Int) ∧ u = t - 7 := ⟨t - 7, by rw [IntWalk.i64_in _ (by omega)]; omega, rfl⟩
          rw [← v7] at c7
          have m7 : (u7 : Int) < 64 := by omega
          have n7 : u7 < 64 := by omega
          have v7h := Lib.hid v7
          clear v7
          obtain ⟨u2, i2, v2⟩ : ∃ u : Nat, IntKind.i64.wrap ((t : Int) - 2) = (u : Int) ∧ u = t - 2 := ⟨t - 2, by rw [IntWalk.i64_in _ (by omega)]; omega, rfl⟩
          rw [← v2] at c2
          have m2 : (u2 : Int) < 64 := by omega
          have n2 : u2 < 64 := by omega
          have v2h := Lib.hid v2
          clear v2
          have r1 := rotr_lt (n := 7) b15 (by omega) (by omega)
          have r2 := rotr_lt (n := 18) b15 (by omega) (by omega)
          have r3 := rotr_lt (n := 17) b2 (by omega) (by omega)
          have r4 := rotr_lt (n := 19) b2 (by omega) (by omega)
          have e1 : bits .xor .u32 (rotr x15 7 : Int) (rotr x15 18 : Int) = ((rotr x15 7 ^^^ rotr x15 18 : Nat) : Int) := u32_xor_nat _ _ r1 r2
          have e2 : bits .xor .u32 ((rotr x15 7 ^^^ rotr x15 18 : Nat) : Int) ((x15 : Int) / 8) = ((sig0 x15 : Nat) : Int) := by
            rw [show (x15 : Int) / 8 = ((x15 / 8 : Nat) : Int) from by omega]; exact u32_xor_nat _ _ (xor_lt r1 r2) (by omega)
          have e3 : bits .xor .u32 (rotr x2 17 : Int) (rotr x2 19 : Int) = ((rotr x2 17 ^^^ rotr x2 19 : Nat) : Int) := u32_xor_nat _ _ r3 r4
          have e4 : bits .xor .u32 ((rotr x2 17 ^^^ rotr x2 19 : Nat) : Int) ((x2 : Int) / 1024) = ((sig1 x2 : Nat) : Int) := by
            rw [show (x2 : Int) / 1024 = ((x2 / 1024 : Nat) : Int) from by omega]; exact u32_xor_nat _ _ (xor_lt r3 r4) (by omega)
          go_wp2
          go_region_held3 (fun w' => w'.cell? ⟨w.heap.size + 1 + 1 + 1, u15, none⟩ = some (.int .u32 (x15 : Int))) (first | exact c15 | go_keep)
            (first
              | (go_at_call 30; (with_reducible refine (turn_at x15 7 7 rfl b15 (by omega) (by omega) _).mono ?_); rintro e w1 ⟨rfl, rfl⟩)
              | (go_at_call 30; (with_reducible refine (turn_at x15 18 18 rfl b15 (by omega) (by omega) _).mono ?_); rintro e w1 ⟨rfl, rfl⟩))
          go_wp2
          have c2d : wr.drew.cell? ⟨w.heap.size + 1 + 1 + 1, u2, none⟩ = some (.int .u32 (x2 : Int)) := c2
          go_region_held3 (fun w' => w'.cell? ⟨w.heap.size + 1 + 1 + 1, u2, none⟩ = some (.int .u32 (x2 : Int))) (first | exact c2 | exact c2d | go_keep)
            (first
              | (go_at_call 30; (with_reducible refine (turn_at x2 17 17 rfl b2 (by omega) (by omega) _).mono ?_); rintro e w1 ⟨rfl, rfl⟩)
              | (go_at_call 30; (with_reducible refine (turn_at x2 19 19 rfl b2 (by omega) (by omega) _).mono ?_); rintro e w1 ⟨rfl, rfl⟩))
          go_wp2
          have c16d : wr.drew.drew.cell? ⟨w.heap.size + 1 + 1 + 1, u16, none⟩ = some (.int .u32 (x16 : Int)) := c16
          have c7d : wr.drew.drew.cell? ⟨w.heap.size + 1 + 1 + 1, u7, none⟩ = some (.int .u32 (x7 : Int)) := c7
          have ctd : wr.drew.drew.cell? ⟨w.heap.size + 1 + 1 + 1, t, none⟩ = some (.int .u32 (old : Int)) := ct
          have h1d := h1.drew.drew
          have h2d := h2.drew.drew
          have h3d := h3.drew.drew
          have h4d := h4.drew.drew
          have hbeld := hbel.drew.drew
          have hftd : wr.drew.drew.frozen? ⟨w.heap.size + 1 + 1 + 1, t, none⟩ = false := hft
          clear h1 h2 h3 h4 hbel hft c16 c15 c7 c2 ct c2d e1 e2 e3 e4 r1 r2 r3 r4
          generalize wr.drew.drew = wo at *
          obtain ⟨nx, hval, hnx⟩ : ∃ nx : Nat, IntKind.u32.wrap (IntKind.u32.wrap (IntKind.u32.wrap ((x16 : Int) + ((sig0 x15 : Nat) : Int)) + (x7 : Int)) + ((sig1 x2 : Nat) : Int)) = (nx : Int) ∧ nx = nextW l := by
            refine ⟨nextW l, ?_, rfl⟩
            rw [hnext.out, IntKind.wrap_u32, IntKind.wrap_u32, IntKind.wrap_u32]
            omega
          have hnxh := Lib.hid hnx
          clear hnx
          have ne16 : u16 ≠ t := by have := v16h.out; omega
          have ne7 : u7 ≠ t := by have := v7h.out; omega
          go_region_held3 (fun w' => w'.cell? ⟨w.heap.size + 1 + 1 + 1, u16, none⟩ = some (.int .u32 (x16 : Int)) ∧ w'.cell? ⟨w.heap.size + 1 + 1 + 1, u7, none⟩ = some (.int .u32 (x7 : Int))) (first | exact ⟨c16d, c7d⟩ | exact ⟨keep_set c16d ne16, keep_set c7d ne7⟩ | go_keep) (fail)
          go_wp2
          have hn1 : Blk ((wo.setCell ⟨w.heap.size + 1 + 1 + 1, t, none⟩ (.int .u32 (nx : Int))).drew) (w.heap.size + 1 + 1 + 1) 45 (u32s ((l ++ [nx]) ++ zeros (64 - (t + 1)))) := by
            have := (h1d.set_ t (.int .u32 (nx : Int)))
            have hs : (l ++ zeros (64 - t)).set l.length nx = (l ++ [nx]) ++ zeros (64 - t - 1) := set_behind l (64 - t) nx (by omega)
            rw [hlen.out] at hs
            rw [u32s_set, hs, show 64 - t - 1 = 64 - (t + 1) from by omega] at this
            exact this.drew
          have hnlen : Hid ((l ++ [nx]).length = t + 1) := by rw [List.length_append, hlen.out]; rfl
          have hnfit : Hid (Fit32 (l ++ [nx])) := hfit.out.append (by rw [hnxh.out]; exact nextW_lt l)
          have hnsc : Hid (sched (64 - (t + 1)) (l ++ [nx]) = wordsOf b) := by
            rw [← hsc.out, show 64 - t = (64 - (t + 1)) + 1 from by omega, sched, ← hnxh.out]; rfl
          go_roundw
          case rel => exact ⟨t + 1, l ++ [nx], by go_num, by omega, by omega, hnlen, hnfit, hnsc, hn1, (h2d.far (by simp; omega) _).drew, (h3d.far (by simp) _).drew, (h4d.far (by simp) _).drew, (hbeld.setCell (by simp; omega) _).drew⟩
          case measure => simp [intOf]; omega
        · have ht64 : t = 64 := by omega
          have hti : ¬ (t : Int) < 64 := by omega
          have hl : l = wordsOf b := by have := hsc.out; rw [ht64] at this; exact this
          rw [ht64, hl, show zeros (64 - 64) = [] from rfl, List.append_nil] at h1
          clear ht64 hl hsc hfit hlen
          have q0 := Blk.new wr 42 (u32s (List.replicate 8 0))
          have hi8 : (Tryd.prog.info? 42).map (·.size) = some (u32s s0.list).size := by rw [u32s_list_size]; exact sz8
          have hall := u32s_one s0.list
          have hold : (u32s (List.replicate 8 0)).size = (u32s s0.list).size := by rw [u32s_list_size]; rfl
          go_wp2_with (first
            | (refine wpList_load_row rfl 42 (.tmp 3) rfl w.heap.size rfl _ _ _ _ h2 Tryd.underlying42 rfl hi8 ?_)
            | (refine wpList_store_row rfl 42 (.tmp 12) (.tmp 106) rfl wr.heap.size (u32s s0.list) rfl rfl _ _ q0 hi8 hold hall ?_))
          obtain ⟨vb, hvb⟩ : ∃ vb, vb = wr.heap.size := ⟨_, rfl⟩
          obtain ⟨wz, hwz⟩ : ∃ wz, wz = World.setRow (wr.alloc (.cells (u32s (List.replicate 8 0)) 42)) wr.heap.size (u32s s0.list) := ⟨_, rfl⟩
          have p0 : Blk wz vb 42 (u32s s0.list) := by rw [hwz, hvb]; exact setRow_heap _ _ _ _ _ _ q0
          have p1 : Blk wz (w.heap.size + 1 + 1 + 1) 45 (u32s (wordsOf b)) := by rw [hwz]; unfold Blk; rw [setRow_other _ _ _ _ (by omega)]; exact h1.alloc _
          have p2 : Blk wz w.heap.size 42 (u32s s0.list) := by rw [hwz]; unfold Blk; rw [setRow_other _ _ _ _ (by omega)]; exact h2.alloc _
          have p3 : Blk wz (w.heap.size + 1) 45 (u32s KK) := by rw [hwz]; unfold Blk; rw [setRow_other _ _ _ _ (by omega)]; exact h3.alloc _
          have p4 : Blk wz (w.heap.size + 1 + 1) 42 (u32s (List.replicate 8 0)) := by rw [hwz]; unfold Blk; rw [setRow_other _ _ _ _ (by omega)]; exact h4.alloc _
          have p5 : Below w.heap.size w wz := by rw [hwz]; exact below_setRow (hbel.alloc (by omega) _) (by omega) _
          have hvw : w.heap.size + 1 + 1 + 1 < vb := by omega
          clear h1 h2 h3 h4 hbel q0
          go_loopw [13] (fun i wr => ∃ (t : Nat) (s : H8), i = .int .i64 t ∧ t ≤ 64 ∧ Hid (s = after (wordsOf b) s0 t) ∧ s.Fit ∧ Blk wr vb 42 (u32s s.list) ∧ Blk wr (w.heap.size + 1 + 1 + 1) 45 (u32s (wordsOf b)) ∧ Blk wr w.heap.size 42 (u32s s0.list) ∧ Blk wr (w.heap.size + 1) 45 (u32s KK) ∧ Blk wr (w.heap.size + 1 + 1) 42 (u32s (List.replicate 8 0)) ∧ Below w.heap.size w wr) (fun i _ => 64 - (intOf i).toNat)
          case atStart => exact ⟨0, s0, rfl, by omega, rfl, hs0, hwz ▸ p0, hwz ▸ p1, hwz ▸ p2, hwz ▸ p3, hwz ▸ p4, hwz ▸ p5⟩
          case round =>
            rw [← hvb]
            clear p0 p1 p2 p3 p4 p5 hwz hbs hvb
            obtain ⟨t, s, rfl, ht, hst, hfit, h0, h1, h2, h3, h4, hbel⟩ := hrel
            have hbs := h0.lt
            by_cases hlt : t < 64
            · have hti : (t : Int) < 64 := by omega
              have hnext : Hid (after (wordsOf b) s0 (t + 1) = rnd s (KK.getD t 0) ((wordsOf b).getD t 0)) := by rw [← hKK.out, hst.out]; rfl
              have bw := wordsOf_fit b t
              have bk : KK.getD t 0 < 4294967296 := by rw [← hKK.out]; exact K256_fit t
              have ck : wr.cell? ⟨w.heap.size + 1, t, none⟩ = some (.int .u32 (KK.getD t 0 : Nat)) := by rw [h3.cell, u32s_get _ _ (by omega)]
              have cw : wr.cell? ⟨w.heap.size + 1 + 1 + 1, t, none⟩ = some (.int .u32 ((wordsOf b).getD t 0 : Nat)) := by rw [h1.cell, u32s_get _ _ (by rw [wordsOf_length]; omega)]
              generalize (wordsOf b).getD t 0 = wt at *
              generalize KK.getD t 0 = kt at *
              obtain ⟨xa, xb, xc, xd, xe, xf, xg, xh⟩ := s
              obtain ⟨ba, bb, bc, bd, be, bf, bg, bh⟩ := hfit
              simp only at ba bb bc bd be bf bg bh
              have c0 : wr.cell? ⟨vb, 0, none⟩ = some (.int .u32 (xa : Int)) := h0.cell 0
              have c1 : wr.cell? ⟨vb, 1, none⟩ = some (.int .u32 (xb : Int)) := h0.cell 1
              have c2 : wr.cell? ⟨vb, 2, none⟩ = some (.int .u32 (xc : Int)) := h0.cell 2
              have c3 : wr.cell? ⟨vb, 3, none⟩ = some (.int .u32 (xd : Int)) := h0.cell 3
              have c4 : wr.cell? ⟨vb, 4, none⟩ = some (.int .u32 (xe : Int)) := h0.cell 4
              have c5 : wr.cell? ⟨vb, 5, none⟩ = some (.int .u32 (xf : Int)) := h0.cell 5
              have c6 : wr.cell? ⟨vb, 6, none⟩ = some (.int .u32 (xg : Int)) := h0.cell 6
              have c7 : wr.cell? ⟨vb, 7, none⟩ = some (.int .u32 (xh : Int)) := h0.cell 7
              have r6 := rotr_lt (n := 6) be (by omega) (by omega)
              have r11 := rotr_lt (n := 11) be (by omega) (by omega)
              have r25 := rotr_lt (n := 25) be (by omega) (by omega)
              have r2 := rotr_lt (n := 2) ba (by omega) (by omega)
              have r13 := rotr_lt (n := 13) ba (by omega) (by omega)
              have r22 := rotr_lt (n := 22) ba (by omega) (by omega)
              have e1 : bits .xor .u32 (rotr xe 6 : Int) (rotr xe 11 : Int) = ((rotr xe 6 ^^^ rotr xe 11 : Nat) : Int) := u32_xor_nat _ _ r6 r11
              have e2 : bits .xor .u32 ((rotr xe 6 ^^^ rotr xe 11 : Nat) : Int) (rotr xe 25 : Int) = ((sum1 xe : Nat) : Int) := u32_xor_nat _ _ (xor_lt r6 r11) r25
              have e3 : bits .and .u32 (xe : Int) (xf : Int) = ((xe &&& xf : Nat) : Int) := u32_and_nat _ _ be bf
              have e4 : bits .xor .u32 IntKind.u32.max (xe : Int) = ((4294967295 ^^^ xe : Nat) : Int) := u32_xor_nat 4294967295 _ (by omega) be
              have bn : 4294967295 ^^^ xe < 4294967296 := xor_lt (by omega) be
              have e5 : bits .and .u32 ((4294967295 ^^^ xe : Nat) : Int) (xg : Int) = (((4294967295 ^^^ xe) &&& xg : Nat) : Int) := u32_and_nat _ _ bn bg
              have e6 : bits .xor .u32 ((xe &&& xf : Nat) : Int) (((4294967295 ^^^ xe) &&& xg : Nat) : Int) = (((xe &&& xf) ^^^ ((4294967295 ^^^ xe) &&& xg) : Nat) : Int) := u32_xor_nat _ _ (and_lt bf) (and_lt bg)
              obtain ⟨X, hX, hXe⟩ : ∃ X : Nat, IntKind.u32.wrap (IntKind.u32.wrap (IntKind.u32.wrap (IntKind.u32.wrap ((xh : Int) + ((sum1 xe : Nat) : Int)) + (((xe &&& xf) ^^^ ((4294967295 ^^^ xe) &&& xg) : Nat) : Int)) + (kt : Int)) + (wt : Int)) = (X : Int) ∧ X = rndX ⟨xa, xb, xc, xd, xe, xf, xg, xh⟩ kt wt := by
                refine ⟨_, ?_, rfl⟩
                unfold rndX
                generalize ((xe &&& xf) ^^^ ((4294967295 ^^^ xe) &&& xg)) = ch
                simp only [IntKind.wrap_u32]
                omega
              have hXh := Lib.hid hXe
              clear hXe
              have f1 : bits .xor .u32 (rotr xa 2 : Int) (rotr xa 13 : Int) = ((rotr xa 2 ^^^ rotr xa 13 : Nat) : Int) := u32_xor_nat _ _ r2 r13
              have f2 : bits .xor .u32 ((rotr xa 2 ^^^ rotr xa 13 : Nat) : Int) (rotr xa 22 : Int) = ((sum0 xa : Nat) : Int) := u32_xor_nat _ _ (xor_lt r2 r13) r22
              have f3 : bits .and .u32 (xa : Int) (xb : Int) = ((xa &&& xb : Nat) : Int) := u32_and_nat _ _ ba bb
              have f4 : bits .and .u32 (xa : Int) (xc : Int) = ((xa &&& xc : Nat) : Int) := u32_and_nat _ _ ba bc
              have f5 : bits .and .u32 (xb : Int) (xc : Int) = ((xb &&& xc : Nat) : Int) := u32_and_nat _ _ bb bc
              have f6 : bits .xor .u32 ((xa &&& xb : Nat) : Int) ((xa &&& xc : Nat) : Int) = (((xa &&& xb) ^^^ (xa &&& xc) : Nat) : Int) := u32_xor_nat _ _ (and_lt bb) (and_lt bc)
              have f7 : bits .xor .u32 (((xa &&& xb) ^^^ (xa &&& xc) : Nat) : Int) ((xb &&& xc : Nat) : Int) = (((xa &&& xb) ^^^ (xa &&& xc) ^^^ (xb &&& xc) : Nat) : Int) := u32_xor_nat _ _ (xor_lt (and_lt bb) (and_lt bc)) (and_lt bc)
              obtain ⟨Y, hY, hYe⟩ : ∃ Y : Nat, IntKind.u32.wrap (((sum0 xa : Nat) : Int) + (((xa &&& xb) ^^^ (xa &&& xc) ^^^ (xb &&& xc) : Nat) : Int)) = (Y : Int) ∧ Y = rndY ⟨xa, xb, xc, xd, xe, xf, xg, xh⟩ := by
                refine ⟨_, ?_, rfl⟩
                unfold rndY
                generalize (xa &&& xb) ^^^ (xa &&& xc) ^^^ (xb &&& xc) = mj
                simp only [IntKind.wrap_u32]
                omega
              have hYh := Lib.hid hYe
              clear hYe
              go_wp2
              go_quiet (first
                | (go_at_call 30; with_reducible exact quiet_left (turn_at xe 6 6 rfl be (by omega) (by omega) _))
                | (go_at_call 30; with_reducible exact quiet_left (turn_at xe 11 11 rfl be (by omega) (by omega) _))
                | (go_at_call 30; with_reducible exact quiet_left (turn_at xe 25 25 rfl be (by omega) (by omega) _)))
              have k0 := h0.drewN nq
              have k1 := h1.drewN nq
              have k2 := h2.drewN nq
              have k3 := h3.drewN nq
              have k4 := h4.drewN nq
              have kbel := bdrewN hbel nq
              have c0' : (wr.drewN nq).cell? ⟨vb, 0, none⟩ = some (.int .u32 (xa : Int)) := c0
              have c1' : (wr.drewN nq).cell? ⟨vb, 1, none⟩ = some (.int .u32 (xb : Int)) := c1
              have c2' : (wr.drewN nq).cell? ⟨vb, 2, none⟩ = some (.int .u32 (xc : Int)) := c2
              have hX2 : (((xh : Int) + ((sum1 xe : Nat) : Int) + bits .xor .u32 ((xe &&& xf : Nat) : Int) (bits .and .u32 (bits .xor .u32 (if IntKind.u32.signed = true then -1 else IntKind.u32.max) (xe : Int)) (xg : Int)) + (kt : Int)) % 4294967296 + (wt : Int)) % 4294967296 = (X : Int) := by
                rw [show (if IntKind.u32.signed = true then (-1 : Int) else IntKind.u32.max) = IntKind.u32.max from rfl, e4, e5, e6, hXh.out, rndX]
                generalize ((xe &&& xf) ^^^ ((4294967295 ^^^ xe) &&& xg)) = ch
                simp only
                omega
              rw [hX2]
              clear hX2
              clear h0 h1 h2 h3 h4 hbel c0 c1 c2 c3 c4 c5 c6 c7 ck cw hX e1 e2 e3 e4 e5 e6
              generalize wr.drewN nq = wo at *
              go_simp
              go_step
              go_step
              go_quiet (first
                | (go_at_call 30; with_reducible exact quiet_left (turn_at xa 2 2 rfl ba (by omega) (by omega) _))
                | (go_at_call 30; with_reducible exact quiet_left (turn_at xa 13 13 rfl ba (by omega) (by omega) _))
                | (go_at_call 30; with_reducible exact quiet_left (turn_at xa 22 22 rfl ba (by omega) (by omega) _)))
              have g0 := k0.drewN nq
              have g1 := k1.drewN nq
              have g2 := k2.drewN nq
              have g3 := k3.drewN nq
              have g4 := k4.drewN nq
              have gbel := bdrewN kbel nq
              clear k0 k1 k2 k3 k4 kbel c0' c1' c2' f1 f2 f3 f4 f5 f6 f7 hY r2 r13 r22 r6 r11 r25
              generalize wo.drewN nq = wp at *
              go_simp
              go_step
              have d0 : wp.cell? ⟨vb, 0, none⟩ = some (.int .u32 (xa : Int)) := g0.cell 0
              have d1 : wp.cell? ⟨vb, 1, none⟩ = some (.int .u32 (xb : Int)) := g0.cell 1
              have d2 : wp.cell? ⟨vb, 2, none⟩ = some (.int .u32 (xc : Int)) := g0.cell 2
              have d3 : wp.cell? ⟨vb, 3, none⟩ = some (.int .u32 (xd : Int)) := g0.cell 3
              have d4 : wp.cell? ⟨vb, 4, none⟩ = some (.int .u32 (xe : Int)) := g0.cell 4
              have d5 : wp.cell? ⟨vb, 5, none⟩ = some (.int .u32 (xf : Int)) := g0.cell 5
              have d6 : wp.cell? ⟨vb, 6, none⟩ = some (.int .u32 (xg : Int)) := g0.cell 6
              obtain ⟨D, hD, hDe⟩ : ∃ D : Nat, IntKind.u32.wrap ((xd : Int) + (X : Int)) = (D : Int) ∧ D = (xd + X) % 4294967296 := ⟨_, by rw [IntKind.wrap_u32]; omega, rfl⟩
              obtain ⟨A0, hA, hAe⟩ : ∃ A0 : Nat, IntKind.u32.wrap ((X : Int) + (Y : Int)) = (A0 : Int) ∧ A0 = (X + Y) % 4294967296 := ⟨_, by rw [IntKind.wrap_u32]; omega, rfl⟩
              have hDh := Lib.hid hDe
              have hAh := Lib.hid hAe
              clear hDe hAe
              have hiN : (Tryd.prog.info? 42).map (·.size) = some (u32s (H8.mk A0 xa xb xc D xe xf xg).list).size := by rw [u32s_list_size]; exact sz8
              have hallN := u32s_one (H8.mk A0 xa xb xc D xe xf xg).list
              go_wp2_with (first
                | (refine wpList_store_row rfl 42 (.tmp 12) (.tmp 194) rfl vb (u32s (H8.mk A0 xa xb xc D xe xf xg).list) rfl rfl _ _ g0 hiN rfl hallN ?_))
              have e0 : Blk (wp.setRow vb (u32s (H8.mk A0 xa xb xc D xe xf xg).list)) vb 42 (u32s (H8.mk A0 xa xb xc D xe xf xg).list) := setRow_heap _ _ _ _ _ _ g0
              have e1 : Blk (wp.setRow vb (u32s (H8.mk A0 xa xb xc D xe xf xg).list)) (w.heap.size + 1 + 1 + 1) 45 (u32s (wordsOf b)) := by unfold Blk; rw [setRow_other _ _ _ _ (by omega)]; exact g1
              have e2 : Blk (wp.setRow vb (u32s (H8.mk A0 xa xb xc D xe xf xg).list)) w.heap.size 42 (u32s s0.list) := by unfold Blk; rw [setRow_other _ _ _ _ (by omega)]; exact g2
              have e3 : Blk (wp.setRow vb (u32s (H8.mk A0 xa xb xc D xe xf xg).list)) (w.heap.size + 1) 45 (u32s KK) := by unfold Blk; rw [setRow_other _ _ _ _ (by omega)]; exact g3
              have e4 : Blk (wp.setRow vb (u32s (H8.mk A0 xa xb xc D xe xf xg).list)) (w.heap.size + 1 + 1) 42 (u32s (List.replicate 8 0)) := by unfold Blk; rw [setRow_other _ _ _ _ (by omega)]; exact g4
              have e5 : Below w.heap.size w (wp.setRow vb (u32s (H8.mk A0 xa xb xc D xe xf xg).list)) := below_setRow gbel (by omega) _
              have hns : Hid (H8.mk A0 xa xb xc D xe xf xg = after (wordsOf b) s0 (t + 1)) := by
                show _ = _
                rw [hnext.out, rnd, hAh.out, hDh.out, hXh.out, hYh.out]
              have hnf : (H8.mk A0 xa xb xc D xe xf xg).Fit := ⟨by have := hAh.out; show A0 < _; omega, ba, bb, bc, by have := hDh.out; show D < _; omega, be, bf, bg⟩
              clear d0 d1 d2 d3 d4 d5 d6 hD hA hiN hallN
              generalize wp.setRow vb (u32s (H8.mk A0 xa xb xc D xe xf xg).list) = wq at *
              go_wp2
              go_roundw
              case rel => exact ⟨t + 1, _, by go_num, by omega, hns, hnf, e0, e1, e2, e3, e4, e5⟩
              case measure => simp [intOf]; omega
            · have ht64 : t = 64 := by omega
              have hti : ¬ (t : Int) < 64 := by omega
              obtain ⟨R, hR⟩ : ∃ R, Hid (blockOf s0 b = R) := ⟨_, rfl⟩
              have hsv : Hid (R = s.plus s0) := by show _ = _; rw [← hR.out, blockOf, ← ht64, ← hst.out]
              clear ht64 hst
              go_wp2
              go_loopw [16] (fun i wr => ∃ i' : Nat, i = .int .i64 i' ∧ i' ≤ 8 ∧ Blk wr vb 42 (u32s (mixed s.list s0.list i')) ∧ Blk wr w.heap.size 42 (u32s s0.list) ∧ Blk wr (w.heap.size + 1 + 1) 42 (u32s (List.replicate 8 0)) ∧ Below w.heap.size w wr) (fun i _ => 8 - (intOf i).toNat)
              case atStart => exact ⟨0, rfl, by omega, h0, h2, h4, hbel⟩
              case round =>
                clear h0 h1 h2 h3 h4 hbel hbs
                obtain ⟨i, rfl, hi, h1, h2, h3, hbel⟩ := hrel
                have hbs := h1.lt
                by_cases hi8 : i < 8
                · have hii : (i : Int) < 8 := by omega
                  have ml : (mixed s.list s0.list i).length = 8 := mixed_length s.list s0.list rfl i hi
                  have cv : wr.cell? ⟨vb, i, none⟩ = some (.int .u32 (s.list.getD i 0 : Nat)) := by
                    rw [h1.cell, u32s_get _ _ (by omega), mixed_get s.list s0.list rfl i hi8]
                  have cs : wr.cell? ⟨w.heap.size, i, none⟩ = some (.int .u32 (s0.list.getD i 0 : Nat)) := by
                    rw [h2.cell, u32s_get _ _ hi8]
                  have zv := h1.frozen i
                  have hms := Lib.hid (mixed_step s.list s0.list rfl i hi8)
                  unfold add32 at hms
                  generalize s.list.getD i 0 = xv at *
                  generalize s0.list.getD i 0 = xs at *
                  obtain ⟨N, hN, hNe⟩ : ∃ N : Nat, IntKind.u32.wrap ((xv : Int) + (xs : Int)) = (N : Int) ∧ N = (xv + xs) % 4294967296 := ⟨_, by rw [IntKind.wrap_u32]; omega, rfl⟩
                  have hNh := Lib.hid hNe
                  clear hNe
                  go_wp2
                  go_region
                  go_wp2
                  go_roundw
                  case rel =>
                    refine ⟨i + 1, by go_num, by omega, ?_, ?_, ?_, ?_⟩
                    · have := (h1.set_ i (.int .u32 (N : Int))).drew
                      rw [u32s_set, hNh.out, hms.out] at this
                      rw [hNh.out]
                      exact this
                    · exact (h2.far (p := ⟨vb, i, none⟩) (by simp; omega) _).drew
                    · exact (h3.far (p := ⟨vb, i, none⟩) (by simp; omega) _).drew
                    · exact (hbel.setCell (p := ⟨vb, i, none⟩) (by simp; omega) _).drew
                  case measure => simp [intOf]; omega
                · have hi8' : i = 8 := by omega
                  have hii : ¬ (i : Int) < 8 := by omega
                  rw [hi8', mixed_all, ← hsv.out] at h1
                  clear hi8'
                  have hi' : (Tryd.prog.info? 42).map (·.size) = some (u32s R.list).size := by rw [u32s_list_size]; exact sz8
                  have hall' := u32s_one R.list
                  have hold' : (u32s (List.replicate 8 0)).size = (u32s R.list).size := by rw [u32s_list_size]; rfl
                  go_wp2_with (first
                    | (refine wpList_load_row rfl 42 (.tmp 12) rfl vb rfl _ _ _ _ h1 Tryd.underlying42 rfl hi' ?_)
                    | (refine wpList_store_row rfl 42 (.tmp 6) (.tmp 208) rfl (w.heap.size + 1 + 1) (u32s R.list) rfl rfl _ _ h3 hi' hold' hall' ?_))
                  exact bodyPost_ret (results_cell_row rfl _ _ (w.heap.size + 1 + 1) _ _ _ _ rfl (setRow_heap _ _ _ _ _ _ h3) Tryd.underlying42 rfl hi') rfl ⟨by rw [hR.out], below_setRow hbel (by omega) _⟩
end Go.Proofs.YtmgijjfjldkgaaaDoor
