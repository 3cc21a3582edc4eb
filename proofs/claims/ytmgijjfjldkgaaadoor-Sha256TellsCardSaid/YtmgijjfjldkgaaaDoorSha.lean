/- The walks of layer 2 (sha256): RotateLeft32, words. No condition. -/
import Derived.Test.YtmgijjfjldkgaaaDoorId
import Derived.Test.YtmgijjfjldkgaaaDoorShaP
import Derived.Deep.MidRow
import Derived.StillTailTactics
import Derived.Deep.RegionHeld3
import Derived.Deep.DrawnRows
namespace Go.Proofs.YtmgijjfjldkgaaaDoor
open Go.RowKit

theorem and31 (k : Int) (h0 : -31 ≤ k) (h1 : k ≤ -1) : bits .and .u64 (IntKind.u64.wrap k) 31 = 32 + k := by
  have h : ∀ m : Fin 31, bits .and .u64 (IntKind.u64.wrap (-((m.val : Int) + 1))) 31 = 31 - (m.val : Int) := by decide +kernel
  have := h ⟨(-k - 1).toNat, by omega⟩
  simp only at this
  rw [show -((((-k - 1).toNat : Nat) : Int) + 1) = k from by omega] at this
  rw [this]
  omega
theorem rot_bits (x n : Nat) (hx : x < 4294967296) (h0 : 1 ≤ n) (h1 : n ≤ 31) : bits .or .u32 ((x : Int) * 2 ^ (32 - n) % 4294967296) ((x : Int) / 2 ^ n) = ((rotr x n : Nat) : Int) := by
  have hp : (2 : Nat) ^ (32 - n) * 2 ^ n = 4294967296 := by rw [← Nat.pow_add, show 32 - n + n = 32 from by omega]
  have e1 : (x : Int) * 2 ^ (32 - n) % 4294967296 = ((x * 2 ^ (32 - n) % 4294967296 : Nat) : Int) := by simp
  have e2 : (x : Int) / 2 ^ n = ((x / 2 ^ n : Nat) : Int) := by simp
  have hd : x / 2 ^ n < 2 ^ (32 - n) := Nat.div_lt_of_lt_mul (by rw [Nat.mul_comm, hp]; exact hx)
  have hm : x * 2 ^ (32 - n) % 4294967296 = 2 ^ (32 - n) * (x % 2 ^ n) := by
    rw [← hp, Nat.mul_comm x, Nat.mul_mod_mul_left]
  have hlt : x / 2 ^ n < 4294967296 := Nat.lt_of_le_of_lt (Nat.div_le_self _ _) hx
  rw [e1, e2, u32_or_nat _ _ (Nat.mod_lt _ (by omega)) hlt, rotr, hm, ← Nat.two_pow_add_eq_or_of_lt hd, Nat.add_comm]
set_option maxRecDepth 100000 in
set_option maxHeartbeats 800000 in
theorem rot_calls (x : Nat) (k : Int) (hx : x < 4294967296) (h0 : -31 ≤ k) (h1 : k ≤ -1) (w : World) :
    Calls Tryd.prog 28 #[.int .u32 x, .int .i64 k] w fun e w' => e = .returned (.int .u32 (rotr x (-k).toNat)) ∧ w = w' := by
  have hb := and31 k h0 h1
  have hs0 : 0 ≤ 32 + k := by omega
  have hs1 : 32 + k ≤ 32 := by omega
  go_enter Tryd.func28, Tryd.ntmps28
  go_wp2
  go_ret
  refine ⟨congrArg (fun n : Int => Ending.returned (.int .u32 n)) ?_, rfl⟩
  have := rot_bits x (-k).toNat hx (by omega) (by omega)
  rw [show 32 - (-k).toNat = (32 + k).toNat from by omega, show (-k).toNat = (32 - (32 + k)).toNat from by omega] at this
  rw [show (-k).toNat = (32 - (32 + k)).toNat from by omega]
  exact this

theorem rot_at (x : Nat) (k : Int) (n : Nat) (hk : k = -(n : Int)) (hx : x < 4294967296) (h0 : 1 ≤ n) (h1 : n ≤ 31) (w : World) :
    Calls Tryd.prog 28 #[.int .u32 x, .int .i64 k] w fun e w' => e = .returned (.int .u32 (rotr x n)) ∧ w = w' := by
  subst hk
  have := rot_calls x (-(n : Int)) hx (by omega) (by omega) w
  rwa [show (- -(n : Int)).toNat = n from by omega] at this
/-- Words as cells. -/
def u32s (l : List Nat) : Array Value := (l.map fun n => Value.int .u32 (n : Nat)).toArray
theorem u32s_size (l : List Nat) : (u32s l).size = l.length := by simp [u32s]
theorem u32s_get (l : List Nat) (i : Nat) (h : i < l.length) : (u32s l)[i]? = some (.int .u32 (l.getD i 0 : Nat)) := by
  simp [u32s, List.getD, List.getElem?_eq_getElem h]
theorem u32s_set (l : List Nat) (i x : Nat) : (u32s l).setIfInBounds i (.int .u32 (x : Nat)) = u32s (l.set i x) := by
  apply Array.ext'
  simp [u32s, List.map_set]
theorem or_byte (x : Nat) (c : UInt8) (hx : x < 16777216) : bits .or .u32 ((x : Int) * 256) ((c.toNat : Int) % 4294967296) = ((x * 256 % 4294967296 + c.toNat : Nat) : Int) := by
  have hc := c.toNat_lt
  have e1 : (x : Int) * 256 = ((2 ^ 8 * x : Nat) : Int) := by omega
  have e2 : (c.toNat : Int) % 4294967296 = ((c.toNat : Nat) : Int) := by omega
  rw [e1, e2, u32_or_nat _ _ (by omega) (by omega), ← Nat.two_pow_add_eq_or_of_lt (by omega)]
  omega

theorem keep_set {w : World} {g i j : Nat} {v x : Value} (h : w.cell? ⟨g, j, none⟩ = some v) (hne : j ≠ i) : ((w.setCell ⟨g, i, none⟩ x).drew).cell? ⟨g, j, none⟩ = some v := by
  have : (w.setCell ⟨g, i, none⟩ x).cell? ⟨g, j, none⟩ = w.cell? ⟨g, j, none⟩ := World.cell?_setCell_other w _ _ _ (fun e => hne (by injection e with _ e; exact e.symm))
  exact this.trans h
theorem blk_new2 (w : World) (o : Obj) (t : TypeId) (cs : Array Value) : Blk ((w.alloc o).alloc (.cells cs t)) (w.heap.size + 1) t cs := by
  have := Blk.new (w.alloc o) t cs
  rwa [show (w.alloc o).heap.size = w.heap.size + 1 from by simp] at this
theorem sz64 : (Tryd.prog.info? 45).map (·.size) = some 64 := by kernel_rfl
set_option maxRecDepth 100000 in
set_option maxHeartbeats 2000000 in
theorem words_calls (b : List UInt8) (hb : b.length = 64) (w : World) :
    Calls Tryd.prog 29 #[.string (B b)] w fun e w' => e = .returned (.agg (u32s (wordsOf b))) ∧ Below w.heap.size w w' := by
  go_enter Tryd.func29, Tryd.ntmps29
  go_wp2
  go_loopw [9] (fun i wr => ∃ k : Nat, i = .int .i64 k ∧ k ≤ 64 ∧ Blk wr (w.heap.size + 1) 45 (u32s (parts b k)) ∧ Blk wr w.heap.size 45 (u32s (List.replicate 64 0)) ∧ Below w.heap.size w wr) (fun i _ => 64 - (intOf i).toNat)
  case atStart => exact ⟨0, rfl, by omega, by rw [parts_zero]; exact blk_new2 _ _ _ _, (Blk.new w _ _).alloc _, ((Below.refl _ _).alloc (Nat.le_refl _) _).alloc (by simp) _⟩
  case round =>
    obtain ⟨k, rfl, hk, h1, h2, hbel⟩ := hrel
    have hbs := h1.lt
    by_cases hlt : k < 64
    · have hki : (k : Int) < 64 := by omega
      have hq0 : (0 : Int) ≤ (k : Int) / 4 := by omega
      have hq1 : (k : Int) / 4 < 64 := by omega
      have hq2 : (k : Int) < (b.length : Int) := by omega
      have hc := h1.cell (k / 4)
      rw [u32s_get _ _ (by rw [parts_length]; omega), parts_get _ _ _ (by omega)] at hc
      have hf := h1.frozen (k / 4)
      have hbk : b[k]'(by omega) = b.getD k 0 := by simp [List.getD, List.getElem?_eq_getElem (show k < b.length by omega)]
      have hst := parts_step b k
      rw [parts_get _ _ _ (by omega)] at hst
      unfold byteAt at hst
      have hx := (part4_here b k).2
      generalize part4 b k (k / 4) = x at *
      generalize b.getD k 0 = c at *
      have hor := or_byte x c hx
      generalize x * 256 % 4294967296 + c.toNat = y at *
      have hsth := Lib.hid hst
      clear hst
      go_wp2
      go_region
      have hn1 : Blk ((wr.setCell ⟨w.heap.size + 1, k / 4, none⟩ (.int .u32 (y : Int))).drew) (w.heap.size + 1) 45 (u32s (parts b (k + 1))) := by
        have := (h1.set_ (k / 4) (.int .u32 (y : Int)))
        rw [u32s_set, hsth.out] at this
        exact this.drew
      have hn2 := (h2.far (p := ⟨w.heap.size + 1, k / 4, none⟩) (by simp) (.int .u32 (y : Int))).drew
      have hn3 := (hbel.setCell (p := ⟨w.heap.size + 1, k / 4, none⟩) (by simp) (.int .u32 (y : Int))).drew
      go_wp2
      go_roundw
      case rel => exact ⟨k + 1, by go_num, by omega, hn1, hn2, hn3⟩
      case measure => simp [intOf]; omega
    · have hk64 : k = 64 := by omega
      have hki : ¬ (k : Int) < 64 := by omega
      rw [hk64, parts_all] at h1
      clear hk64
      have hgoal : Hid (sched 48 (first b 16) = wordsOf b) := rfl
      go_wp2
      go_loopw [6] (fun i wr => ∃ (t : Nat) (l : List Nat), i = .int .i64 t ∧ 16 ≤ t ∧ t ≤ 64 ∧ Hid (l.length = t) ∧ Hid (Fit32 l) ∧ Hid (sched (64 - t) l = wordsOf b) ∧ Blk wr (w.heap.size + 1) 45 (u32s (l ++ List.replicate (64 - t) 0)) ∧ Blk wr w.heap.size 45 (u32s (List.replicate 64 0)) ∧ Below w.heap.size w wr) (fun i _ => 64 - (intOf i).toNat)
      case atStart => exact ⟨16, first b 16, rfl, by omega, by omega, first_length b 16, first_fit b 16, hgoal, h1, h2, hbel⟩
      case round =>
        obtain ⟨t, l, rfl, ht0, ht1, hlen, hfit, hsc, h1, h2, hbel⟩ := hrel
        by_cases hlt : t < 64
        · have hti : (t : Int) < 64 := by omega
          have get (j : Nat) (hj : j < t) : wr.cell? ⟨w.heap.size + 1, j, none⟩ = some (.int .u32 (l.getD j 0 : Nat)) := by
            rw [h1.cell, u32s_get _ _ (by rw [List.length_append, hlen.out, List.length_replicate]; omega), getD_left (by rw [hlen.out]; exact hj)]
          have c16 := get (t - 16) (by omega)
          have c15 := get (t - 15) (by omega)
          have c7 := get (t - 7) (by omega)
          have c2 := get (t - 2) (by omega)
          have ct : wr.cell? ⟨w.heap.size + 1, t, none⟩ = some (.int .u32 ((l ++ List.replicate (64 - t) 0).getD t 0 : Nat)) := by
            rw [h1.cell, u32s_get _ _ (by rw [List.length_append, hlen.out, List.length_replicate]; omega)]
          have hft := h1.frozen t
          have b16 := hfit.out (t - 16)
          have b15 := hfit.out (t - 15)
          have b7 := hfit.out (t - 7)
          have b2 := hfit.out (t - 2)
          have hnext : Hid (nextW l = (l.getD (t - 16) 0 + l.getD (t - 7) 0 + sig0 (l.getD (t - 15) 0) + sig1 (l.getD (t - 2) 0)) % 4294967296) := by
            unfold nextW; rw [hlen.out]; rfl
          clear get
          generalize l.getD (t - 16) 0 = x16 at *
          generalize l.getD (t - 15) 0 = x15 at *
          generalize l.getD (t - 7) 0 = x7 at *
          generalize l.getD (t - 2) 0 = x2 at *
          generalize (l ++ List.replicate (64 - t) 0).getD t 0 = old at *
          obtain ⟨u16, i16, v16⟩ : ∃ u : Nat, IntKind.i64.wrap ((t : Int) - 16) = (u : Int) ∧ u = t - 16 := ⟨t - 16, by rw [IntWalk.i64_in _ (by omega)]; omega, rfl⟩
          rw [← v16] at c16
          have m16 : (u16 : Int) < 64 := by omega
          have n16 : u16 < 64 := by omega
          have v16h := Lib.hid v16
          clear v16
          obtain ⟨u15, i15, v15⟩ : ∃ u : Nat, IntKind.i64.wrap ((t : Int) - 15) = (u : Int) ∧ u = t - 15 := ⟨t - 15, by rw [IntWalk.i64_in _ (by omega)]; omega, rfl⟩
          rw [← v15] at c15
          have m15 : (u15 : Int) < 64 := by omega
          have n15 : u15 < 64 := by omega
          have v15h := Lib.hid v15
          clear v15
          obtain ⟨u7, i7, v7⟩ : ∃ u : Nat, IntKind.i64.wrap ((t : Int) - 7) = (u : Int) ∧ u = t - 7 := ⟨t - 7, by rw [IntWalk.i64_in _ (by omega)]; omega, rfl⟩
          rw [← v7] at c7
          have m7 : (u7 : Int) < 64 := by omega
          have n7 : u7 < 64 := by omega
          have v7h := Lib.hid v7
          clear v7
          obtain ⟨u2, i2, v2⟩ : ∃ u : Nat, IntKind.i64.wrap ((t : Int) - 2) = (u : Int) ∧ u = t - 2 := ⟨t - 2, by rw [IntWalk.i64_in _ (by omega)]; omega, rfl⟩
          rw [← v2] at c2
          have m2 : (u2 : Int) < 64 := by omega
          have n2 : u2 < 64 := by omega
          have v2h := Lib.hid v2
          clear v2
          go_wp2
          go_quiet (fail)
          go_wp2
          have r1 := rotr_lt (n := 7) b15 (by omega) (by omega)
          have r2 := rotr_lt (n := 18) b15 (by omega) (by omega)
          have r3 := rotr_lt (n := 17) b2 (by omega) (by omega)
          have r4 := rotr_lt (n := 19) b2 (by omega) (by omega)
          have e1 : bits .xor .u32 (rotr x15 7 : Int) (rotr x15 18 : Int) = ((rotr x15 7 ^^^ rotr x15 18 : Nat) : Int) := u32_xor_nat _ _ r1 r2
          have e2 : bits .xor .u32 ((rotr x15 7 ^^^ rotr x15 18 : Nat) : Int) ((x15 : Int) / 8) = ((sig0 x15 : Nat) : Int) := by
            rw [show (x15 : Int) / 8 = ((x15 / 8 : Nat) : Int) from by omega]; exact u32_xor_nat _ _ (xor_lt r1 r2) (by omega)
          have e3 : bits .xor .u32 (rotr x2 17 : Int) (rotr x2 19 : Int) = ((rotr x2 17 ^^^ rotr x2 19 : Nat) : Int) := u32_xor_nat _ _ r3 r4
          have e4 : bits .xor .u32 ((rotr x2 17 ^^^ rotr x2 19 : Nat) : Int) ((x2 : Int) / 1024) = ((sig1 x2 : Nat) : Int) := by
            rw [show (x2 : Int) / 1024 = ((x2 / 1024 : Nat) : Int) from by omega]; exact u32_xor_nat _ _ (xor_lt r3 r4) (by omega)
          have c16d : (wr.drewN nq).cell? ⟨w.heap.size + 1, u16, none⟩ = some (.int .u32 (x16 : Int)) := c16
          have c7d : (wr.drewN nq).cell? ⟨w.heap.size + 1, u7, none⟩ = some (.int .u32 (x7 : Int)) := c7
          have ctd : (wr.drewN nq).cell? ⟨w.heap.size + 1, t, none⟩ = some (.int .u32 (old : Int)) := ct
          have h1d := h1.drewN nq
          have h2d := h2.drewN nq
          have hbeld := bdrewN hbel nq
          have hftd : (wr.drewN nq).frozen? ⟨w.heap.size + 1, t, none⟩ = false := hft
          clear h1 h2 hbel hft c16 c15 c7 c2 ct
          generalize wr.drewN nq = wo at *
          obtain ⟨nx, hval, hnx⟩ : ∃ nx : Nat, IntKind.u32.wrap (IntKind.u32.wrap (IntKind.u32.wrap ((x16 : Int) + (x7 : Int)) + ((sig0 x15 : Nat) : Int)) + ((sig1 x2 : Nat) : Int)) = (nx : Int) ∧ nx = nextW l := by
            refine ⟨nextW l, ?_, rfl⟩
            rw [hnext.out, IntKind.wrap_u32, IntKind.wrap_u32, IntKind.wrap_u32]
            omega
          have hnxh := Lib.hid hnx
          clear hnx
          have ne16 : u16 ≠ t := by have := v16h.out; omega
          have ne7 : u7 ≠ t := by have := v7h.out; omega
          go_region_held3 (fun w' => w'.cell? ⟨w.heap.size + 1, u16, none⟩ = some (.int .u32 (x16 : Int)) ∧ w'.cell? ⟨w.heap.size + 1, u7, none⟩ = some (.int .u32 (x7 : Int))) (first | exact ⟨c16d, c7d⟩ | exact ⟨keep_set c16d ne16, keep_set c7d ne7⟩ | go_keep)
            (first
              | (go_at_call 28; (with_reducible refine (rot_at x15 (-7) 7 rfl b15 (by omega) (by omega) _).mono ?_); rintro e w1 ⟨rfl, rfl⟩)
              | (go_at_call 28; (with_reducible refine (rot_at x15 (-18) 18 rfl b15 (by omega) (by omega) _).mono ?_); rintro e w1 ⟨rfl, rfl⟩)
              | (go_at_call 28; (with_reducible refine (rot_at x2 (-17) 17 rfl b2 (by omega) (by omega) _).mono ?_); rintro e w1 ⟨rfl, rfl⟩)
              | (go_at_call 28; (with_reducible refine (rot_at x2 (-19) 19 rfl b2 (by omega) (by omega) _).mono ?_); rintro e w1 ⟨rfl, rfl⟩))
          have hn1 : Blk ((wo.setCell ⟨w.heap.size + 1, t, none⟩ (.int .u32 (nx : Int))).drew) (w.heap.size + 1) 45 (u32s ((l ++ [nx]) ++ List.replicate (64 - (t + 1)) 0)) := by
            have := (h1d.set_ t (.int .u32 (nx : Int)))
            have hs := set_behind l (64 - t) nx (by omega)
            rw [hlen.out] at hs
            rw [u32s_set, hs, show 64 - t - 1 = 64 - (t + 1) from by omega] at this
            exact this.drew
          have hn2 := (h2d.far (p := ⟨w.heap.size + 1, t, none⟩) (by simp) (.int .u32 (nx : Int))).drew
          have hn3 := (hbeld.setCell (p := ⟨w.heap.size + 1, t, none⟩) (by simp) (.int .u32 (nx : Int))).drew
          have hnlen : Hid ((l ++ [nx]).length = t + 1) := by rw [List.length_append, hlen.out]; rfl
          have hnfit : Hid (Fit32 (l ++ [nx])) := hfit.out.append (by rw [hnxh.out]; exact nextW_lt l)
          have hnsc : Hid (sched (64 - (t + 1)) (l ++ [nx]) = wordsOf b) := by
            rw [← hsc.out, show 64 - t = (64 - (t + 1)) + 1 from by omega, sched, ← hnxh.out]; rfl
          go_wp2
          go_roundw
          case rel => exact ⟨t + 1, l ++ [nx], by go_num, by omega, by omega, hnlen, hnfit, hnsc, hn1, hn2, hn3⟩
          case measure => simp [intOf]; omega
        · have ht64 : t = 64 := by omega
          have hti : ¬ (t : Int) < 64 := by omega
          have hl : l = wordsOf b := by have := hsc.out; rw [ht64] at this; exact this
          rw [ht64, hl, List.replicate_zero, List.append_nil] at h1
          clear ht64 hl hsc hfit hlen
          have hwf : ∀ v ∈ u32s (wordsOf b), v.oneCell' = true := by
            intro v hv
            obtain ⟨n, -, rfl⟩ := by simpa [u32s] using hv
            rfl
          have hsz : (u32s (wordsOf b)).size = 64 := by rw [u32s_size, wordsOf_length]
          have hi := sz64
          rw [← hsz] at hi
          have hi' := Lib.hid hi
          clear hi
          have hold : (u32s (List.replicate 64 0)).size = (u32s (wordsOf b)).size := by rw [hsz, u32s_size]; simp
          have hall := Array.all_eq_true_iff_forall_mem.2 hwf
          have hsz' := Lib.hid hsz
          clear hsz
          go_wp2_with (first
            | (refine wpList_load_row rfl 45 (.tmp 3) rfl (w.heap.size + 1) rfl _ _ _ _ h1 Tryd.underlying45 rfl hi'.out ?_)
            | (refine wpList_store_row rfl 45 (.tmp 2) (.tmp 71) rfl w.heap.size (u32s (wordsOf b)) rfl rfl _ _ h2 hi'.out hold hall ?_))
          exact bodyPost_ret (results_cell_row rfl _ _ w.heap.size _ _ _ _ rfl (setRow_heap _ _ _ _ _ _ h2) Tryd.underlying45 rfl hi'.out) rfl ⟨rfl, below_setRow hbel (Nat.le_refl _) _⟩
end Go.Proofs.YtmgijjfjldkgaaaDoor
