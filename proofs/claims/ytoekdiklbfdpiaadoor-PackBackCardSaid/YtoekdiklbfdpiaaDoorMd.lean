/- Lemmas and walks of this seat, laid together: Sha, ShaB, Shelf, ShaS, StrId, PkC, ShaT. -/
import Derived.Test.YtoekdiklbfdpiaaDoorMc
import Derived.Deep.MidRow
import Derived.StillTailTactics
import Derived.Deep.RegionHeld3
import Derived.Deep.DrawnRows
import Derived.Laws.CopyRow
import Derived.Lib.SlBuf
import Derived.Shelf.Strings.Builder1
import Derived.Shelf.Strings.Builder2
import Derived.Shelf.Strings.OnBuilder
import Derived.Shelf.Strings.BuilderF
import Derived.Shelf.Strings.BuilderK
import Derived.Shelf.Strings.Builder2Cap
import Derived.Shelf.Strings.Prefix
import Derived.Shelf.Bits.Mul64
import Derived.Shelf.Strings.Repeat
import Derived.Shelf.Strings.BuilderCap
import Derived.Test.YtoekdiklbfdpiaaDoorProg
/- The walks of layer 2 (sha256): RotateLeft32, words. No condition. -/
namespace Go.Proofs.YtoekdiklbfdpiaaDoor
open Go.RowKit

theorem and31 (k : Int) (h0 : -31 ≤ k) (h1 : k ≤ -1) : bits .and .u64 (IntKind.u64.wrap k) 31 = 32 + k := by
  have h : ∀ m : Fin 31, bits .and .u64 (IntKind.u64.wrap (-((m.val : Int) + 1))) 31 = 31 - (m.val : Int) := by decide +kernel
  have := h ⟨(-k - 1).toNat, by omega⟩
  simp only at this
  rw [show -((((-k - 1).toNat : Nat) : Int) + 1) = k from by omega] at this
  rw [this]
  omega
theorem rot_bits (x n : Nat) (hx : x < 4294967296) (h0 : 1 ≤ n) (h1 : n ≤ 31) : bits .or .u32 ((x : Int) * 2 ^ (32 - n) % 4294967296) ((x : Int) / 2 ^ n) = ((rotr x n : Nat) : Int) := by
  have hp : (2 : Nat) ^ (32 - n) * 2 ^ n = 4294967296 := by rw [← Nat.pow_add, show 32 - n + n = 32 from by omega]
  have e1 : (x : Int) * 2 ^ (32 - n) % 4294967296 = ((x * 2 ^ (32 - n) % 4294967296 : Nat) : Int) := by simp
  have e2 : (x : Int) / 2 ^ n = ((x / 2 ^ n : Nat) : Int) := by simp
  have hd : x / 2 ^ n < 2 ^ (32 - n) := Nat.div_lt_of_lt_mul (by rw [Nat.mul_comm, hp]; exact hx)
  have hm : x * 2 ^ (32 - n) % 4294967296 = 2 ^ (32 - n) * (x % 2 ^ n) := by
    rw [← hp, Nat.mul_comm x, Nat.mul_mod_mul_left]
  have hlt : x / 2 ^ n < 4294967296 := Nat.lt_of_le_of_lt (Nat.div_le_self _ _) hx
  rw [e1, e2, u32_or_nat _ _ (Nat.mod_lt _ (by omega)) hlt, rotr, hm, ← Nat.two_pow_add_eq_or_of_lt hd, Nat.add_comm]
set_option maxRecDepth 100000 in
set_option maxHeartbeats 800000 in
theorem rot_calls (x : Nat) (k : Int) (hx : x < 4294967296) (h0 : -31 ≤ k) (h1 : k ≤ -1) (w : World) :
    Calls Tryd.prog 56 #[.int .u32 x, .int .i64 k] w fun e w' => e = .returned (.int .u32 (rotr x (-k).toNat)) ∧ w = w' := by
  have hb := and31 k h0 h1
  have hs0 : 0 ≤ 32 + k := by omega
  have hs1 : 32 + k ≤ 32 := by omega
  go_enter Tryd.func56, Tryd.ntmps56
  go_wp2
  go_ret
  refine ⟨congrArg (fun n : Int => Ending.returned (.int .u32 n)) ?_, rfl⟩
  have := rot_bits x (-k).toNat hx (by omega) (by omega)
  rw [show 32 - (-k).toNat = (32 + k).toNat from by omega, show (-k).toNat = (32 - (32 + k)).toNat from by omega] at this
  rw [show (-k).toNat = (32 - (32 + k)).toNat from by omega]
  exact this

theorem rot_at (x : Nat) (k : Int) (n : Nat) (hk : k = -(n : Int)) (hx : x < 4294967296) (h0 : 1 ≤ n) (h1 : n ≤ 31) (w : World) :
    Calls Tryd.prog 56 #[.int .u32 x, .int .i64 k] w fun e w' => e = .returned (.int .u32 (rotr x n)) ∧ w = w' := by
  subst hk
  have := rot_calls x (-(n : Int)) hx (by omega) (by omega) w
  rwa [show (- -(n : Int)).toNat = n from by omega] at this
/-- Words as cells. -/
def u32s (l : List Nat) : Array Value := (l.map fun n => Value.int .u32 (n : Nat)).toArray
theorem u32s_size (l : List Nat) : (u32s l).size = l.length := by simp [u32s]
theorem u32s_get (l : List Nat) (i : Nat) (h : i < l.length) : (u32s l)[i]? = some (.int .u32 (l.getD i 0 : Nat)) := by
  simp [u32s, List.getD, List.getElem?_eq_getElem h]
theorem u32s_set (l : List Nat) (i x : Nat) : (u32s l).setIfInBounds i (.int .u32 (x : Nat)) = u32s (l.set i x) := by
  apply Array.ext'
  simp [u32s, List.map_set]
theorem or_byte (x : Nat) (c : UInt8) (hx : x < 16777216) : bits .or .u32 ((x : Int) * 256) ((c.toNat : Int) % 4294967296) = ((x * 256 % 4294967296 + c.toNat : Nat) : Int) := by
  have hc := c.toNat_lt
  have e1 : (x : Int) * 256 = ((2 ^ 8 * x : Nat) : Int) := by omega
  have e2 : (c.toNat : Int) % 4294967296 = ((c.toNat : Nat) : Int) := by omega
  rw [e1, e2, u32_or_nat _ _ (by omega) (by omega), ← Nat.two_pow_add_eq_or_of_lt (by omega)]
  omega

theorem keep_set {w : World} {g i j : Nat} {v x : Value} (h : w.cell? ⟨g, j, none⟩ = some v) (hne : j ≠ i) : ((w.setCell ⟨g, i, none⟩ x).drew).cell? ⟨g, j, none⟩ = some v := by
  have : (w.setCell ⟨g, i, none⟩ x).cell? ⟨g, j, none⟩ = w.cell? ⟨g, j, none⟩ := World.cell?_setCell_other w _ _ _ (fun e => hne (by injection e with _ e; exact e.symm))
  exact this.trans h
theorem blk_new2 (w : World) (o : Obj) (t : TypeId) (cs : Array Value) : Blk ((w.alloc o).alloc (.cells cs t)) (w.heap.size + 1) t cs := by
  have := Blk.new (w.alloc o) t cs
  rwa [show (w.alloc o).heap.size = w.heap.size + 1 from by simp] at this
theorem sz64 : (Tryd.prog.info? 66).map (·.size) = some 64 := by kernel_rfl
set_option maxRecDepth 100000 in
set_option maxHeartbeats 2000000 in
theorem words_calls (b : List UInt8) (hb : b.length = 64) (w : World) :
    Calls Tryd.prog 57 #[.string (B b)] w fun e w' => e = .returned (.agg (u32s (wordsOf b))) ∧ Below w.heap.size w w' := by
  go_enter Tryd.func57, Tryd.ntmps57
  go_wp2
  go_loopw [9] (fun i wr => ∃ k : Nat, i = .int .i64 k ∧ k ≤ 64 ∧ Blk wr (w.heap.size + 1) 66 (u32s (parts b k)) ∧ Blk wr w.heap.size 66 (u32s (List.replicate 64 0)) ∧ Below w.heap.size w wr) (fun i _ => 64 - (intOf i).toNat)
  case atStart => exact ⟨0, rfl, by omega, by rw [parts_zero]; exact blk_new2 _ _ _ _, (Blk.new w _ _).alloc _, ((Below.refl _ _).alloc (Nat.le_refl _) _).alloc (by simp) _⟩
  case round =>
    obtain ⟨k, rfl, hk, h1, h2, hbel⟩ := hrel
    have hbs := h1.lt
    by_cases hlt : k < 64
    · have hki : (k : Int) < 64 := by omega
      have hq0 : (0 : Int) ≤ (k : Int) / 4 := by omega
      have hq1 : (k : Int) / 4 < 64 := by omega
      have hq2 : (k : Int) < (b.length : Int) := by omega
      have hc := h1.cell (k / 4)
      rw [u32s_get _ _ (by rw [parts_length]; omega), parts_get _ _ _ (by omega)] at hc
      have hf := h1.frozen (k / 4)
      have hbk : b[k]'(by omega) = b.getD k 0 := by simp [List.getD, List.getElem?_eq_getElem (show k < b.length by omega)]
      have hst := parts_step b k
      rw [parts_get _ _ _ (by omega)] at hst
      unfold byteAt at hst
      have hx := (part4_here b k).2
      generalize part4 b k (k / 4) = x at *
      generalize b.getD k 0 = c at *
      have hor := or_byte x c hx
      generalize x * 256 % 4294967296 + c.toNat = y at *
      have hsth := Lib.hid hst
      clear hst
      go_wp2
      go_region
      have hn1 : Blk ((wr.setCell ⟨w.heap.size + 1, k / 4, none⟩ (.int .u32 (y : Int))).drew) (w.heap.size + 1) 66 (u32s (parts b (k + 1))) := by
        have := (h1.set_ (k / 4) (.int .u32 (y : Int)))
        rw [u32s_set, hsth.out] at this
        exact this.drew
      have hn2 := (h2.far (p := ⟨w.heap.size + 1, k / 4, none⟩) (by simp) (.int .u32 (y : Int))).drew
      have hn3 := (hbel.setCell (p := ⟨w.heap.size + 1, k / 4, none⟩) (by simp) (.int .u32 (y : Int))).drew
      go_wp2
      go_roundw
      case rel => exact ⟨k + 1, by go_num, by omega, hn1, hn2, hn3⟩
      case measure => simp [intOf]; omega
    · have hk64 : k = 64 := by omega
      have hki : ¬ (k : Int) < 64 := by omega
      rw [hk64, parts_all] at h1
      clear hk64
      have hgoal : Hid (sched 48 (first b 16) = wordsOf b) := rfl
      go_wp2
      go_loopw [6] (fun i wr => ∃ (t : Nat) (l : List Nat), i = .int .i64 t ∧ 16 ≤ t ∧ t ≤ 64 ∧ Hid (l.length = t) ∧ Hid (Fit32 l) ∧ Hid (sched (64 - t) l = wordsOf b) ∧ Blk wr (w.heap.size + 1) 66 (u32s (l ++ List.replicate (64 - t) 0)) ∧ Blk wr w.heap.size 66 (u32s (List.replicate 64 0)) ∧ Below w.heap.size w wr) (fun i _ => 64 - (intOf i).toNat)
      case atStart => exact ⟨16, first b 16, rfl, by omega, by omega, first_length b 16, first_fit b 16, hgoal, h1, h2, hbel⟩
      case round =>
        obtain ⟨t, l, rfl, ht0, ht1, hlen, hfit, hsc, h1, h2, hbel⟩ := hrel
        by_cases hlt : t < 64
        · have hti : (t : Int) < 64 := by omega
          have get (j : Nat) (hj : j < t) : wr.cell? ⟨w.heap.size + 1, j, none⟩ = some (.int .u32 (l.getD j 0 : Nat)) := by
            rw [h1.cell, u32s_get _ _ (by rw [List.length_append, hlen.out, List.length_replicate]; omega), getD_left (by rw [hlen.out]; exact hj)]
          have c16 := get (t - 16) (by omega)
          have c15 := get (t - 15) (by omega)
          have c7 := get (t - 7) (by omega)
          have c2 := get (t - 2) (by omega)
          have ct : wr.cell? ⟨w.heap.size + 1, t, none⟩ = some (.int .u32 ((l ++ List.replicate (64 - t) 0).getD t 0 : Nat)) := by
            rw [h1.cell, u32s_get _ _ (by rw [List.length_append, hlen.out, List.length_replicate]; omega)]
          have hft := h1.frozen t
          have b16 := hfit.out (t - 16)
          have b15 := hfit.out (t - 15)
          have b7 := hfit.out (t - 7)
          have b2 := hfit.out (t - 2)
          have hnext : Hid (nextW l = (l.getD (t - 16) 0 + l.getD (t - 7) 0 + sig0 (l.getD (t - 15) 0) + sig1 (l.getD (t - 2) 0)) % 4294967296) := by
            unfold nextW; rw [hlen.out]; rfl
          clear get
          generalize l.getD (t - 16) 0 = x16 at *
          generalize l.getD (t - 15) 0 = x15 at *
          generalize l.getD (t - 7) 0 = x7 at *
          generalize l.getD (t - 2) 0 = x2 at *
          generalize (l ++ List.replicate (64 - t) 0).getD t 0 = old at *
          obtain ⟨u16, i16, v16⟩ : ∃ u : Nat, IntKind.i64.wrap ((t : Int) - 16) = (u : Int) ∧ u = t - 16 := ⟨t - 16, by rw [IntWalk.i64_in _ (by omega)]; omega, rfl⟩
          rw [← v16] at c16
          have m16 : (u16 : Int) < 64 := by omega
          have n16 : u16 < 64 := by omega
          have v16h := Lib.hid v16
          clear v16
          obtain ⟨u15, i15, v15⟩ : ∃ u : Nat, IntKind.i64.wrap ((t : Int) - 15) = (u : Int) ∧ u = t - 15 := ⟨t - 15, by rw [IntWalk.i64_in _ (by omega)]; omega, rfl⟩
          rw [← v15] at c15
          have m15 : (u15 : Int) < 64 := by omega
          have n15 : u15 < 64 := by omega
          have v15h := Lib.hid v15
          clear v15
          obtain ⟨u7, i7, v7⟩ : ∃ u : Nat, IntKind.i64.wrap ((t : Int) - 7) = (u : Int) ∧ u = t - 7 := ⟨t - 7, by rw [IntWalk.i64_in _ (by omega)]; omega, rfl⟩
          rw [← v7] at c7
          have m7 : (u7 : Int) < 64 := by omega
          have n7 : u7 < 64 := by omega
          have v7h := Lib.hid v7
          clear v7
          obtain ⟨u2, i2, v2⟩ : ∃ u : Nat, IntKind.i64.wrap ((t : Int) - 2) = (u : Int) ∧ u = t - 2 := ⟨t - 2, by rw [IntWalk.i64_in _ (by omega)]; omega, rfl⟩
          rw [← v2] at c2
          have m2 : (u2 : Int) < 64 := by omega
          have n2 : u2 < 64 := by omega
          have v2h := Lib.hid v2
          clear v2
          go_wp2
          go_quiet (fail)
          go_wp2
          have r1 := rotr_lt (n := 7) b15 (by omega) (by omega)
          have r2 := rotr_lt (n := 18) b15 (by omega) (by omega)
          have r3 := rotr_lt (n := 17) b2 (by omega) (by omega)
          have r4 := rotr_lt (n := 19) b2 (by omega) (by omega)
          have e1 : bits .xor .u32 (rotr x15 7 : Int) (rotr x15 18 : Int) = ((rotr x15 7 ^^^ rotr x15 18 : Nat) : Int) := u32_xor_nat _ _ r1 r2
          have e2 : bits .xor .u32 ((rotr x15 7 ^^^ rotr x15 18 : Nat) : Int) ((x15 : Int) / 8) = ((sig0 x15 : Nat) : Int) := by
            rw [show (x15 : Int) / 8 = ((x15 / 8 : Nat) : Int) from by omega]; exact u32_xor_nat _ _ (xor_lt r1 r2) (by omega)
          have e3 : bits .xor .u32 (rotr x2 17 : Int) (rotr x2 19 : Int) = ((rotr x2 17 ^^^ rotr x2 19 : Nat) : Int) := u32_xor_nat _ _ r3 r4
          have e4 : bits .xor .u32 ((rotr x2 17 ^^^ rotr x2 19 : Nat) : Int) ((x2 : Int) / 1024) = ((sig1 x2 : Nat) : Int) := by
            rw [show (x2 : Int) / 1024 = ((x2 / 1024 : Nat) : Int) from by omega]; exact u32_xor_nat _ _ (xor_lt r3 r4) (by omega)
          have c16d : (wr.drewN nq).cell? ⟨w.heap.size + 1, u16, none⟩ = some (.int .u32 (x16 : Int)) := c16
          have c7d : (wr.drewN nq).cell? ⟨w.heap.size + 1, u7, none⟩ = some (.int .u32 (x7 : Int)) := c7
          have ctd : (wr.drewN nq).cell? ⟨w.heap.size + 1, t, none⟩ = some (.int .u32 (old : Int)) := ct
          have h1d := h1.drewN nq
          have h2d := h2.drewN nq
          have hbeld := bdrewN hbel nq
          have hftd : (wr.drewN nq).frozen? ⟨w.heap.size + 1, t, none⟩ = false := hft
          clear h1 h2 hbel hft c16 c15 c7 c2 ct
          generalize wr.drewN nq = wo at *
          obtain ⟨nx, hval, hnx⟩ : ∃ nx : Nat, IntKind.u32.wrap (IntKind.u32.wrap (IntKind.u32.wrap ((x16 : Int) + (x7 : Int)) + ((sig0 x15 : Nat) : Int)) + ((sig1 x2 : Nat) : Int)) = (nx : Int) ∧ nx = nextW l := by
            refine ⟨nextW l, ?_, rfl⟩
            rw [hnext.out, IntKind.wrap_u32, IntKind.wrap_u32, IntKind.wrap_u32]
            omega
          have hnxh := Lib.hid hnx
          clear hnx
          have ne16 : u16 ≠ t := by have := v16h.out; omega
          have ne7 : u7 ≠ t := by have := v7h.out; omega
          go_region_held3 (fun w' => w'.cell? ⟨w.heap.size + 1, u16, none⟩ = some (.int .u32 (x16 : Int)) ∧ w'.cell? ⟨w.heap.size + 1, u7, none⟩ = some (.int .u32 (x7 : Int))) (first | exact ⟨c16d, c7d⟩ | exact ⟨keep_set c16d ne16, keep_set c7d ne7⟩ | go_keep)
            (first
              | (go_at_call 56; (with_reducible refine (rot_at x15 (-7) 7 rfl b15 (by omega) (by omega) _).mono ?_); rintro e w1 ⟨rfl, rfl⟩)
              | (go_at_call 56; (with_reducible refine (rot_at x15 (-18) 18 rfl b15 (by omega) (by omega) _).mono ?_); rintro e w1 ⟨rfl, rfl⟩)
              | (go_at_call 56; (with_reducible refine (rot_at x2 (-17) 17 rfl b2 (by omega) (by omega) _).mono ?_); rintro e w1 ⟨rfl, rfl⟩)
              | (go_at_call 56; (with_reducible refine (rot_at x2 (-19) 19 rfl b2 (by omega) (by omega) _).mono ?_); rintro e w1 ⟨rfl, rfl⟩))
          have hn1 : Blk ((wo.setCell ⟨w.heap.size + 1, t, none⟩ (.int .u32 (nx : Int))).drew) (w.heap.size + 1) 66 (u32s ((l ++ [nx]) ++ List.replicate (64 - (t + 1)) 0)) := by
            have := (h1d.set_ t (.int .u32 (nx : Int)))
            have hs := set_behind l (64 - t) nx (by omega)
            rw [hlen.out] at hs
            rw [u32s_set, hs, show 64 - t - 1 = 64 - (t + 1) from by omega] at this
            exact this.drew
          have hn2 := (h2d.far (p := ⟨w.heap.size + 1, t, none⟩) (by simp) (.int .u32 (nx : Int))).drew
          have hn3 := (hbeld.setCell (p := ⟨w.heap.size + 1, t, none⟩) (by simp) (.int .u32 (nx : Int))).drew
          have hnlen : Hid ((l ++ [nx]).length = t + 1) := by rw [List.length_append, hlen.out]; rfl
          have hnfit : Hid (Fit32 (l ++ [nx])) := hfit.out.append (by rw [hnxh.out]; exact nextW_lt l)
          have hnsc : Hid (sched (64 - (t + 1)) (l ++ [nx]) = wordsOf b) := by
            rw [← hsc.out, show 64 - t = (64 - (t + 1)) + 1 from by omega, sched, ← hnxh.out]; rfl
          go_wp2
          go_roundw
          case rel => exact ⟨t + 1, l ++ [nx], by go_num, by omega, by omega, hnlen, hnfit, hnsc, hn1, hn2, hn3⟩
          case measure => simp [intOf]; omega
        · have ht64 : t = 64 := by omega
          have hti : ¬ (t : Int) < 64 := by omega
          have hl : l = wordsOf b := by have := hsc.out; rw [ht64] at this; exact this
          rw [ht64, hl, List.replicate_zero, List.append_nil] at h1
          clear ht64 hl hsc hfit hlen
          have hwf : ∀ v ∈ u32s (wordsOf b), v.oneCell' = true := by
            intro v hv
            obtain ⟨n, -, rfl⟩ := by simpa [u32s] using hv
            rfl
          have hsz : (u32s (wordsOf b)).size = 64 := by rw [u32s_size, wordsOf_length]
          have hi := sz64
          rw [← hsz] at hi
          have hi' := Lib.hid hi
          clear hi
          have hold : (u32s (List.replicate 64 0)).size = (u32s (wordsOf b)).size := by rw [hsz, u32s_size]; simp
          have hall := Array.all_eq_true_iff_forall_mem.2 hwf
          have hsz' := Lib.hid hsz
          clear hsz
          go_wp2_with (first
            | (refine wpList_load_row rfl 66 (.tmp 3) rfl (w.heap.size + 1) rfl _ _ _ _ h1 Tryd.underlying66 rfl hi'.out ?_)
            | (refine wpList_store_row rfl 66 (.tmp 2) (.tmp 71) rfl w.heap.size (u32s (wordsOf b)) rfl rfl _ _ h2 hi'.out hold hall ?_))
          exact bodyPost_ret (results_cell_row rfl _ _ w.heap.size _ _ _ _ rfl (setRow_heap _ _ _ _ _ _ h2) Tryd.underlying66 rfl hi'.out) rfl ⟨rfl, below_setRow hbel (Nat.le_refl _) _⟩
end Go.Proofs.YtoekdiklbfdpiaaDoor
/- The walk of layer 2's block (sha256). Condition: the table of constants is as the program laid it. -/
namespace Go.Proofs.YtoekdiklbfdpiaaDoor
open Go.RowKit
attribute [local go_sem ↓] Go.wp_at_zero Go.wp_at_succ

/-- The table of constants lies there. -/
structure TabK (w : World) : Prop where
  pos : 0 < w.heap.size
  at_ : ∀ t, t < 64 → w.cell? ⟨0, t, none⟩ = some (.int .u32 (K256.getD t 0 : Nat))
theorem TabK.below {w w' : World} (h : TabK w) (hb : Below w.heap.size w w') : TabK w' :=
  ⟨Nat.lt_of_lt_of_le h.pos hb.size, fun t ht => (hb.cell (p := ⟨0, t, none⟩) h.pos).trans (h.at_ t ht)⟩
theorem run_index_words (l : List Nat) (hl : l.length = 64) (t : Nat) (ht : t < 64) (w : World) :
    (Instr.index 66 (.agg (u32s l)) (.int .i64 (t : Int))).run Tryd.prog w = .ok (.int .u32 (l.getD t 0 : Nat)) w := by
  have hu : Tryd.prog.underlying 66 = some (.array 64 47) := by kernel_rfl
  have h0 : (0 : Int) ≤ (t : Int) ∧ (t : Int) < ((64 : Nat) : Int) := by omega
  have h64 : ¬ 64 ≤ t := by omega
  have hg := u32s_get l t (by omega)
  have ha : (isAgg 47).run Tryd.prog w = .ok false w := by kernel_rfl
  have hz : (sizeOf 47).run Tryd.prog w = .ok 1 w := by kernel_rfl
  simp only [Instr.index, asIntOf, Sem.run_bind, Sem.run_pure, Result.andThen_ok, run_underlying hu]
  rw [if_pos h0]
  simp only [Sem.run_bind, Sem.run_pure, Result.andThen_ok, hz, part, ha, Int.toNat_natCast, Nat.mul_one, hg]
  rfl
theorem blk_new3 (w : World) (o1 o2 : Obj) (t : TypeId) (cs : Array Value) : Blk (((w.alloc o1).alloc o2).alloc (.cells cs t)) (w.heap.size + 2) t cs := by
  have := Blk.new ((w.alloc o1).alloc o2) t cs
  rwa [show ((w.alloc o1).alloc o2).heap.size = w.heap.size + 2 from by simp] at this
theorem sz8 : (Tryd.prog.info? 65).map (·.size) = some 8 := by kernel_rfl
theorem u32s_one (l : List Nat) : (u32s l).all (·.oneCell') = true := by
  refine Array.all_eq_true_iff_forall_mem.2 fun v hv => ?_
  obtain ⟨n, -, rfl⟩ := by simpa [u32s] using hv
  rfl
theorem u32s_list_size (s : H8) : (u32s s.list).size = 8 := rfl
theorem copy_up (wp : World) (g xa xb xc xd xe xf xg xh : Nat) (h : Blk wp g 65 (u32s [xa, xb, xc, xd, xe, xf, xg, xh])) :
    (Builtin.copy_ #[114, 114] 3 #[.slice (some ⟨g, 1, none⟩) 7 7, .slice (some ⟨g, 0, none⟩) 7 8]).run Tryd.prog wp = .ok (goInt 7) (wp.setRow g (u32s [xa, xa, xb, xc, xd, xe, xf, xg])) := by
  have := run_copy_row (P := Tryd.prog) wp 114 114 3 47 g 1 7 7 ⟨g, 0, none⟩ 7 8 (u32s [xa, xb, xc, xd, xe, xf, xg, xh]) 65 (u32s [xa, xb, xc, xd, xe, xf, xg]).toList (by kernel_rfl) (by kernel_rfl) h rfl (fun j v hj => by
    rw [Addr.add_mid, Nat.zero_add, h.cell]
    have hlt : j < 7 := by
      have := (List.getElem?_eq_some_iff.1 hj).1
      simpa [u32s] using this
    rw [← hj]
    match j, hlt with
    | 0, _ | 1, _ | 2, _ | 3, _ | 4, _ | 5, _ | 6, _ => rfl) (by simp [u32s]) (fun v hv => by
    obtain ⟨n, -, rfl⟩ := by simpa only [u32s, List.mem_map] using hv
    rfl)
  exact this
set_option maxRecDepth 100000 in
set_option maxHeartbeats 2000000 in
theorem block_calls (s0 : H8) (hs0 : s0.Fit) (b : List UInt8) (hb : b.length = 64) (w : World) (hK : TabK w) :
    Calls Tryd.prog 44 #[.agg (u32s s0.list), .string (B b)] w fun e w' => e = .returned (.agg (u32s (blockOf s0 b).list)) ∧ Below w.heap.size w w' := by
  go_enter Tryd.func44, Tryd.ntmps44
  have hbox : Blk ((w.alloc (.cells (u32s s0.list) 65)).alloc (.cells (u32s (List.replicate 8 0)) 65)) w.heap.size 65 (u32s s0.list) := (Blk.new w _ _).alloc _
  have hv0 := blk_new3 w (.cells (u32s s0.list) 65) (.cells (u32s (List.replicate 8 0)) 65) 65 (u32s (List.replicate 8 0))
  have hi8 : (Tryd.prog.info? 65).map (·.size) = some (u32s s0.list).size := by rw [u32s_list_size]; exact sz8
  have hall := u32s_one s0.list
  have hold : (u32s (List.replicate 8 0)).size = (u32s s0.list).size := by rw [u32s_list_size]; rfl
  obtain ⟨R, hR⟩ : ∃ R, Hid (blockOf s0 b = R) := ⟨_, rfl⟩
  go_wp2_with (first
    | (refine wpList_load_row rfl 65 (.tmp 2) rfl w.heap.size rfl _ _ _ _ hbox Tryd.underlying65 rfl hi8 ?_)
    | (refine wpList_store_row rfl 65 (.tmp 6) (.tmp 14) rfl (w.heap.size + 2) (u32s s0.list) rfl rfl _ _ hv0 hi8 hold hall ?_)
    | (go_at_call 57; go_must (refine (words_calls b hb _).mono ?_); rintro e w1 ⟨rfl, hb1⟩))
  have hv1 : Blk w1 (w.heap.size + 1 + 1) 65 (u32s s0.list) := Blk.below (w := World.setRow _ (w.heap.size + 2) _) (setRow_heap _ _ _ _ _ _ hv0) hb1 (by simp)
  have hbx1 : Blk w1 w.heap.size 65 (u32s s0.list) := Blk.below (w := World.setRow _ (w.heap.size + 2) _) (by unfold Blk; rw [setRow_other _ _ _ _ (by omega)]; exact hbox.alloc _) hb1 (by simp; omega)
  have hr1 : Blk w1 (w.heap.size + 1) 65 (u32s (List.replicate 8 0)) := Blk.below (w := World.setRow _ (w.heap.size + 2) _) (by unfold Blk; rw [setRow_other _ _ _ _ (by omega)]; exact (blk_new2 w _ _ _).alloc _) hb1 (by simp)
  have hbl1 : Below w.heap.size w w1 := (below_setRow ((((Below.refl _ _).alloc (Nat.le_refl _) _).alloc (by simp) _).alloc (by simp; omega) _) (by omega) _).trans (hb1.mono (by simp; omega))
  clear hb1 hbox hv0
  go_loopw [17] (fun i wr => ∃ (t : Nat) (s : H8), i = .int .i64 t ∧ t ≤ 64 ∧ Hid (s = after (wordsOf b) s0 t) ∧ s.Fit ∧ Blk wr (w.heap.size + 1 + 1) 65 (u32s s.list) ∧ Blk wr w.heap.size 65 (u32s s0.list) ∧ Blk wr (w.heap.size + 1) 65 (u32s (List.replicate 8 0)) ∧ Below w.heap.size w wr) (fun i _ => 64 - (intOf i).toNat)
  case atStart => exact ⟨0, s0, rfl, by omega, rfl, hs0, hv1, hbx1, hr1, hbl1⟩
  case round =>
    obtain ⟨t, s, rfl, ht, hst, hfit, h1, h2, h3, hbel⟩ := hrel
    have hbs := h1.lt
    by_cases hlt : t < 64
    · have hti : (t : Int) < 64 := by omega
      have hidx := run_index_words (wordsOf b) (wordsOf_length b) t hlt
      have hnext : Hid (after (wordsOf b) s0 (t + 1) = rnd s (K256.getD t 0) ((wordsOf b).getD t 0)) := by rw [hst.out]; rfl
      have bw := wordsOf_fit b t
      have bk := K256_fit t
      have ck : wr.cell? ⟨0, t, none⟩ = some (.int .u32 (K256.getD t 0 : Nat)) := (hbel.cell (p := ⟨0, t, none⟩) hK.pos).trans (hK.at_ t hlt)
      generalize (wordsOf b).getD t 0 = wt at *
      generalize K256.getD t 0 = kt at *
      obtain ⟨xa, xb, xc, xd, xe, xf, xg, xh⟩ := s
      obtain ⟨ba, bb, bc, bd, be, bf, bg, bh⟩ := hfit
      simp only at ba bb bc bd be bf bg bh
      have c0 : wr.cell? ⟨w.heap.size + 1 + 1, 0, none⟩ = some (.int .u32 (xa : Int)) := h1.cell 0
      have c1 : wr.cell? ⟨w.heap.size + 1 + 1, 1, none⟩ = some (.int .u32 (xb : Int)) := h1.cell 1
      have c2 : wr.cell? ⟨w.heap.size + 1 + 1, 2, none⟩ = some (.int .u32 (xc : Int)) := h1.cell 2
      have c3 : wr.cell? ⟨w.heap.size + 1 + 1, 3, none⟩ = some (.int .u32 (xd : Int)) := h1.cell 3
      have c4 : wr.cell? ⟨w.heap.size + 1 + 1, 4, none⟩ = some (.int .u32 (xe : Int)) := h1.cell 4
      have c5 : wr.cell? ⟨w.heap.size + 1 + 1, 5, none⟩ = some (.int .u32 (xf : Int)) := h1.cell 5
      have c6 : wr.cell? ⟨w.heap.size + 1 + 1, 6, none⟩ = some (.int .u32 (xg : Int)) := h1.cell 6
      have c7 : wr.cell? ⟨w.heap.size + 1 + 1, 7, none⟩ = some (.int .u32 (xh : Int)) := h1.cell 7
      go_wp2
      go_quiet (fail)
      go_wp2
      obtain ⟨wo, hwo⟩ : ∃ wo : World, wo = wr.drewN nq := ⟨_, rfl⟩
      rw [← hwo]
      have d0 : wo.cell? ⟨w.heap.size + 1 + 1, 0, none⟩ = some (.int .u32 (xa : Int)) := by rw [hwo]; exact c0
      have d1 : wo.cell? ⟨w.heap.size + 1 + 1, 1, none⟩ = some (.int .u32 (xb : Int)) := by rw [hwo]; exact c1
      have d2 : wo.cell? ⟨w.heap.size + 1 + 1, 2, none⟩ = some (.int .u32 (xc : Int)) := by rw [hwo]; exact c2
      have d3 : wo.cell? ⟨w.heap.size + 1 + 1, 3, none⟩ = some (.int .u32 (xd : Int)) := by rw [hwo]; exact c3
      have d4 : wo.cell? ⟨w.heap.size + 1 + 1, 4, none⟩ = some (.int .u32 (xe : Int)) := by rw [hwo]; exact c4
      have d5 : wo.cell? ⟨w.heap.size + 1 + 1, 5, none⟩ = some (.int .u32 (xf : Int)) := by rw [hwo]; exact c5
      have d6 : wo.cell? ⟨w.heap.size + 1 + 1, 6, none⟩ = some (.int .u32 (xg : Int)) := by rw [hwo]; exact c6
      have d7 : wo.cell? ⟨w.heap.size + 1 + 1, 7, none⟩ = some (.int .u32 (xh : Int)) := by rw [hwo]; exact c7
      have dk : wo.cell? ⟨0, t, none⟩ = some (.int .u32 (kt : Int)) := by rw [hwo]; exact ck
      have h1d := h1.drewN nq
      have h2d := h2.drewN nq
      have h3d := h3.drewN nq
      have hbeld := bdrewN hbel nq
      rw [← hwo] at h1d h2d h3d hbeld
      clear h1 h2 h3 hbel c0 c1 c2 c3 c4 c5 c6 c7 ck hwo
      have r6 := rotr_lt (n := 6) be (by omega) (by omega)
      have r11 := rotr_lt (n := 11) be (by omega) (by omega)
      have r25 := rotr_lt (n := 25) be (by omega) (by omega)
      have r2 := rotr_lt (n := 2) ba (by omega) (by omega)
      have r13 := rotr_lt (n := 13) ba (by omega) (by omega)
      have r22 := rotr_lt (n := 22) ba (by omega) (by omega)
      have e1 : bits .xor .u32 (rotr xe 6 : Int) (rotr xe 11 : Int) = ((rotr xe 6 ^^^ rotr xe 11 : Nat) : Int) := u32_xor_nat _ _ r6 r11
      have e2 : bits .xor .u32 ((rotr xe 6 ^^^ rotr xe 11 : Nat) : Int) (rotr xe 25 : Int) = ((sum1 xe : Nat) : Int) := u32_xor_nat _ _ (xor_lt r6 r11) r25
      have e3 : bits .and .u32 (xe : Int) (xf : Int) = ((xe &&& xf : Nat) : Int) := u32_and_nat _ _ be bf
      have e4 : bits .xor .u32 IntKind.u32.max (xe : Int) = ((4294967295 ^^^ xe : Nat) : Int) := u32_xor_nat 4294967295 _ (by omega) be
      have bn : 4294967295 ^^^ xe < 4294967296 := xor_lt (by omega) be
      have e5 : bits .and .u32 ((4294967295 ^^^ xe : Nat) : Int) (xg : Int) = (((4294967295 ^^^ xe) &&& xg : Nat) : Int) := u32_and_nat _ _ bn bg
      have e6 : bits .xor .u32 ((xe &&& xf : Nat) : Int) (((4294967295 ^^^ xe) &&& xg : Nat) : Int) = (((xe &&& xf) ^^^ ((4294967295 ^^^ xe) &&& xg) : Nat) : Int) := u32_xor_nat _ _ (and_lt bf) (and_lt bg)
      obtain ⟨X, hX, hXe⟩ : ∃ X : Nat, IntKind.u32.wrap (IntKind.u32.wrap (IntKind.u32.wrap (IntKind.u32.wrap ((xh : Int) + ((sum1 xe : Nat) : Int)) + (((xe &&& xf) ^^^ ((4294967295 ^^^ xe) &&& xg) : Nat) : Int)) + (kt : Int)) + (wt : Int)) = (X : Int) ∧ X = rndX ⟨xa, xb, xc, xd, xe, xf, xg, xh⟩ kt wt := by
        refine ⟨_, ?_, rfl⟩
        unfold rndX
        generalize ((xe &&& xf) ^^^ ((4294967295 ^^^ xe) &&& xg)) = ch
        simp only [IntKind.wrap_u32]
        omega
      have hXh := Lib.hid hXe
      clear hXe
      have f1 : bits .xor .u32 (rotr xa 2 : Int) (rotr xa 13 : Int) = ((rotr xa 2 ^^^ rotr xa 13 : Nat) : Int) := u32_xor_nat _ _ r2 r13
      have f2 : bits .xor .u32 ((rotr xa 2 ^^^ rotr xa 13 : Nat) : Int) (rotr xa 22 : Int) = ((sum0 xa : Nat) : Int) := u32_xor_nat _ _ (xor_lt r2 r13) r22
      have f3 : bits .and .u32 (xa : Int) (xb : Int) = ((xa &&& xb : Nat) : Int) := u32_and_nat _ _ ba bb
      have f4 : bits .and .u32 (xa : Int) (xc : Int) = ((xa &&& xc : Nat) : Int) := u32_and_nat _ _ ba bc
      have f5 : bits .and .u32 (xb : Int) (xc : Int) = ((xb &&& xc : Nat) : Int) := u32_and_nat _ _ bb bc
      have f6 : bits .xor .u32 ((xa &&& xb : Nat) : Int) ((xa &&& xc : Nat) : Int) = (((xa &&& xb) ^^^ (xa &&& xc) : Nat) : Int) := u32_xor_nat _ _ (and_lt bb) (and_lt bc)
      have f7 : bits .xor .u32 (((xa &&& xb) ^^^ (xa &&& xc) : Nat) : Int) ((xb &&& xc : Nat) : Int) = (((xa &&& xb) ^^^ (xa &&& xc) ^^^ (xb &&& xc) : Nat) : Int) := u32_xor_nat _ _ (xor_lt (and_lt bb) (and_lt bc)) (and_lt bc)
      obtain ⟨Y, hY, hYe⟩ : ∃ Y : Nat, IntKind.u32.wrap (((sum0 xa : Nat) : Int) + (((xa &&& xb) ^^^ (xa &&& xc) ^^^ (xb &&& xc) : Nat) : Int)) = (Y : Int) ∧ Y = rndY ⟨xa, xb, xc, xd, xe, xf, xg, xh⟩ := by
        refine ⟨_, ?_, rfl⟩
        unfold rndY
        generalize (xa &&& xb) ^^^ (xa &&& xc) ^^^ (xb &&& xc) = mj
        simp only [IntKind.wrap_u32]
        omega
      have hYh := Lib.hid hYe
      clear hYe
      go_region_held3 (fun w' => w'.cell? ⟨w.heap.size + 1 + 1, 7, none⟩ = some (.int .u32 (xh : Int)) ∧ w'.cell? ⟨w.heap.size + 1 + 1, 5, none⟩ = some (.int .u32 (xf : Int)) ∧ w'.cell? ⟨w.heap.size + 1 + 1, 6, none⟩ = some (.int .u32 (xg : Int)) ∧ w'.cell? ⟨0, t, none⟩ = some (.int .u32 (kt : Int))) (first | exact ⟨d7, d5, d6, dk⟩ | go_keep)
        (first
          | (go_at_call 56; (with_reducible refine (rot_at xe (-6) 6 rfl be (by omega) (by omega) _).mono ?_); rintro e w1 ⟨rfl, rfl⟩)
          | (go_at_call 56; (with_reducible refine (rot_at xe (-11) 11 rfl be (by omega) (by omega) _).mono ?_); rintro e w1 ⟨rfl, rfl⟩)
          | (go_at_call 56; (with_reducible refine (rot_at xe (-25) 25 rfl be (by omega) (by omega) _).mono ?_); rintro e w1 ⟨rfl, rfl⟩))
      go_wp2
      have d1' : wo.drew.cell? ⟨w.heap.size + 1 + 1, 1, none⟩ = some (.int .u32 (xb : Int)) := d1
      have d2' : wo.drew.cell? ⟨w.heap.size + 1 + 1, 2, none⟩ = some (.int .u32 (xc : Int)) := d2
      go_region_held3 (fun w' => w'.cell? ⟨w.heap.size + 1 + 1, 1, none⟩ = some (.int .u32 (xb : Int)) ∧ w'.cell? ⟨w.heap.size + 1 + 1, 2, none⟩ = some (.int .u32 (xc : Int))) (first | exact ⟨d1', d2'⟩ | exact ⟨d1, d2⟩ | go_keep)
        (first
          | (go_at_call 56; (with_reducible refine (rot_at xa (-2) 2 rfl ba (by omega) (by omega) _).mono ?_); rintro e w1 ⟨rfl, rfl⟩)
          | (go_at_call 56; (with_reducible refine (rot_at xa (-13) 13 rfl ba (by omega) (by omega) _).mono ?_); rintro e w1 ⟨rfl, rfl⟩)
          | (go_at_call 56; (with_reducible refine (rot_at xa (-22) 22 rfl ba (by omega) (by omega) _).mono ?_); rintro e w1 ⟨rfl, rfl⟩))
      go_wp2
      have g1 := h1d.drew.drew
      have g2 := h2d.drew.drew
      have g3 := h3d.drew.drew
      have gbel := hbeld.drew.drew
      have gsz : w.heap.size + 1 + 1 < wo.drew.drew.heap.size := g1.lt
      clear h1d h2d h3d hbeld d0 d1 d2 d3 d4 d5 d6 d7 dk d1' d2' e1 e2 e3 e4 e5 e6 f1 f2 f3 f4 f5 f6 f7 hX hY r2 r13 r22 r6 r11 r25
      generalize wo.drew.drew = wp at *
      obtain ⟨wq, hcp, hwq⟩ : ∃ wq, (Builtin.copy_ #[114, 114] 3 #[.slice (some ⟨w.heap.size + 1 + 1, 1, none⟩) 7 7, .slice (some ⟨w.heap.size + 1 + 1, 0, none⟩) 7 8]).run Tryd.prog wp.drew = .ok (goInt 7) wq ∧ wq = wp.drew.setRow (w.heap.size + 1 + 1) (u32s [xa, xa, xb, xc, xd, xe, xf, xg]) := ⟨_, copy_up _ _ _ _ _ _ _ _ _ _ g1.drew, rfl⟩
      have q1 : Blk wq (w.heap.size + 1 + 1) 65 (u32s [xa, xa, xb, xc, xd, xe, xf, xg]) := by rw [hwq]; exact setRow_heap _ _ _ _ _ _ g1.drew
      have q2 : Blk wq w.heap.size 65 (u32s s0.list) := by rw [hwq]; unfold Blk; rw [setRow_other _ _ _ _ (by omega)]; exact g2.drew
      have q3 : Blk wq (w.heap.size + 1) 65 (u32s (List.replicate 8 0)) := by rw [hwq]; unfold Blk; rw [setRow_other _ _ _ _ (by omega)]; exact g3.drew
      have qbel : Below w.heap.size w wq := by rw [hwq]; exact below_setRow gbel.drew (by omega) _
      clear g1 g2 g3 gbel hwq
      go_region
      clear hcp
      have c4 : wq.cell? ⟨w.heap.size + 1 + 1, 4, none⟩ = some (.int .u32 (xd : Int)) := q1.cell 4
      have c0 : wq.cell? ⟨w.heap.size + 1 + 1, 0, none⟩ = some (.int .u32 (xa : Int)) := q1.cell 0
      have z4 := q1.frozen 4
      have z0 := q1.frozen 0
      obtain ⟨D, hD, hDe⟩ : ∃ D : Nat, IntKind.u32.wrap ((xd : Int) + (X : Int)) = (D : Int) ∧ D = (xd + X) % 4294967296 := ⟨_, by rw [IntKind.wrap_u32]; omega, rfl⟩
      obtain ⟨A0, hA, hAe⟩ : ∃ A0 : Nat, IntKind.u32.wrap ((X : Int) + (Y : Int)) = (A0 : Int) ∧ A0 = (X + Y) % 4294967296 := ⟨_, by rw [IntKind.wrap_u32]; omega, rfl⟩
      have hDh := Lib.hid hDe
      have hAh := Lib.hid hAe
      clear hDe hAe
      go_wp2
      go_roundw
      case rel =>
        refine ⟨t + 1, ⟨A0, xa, xb, xc, D, xe, xf, xg⟩, by go_num, by omega, ?_, ⟨?_, ba, bb, bc, ?_, be, bf, bg⟩, ?_, ?_, ?_, ?_⟩
        · show _ = _
          rw [hnext.out, rnd, ← hXh.out, ← hYh.out, ← hDh.out, ← hAh.out]
        · have := hAh.out; show A0 < _; omega
        · have := hDh.out; show D < _; omega
        · have := ((q1.set_ 4 (.int .u32 (D : Int))).set_ 0 (.int .u32 (A0 : Int)))
          rw [u32s_set, u32s_set] at this
          exact this
        · exact (q2.far (p := ⟨w.heap.size + 1 + 1, 4, none⟩) (by simp; omega) _).far (p := ⟨w.heap.size + 1 + 1, 0, none⟩) (by simp; omega) _
        · exact (q3.far (p := ⟨w.heap.size + 1 + 1, 4, none⟩) (by simp) _).far (p := ⟨w.heap.size + 1 + 1, 0, none⟩) (by simp) _
        · exact (qbel.setCell (p := ⟨w.heap.size + 1 + 1, 4, none⟩) (by simp; omega) _).setCell (p := ⟨w.heap.size + 1 + 1, 0, none⟩) (by simp; omega) _
      case measure => simp [intOf]; omega
    · have ht64 : t = 64 := by omega
      have hti : ¬ (t : Int) < 64 := by omega
      have hsv : Hid (R = s.plus s0) := by show _ = _; rw [← hR.out, blockOf, ← ht64, ← hst.out]
      clear ht64 hst
      go_wp2
      go_loopw [96] (fun i wr => ∃ i' : Nat, i = .int .i64 i' ∧ i' ≤ 8 ∧ Blk wr (w.heap.size + 1 + 1) 65 (u32s (mixed s.list s0.list i')) ∧ Blk wr w.heap.size 65 (u32s s0.list) ∧ Blk wr (w.heap.size + 1) 65 (u32s (List.replicate 8 0)) ∧ Below w.heap.size w wr) (fun i _ => 8 - (intOf i).toNat)
      case atStart => exact ⟨0, rfl, by omega, h1, h2, h3, hbel⟩
      case round =>
        obtain ⟨i, rfl, hi, h1, h2, h3, hbel⟩ := hrel
        have hbs := h1.lt
        by_cases hi8 : i < 8
        · have hii : (i : Int) < 8 := by omega
          have ml : (mixed s.list s0.list i).length = 8 := mixed_length s.list s0.list rfl i hi
          have cv : wr.cell? ⟨w.heap.size + 1 + 1, i, none⟩ = some (.int .u32 (s.list.getD i 0 : Nat)) := by
            rw [h1.cell, u32s_get _ _ (by omega), mixed_get s.list s0.list rfl i hi8]
          have cs : wr.cell? ⟨w.heap.size, i, none⟩ = some (.int .u32 (s0.list.getD i 0 : Nat)) := by
            rw [h2.cell, u32s_get _ _ hi8]
          have zv := h1.frozen i
          have hms := Lib.hid (mixed_step s.list s0.list rfl i hi8)
          unfold add32 at hms
          generalize s.list.getD i 0 = xv at *
          generalize s0.list.getD i 0 = xs at *
          obtain ⟨N, hN, hNe⟩ : ∃ N : Nat, IntKind.u32.wrap ((xv : Int) + (xs : Int)) = (N : Int) ∧ N = (xv + xs) % 4294967296 := ⟨_, by rw [IntKind.wrap_u32]; omega, rfl⟩
          have hNh := Lib.hid hNe
          clear hNe
          go_wp2
          go_region
          go_wp2
          go_roundw
          case rel =>
            refine ⟨i + 1, by go_num, by omega, ?_, ?_, ?_, ?_⟩
            · have := (h1.set_ i (.int .u32 (N : Int))).drew
              rw [u32s_set, hNh.out, hms.out] at this
              rw [hNh.out]
              exact this
            · exact (h2.far (p := ⟨w.heap.size + 1 + 1, i, none⟩) (by simp; omega) _).drew
            · exact (h3.far (p := ⟨w.heap.size + 1 + 1, i, none⟩) (by simp) _).drew
            · exact (hbel.setCell (p := ⟨w.heap.size + 1 + 1, i, none⟩) (by simp; omega) _).drew
          case measure => simp [intOf]; omega
        · have hi8' : i = 8 := by omega
          have hii : ¬ (i : Int) < 8 := by omega
          rw [hi8', mixed_all, ← hsv.out] at h1
          clear hi8'
          have hi' : (Tryd.prog.info? 65).map (·.size) = some (u32s R.list).size := by rw [u32s_list_size]; exact sz8
          have hall' := u32s_one R.list
          have hold' : (u32s (List.replicate 8 0)).size = (u32s R.list).size := by rw [u32s_list_size]; rfl
          go_wp2_with (first
            | (refine wpList_load_row rfl 65 (.tmp 6) rfl (w.heap.size + 1 + 1) rfl _ _ _ _ h1 Tryd.underlying65 rfl hi' ?_)
            | (refine wpList_store_row rfl 65 (.tmp 4) (.tmp 108) rfl (w.heap.size + 1) (u32s R.list) rfl rfl _ _ h3 hi' hold' hall' ?_))
          exact bodyPost_ret (results_cell_row rfl _ _ (w.heap.size + 1) _ _ _ _ rfl (setRow_heap _ _ _ _ _ _ h3) Tryd.underlying65 rfl hi') rfl ⟨by rw [hR.out], below_setRow hbel (by omega) _⟩
end Go.Proofs.YtoekdiklbfdpiaaDoor
/-
  DERIVED: THE SHELF's CONTRACTS AT THIS DUMP, IN PLAIN WORDS (tools/lay-plain.mjs out of 'TrydShelf.lean', which tools/lay-shelf.mjs wrote): THE SAME DECLARATIONS UNDER THE SAME NAMES: 'import', 'namespace', 'open', 'def', 'theorem' AND NOTHING ELSE: no command of the shelf's: FOR A HAND-IN. Each laying: the table of numbers ('.._ren') and one theorem, a field a fact of the dump's own or the kernel's comparison; each contract: ONE APPLICATION.
-/
namespace Go.Proofs
open Go.Shelf
def Tryd.lays170_ren : Go.Shelf.Ren := ⟨fun | 170 => 33 | n => n, fun | 70 => 69 | 3 => 3 | 0 => 0 | 72 => 71 | 37 => 38 | 5 => 5 | n => n, fun | n => n⟩
theorem Tryd.lays170 : Go.Proofs.Lays.n170 Tryd.prog Tryd.lays170_ren := {
  mixed := by kernel_rfl
  f170 := Tryd.func33.trans (congrArg some (by kernel_rfl))
  t0 := Tryd.underlying0
  a0 := Tryd.isAgg0
  z0 := Tryd.sizeOf0
  v0 := Tryd.zeroValue0
  t3 := Tryd.underlying3
  a3 := Tryd.isAgg3
  z3 := Tryd.sizeOf3
  v3 := Tryd.zeroValue3
  t37 := Tryd.underlying38
  a37 := Tryd.isAgg38
  z37 := Tryd.sizeOf38
  v37 := Tryd.zeroValue38
  t70 := Tryd.underlying69
  a70 := Tryd.isAgg69
  z70 := Tryd.sizeOf69
  v70 := Tryd.zeroValue69
  t72 := Tryd.underlying71
  a72 := Tryd.isAgg71
  z72 := Tryd.sizeOf71
  v72 := Tryd.zeroValue71 }
open Go.RowKit in
/-- (*strings.Builder).Len: "Len returns the number of accumulated bytes; b.Len() == len(b.String()).": the world is as it was. (LAID: no walk: one application.) -/
theorem Tryd.Builder_Len (B b : Nat) (bs : List Value) (w : World) (h : Lib.IsBuilder 71 5 B b bs w) :
    Calls Tryd.prog 33 #[.pointer (some ⟨b, 0, none⟩)] w fun e w' => e = .returned (.int .i64 bs.length) ∧ w' = w := Any.Builder_Len Tryd.lays170 B b bs w h
def Tryd.lays169_ren : Go.Shelf.Ren := ⟨fun | 169 => 31 | n => n, fun | 70 => 69 | 9 => 9 | 0 => 0 | 72 => 71 | 37 => 38 | 127 => 94 | 3 => 3 | 5 => 5 | n => n, fun | n => n⟩
theorem Tryd.lays169 : Go.Proofs.Lays.n169 Tryd.prog Tryd.lays169_ren := {
  mixed := by kernel_rfl
  f169 := Tryd.func31.trans (congrArg some (by kernel_rfl))
  t0 := Tryd.underlying0
  a0 := Tryd.isAgg0
  z0 := Tryd.sizeOf0
  v0 := Tryd.zeroValue0
  t3 := Tryd.underlying3
  a3 := Tryd.isAgg3
  z3 := Tryd.sizeOf3
  v3 := Tryd.zeroValue3
  t9 := Tryd.underlying9
  a9 := Tryd.isAgg9
  z9 := Tryd.sizeOf9
  v9 := Tryd.zeroValue9
  t37 := Tryd.underlying38
  a37 := Tryd.isAgg38
  z37 := Tryd.sizeOf38
  v37 := Tryd.zeroValue38
  t70 := Tryd.underlying69
  a70 := Tryd.isAgg69
  z70 := Tryd.sizeOf69
  v70 := Tryd.zeroValue69
  t72 := Tryd.underlying71
  a72 := Tryd.isAgg71
  z72 := Tryd.sizeOf71
  v72 := Tryd.zeroValue71
  t127 := Tryd.underlying94
  a127 := Tryd.isAgg94
  z127 := Tryd.sizeOf94
  v127 := Tryd.zeroValue94 }
theorem Tryd.Builder_Extra_169 : Builder.Extra Tryd.prog Tryd.lays169_ren := {
  sizeBuilder := by kernel_rfl
  liesBuilder := by kernel_rfl
  t5 := Tryd.underlying5
  a5 := Tryd.isAgg5
  z5 := Tryd.sizeOf5
  v5 := Tryd.zeroValue5
  infoByte := by kernel_rfl
  cellsByte := by kernel_rfl
  sizeByte := by kernel_rfl
  neB5 := by decide }
open Go.RowKit in
/-- (*strings.Builder).String: "String returns the accumulated string.": OF A BUILDER THAT HOLDS AT LEAST ONE BYTE. ✋ THE MODEL FREEZES THOSE BYTES IN THE BUFFER (unsafe.String): a later write INTO them ends the model's run without an answer; a later append BEHIND them goes on. The statement's order of evaluation is drawn: one draw. (LAID: no walk: one application.) -/
theorem Tryd.Builder_String (B b : Nat) (l : List UInt8) (w : World) (h : Lib.IsBuilder 71 5 B b (Lib.byteCells l) w) (h0 : l ≠ []) :
    Calls Tryd.prog 31 #[.pointer (some ⟨b, 0, none⟩)] w fun e w' => e = .returned (.string ⟨l.toArray⟩) ∧ Below B w w' := Any.Builder_String Tryd.lays169 Tryd.Builder_Extra_169 B b l w h h0
open Go.RowKit in
/-- (*strings.Builder).String OF A BUILDER THAT HOLDS NO BYTE: the empty string. (Its buffer is nil, or a row of which it has taken nothing yet; where that row has NO capacity the model lays one new block for unsafe.SliceData's 'some address'.) One draw. (LAID: no walk: one application.) -/
theorem Tryd.Builder_String_empty (B b : Nat) (w : World) (h : Lib.IsBuilder 71 5 B b [] w) (hBw : B ≤ w.heap.size) :
    Calls Tryd.prog 31 #[.pointer (some ⟨b, 0, none⟩)] w fun e w' => e = .returned (.string ⟨#[]⟩) ∧ Below B w w' := Any.Builder_String_empty Tryd.lays169 Tryd.Builder_Extra_169 B b w h hBw
open Go.RowKit in
/-- (*strings.Builder).String: "String returns the accumulated string.": WHATEVER THE BUILDER HOLDS. (LAID: no walk: one application.) -/
theorem Tryd.Builder_String_any (B b : Nat) (l : List UInt8) (w : World) (h : Lib.IsBuilder 71 5 B b (Lib.byteCells l) w) (hBw : B ≤ w.heap.size) :
    Calls Tryd.prog 31 #[.pointer (some ⟨b, 0, none⟩)] w fun e w' => e = .returned (.string ⟨l.toArray⟩) ∧ Below B w w' := Any.Builder_String_any Tryd.lays169 Tryd.Builder_Extra_169 B b l w h hBw
def Tryd.lays241_ren : Go.Shelf.Ren := ⟨fun | 241 => 60 | 277 => 64 | n => n, fun | 70 => 69 | 3 => 3 | 0 => 0 | 72 => 71 | 37 => 38 | 5 => 5 | n => n, fun | n => n⟩
theorem Tryd.lays241 : Go.Proofs.Lays.n241 Tryd.prog Tryd.lays241_ren := {
  mixed := by kernel_rfl
  f241 := Tryd.func60.trans (congrArg some (by kernel_rfl))
  f277 := Tryd.func64.trans (congrArg some (by kernel_rfl))
  t0 := Tryd.underlying0
  a0 := Tryd.isAgg0
  z0 := Tryd.sizeOf0
  v0 := Tryd.zeroValue0
  t3 := Tryd.underlying3
  a3 := Tryd.isAgg3
  z3 := Tryd.sizeOf3
  v3 := Tryd.zeroValue3
  t37 := Tryd.underlying38
  a37 := Tryd.isAgg38
  z37 := Tryd.sizeOf38
  v37 := Tryd.zeroValue38
  t70 := Tryd.underlying69
  a70 := Tryd.isAgg69
  z70 := Tryd.sizeOf69
  v70 := Tryd.zeroValue69
  t72 := Tryd.underlying71
  a72 := Tryd.isAgg71
  z72 := Tryd.sizeOf71
  v72 := Tryd.zeroValue71 }
theorem Tryd.Builder_Extra_241 : Builder.Extra Tryd.prog Tryd.lays241_ren := {
  sizeBuilder := by kernel_rfl
  liesBuilder := by kernel_rfl
  t5 := Tryd.underlying5
  a5 := Tryd.isAgg5
  z5 := Tryd.sizeOf5
  v5 := Tryd.zeroValue5
  infoByte := by kernel_rfl
  cellsByte := by kernel_rfl
  sizeByte := by kernel_rfl
  neB5 := by decide }
open Go.RowKit in
/-- (*strings.Builder).grow (no doc but "grow copies the buffer to a new, larger buffer so that there are at least n bytes of capacity beyond len(b.buf)."): AT A BUILDER WITHOUT A BUFFER: a new row of whatever bytes for its buffer, none of them its own yet. Three draws. (LAID: no walk: one application.) -/
theorem Tryd.Builder_grow_fresh (B b n : Nat) (w : World) (hB : B ≤ b) (hbk : w.heap[b]? = some (.cells #[.pointer (some ⟨b, 0, none⟩), .slice none 0 0] 71 (0, 0))) (hBw : B ≤ w.heap.size) (hn : n ≤ 281474976710656) :
    Calls Tryd.prog 60 #[.pointer (some ⟨b, 0, none⟩), .int .i64 n] w fun e w' => e = .returned (.tuple #[]) ∧ (Lib.BuilderAt 71 5 B b (.pointer (some ⟨b, 0, none⟩)) [] w' ∧ Below B w w') := Any.Builder_grow_fresh Tryd.lays241 Tryd.Builder_Extra_241 B b n w hB hbk hBw hn
def Tryd.lays165_ren : Go.Shelf.Ren := ⟨fun | 165 => 54 | 240 => 39 | 241 => 60 | 276 => 50 | 277 => 64 | n => n, fun | 70 => 69 | 3 => 3 | 0 => 0 | 4 => 4 | 9 => 9 | 20 => 20 | 72 => 71 | 37 => 38 | 164 => 103 | 5 => 5 | n => n, fun | n => n⟩
theorem Tryd.lays165 : Go.Proofs.Lays.n165 Tryd.prog Tryd.lays165_ren := {
  mixed := by kernel_rfl
  f165 := Tryd.func54.trans (congrArg some (by kernel_rfl))
  f240 := Tryd.func39.trans (congrArg some (by kernel_rfl))
  f241 := Tryd.func60.trans (congrArg some (by kernel_rfl))
  f276 := Tryd.func50.trans (congrArg some (by kernel_rfl))
  f277 := Tryd.func64.trans (congrArg some (by kernel_rfl))
  t0 := Tryd.underlying0
  a0 := Tryd.isAgg0
  z0 := Tryd.sizeOf0
  v0 := Tryd.zeroValue0
  t3 := Tryd.underlying3
  a3 := Tryd.isAgg3
  z3 := Tryd.sizeOf3
  v3 := Tryd.zeroValue3
  t4 := Tryd.underlying4
  a4 := Tryd.isAgg4
  z4 := Tryd.sizeOf4
  v4 := Tryd.zeroValue4
  t9 := Tryd.underlying9
  a9 := Tryd.isAgg9
  z9 := Tryd.sizeOf9
  v9 := Tryd.zeroValue9
  t20 := Tryd.underlying20
  a20 := Tryd.isAgg20
  z20 := Tryd.sizeOf20
  v20 := Tryd.zeroValue20
  t37 := Tryd.underlying38
  a37 := Tryd.isAgg38
  z37 := Tryd.sizeOf38
  v37 := Tryd.zeroValue38
  t70 := Tryd.underlying69
  a70 := Tryd.isAgg69
  z70 := Tryd.sizeOf69
  v70 := Tryd.zeroValue69
  t72 := Tryd.underlying71
  a72 := Tryd.isAgg71
  z72 := Tryd.sizeOf71
  v72 := Tryd.zeroValue71
  t164 := Tryd.underlying103
  a164 := Tryd.isAgg103
  z164 := Tryd.sizeOf103
  v164 := Tryd.zeroValue103 }
theorem Tryd.Builder_Extra_165 : Builder.Extra Tryd.prog Tryd.lays165_ren := {
  sizeBuilder := by kernel_rfl
  liesBuilder := by kernel_rfl
  t5 := Tryd.underlying5
  a5 := Tryd.isAgg5
  z5 := Tryd.sizeOf5
  v5 := Tryd.zeroValue5
  infoByte := by kernel_rfl
  cellsByte := by kernel_rfl
  sizeByte := by kernel_rfl
  neB5 := by decide }
open Go.RowKit in
/-- (*strings.Builder).Grow AT A BUILDER THAT HAS NOT BEEN WRITTEN ('var b strings.Builder; b.Grow(n)'): "Grow grows b's capacity, if necessary, to guarantee space for another n bytes.": it holds no byte behind it as before it. (LAID: no walk: one application.) -/
theorem Tryd.Builder_Grow_fresh (B b n : Nat) (w : World) (hB : B ≤ b) (hbk : w.heap[b]? = some (.cells #[.pointer none, .slice none 0 0] 71 (0, 0))) (hBw : B ≤ w.heap.size) (hn : n ≤ 281474976710656) :
    Calls Tryd.prog 54 #[.pointer (some ⟨b, 0, none⟩), .int .i64 n] w fun e w' => e = .returned (.tuple #[]) ∧ (Lib.BuilderAt 71 5 B b (.pointer (some ⟨b, 0, none⟩)) [] w' ∧ Below B w w') := Any.Builder_Grow_fresh Tryd.lays165 Tryd.Builder_Extra_165 B b n w hB hbk hBw hn
def Tryd.lays156_ren : Go.Shelf.Ren := ⟨fun | 156 => 42 | 165 => 54 | 166 => 26 | 169 => 31 | 240 => 39 | 241 => 60 | 276 => 50 | 277 => 64 | n => n, fun | 31 => 90 | 9 => 9 | 3 => 3 | 4 => 4 | 0 => 0 | 20 => 20 | 72 => 71 | 76 => 74 | 70 => 69 | 37 => 38 | 75 => 73 | 127 => 94 | 164 => 103 | 5 => 5 | 80 => 79 | n => n, fun | n => n⟩
theorem Tryd.lays156 : Go.Proofs.Lays.n156 Tryd.prog Tryd.lays156_ren := {
  mixed := by kernel_rfl
  f156 := Tryd.func42.trans (congrArg some (by kernel_rfl))
  f165 := Tryd.func54.trans (congrArg some (by kernel_rfl))
  f166 := Tryd.func26.trans (congrArg some (by kernel_rfl))
  f169 := Tryd.func31.trans (congrArg some (by kernel_rfl))
  f240 := Tryd.func39.trans (congrArg some (by kernel_rfl))
  f241 := Tryd.func60.trans (congrArg some (by kernel_rfl))
  f276 := Tryd.func50.trans (congrArg some (by kernel_rfl))
  f277 := Tryd.func64.trans (congrArg some (by kernel_rfl))
  t0 := Tryd.underlying0
  a0 := Tryd.isAgg0
  z0 := Tryd.sizeOf0
  v0 := Tryd.zeroValue0
  t3 := Tryd.underlying3
  a3 := Tryd.isAgg3
  z3 := Tryd.sizeOf3
  v3 := Tryd.zeroValue3
  t4 := Tryd.underlying4
  a4 := Tryd.isAgg4
  z4 := Tryd.sizeOf4
  v4 := Tryd.zeroValue4
  t9 := Tryd.underlying9
  a9 := Tryd.isAgg9
  z9 := Tryd.sizeOf9
  v9 := Tryd.zeroValue9
  t20 := Tryd.underlying20
  a20 := Tryd.isAgg20
  z20 := Tryd.sizeOf20
  v20 := Tryd.zeroValue20
  t31 := Tryd.underlying90
  a31 := Tryd.isAgg90
  z31 := Tryd.sizeOf90
  v31 := Tryd.zeroValue90
  t37 := Tryd.underlying38
  a37 := Tryd.isAgg38
  z37 := Tryd.sizeOf38
  v37 := Tryd.zeroValue38
  t70 := Tryd.underlying69
  a70 := Tryd.isAgg69
  z70 := Tryd.sizeOf69
  v70 := Tryd.zeroValue69
  t72 := Tryd.underlying71
  a72 := Tryd.isAgg71
  z72 := Tryd.sizeOf71
  v72 := Tryd.zeroValue71
  t75 := Tryd.underlying73
  a75 := Tryd.isAgg73
  z75 := Tryd.sizeOf73
  v75 := Tryd.zeroValue73
  t76 := Tryd.underlying74
  a76 := Tryd.isAgg74
  z76 := Tryd.sizeOf74
  v76 := Tryd.zeroValue74
  t127 := Tryd.underlying94
  a127 := Tryd.isAgg94
  z127 := Tryd.sizeOf94
  v127 := Tryd.zeroValue94
  t164 := Tryd.underlying103
  a164 := Tryd.isAgg103
  z164 := Tryd.sizeOf103
  v164 := Tryd.zeroValue103 }
theorem Tryd.Builder_Extra_156 : Builder.Extra Tryd.prog Tryd.lays156_ren := {
  sizeBuilder := by kernel_rfl
  liesBuilder := by kernel_rfl
  t5 := Tryd.underlying5
  a5 := Tryd.isAgg5
  z5 := Tryd.sizeOf5
  v5 := Tryd.zeroValue5
  infoByte := by kernel_rfl
  cellsByte := by kernel_rfl
  sizeByte := by kernel_rfl
  neB5 := by decide }
open Go.RowKit in
/-- No element: the empty string; the world is as it was. (Whatever the slice's address and capacity: a nil slice too.) (LAID: no walk: one application.) -/
theorem Tryd.strings_Join_none (a : Option Addr) (c : Nat) (sep : ByteArray) (w : World) :
    Calls Tryd.prog 42 #[.slice a 0 c, .string sep] w fun e w' => e = .returned (.string ⟨#[]⟩) ∧ w' = w := Any.strings_Join_none Tryd.lays156 Tryd.Builder_Extra_156 a c sep w
open Go.RowKit in
/-- strings.Join: "Join concatenates the elements of its first argument to create a single string. The separator string sep is placed between elements in the resulting string.": HOWEVER MANY ELEMENTS. Below the heap's end the world is as it was. (LAID: no walk: one application.) -/
theorem Tryd.strings_Join (bk o c : Nat) (xs : List ByteArray) (sep : ByteArray) (w : World) (hcells : ∀ (j : Nat) x, xs[j]? = some x → w.cell? ⟨bk, o + j, none⟩ = some (.string x)) (hbk : bk < w.heap.size) (hN : xs.length ≤ 140737488355328) (hcap : xs.length ≤ c) (hlen : (Lib.join (xs.map (·.data.toList)) sep.data.toList).length ≤ 140737488355328) :
    Calls Tryd.prog 42 #[.slice (some ⟨bk, o, none⟩) xs.length c, .string sep] w fun e w' => e = .returned (.string ⟨(Lib.join (xs.map (·.data.toList)) sep.data.toList).toArray⟩) ∧ Below w.heap.size w w' := Any.strings_Join Tryd.lays156 Tryd.Builder_Extra_156 bk o c xs sep w hcells hbk hN hcap hlen
open Go.RowKit in
/-- (*strings.Builder).Len: "Len returns the number of accumulated bytes; b.Len() == len(b.String()).": the world is as it was. (THE FORM '_f': 'Lib.IsBuilderF'.) (LAID: no walk: one application.) -/
theorem Tryd.Builder_Len_f (B b : Nat) (bs : List Value) (w : World) (h : Lib.IsBuilderF 71 5 B b bs w) :
    Calls Tryd.prog 33 #[.pointer (some ⟨b, 0, none⟩)] w fun e w' => e = .returned (.int .i64 bs.length) ∧ w' = w := Any.Builder_Len_f Tryd.lays170 B b bs w h
open Go.RowKit in
/-- (*strings.Builder).String: "String returns the accumulated string.": OF A BUILDER THAT HOLDS AT LEAST ONE BYTE. ✋ THE MODEL FREEZES THOSE BYTES IN THE BUFFER (unsafe.String): a later write INTO them ends the model's run without an answer; a later append BEHIND them goes on. The statement's order of evaluation is drawn: one draw. THE FORM '_f': IT SAYS BESIDES THAT THE BUILDER IS A BUILDER STILL ('Lib.IsBuilderF', the same bytes): SO IT CAN BE WRITTEN ON: 'b.WriteString(b.String()[:k])'. (LAID: no walk: one application.) -/
theorem Tryd.Builder_String_f (B b : Nat) (l : List UInt8) (w : World) (h : Lib.IsBuilderF 71 5 B b (Lib.byteCells l) w) (h0 : l ≠ []) :
    Calls Tryd.prog 31 #[.pointer (some ⟨b, 0, none⟩)] w fun e w' => e = .returned (.string ⟨l.toArray⟩) ∧ (Lib.IsBuilderF 71 5 B b (Lib.byteCells l) w' ∧ Below B w w') := Any.Builder_String_f Tryd.lays169 Tryd.Builder_Extra_169 B b l w h h0
open Go.RowKit in
/-- (*strings.Builder).String OF A BUILDER THAT HOLDS NO BYTE: the empty string; THE FORM '_f': a builder still. (LAID: no walk: one application.) -/
theorem Tryd.Builder_String_empty_f (B b : Nat) (w : World) (h : Lib.IsBuilderF 71 5 B b [] w) (hBw : B ≤ w.heap.size) :
    Calls Tryd.prog 31 #[.pointer (some ⟨b, 0, none⟩)] w fun e w' => e = .returned (.string ⟨#[]⟩) ∧ (Lib.IsBuilderF 71 5 B b [] w' ∧ Below B w w') := Any.Builder_String_empty_f Tryd.lays169 Tryd.Builder_Extra_169 B b w h hBw
open Go.RowKit in
/-- (*strings.Builder).String: "String returns the accumulated string.": WHATEVER THE BUILDER HOLDS; THE FORM '_f': OF A BUILDER THAT MAY HAVE BEEN READ BEFORE; AND IT IS A BUILDER STILL, holding the same bytes: it can be written on. (LAID: no walk: one application.) -/
theorem Tryd.Builder_String_any_f (B b : Nat) (l : List UInt8) (w : World) (h : Lib.IsBuilderF 71 5 B b (Lib.byteCells l) w) (hBw : B ≤ w.heap.size) :
    Calls Tryd.prog 31 #[.pointer (some ⟨b, 0, none⟩)] w fun e w' => e = .returned (.string ⟨l.toArray⟩) ∧ (Lib.IsBuilderF 71 5 B b (Lib.byteCells l) w' ∧ Below B w w') := Any.Builder_String_any_f Tryd.lays169 Tryd.Builder_Extra_169 B b l w h hBw
open Go.RowKit in
/-- (*strings.Builder).String: "String returns the accumulated string.": OF A BUILDER THAT HOLDS AT LEAST ONE BYTE. ✋ THE MODEL FREEZES THOSE BYTES IN THE BUFFER (unsafe.String): a later write INTO them ends the model's run without an answer; a later append BEHIND them goes on. The statement's order of evaluation is drawn: one draw. THE FORM '_k': OVER 'Lib.IsBuilderF' (a builder that 'String()' may have read), AND WITH THE FRAME THAT REACHES ABOVE THE BUILDER: 'Lib.OthersKept': every block that is not b and is no row of uint8's stands as it stood: the iterator of a range among them. (LAID: no walk: one application.) -/
theorem Tryd.Builder_String_k (B b : Nat) (l : List UInt8) (w : World) (h : Lib.IsBuilderF 71 5 B b (Lib.byteCells l) w) (h0 : l ≠ []) :
    Calls Tryd.prog 31 #[.pointer (some ⟨b, 0, none⟩)] w fun e w' => e = .returned (.string ⟨l.toArray⟩) ∧ (Lib.IsBuilderF 71 5 B b (Lib.byteCells l) w' ∧ Below B w w' ∧ Lib.OthersKept 5 (some b) w w') := Any.Builder_String_k Tryd.lays169 Tryd.Builder_Extra_169 B b l w h h0
open Go.RowKit in
/-- (*strings.Builder).String OF A BUILDER THAT HOLDS NO BYTE: the empty string; THE FORM '_k': OVER 'Lib.IsBuilderF' (a builder that 'String()' may have read), AND WITH THE FRAME THAT REACHES ABOVE THE BUILDER: 'Lib.OthersKept': every block that is not b and is no row of uint8's stands as it stood: the iterator of a range among them. (LAID: no walk: one application.) -/
theorem Tryd.Builder_String_empty_k (B b : Nat) (w : World) (h : Lib.IsBuilderF 71 5 B b [] w) (hBw : B ≤ w.heap.size) :
    Calls Tryd.prog 31 #[.pointer (some ⟨b, 0, none⟩)] w fun e w' => e = .returned (.string ⟨#[]⟩) ∧ (Lib.IsBuilderF 71 5 B b [] w' ∧ Below B w w' ∧ Lib.OthersKept 5 (some b) w w') := Any.Builder_String_empty_k Tryd.lays169 Tryd.Builder_Extra_169 B b w h hBw
open Go.RowKit in
/-- (*strings.Builder).String: "String returns the accumulated string.": WHATEVER THE BUILDER HOLDS; THE FORM '_k': OVER 'Lib.IsBuilderF' (a builder that 'String()' may have read), AND WITH THE FRAME THAT REACHES ABOVE THE BUILDER: 'Lib.OthersKept': every block that is not b and is no row of uint8's stands as it stood: the iterator of a range among them. (LAID: no walk: one application.) -/
theorem Tryd.Builder_String_any_k (B b : Nat) (l : List UInt8) (w : World) (h : Lib.IsBuilderF 71 5 B b (Lib.byteCells l) w) (hBw : B ≤ w.heap.size) :
    Calls Tryd.prog 31 #[.pointer (some ⟨b, 0, none⟩)] w fun e w' => e = .returned (.string ⟨l.toArray⟩) ∧ (Lib.IsBuilderF 71 5 B b (Lib.byteCells l) w' ∧ Below B w w' ∧ Lib.OthersKept 5 (some b) w w') := Any.Builder_String_any_k Tryd.lays169 Tryd.Builder_Extra_169 B b l w h hBw
open Go.RowKit in
/-- (*strings.Builder).grow (no doc but "grow copies the buffer to a new, larger buffer so that there are at least n bytes of capacity beyond len(b.buf)."): AT A BUILDER WITHOUT A BUFFER: a new row of whatever bytes for its buffer, none of them its own yet. Three draws. (LAID: no walk: one application.) -/
theorem Tryd.Builder_grow_fresh_cap (B b n : Nat) (w : World) (hB : B ≤ b) (hbk : w.heap[b]? = some (.cells #[.pointer (some ⟨b, 0, none⟩), .slice none 0 0] 71 (0, 0))) (hBw : B ≤ w.heap.size) (hn : n ≤ 281474976710656) :
    Calls Tryd.prog 60 #[.pointer (some ⟨b, 0, none⟩), .int .i64 n] w fun e w' => e = .returned (.tuple #[]) ∧ (Lib.BuilderAt 71 5 B b (.pointer (some ⟨b, 0, none⟩)) [] w' ∧ Below B w w') ∧ ∃ p cap, w'.cell? ⟨b, 1, none⟩ = some (.slice p 0 cap) ∧ n ≤ cap := Any.Builder_grow_fresh_cap Tryd.lays241 Tryd.Builder_Extra_241 B b n w hB hbk hBw hn
open Go.RowKit in
/-- (*strings.Builder).Grow AT A BUILDER THAT HAS NOT BEEN WRITTEN ('var b strings.Builder; b.Grow(n)'): "Grow grows b's capacity, if necessary, to guarantee space for another n bytes.": it holds no byte behind it as before it. (LAID: no walk: one application.) -/
theorem Tryd.Builder_Grow_fresh_cap (B b n : Nat) (w : World) (hB : B ≤ b) (hbk : w.heap[b]? = some (.cells #[.pointer none, .slice none 0 0] 71 (0, 0))) (hBw : B ≤ w.heap.size) (hn : n ≤ 281474976710656) :
    Calls Tryd.prog 54 #[.pointer (some ⟨b, 0, none⟩), .int .i64 n] w fun e w' => e = .returned (.tuple #[]) ∧ (Lib.BuilderAt 71 5 B b (.pointer (some ⟨b, 0, none⟩)) [] w' ∧ Below B w w') ∧ ∃ p cap, w'.cell? ⟨b, 1, none⟩ = some (.slice p 0 cap) ∧ n ≤ cap := Any.Builder_Grow_fresh_cap Tryd.lays165 Tryd.Builder_Extra_165 B b n w hB hbk hBw hn
def Tryd.lays206_ren : Go.Shelf.Ren := ⟨fun | 206 => 58 | n => n, fun | 9 => 9 | 4 => 4 | 3 => 3 | n => n, fun | n => n⟩
theorem Tryd.lays206 : Go.Proofs.Lays.n206 Tryd.prog Tryd.lays206_ren := {
  mixed := by kernel_rfl
  f206 := Tryd.func58.trans (congrArg some (by kernel_rfl))
  t3 := Tryd.underlying3
  a3 := Tryd.isAgg3
  z3 := Tryd.sizeOf3
  v3 := Tryd.zeroValue3
  t4 := Tryd.underlying4
  a4 := Tryd.isAgg4
  z4 := Tryd.sizeOf4
  v4 := Tryd.zeroValue4
  t9 := Tryd.underlying9
  a9 := Tryd.isAgg9
  z9 := Tryd.sizeOf9
  v9 := Tryd.zeroValue9 }
open Go.RowKit Go.Lib in
/-- internal/stringslite.HasPrefix (what strings.HasPrefix calls). (LAID: no walk: one application.) -/
theorem Tryd.stringslite_HasPrefix (s p : ByteArray) (w : World) :
    Calls Tryd.prog 58 #[.string s, .string p] w fun e w' => e = .returned (.bool (Lib.hasPrefix s.data.toList p.data.toList)) ∧ w' = w := Any.stringslite_HasPrefix Tryd.lays206 s p w
def Tryd.lays99_ren : Go.Shelf.Ren := ⟨fun | 99 => 45 | 206 => 58 | n => n, fun | 9 => 9 | 4 => 4 | 3 => 3 | n => n, fun | n => n⟩
theorem Tryd.lays99 : Go.Proofs.Lays.n99 Tryd.prog Tryd.lays99_ren := {
  mixed := by kernel_rfl
  f99 := Tryd.func45.trans (congrArg some (by kernel_rfl))
  f206 := Tryd.func58.trans (congrArg some (by kernel_rfl))
  t3 := Tryd.underlying3
  a3 := Tryd.isAgg3
  z3 := Tryd.sizeOf3
  v3 := Tryd.zeroValue3
  t4 := Tryd.underlying4
  a4 := Tryd.isAgg4
  z4 := Tryd.sizeOf4
  v4 := Tryd.zeroValue4
  t9 := Tryd.underlying9
  a9 := Tryd.isAgg9
  z9 := Tryd.sizeOf9
  v9 := Tryd.zeroValue9 }
open Go.RowKit Go.Lib in
/-- strings.HasPrefix: "HasPrefix reports whether the string s begins with prefix.": IT RETURNS 'Lib.hasPrefix s prefix'; the world is as it was. (LAID: no walk: one application.) -/
theorem Tryd.strings_HasPrefix (s p : ByteArray) (w : World) :
    Calls Tryd.prog 45 #[.string s, .string p] w fun e w' => e = .returned (.bool (Lib.hasPrefix s.data.toList p.data.toList)) ∧ w' = w := Any.strings_HasPrefix Tryd.lays99 s p w
def Tryd.lays264_ren : Go.Shelf.Ren := ⟨fun | 264 => 62 | n => n, fun | 53 => 56 | 46 => 64 | n => n, fun | n => n⟩
theorem Tryd.lays264 : Go.Proofs.Lays.n264 Tryd.prog Tryd.lays264_ren := {
  mixed := by kernel_rfl
  f264 := Tryd.func62.trans (congrArg some (by kernel_rfl))
  t46 := Tryd.underlying64
  a46 := Tryd.isAgg64
  z46 := Tryd.sizeOf64
  v46 := Tryd.zeroValue64
  t53 := Tryd.underlying56
  a53 := Tryd.isAgg56
  z53 := Tryd.sizeOf56
  v53 := Tryd.zeroValue56 }
open Go.RowKit Go.Lib in
theorem Tryd.bits_Mul64 (x y : Nat) (hx : x < 18446744073709551616) (hy : y < 18446744073709551616) (w : World) :
    Calls Tryd.prog 62 #[.int .u64 x, .int .u64 y] w fun e w' => e = .returned (.tuple #[.int .u64 ((x * y / 18446744073709551616 : Nat) : Int), .int .u64 ((x * y % 18446744073709551616 : Nat) : Int)]) ∧ w' = w := Any.bits_Mul64 Tryd.lays264 x y hx hy w
def Tryd.lays212_ren : Go.Shelf.Ren := ⟨fun | 212 => 55 | 263 => 61 | 264 => 62 | n => n, fun | 46 => 64 | 51 => 47 | 146 => 116 | 53 => 56 | 148 => 118 | n => n, fun | n => n⟩
theorem Tryd.lays212 : Go.Proofs.Lays.n212 Tryd.prog Tryd.lays212_ren := {
  mixed := by kernel_rfl
  f212 := Tryd.func55.trans (congrArg some (by kernel_rfl))
  f263 := Tryd.func61.trans (congrArg some (by kernel_rfl))
  f264 := Tryd.func62.trans (congrArg some (by kernel_rfl))
  t46 := Tryd.underlying64
  a46 := Tryd.isAgg64
  z46 := Tryd.sizeOf64
  v46 := Tryd.zeroValue64
  t51 := Tryd.underlying47
  a51 := Tryd.isAgg47
  z51 := Tryd.sizeOf47
  v51 := Tryd.zeroValue47
  t53 := Tryd.underlying56
  a53 := Tryd.isAgg56
  z53 := Tryd.sizeOf56
  v53 := Tryd.zeroValue56
  t146 := Tryd.underlying116
  a146 := Tryd.isAgg116
  z146 := Tryd.sizeOf116
  v146 := Tryd.zeroValue116
  t148 := Tryd.underlying118
  a148 := Tryd.isAgg118
  z148 := Tryd.sizeOf118
  v148 := Tryd.zeroValue118 }
open Go.RowKit Go.Lib in
/-- math/bits.Mul: "Mul returns the full-width product of x and y": on a machine of 64 bits: Mul64's. (LAID: no walk: one application.) -/
theorem Tryd.bits_Mul (x y : Nat) (hx : x < 18446744073709551616) (hy : y < 18446744073709551616) (w : World) :
    Calls Tryd.prog 55 #[.int .u64 x, .int .u64 y] w fun e w' => e = .returned (.tuple #[.int .u64 ((x * y / 18446744073709551616 : Nat) : Int), .int .u64 ((x * y % 18446744073709551616 : Nat) : Int)]) ∧ w' = w := Any.bits_Mul Tryd.lays212 x y hx hy w
def Tryd.lays105_ren : Go.Shelf.Ren := ⟨fun | 105 => 43 | 212 => 55 | 99 => 45 | 165 => 54 | 166 => 26 | 170 => 33 | 169 => 31 | 263 => 61 | 264 => 62 | 206 => 58 | 240 => 39 | 241 => 60 | 276 => 50 | 277 => 64 | n => n, fun | 9 => 9 | 3 => 3 | 4 => 4 | 20 => 20 | 0 => 0 | 46 => 64 | 109 => 110 | 5 => 5 | 72 => 71 | 76 => 74 | 51 => 47 | 146 => 116 | 53 => 56 | 148 => 118 | 70 => 69 | 37 => 38 | 75 => 73 | 127 => 94 | 164 => 103 | 80 => 79 | n => n, fun | n => n⟩
theorem Tryd.lays105 : Go.Proofs.Lays.n105 Tryd.prog Tryd.lays105_ren := {
  mixed := by kernel_rfl
  f99 := Tryd.func45.trans (congrArg some (by kernel_rfl))
  f105 := Tryd.func43.trans (congrArg some (by kernel_rfl))
  f165 := Tryd.func54.trans (congrArg some (by kernel_rfl))
  f166 := Tryd.func26.trans (congrArg some (by kernel_rfl))
  f169 := Tryd.func31.trans (congrArg some (by kernel_rfl))
  f170 := Tryd.func33.trans (congrArg some (by kernel_rfl))
  f206 := Tryd.func58.trans (congrArg some (by kernel_rfl))
  f212 := Tryd.func55.trans (congrArg some (by kernel_rfl))
  f240 := Tryd.func39.trans (congrArg some (by kernel_rfl))
  f241 := Tryd.func60.trans (congrArg some (by kernel_rfl))
  f263 := Tryd.func61.trans (congrArg some (by kernel_rfl))
  f264 := Tryd.func62.trans (congrArg some (by kernel_rfl))
  f276 := Tryd.func50.trans (congrArg some (by kernel_rfl))
  f277 := Tryd.func64.trans (congrArg some (by kernel_rfl))
  t0 := Tryd.underlying0
  a0 := Tryd.isAgg0
  z0 := Tryd.sizeOf0
  v0 := Tryd.zeroValue0
  t3 := Tryd.underlying3
  a3 := Tryd.isAgg3
  z3 := Tryd.sizeOf3
  v3 := Tryd.zeroValue3
  t4 := Tryd.underlying4
  a4 := Tryd.isAgg4
  z4 := Tryd.sizeOf4
  v4 := Tryd.zeroValue4
  t5 := Tryd.underlying5
  a5 := Tryd.isAgg5
  z5 := Tryd.sizeOf5
  v5 := Tryd.zeroValue5
  t9 := Tryd.underlying9
  a9 := Tryd.isAgg9
  z9 := Tryd.sizeOf9
  v9 := Tryd.zeroValue9
  t20 := Tryd.underlying20
  a20 := Tryd.isAgg20
  z20 := Tryd.sizeOf20
  v20 := Tryd.zeroValue20
  t37 := Tryd.underlying38
  a37 := Tryd.isAgg38
  z37 := Tryd.sizeOf38
  v37 := Tryd.zeroValue38
  t46 := Tryd.underlying64
  a46 := Tryd.isAgg64
  z46 := Tryd.sizeOf64
  v46 := Tryd.zeroValue64
  t51 := Tryd.underlying47
  a51 := Tryd.isAgg47
  z51 := Tryd.sizeOf47
  v51 := Tryd.zeroValue47
  t53 := Tryd.underlying56
  a53 := Tryd.isAgg56
  z53 := Tryd.sizeOf56
  v53 := Tryd.zeroValue56
  t70 := Tryd.underlying69
  a70 := Tryd.isAgg69
  z70 := Tryd.sizeOf69
  v70 := Tryd.zeroValue69
  t72 := Tryd.underlying71
  a72 := Tryd.isAgg71
  z72 := Tryd.sizeOf71
  v72 := Tryd.zeroValue71
  t75 := Tryd.underlying73
  a75 := Tryd.isAgg73
  z75 := Tryd.sizeOf73
  v75 := Tryd.zeroValue73
  t76 := Tryd.underlying74
  a76 := Tryd.isAgg74
  z76 := Tryd.sizeOf74
  v76 := Tryd.zeroValue74
  t109 := Tryd.underlying110
  a109 := Tryd.isAgg110
  z109 := Tryd.sizeOf110
  v109 := Tryd.zeroValue110
  t127 := Tryd.underlying94
  a127 := Tryd.isAgg94
  z127 := Tryd.sizeOf94
  v127 := Tryd.zeroValue94
  t146 := Tryd.underlying116
  a146 := Tryd.isAgg116
  z146 := Tryd.sizeOf116
  v146 := Tryd.zeroValue116
  t148 := Tryd.underlying118
  a148 := Tryd.isAgg118
  z148 := Tryd.sizeOf118
  v148 := Tryd.zeroValue118
  t164 := Tryd.underlying103
  a164 := Tryd.isAgg103
  z164 := Tryd.sizeOf103
  v164 := Tryd.zeroValue103 }
theorem Tryd.Builder_Extra_105 : Builder.Extra Tryd.prog Tryd.lays105_ren := {
  sizeBuilder := by kernel_rfl
  liesBuilder := by kernel_rfl
  t5 := Tryd.underlying5
  a5 := Tryd.isAgg5
  z5 := Tryd.sizeOf5
  v5 := Tryd.zeroValue5
  infoByte := by kernel_rfl
  cellsByte := by kernel_rfl
  sizeByte := by kernel_rfl
  neB5 := by decide }
open Go.RowKit Go.Lib in
/-- THE MAIN CASE: at least two copies of a string that is not empty. (LAID: no walk: one application.) -/
theorem Tryd.strings_Repeat_main (s : ByteArray) (c : Nat) (w : World) (hc2 : 2 ≤ c) (hc : c ≤ 9223372036854775807) (hlen : s.size * c ≤ 140737488355328) (h0 : 0 < s.size) :
    Calls Tryd.prog 43 #[.string s, .int .i64 c] w fun e w' => e = .returned (.string ⟨(Lib.repeatL s.data.toList c).toArray⟩) ∧ Below w.heap.size w w' := Any.strings_Repeat_main Tryd.lays105 Tryd.Builder_Extra_105 s c w hc2 hc hlen h0
open Go.RowKit Go.Lib in
theorem Tryd.strings_Repeat_zero (s : ByteArray) (w : World) :
    Calls Tryd.prog 43 #[.string s, .int .i64 0] w fun e w' => e = .returned (.string ⟨#[]⟩) ∧ w' = w := Any.strings_Repeat_zero Tryd.lays105 s w
open Go.RowKit Go.Lib in
theorem Tryd.strings_Repeat_one (s : ByteArray) (w : World) :
    Calls Tryd.prog 43 #[.string s, .int .i64 1] w fun e w' => e = .returned (.string s) ∧ w' = w := Any.strings_Repeat_one Tryd.lays105 s w
open Go.RowKit Go.Lib in
/-- Copies of the empty string. (LAID: no walk: one application.) -/
theorem Tryd.strings_Repeat_empty (s : ByteArray) (c : Nat) (w : World) (hc2 : 2 ≤ c) (hc : c ≤ 9223372036854775807) (h0 : s.size = 0) :
    Calls Tryd.prog 43 #[.string s, .int .i64 c] w fun e w' => e = .returned (.string ⟨#[]⟩) ∧ w' = w := Any.strings_Repeat_empty Tryd.lays105 s c w hc2 hc h0
open Go.RowKit Go.Lib in
/-- count < 0: "It panics if count is negative". (LAID: no walk: one application.) -/
theorem Tryd.strings_Repeat_negative (s : ByteArray) (c : Int) (w : World) (hc : c < 0) :
    Calls Tryd.prog 43 #[.string s, .int .i64 c] w fun e w' => e = .panicked [{ v := repeatPanic Tryd.lays105_ren "strings: negative Repeat count", recovered := false }] ∧ w' = w := Any.strings_Repeat_negative Tryd.lays105 s c w hc
open Go.RowKit Go.Lib in
/-- len(s) * count is no int: ".. or if the result of (len(s) * count) overflows". (LAID: no walk: one application.) -/
theorem Tryd.strings_Repeat_overflow (s : ByteArray) (c : Nat) (w : World) (hc : c ≤ 9223372036854775807) (hs : s.size ≤ 9223372036854775807) (hbig : 9223372036854775807 < s.size * c) :
    Calls Tryd.prog 43 #[.string s, .int .i64 c] w fun e w' => e = .panicked [{ v := repeatPanic Tryd.lays105_ren "strings: Repeat output length overflow", recovered := false }] ∧ w' = w := Any.strings_Repeat_overflow Tryd.lays105 s c w hc hs hbig
open Go.RowKit Go.Lib in
/-- **strings.Repeat: count ≥ 0, the result within one allocation: count copies of s.** (LAID: no walk: one application.) -/
theorem Tryd.strings_Repeat (s : ByteArray) (c : Nat) (w : World) (hc : c ≤ 9223372036854775807) (hlen : s.size * c ≤ 140737488355328) :
    Calls Tryd.prog 43 #[.string s, .int .i64 c] w fun e w' => e = .returned (.string ⟨(Lib.repeatL s.data.toList c).toArray⟩) ∧ Below w.heap.size w w' := Any.strings_Repeat Tryd.lays105 Tryd.Builder_Extra_105 s c w hc hlen
end Go.Proofs
/- The walk of layer 2's Sum (sha256). Conditions: the table of constants is as the program laid it; the parts together have at most 2^40 bytes. -/
namespace Go.Proofs.YtoekdiklbfdpiaaDoor
open Go.RowKit
attribute [local go_sem ↓] Go.wp_at_zero Go.wp_at_succ

/-- A slice of strings lies there. -/
def Strs (w : World) (v : Value) (ls : List (List UInt8)) : Prop :=
  (ls = [] ∧ ∃ a c, v = .slice a 0 c) ∨
  ∃ bk o c, v = .slice (some ⟨bk, o, none⟩) ls.length c ∧ (∀ (j : Nat) l, ls[j]? = some l → w.cell? ⟨bk, o + j, none⟩ = some (.string (B l))) ∧ bk < w.heap.size ∧ ls.length ≤ c ∧ ls.length ≤ 140737488355328
theorem Strs.below {w w' : World} {v : Value} {ls : List (List UInt8)} (h : Strs w v ls) (hb : Below w.heap.size w w') : Strs w' v ls := by
  rcases h with h | ⟨bk, o, c, h1, h2, h3, h4, h5⟩
  · exact .inl h
  · exact .inr ⟨bk, o, c, h1, fun j l hj => (hb.cell (p := ⟨bk, o + j, none⟩) h3).trans (h2 j l hj), Nat.lt_of_lt_of_le h3 hb.size, h4, h5⟩
theorem join_flatten (ls : List (List UInt8)) : Lib.join ls [] = ls.flatten := by
  have : ∀ l : List (List UInt8), (l.intersperse []).flatten = l.flatten := by
    intro l
    induction l with
    | nil => rfl
    | cons a r ih =>
      cases r with
      | nil => rfl
      | cons b r => rw [List.intersperse_cons_cons, List.flatten_cons, List.flatten_cons, ih]; rfl
  exact this ls
theorem join_calls (ls : List (List UInt8)) (v : Value) (w : World) (hv : Strs w v ls) (hlen : ls.flatten.length ≤ 140737488355328) :
    Calls Tryd.prog 42 #[v, .string ⟨#[]⟩] w fun e w' => e = .returned (.string (B ls.flatten)) ∧ Below w.heap.size w w' := by
  rcases hv with ⟨rfl, a, c, rfl⟩ | ⟨bk, o, c, rfl, h1, h2, h3, h4⟩
  · exact (Tryd.strings_Join_none a c ⟨#[]⟩ w).mono fun e w' h => ⟨h.1, h.2 ▸ Below.refl _ _⟩
  · have hm : (ls.map B).map (·.data.toList) = ls := by simp [List.map_map, Function.comp_def, B]
    have := Tryd.strings_Join bk o c (ls.map B) ⟨#[]⟩ w (fun j x hj => by
      rw [List.getElem?_map] at hj
      obtain ⟨l, hl, rfl⟩ := Option.map_eq_some_iff.1 hj
      exact h1 j l hl) h2 (by simpa using h4) (by simpa using h3) (by rw [hm, join_flatten]; exact hlen)
    rw [List.length_map, hm, join_flatten] at this
    exact this
theorem repeat_zeros (n : Nat) : Lib.repeatL [0] n = List.replicate n 0 := by
  induction n with
  | zero => rfl
  | succ n ih => rw [Lib.repeatL, ih, List.replicate_succ]; rfl
theorem zeros_calls (n : Nat) (hn : n ≤ 64) (w : World) :
    Calls Tryd.prog 43 #[.string ⟨#[0]⟩, .int .i64 n] w fun e w' => e = .returned (.string (B (List.replicate n 0))) ∧ Below w.heap.size w w' := by
  have := Tryd.strings_Repeat ⟨#[0]⟩ n w (by omega) (by show 1 * n ≤ _; omega)
  rw [show (⟨#[0]⟩ : ByteArray).data.toList = [0] from rfl, repeat_zeros] at this
  exact this
/-- The load and the store of eight words, not to be opened by the walk. -/
def ldv8 (p : Addr) : Sem Value := loadVar 65 p
def stv8 (p : Addr) (v : Value) : Sem Unit := storeVar 65 p v
theorem ldv8_eq (p : Addr) : loadVar 65 p = ldv8 p := rfl
theorem stv8_eq (p : Addr) (v : Value) : storeVar 65 p v = stv8 p v := rfl
theorem run_ldv8 (w : World) (g : Nat) (hh : HasRow w g 65 8) : (ldv8 ⟨g, 0, none⟩).run Tryd.prog w = .ok (.agg (RowOf w g)) w := by
  obtain ⟨cs, hn, h⟩ := hh
  rw [rowOf_blk h]
  exact run_loadVar_row w g _ _ _ _ _ h Tryd.underlying65 rfl (by rw [hn]; exact sz8)
theorem run_stv8 (w : World) (g : Nat) (r : H8) (hh : HasRow w g 65 8) : (stv8 ⟨g, 0, none⟩ (.agg (u32s r.list))).run Tryd.prog w = .ok () (w.setRow g (u32s r.list)) := by
  obtain ⟨cs, hn, h⟩ := hh
  exact run_storeVar_row w g _ _ _ _ h (by rw [u32s_list_size]; exact sz8) (by rw [u32s_list_size, hn]) (u32s_one _)
attribute [local go_sem ↓] ldv8_eq stv8_eq
attribute [local go_sem] run_ldv8 run_stv8
theorem lenBytes_step (n k : Nat) (hk : k < 8) : (lenBytes n).take k ++ [UInt8.ofNat ((n : Int) * 8 / 2 ^ (56 - 8 * k) % 256).toNat] = (lenBytes n).take (k + 1) := by
  have hlen : (lenBytes n).length = 8 := by simp [lenBytes]
  have e : ((n : Int) * 8 / 2 ^ (56 - 8 * k) % 256).toNat = 8 * n / 2 ^ (56 - 8 * k) % 256 := by
    have : (n : Int) * 8 / 2 ^ (56 - 8 * k) % 256 = ((8 * n / 2 ^ (56 - 8 * k) % 256 : Nat) : Int) := by
      rw [Int.mul_comm]; simp
    rw [this]; rfl
  rw [e, List.take_add_one, List.getElem?_eq_getElem (by omega)]
  simp [lenBytes]
theorem lenBytes_length (n : Nat) : (lenBytes n).length = 8 := by simp [lenBytes]
theorem padded_length (l : List UInt8) : ∃ m, (padded l).length = 64 * m := by
  refine ⟨(padded l).length / 64, ?_⟩
  have : (padded l).length = l.length + 1 + padLen l.length + 8 := by simp [padded, lenBytes_length]; omega
  rw [this]
  unfold padLen
  omega
theorem take_set (L : List UInt8) (i n : Nat) (hi : i < L.length) (hn : n = L.length) : (L.take i ++ List.replicate (n - i) 0).set i (L.getD i 0) = L.take (i + 1) ++ List.replicate (n - (i + 1)) 0 := by
  subst hn
  have hl : (L.take i).length = i := by simp; omega
  rw [List.set_append_right _ _ (by omega), hl, Nat.sub_self, show L.length - i = (L.length - (i + 1)) + 1 from by omega, List.replicate_succ, List.set_cons_zero, List.take_add_one, List.append_assoc, List.getElem?_eq_getElem hi]
  simp [List.getD, List.getElem?_eq_getElem hi]
theorem idOf_length (s : H8) : (idOf s).length = 32 := by simp [idOf]
theorem idOf_get (s : H8) (i : Nat) (hi : i < 32) : (idOf s).getD i 0 = (s.list.getD (i / 4) 0 / 2 ^ (24 - 8 * (i % 4)) % 256).toUInt8 := by
  have : i < (idOf s).length := by rw [idOf_length]; exact hi
  rw [List.getD, List.getElem?_eq_getElem this]
  simp only [idOf, List.getElem_map, List.getElem_range, Option.getD_some]
set_option maxRecDepth 100000 in
set_option maxHeartbeats 2000000 in
theorem sum_calls (ls : List (List UInt8)) (v : Value) (w : World) (hK : TabK w) (hv : Strs w v ls) (hlen : ls.flatten.length ≤ 1099511627776) :
    Calls Tryd.prog 30 #[v] w fun e w' => e = .returned (.agg (u8s (shaOf ls.flatten))) ∧ Below w.heap.size w w' := by
  go_enter Tryd.func30, Tryd.ntmps30
  obtain ⟨l, hl⟩ : ∃ l, ls.flatten = l := ⟨_, rfl⟩
  rw [hl] at hlen ⊢
  have hll : (l.length : Int) ≤ 1099511627776 := by omega
  obtain ⟨p, hpe⟩ : ∃ p, Hid (padLen l.length = p) := ⟨_, rfl⟩
  have hp64 : p ≤ 64 := by rw [← hpe.out]; unfold padLen; omega
  have hp1 : (120 - ((l.length : Int) + 1)) % 64 = (p : Int) := by rw [← hpe.out]; unfold padLen; omega
  have hp2 : (120 - ((l.length : Int) + 1) % 64) % 64 = (p : Int) := by rw [← hpe.out]; unfold padLen; omega
  go_wp2_with (first
    | (go_at_call 42; go_must (refine (join_calls ls v _ (hv.below ((Below.refl _ _).alloc (Nat.le_refl _) _)) (by rw [hl]; omega)).mono ?_); rw [hl]; rintro e w1 ⟨rfl, hb1⟩)
    | (go_at_call 43; go_must (refine (zeros_calls p hp64 _).mono ?_); rintro e w2 ⟨rfl, hb2⟩))
  have hr1 : Blk w1 w.heap.size 36 (u8s (List.replicate 32 0)) := Blk.below (Blk.new w _ _) hb1 (by rw [size_alloc']; omega)
  have hl1 : Below w.heap.size w w1 := bthen ((Below.refl _ _).alloc (Nat.le_refl _) _) (by rw [size_alloc']; omega) hb1
  have hr2 : Blk w2 w.heap.size 36 (u8s (List.replicate 32 0)) := hr1.below hb2 hr1.lt
  have hl2 : Below w.heap.size w w2 := bthen hl1 hl1.size hb2
  clear hb1 hb2 hr1 hl1
  have hbase0 : (l ++ 128 :: List.replicate p 0).length = l.length + 1 + p := by simp; omega
  generalize hbs : l ++ 128 :: List.replicate p 0 = bs at *
  have hbsh := Lib.hid hbs
  have hbase := Lib.hid hbase0
  have hbl : bs.length ≤ 1099511627776 + 100 := by omega
  clear hbs hbase0
  go_loopw [25, 3] (fun i tx wr => ∃ k : Nat, i = .int .i64 k ∧ k ≤ 8 ∧ tx = .string (B (bs ++ (lenBytes l.length).take k)) ∧ Blk wr w.heap.size 36 (u8s (List.replicate 32 0)) ∧ Below w.heap.size w wr) (fun i _ _ => 8 - (intOf i).toNat)
  case atStart => exact ⟨0, rfl, by omega, by rw [List.take_zero, List.append_nil], hr2, hl2⟩
  case round =>
    obtain ⟨k, rfl, hk, rfl, hr, hbel⟩ := hrel
    have hrl := hr.lt
    by_cases hk8 : k < 8
    · have hki : (k : Int) < 8 := by omega
      have hst1 := Tryd.str_of_one
      go_wp2
      have hstep := Lib.hid (lenBytes_step l.length k hk8)
      go_roundw
      case rel => exact ⟨k + 1, by go_num, by omega, by rw [hstep.out], hr.alloc _, hbel.alloc (by omega) _⟩
      case measure => simp [intOf]; omega
    · have hk8' : k = 8 := by omega
      have hki : ¬ (k : Int) < 8 := by omega
      have hpd : bs ++ (lenBytes l.length).take k = padded l := by
        rw [hk8', List.take_of_length_le (by rw [lenBytes_length]; omega), ← hbsh.out, ← hpe.out]
        simp [padded]
      rw [hpd]
      clear hk8' hpd
      obtain ⟨m0, hm0⟩ := padded_length l
      have hst0 : Hid (blocks m0 H0 (padded l) = stateOf l) := by
        show _ = _
        rw [stateOf, hm0, Nat.mul_div_cancel_left _ (by omega)]
      have hpdl : (padded l).length ≤ 1099511627976 := by
        have : (padded l).length = l.length + 1 + padLen l.length + 8 := by simp [padded, lenBytes_length]; omega
        rw [this, hpe.out]; omega
      generalize padded l = pd at *
      have hi8 : (Tryd.prog.info? 65).map (·.size) = some (u32s H0.list).size := by rw [u32s_list_size]; exact sz8
      have hall := u32s_one H0.list
      have hold : (u32s (List.replicate 8 0)).size = (u32s H0.list).size := rfl
      have hv0 := Blk.new wr 65 (u32s (List.replicate 8 0))
      go_wp2_with (first
        | (refine wpList_store_row rfl 65 (.tmp 6) (.tmp 39) rfl wr.heap.size (u32s H0.list) rfl rfl _ _ hv0 hi8 hold hall ?_))
      have h1 : Blk (World.setRow (wr.alloc (.cells (u32s (List.replicate 8 0)) 65)) wr.heap.size (u32s H0.list)) wr.heap.size 65 (u32s H0.list) := setRow_heap _ _ _ _ _ _ hv0
      have h2 : Blk (World.setRow (wr.alloc (.cells (u32s (List.replicate 8 0)) 65)) wr.heap.size (u32s H0.list)) w.heap.size 36 (u8s (List.replicate 32 0)) := by
        unfold Blk; rw [setRow_other _ _ _ _ (by omega)]; exact hr.alloc _
      have h3 : Below w.heap.size w (World.setRow (wr.alloc (.cells (u32s (List.replicate 8 0)) 65)) wr.heap.size (u32s H0.list)) := below_setRow (hbel.alloc (by omega) _) (by omega) _
      clear hv0 hr hbel
      obtain ⟨vb, hvb⟩ : ∃ vb, wr.heap.size = vb := ⟨_, rfl⟩
      have hvw : w.heap.size < vb := by omega
      go_loopw [3] (fun tx wr => ∃ (m : Nat) (rest : List UInt8) (s : H8), tx = .string (B rest) ∧ Hid (rest.length = 64 * m) ∧ rest.length ≤ 1099511627976 ∧ Hid (blocks m s rest = stateOf l) ∧ s.Fit ∧ Blk wr vb 65 (u32s s.list) ∧ Blk wr w.heap.size 36 (u8s (List.replicate 32 0)) ∧ Below w.heap.size w wr) (fun tx _ => (strOf tx).length)
      case atStart => exact ⟨m0, pd, H0, rfl, hm0, hpdl, hst0, H0_fit, hvb ▸ h1, h2, h3⟩
      case round =>
        rw [hvb]
        clear h1 h2 h3 hvb
        obtain ⟨m, rest, s, rfl, hm, hrl2, hst, hfit, h1, h2, h3⟩ := hrel
        have hbs1 := h1.lt
        by_cases hre : rest = []
        · have hemp : rest.isEmpty = true := by rw [hre]; rfl
          have hsl : Hid (s = stateOf l) := by
            have hm0' : m = 0 := by have := hm.out; rw [hre] at this; simp at this; omega
            have := hst.out
            rw [hm0'] at this
            exact this
          clear hst hm hre
          have hg0 := Blk.new wr 36 (u8s (List.replicate 32 0))
          have k1 := h1.alloc (.cells (u8s (List.replicate 32 0)) 36)
          have k2 := h2.alloc (.cells (u8s (List.replicate 32 0)) 36)
          have k3 := h3.alloc (Nat.le_of_lt h2.lt) (.cells (u8s (List.replicate 32 0)) 36)
          go_wp2
          obtain ⟨ib, hib⟩ : ∃ ib, wr.heap.size = ib := ⟨_, rfl⟩
          rw [hib] at hg0 ⊢
          have hvi : vb < ib := by omega
          clear h1 h2 h3 hib
          go_loopw [48] (fun i wr => ∃ k : Nat, i = .int .i64 k ∧ k ≤ 32 ∧ Blk wr ib 36 (u8s ((idOf s).take k ++ List.replicate (32 - k) 0)) ∧ Blk wr vb 65 (u32s s.list) ∧ Blk wr w.heap.size 36 (u8s (List.replicate 32 0)) ∧ Below w.heap.size w wr) (fun i _ => 32 - (intOf i).toNat)
          case atStart => exact ⟨0, rfl, by omega, hg0, k1, k2, k3⟩
          case round =>
            clear hg0 k1 k2 k3
            obtain ⟨i, rfl, hi, h0, h1, h2, h3⟩ := hrel
            have hbi := h0.lt
            by_cases hi32 : i < 32
            · have hii : (i : Int) < 32 := by omega
              have hq : (i : Int) / 4 < 8 := by omega
              have hq0 : (0 : Int) ≤ (i : Int) / 4 := by omega
              have hqn : i / 4 < 8 := by omega
              have cw : wr.cell? ⟨vb, i / 4, none⟩ = some (.int .u32 (s.list.getD (i / 4) 0 : Nat)) := by
                rw [h1.cell, u32s_get _ _ hqn]
              have cz : wr.cell? ⟨ib, i, none⟩ = some (.int .u8 ((((idOf s).take i ++ List.replicate (32 - i) 0).getD i 0).toNat : Nat)) := by
                rw [h0.cell, u8s_get _ _ (by rw [List.length_append, List.length_take, idOf_length, List.length_replicate]; omega)]
              have fz := h0.frozen i
              have hset := Lib.hid (take_set (idOf s) i 32 (by rw [idOf_length]; exact hi32) (idOf_length s).symm)
              have hget := Lib.hid (idOf_get s i hi32)
              generalize (((idOf s).take i ++ List.replicate (32 - i) 0).getD i 0).toNat = oz at *
              generalize s.list.getD (i / 4) 0 = x at *
              go_wp2
              have hvv : (x : Int) / 2 ^ (24 - 8 * (i % 4)) % 256 = ((x / 2 ^ (24 - 8 * (i % 4)) % 256 : Nat) : Int) := by simp
              rw [hvv]
              have hlt := Nat.mod_lt (x / 2 ^ (24 - 8 * (i % 4))) (show 0 < 256 by omega)
              have hn := h0.set_ i (.int .u8 ((x / 2 ^ (24 - 8 * (i % 4)) % 256 : Nat) : Int))
              rw [u8s_set _ _ _ hlt, ← hget.out, hset.out] at hn
              go_roundw
              case rel => exact ⟨i + 1, by go_num, by omega, hn, h1.far (by simp; omega) _, h2.far (by simp; omega) _, h3.setCell (by simp; omega) _⟩
              case measure => simp [intOf]; omega
            · have hi32' : i = 32 := by omega
              have hii : ¬ (i : Int) < 32 := by omega
              have h0' : Blk wr ib 36 (u8s (idOf s)) := by
                rw [hi32', List.take_of_length_le (by rw [idOf_length]; omega), Nat.sub_self, List.replicate_zero, List.append_nil] at h0
                exact h0
              clear hi32' h0
              have hid : (idOf s).length = 32 := idOf_length s
              have hfin : Hid (shaOf l = idOf s) := by show _ = _; rw [hsl.out]; rfl
              clear hsl
              generalize idOf s = id at *
              have hi' : (Tryd.prog.info? 36).map (·.size) = some (u8s id).size := by rw [u8s_size, hid]; exact sz32
              have hall' := u8s_one id
              have hold' : (u8s (List.replicate 32 0)).size = (u8s id).size := by rw [u8s_size, u8s_size, hid, List.length_replicate]
              go_wp2_with (first
                | (refine wpList_load_row rfl 36 (.tmp 7) rfl ib rfl _ _ _ _ h0' Tryd.underlying36 rfl hi' ?_)
                | (refine wpList_store_row rfl 36 (.tmp 2) (.tmp 64) rfl w.heap.size (u8s id) rfl rfl _ _ h2 hi' hold' hall' ?_))
              exact bodyPost_ret (results_cell_row rfl _ _ w.heap.size _ _ _ _ rfl (setRow_heap _ _ _ _ _ _ h2) Tryd.underlying36 rfl hi') rfl ⟨by rw [hfin.out], below_setRow h3 (Nat.le_refl _) _⟩
        · have hemp : rest.isEmpty = false := by cases rest with | nil => exact absurd rfl hre | cons => rfl
          have h64 : 64 ≤ rest.length := by
            have := hm.out
            have h0 : rest.length ≠ 0 := fun h => hre (List.length_eq_zero_iff.1 h)
            omega
          have h64i : (64 : Int) ≤ (rest.length : Int) := by omega
          have hR : HasRow wr vb 65 8 := hasRow_blk h1 (u32s_list_size s)
          have hO : RowOf wr vb = u32s s.list := rowOf_blk h1
          have hRd : HasRow wr.drew vb 65 8 := hR
          have hOd : RowOf wr.drew vb = u32s s.list := hO
          have hKd : TabK wr.drew := hK.below h3.drew
          have h1d : Blk wr.drew vb 65 (u32s s.list) := h1
          have hbs1d : vb < wr.drew.heap.size := hbs1
          go_wp2
          go_region_with (first
              | (go_at_call 44; go_must (refine (block_calls s hfit (rest.take 64) (by rw [List.length_take]; omega) _ hKd).mono ?_); rintro e w1 ⟨rfl, hb1⟩; have hRc := hasRow_blk (h1d.below hb1 hbs1d) (u32s_list_size s); have hOc := rowOf_blk (h1d.below hb1 hbs1d)))
          have e1 := setRow_heap w1 vb _ (u32s (blockOf s (rest.take 64)).list) _ _ (h1d.below hb1 hbs1d)
          have e2 : Blk (w1.setRow vb (u32s (blockOf s (rest.take 64)).list)) w.heap.size 36 (u8s (List.replicate 32 0)) := by
            unfold Blk; rw [setRow_other _ _ _ _ (by omega)]; exact Blk.below (w := wr.drew) h2 hb1 h2.lt
          have e3 := below_setRow (bthen h3.drew (Nat.le_of_lt h2.lt) hb1) (Nat.le_of_lt hvw) (u32s (blockOf s (rest.take 64)).list)
          have hnst : Hid (blocks (m - 1) (blockOf s (rest.take 64)) (rest.drop 64) = stateOf l) := by
            have := hst.out
            obtain ⟨m', rfl⟩ : ∃ m', m = m' + 1 := ⟨m - 1, by have := hm.out; omega⟩
            exact this
          have hnm : Hid ((rest.drop 64).length = 64 * (m - 1)) := by have := hm.out; show _ = _; rw [List.length_drop]; omega
          have hdl : (rest.drop 64).length = rest.length - 64 := List.length_drop
          have hfit2 : (blockOf s (rest.take 64)).Fit := plus_fit _ _
          generalize blockOf s (rest.take 64) = s' at *
          clear hRc hOc hb1
          generalize w1.setRow vb (u32s s'.list) = wz at *
          go_wp2
          go_roundw
          case rel => exact ⟨m - 1, rest.drop 64, s', rfl, hnm, by omega, hnst, hfit2, e1, e2, e3⟩
          case measure => rw [strOf_B, strOf_B]; omega
end Go.Proofs.YtoekdiklbfdpiaaDoor
/- string(id[:]). No condition. -/
namespace Go.Proofs.YtoekdiklbfdpiaaDoor
open Go.RowKit
theorem str_of_blk (w : World) {t : TypeId} {g : Nat} {l : List UInt8} (h : Blk w g t (u8s l)) :
    (convert 38 9 (.slice (some ⟨g, 0, none⟩) l.length l.length)).run Tryd.prog w = .ok (.string (B l)) w := by
  rw [run_convert_bytes_arg w 38 5 Tryd.underlying38 Tryd.underlying5 g 0 l.length l.length (l.map fun c => (c.toNat : Int)) (by simp) (fun i hi => by
    rw [Nat.zero_add, h.cell, u8s_get l i hi]
    simp [List.getD, List.getElem?_map, List.getElem?_eq_getElem hi]) 9 Tryd.underlying9]
  have hl : (l.map fun c => (c.toNat : Int)).map (fun n => UInt8.ofNat n.toNat) = l := by
    rw [List.map_map]
    exact (List.map_congr_left (g := id) (fun c _ => by simp)).trans (List.map_id l)
  rw [strOfNums, hl]
  rfl
theorem str_of_id (w : World) {t : TypeId} {g : Nat} {l : List UInt8} (hl : l.length = 32) (h : Blk w g t (u8s l)) (n : Nat) :
    (convert 38 9 (.slice (some ⟨g, 0, none⟩) 32 32)).run Tryd.prog (w.drewN n) = .ok (.string (B l)) (w.drewN n) := by
  have := str_of_blk (w.drewN n) (h.drewN n)
  rwa [hl] at this
end Go.Proofs.YtoekdiklbfdpiaaDoor
/- The walk of layer 15: open. Condition: the table of constants is as the program lays it. -/
namespace Go.Proofs.YtoekdiklbfdpiaaDoor
open Go.RowKit
theorem pre5 (s : Txt) : Lib.hasPrefix s pk5 = decide (s.take 5 = pk5) := by
  unfold Lib.hasPrefix
  rw [Bool.eq_iff_iff, List.isPrefixOf_iff_prefix, decide_eq_true_eq]
  constructor
  · rintro ⟨t, rfl⟩
    rfl
  · intro h
    exact ⟨s.drop 5, by rw [← h]; exact List.take_append_drop 5 s⟩
def openV (s : Txt) : Value := match openP s with
  | .inr e => .tuple #[.int .i64 0, .string (B []), .int .i64 e]
  | .inl (n, r) => .tuple #[.int .i64 n, .string (B r), .int .i64 0]
theorem openV_err {s : Txt} {e : Nat} (h : openP s = .inr e) : openV s = .tuple #[.int .i64 0, .string (B []), .int .i64 e] := by unfold openV; rw [h]
theorem openV_ok {s r : Txt} {n : Nat} (h : openP s = .inl (n, r)) : openV s = .tuple #[.int .i64 n, .string (B r), .int .i64 0] := by unfold openV; rw [h]
set_option maxRecDepth 100000 in
set_option maxHeartbeats 4000000 in
theorem open_calls (s : Txt) (hs : s.length ≤ 9223372036854775807) (w : World) (hK : TabK w) : Calls Tryd.prog 34 #[.string (B s)] w fun e w' => e = .returned (openV s) ∧ Below w.heap.size w w' := by
  obtain ⟨r, hr⟩ : ∃ r, Hid (openV s = r) := ⟨_, Lib.hid rfl⟩
  rw [hr.out]
  have hie := fun e => @openV_err s e
  have hio := @openV_ok s
  have hpre : ∀ W, Calls Tryd.prog 45 #[.string (B s), .string ⟨#[75, 78, 65, 80, 1]⟩] W fun e w' => e = .returned (.bool (decide (s.take 5 = pk5))) ∧ W = w' := fun W => (Tryd.strings_HasPrefix (B s) ⟨#[75, 78, 65, 80, 1]⟩ W).mono fun e w' h => ⟨by rw [h.1]; exact congrArg (fun b => Ending.returned (.bool b)) (pre5 s), h.2.symm⟩
  by_cases h1 : 262144 < s.length
  · have i1 : (262144 : Int) < (s.length : Int) := by omega
    have hrr : Hid (_ = r) := (hie 3 (by unfold openP; rw [if_pos h1])).symm.trans hr.out
    clear hr hie hio hpre
    go_enter Tryd.func34, Tryd.ntmps34
    go_wp2
    all_goals try (exfalso; omega)
    go_ret3
    exact ⟨by rw [← hrr.out]; rfl, Below.refl _ _⟩
  · have i1 : ¬ (262144 : Int) < (s.length : Int) := by omega
    by_cases h2 : s.length < 37 ∨ s.take 5 ≠ pk5
    · have hrr : Hid (_ = r) := (hie 2 (by unfold openP; rw [if_neg h1, if_pos h2])).symm.trans hr.out
      clear hr hie hio
      by_cases h5 : s.take 5 = pk5
      · rw [decide_eq_true h5] at hpre
        have hpre := Lib.hid (hpre w)
        have i2 : (s.length : Int) < 37 := by
          rcases h2 with h | h
          · omega
          · exact absurd h5 h
        clear h2 h5
        go_enter Tryd.func34, Tryd.ntmps34
        go_wp2_with (first
          | ((with_reducible refine hpre.out.mono ?_); rintro e w1 ⟨rfl, rfl⟩))
        all_goals try (exfalso; omega)
        go_ret3
        exact ⟨by rw [← hrr.out]; rfl, Below.refl _ _⟩
      · rw [decide_eq_false h5] at hpre
        have hpre := Lib.hid (hpre w)
        clear h2 h5
        go_enter Tryd.func34, Tryd.ntmps34
        go_wp2_with (first
          | ((with_reducible refine hpre.out.mono ?_); rintro e w1 ⟨rfl, rfl⟩))
        all_goals try (exfalso; omega)
        go_ret3
        exact ⟨by rw [← hrr.out]; rfl, Below.refl _ _⟩
    · have h37 : 37 ≤ s.length := Nat.le_of_not_lt fun h => h2 (.inl h)
      have h5 : s.take 5 = pk5 := by
        by_cases h : s.take 5 = pk5
        · exact h
        · exact absurd (.inr h) h2
      have hop : openP s = if shaOf (s.take (s.length - 32)) ≠ s.drop (s.length - 32) then .inr 5 else (match get ((s.take (s.length - 32)).drop 5) with | none => .inr 2 | some (n, k) => if 400 < n then .inr 3 else .inl (n, ((s.take (s.length - 32)).drop 5).drop k)) := by
        unfold openP
        rw [if_neg h1, if_neg h2]
        rfl
      rw [decide_eq_true h5] at hpre
      have hpre := Lib.hid (hpre w)
      have i2 : ¬ (s.length : Int) < 37 := by omega
      obtain ⟨E, hE⟩ : ∃ E, E = s.length - 32 := ⟨_, rfl⟩
      rw [← hE] at hop
      have hEi : (s.length : Int) - 32 = (E : Int) := by omega
      have hE1 : E ≤ s.length := by omega
      have hE5 : 5 ≤ E := by omega
      have j1 : (E : Int) ≤ (s.length : Int) := by omega
      have j2 : (5 : Int) ≤ (E : Int) := by omega
      have x1 : (B s).extract 0 E = B (s.take E) := extract_B_to s E
      have x2 : (B s).extract E s.length = B (s.drop E) := extract_B_from s E
      have x3 : (B s).extract 5 E = B ((s.take E).drop 5) := by
        rw [extract_B, List.drop_take]
      have htl : (s.take E).length ≤ 262144 := by rw [List.length_take]; omega
      have hget := fun W => get_calls ((s.take E).drop 5) (by rw [List.length_drop]; omega) W
      obtain ⟨W2, hW2⟩ : ∃ W2, w.alloc (.cells #[.string (B (s.take E))] 9) = W2 := ⟨_, rfl⟩
      have hy2 : Blk W2 w.heap.size 9 #[.string (B (s.take E))] := by rw [← hW2]; exact Blk.new _ _ _
      have b2 : Below w.heap.size w W2 := by rw [← hW2]; exact (Below.refl _ _).alloc (Nat.le_refl _) _
      have hK2 : TabK W2 := by rw [← hW2]; exact hK.below ((Below.refl _ _).alloc (Nat.le_refl _) _)
      have hst : Strs W2 (.slice (some ⟨w.heap.size, 0, none⟩) 1 1) [s.take E] := .inr ⟨w.heap.size, 0, 1, rfl, fun j l hj => by
        match j, hj with
        | 0, hj =>
          injection hj with hj
          subst hj
          rw [hy2.cell]; rfl
        | j + 1, hj => simp at hj, hy2.lt, by simp, by simp⟩
      have hsum := sum_calls [s.take E] _ W2 hK2 hst (by simp; omega)
      have hfl : [s.take E].flatten = s.take E := by simp
      rw [hfl] at hsum
      have hsum := Lib.hid hsum
      have hl32 := shaOf_length (s.take E)
      have hsI := sz32
      have hD32 : (u8s (shaOf (s.take E))).size = 32 := by rw [u8s_size, hl32]
      have hDone := u8s_one (shaOf (s.take E))
      have hstr := fun (W : World) (g : Nat) (h : Blk W g 36 (u8s (shaOf (s.take E)))) n => str_of_id W hl32 h n
      have HE := Lib.hid hE
      clear hy2 hK2 hst hfl hE hK h1 h2 h5
      generalize (s.take E).drop 5 = GT at *
      generalize shaOf (s.take E) = SH at *
      generalize s.take E = TK at *
      generalize s.drop E = DR at *
      have hzI : ∀ W : World, (zeroValue 36).run Tryd.prog W = .ok (.agg (u8s noId')) W := fun W => by
        have h : (Tryd.prog.info? 36).map (·.zero) = some (some (.agg (u8s noId'))) := by kernel_rfl
        obtain ⟨i, h1, h2⟩ := Option.map_eq_some_iff.1 h
        simp [zeroValue, typeInfo, h1, h2]
      have hzl : (u8s noId').size = 32 := by rw [u8s_size, noId_len']
      generalize u8s noId' = ZI at *
      go_enter Tryd.func34, Tryd.ntmps34
      go_upto_region 7 with (first
        | ((with_reducible refine hpre.out.mono ?_); rintro e w1 ⟨rfl, rfl⟩)
        | ((with_reducible refine hsum.out.mono ?_); rintro e w3 ⟨rfl, hb3⟩
           have b3 := bthen b2 b2.size hb3)
        | ((with_reducible refine lit_new 36 (.tmp 6) (.tmp 28) (u8s SH) 32 hsI hD32 hDone _ ?_ ?_ ?_ ?_)
           · first | exact hzl | rfl
           · rfl
           · rfl
           intro W4 hb4 hbl4
           have b4 := bthen b3 b3.size hbl4
           have hcv := fun n => hstr W4 w3.heap.size hb4 n))
      all_goals try (exfalso; omega)
      clear hpre hsum hstr hb3 hb4 hbl4 b2 b3 hW2 htl hDone hD32 hzI
      generalize W4 = W5 at *
      by_cases hSD : SH = DR
      · have q1 : (SH == DR) = true := by simpa using hSD
        cases hg : get GT with
        | none =>
          have hget0 : ∀ W, Calls Tryd.prog 46 #[.string (B GT)] W fun e w' => e = .returned (.tuple #[.int .u64 0, .string (B []), .int .i64 2]) ∧ ∃ n, w' = W.drewN n := fun W => by have := hget W; rw [hg] at this; exact this
          have hget0 := Lib.hid hget0
          have hrr : Hid (_ = r) := (hie 2 (by rw [hop, if_neg (by simpa using hSD), hg])).symm.trans hr.out
          clear hr hie hio hop hget hg hSD
          go_quiet (fail)
          go_wp2_with (first
            | ((with_reducible refine (hget0.out _).mono ?_); rintro e w6 ⟨rfl, nq2, rfl⟩))
          go_ret3
          exact ⟨by rw [← hrr.out]; rfl, bdrewN b4 _⟩
        | some p =>
          obtain ⟨n, k⟩ := p
          have hget0 : ∀ W, Calls Tryd.prog 46 #[.string (B GT)] W fun e w' => e = .returned (.tuple #[.int .u64 n, .string (B (GT.drop k)), .int .i64 0]) ∧ ∃ n, w' = W.drewN n := fun W => by have := hget W; rw [hg] at this; exact this
          have hget0 := Lib.hid hget0
          by_cases hn : 400 < n
          · have n1 : (400 : Int) < (n : Int) := by omega
            have hrr : Hid (_ = r) := (hie 3 (by rw [hop, if_neg (by simpa using hSD), hg]; simp only; rw [if_pos hn])).symm.trans hr.out
            clear hr hie hio hop hget hg hSD hn
            go_quiet (fail)
            go_wp2_with (first
              | ((with_reducible refine (hget0.out _).mono ?_); rintro e w6 ⟨rfl, nq2, rfl⟩))
            all_goals try (exfalso; omega)
            go_ret3
            exact ⟨by rw [← hrr.out]; rfl, bdrewN b4 _⟩
          · have n1 : ¬ (400 : Int) < (n : Int) := by omega
            have hrr : Hid (_ = r) := (hio (n := n) (r := GT.drop k) (by rw [hop, if_neg (by simpa using hSD), hg]; simp only; rw [if_neg hn])).symm.trans hr.out
            have n0 : (n : Int) ≤ 400 := by omega
            clear hr hie hio hop hget hg hSD hn
            go_quiet (fail)
            go_wp2_with (first
              | ((with_reducible refine (hget0.out _).mono ?_); rintro e w6 ⟨rfl, nq2, rfl⟩))
            all_goals try (exfalso; omega)
            go_ret3
            exact ⟨by rw [← hrr.out]; rfl, bdrewN b4 _⟩
      · have q1 : (SH == DR) = false := by simpa using hSD
        have hrr : Hid (_ = r) := (hie 5 (by rw [hop, if_pos hSD])).symm.trans hr.out
        clear hr hie hio hop hget hSD
        go_quiet (fail)
        go_wp2_with (fail)
        go_ret3
        exact ⟨by rw [← hrr.out]; rfl, bdrewN b4 _⟩
end Go.Proofs.YtoekdiklbfdpiaaDoor
/- The walks of layer 2's reference: turn, k. No condition. -/
namespace Go.Proofs.YtoekdiklbfdpiaaDoor
open Go.RowKit

set_option maxRecDepth 100000 in
set_option maxHeartbeats 400000 in
theorem turn_calls (x n : Nat) (hx : x < 4294967296) (h0 : 1 ≤ n) (h1 : n ≤ 31) (w : World) :
    Calls Tryd.prog 38 #[.int .u32 x, .int .u64 n] w fun e w' => e = .returned (.int .u32 (rotr x n)) ∧ w = w' := by
  have hn0 : 0 ≤ (n : Int) := by omega
  have hn1 : (n : Int) ≤ 31 := by omega
  go_enter Tryd.func38, Tryd.ntmps38
  go_wp2
  go_ret
  refine ⟨congrArg (fun n : Int => Ending.returned (.int .u32 n)) ?_, rfl⟩
  have e : ((rotr x n : Nat) : Int) = (x : Int) / 2 ^ n + (x : Int) * 2 ^ (32 - n) % 4294967296 := by simp [rotr]
  have := rotr_lt hx h0 h1
  rw [← e]
  omega
set_option maxRecDepth 100000 in
set_option maxHeartbeats 400000 in
theorem k_calls (w : World) :
    Calls Tryd.prog 24 #[] w fun e w' => e = .returned (.agg (u32s K256)) ∧ Below w.heap.size w w' := by
  have hi' : (Tryd.prog.info? 66).map (·.size) = some (u32s K256).size := by rw [u32s_size, K256_length]; exact sz64
  have hall' := u32s_one K256
  have hold' : (u32s (List.replicate 64 0)).size = (u32s K256).size := by rw [u32s_size, u32s_size, K256_length, List.length_replicate]
  have hv0 := Blk.new w 66 (u32s (List.replicate 64 0))
  go_enter Tryd.func24, Tryd.ntmps24
  go_wp2_with (first
    | (refine wpList_store_row rfl 66 (.tmp 0) (.tmp 1) rfl w.heap.size (u32s K256) rfl rfl _ _ hv0 hi' hold' hall' ?_))
  exact bodyPost_ret (results_cell_row rfl _ _ w.heap.size _ _ _ _ rfl (setRow_heap _ _ _ _ _ _ hv0) Tryd.underlying66 rfl hi') rfl ⟨rfl, below_setRow ((Below.refl _ _).alloc (Nat.le_refl _) _) (Nat.le_refl _) _⟩
end Go.Proofs.YtoekdiklbfdpiaaDoor
