/- slices.BinarySearchFunc at elements of several cells. No condition. -/
import Derived.Test.YtejaeclcgkcklaaFileCl
import Derived.Test.YtejaeclcgkcklaaSortP
namespace Go.Proofs.Ytejaeclcgkcklaa
open Go.RowKit
attribute [local go_sem ↓] ldvFile_eq
set_option maxRecDepth 100000 in
set_option maxHeartbeats 2000000 in
theorem bsfFiles_calls (l : List FileL) (hok : FilesOk l) (hbig : l.length ≤ 1000000) (v : Value) (w : World) (hv : Files w v l) (f : FuncId) (hf : ∀ (a : Array Value) (W : World), (callFunc f a).run Try.prog W = .ok (.enter f a) W) (tv : Value) (cmp : FileL → Int)
    (hcl : ∀ (W : World) (x : FileL), x ∈ l → Below w.heap.size w W → Calls Try.prog f #[.agg (fileC x).toArray, tv] W fun e w' => e = .returned (.int .i64 (cmp x)) ∧ Below W.heap.size W w')
    (p : Nat) (hp : p ≤ l.length) (hcmp : ∀ i x, l[i]? = some x → (cmp x < 0 ↔ i < p)) :
    Calls Try.prog 28 #[v, tv, .func (.func f) #[] #[]] w fun e w' =>
      e = .returned (.tuple #[.int .i64 p, .bool (hitAt cmp l p)]) ∧ Below w.heap.size w w' := by
  obtain ⟨A, cap, rfl, hcap1, hcap2, hat⟩ := hv
  have hcmp := Lib.hid hcmp
  obtain ⟨b, hb⟩ : ∃ b, Hid (b = hitAt cmp l p) := ⟨_, Lib.hid rfl⟩
  rw [← hb.out]
  go_enter Try.func28, Try.ntmps28
  go_wp2
  go_loopw [9, 10] (fun vi vj wr => ∃ lo hi : Nat, vi = .int .i64 lo ∧ vj = .int .i64 hi ∧ lo ≤ p ∧ p ≤ hi ∧ hi ≤ l.length ∧ Below w.heap.size w wr) (fun vi vj _ => (intOf vj).toNat - (intOf vi).toNat)
  case atStart => exact ⟨0, l.length, rfl, rfl, by omega, hp, by omega, Below.refl _ _⟩
  case round =>
    obtain ⟨lo, hi, rfl, rfl, hlo, hhi, hle, hbel⟩ := hrel
    by_cases hlt : lo < hi
    · have hli : (lo : Int) < (hi : Int) := by omega
      obtain ⟨m, hm⟩ : ∃ m : Nat, Hid (m = (lo + hi) / 2) := ⟨_, Lib.hid rfl⟩
      have hm2 : ((lo : Int) + (hi : Int)) / 2 = (m : Int) := by rw [hm.out]; omega
      have hml : m < l.length := by rw [hm.out]; omega
      have hmi : (m : Int) < (l.length : Int) := by omega
      have hmlo : lo ≤ m := by rw [hm.out]; omega
      have hmhi : m < hi := by rw [hm.out]; omega
      obtain ⟨g, o, rfl, hg, hcell⟩ := hat (by omega)
      obtain ⟨x, hx⟩ : ∃ x, l[m]? = some x := ⟨_, List.getElem?_eq_getElem hml⟩
      have hxm := List.mem_of_getElem? hx
      have hxok := hok x hxm
      have hx0 := rangeAt_below (hcell m x hx) hg hbel
      have hld := run_ldvFile hx0 hxok
      have hc2 := hcl wr x hxm hbel
      have hsz := hbel.size
      have hd := hcmp.out m x hx
      clear hx hcell hat
      by_cases hneg : cmp x < 0
      · have hmp : m < p := hd.1 hneg
        clear hd
        go_wp2_with (first
          | ((with_reducible refine hc2.mono ?_); rintro e w2 ⟨rfl, hb2⟩
             have hbel2 := bthen hbel hsz hb2))
        go_roundw
        case rel => exact ⟨m + 1, hi, by go_num, rfl, by omega, hhi, hle, hbel2⟩
        case measure => simp [intOf]; omega
      · have hmp : ¬ m < p := fun h => hneg (hd.2 h)
        clear hd
        go_wp2_with (first
          | ((with_reducible refine hc2.mono ?_); rintro e w2 ⟨rfl, hb2⟩
             have hbel2 := bthen hbel hsz hb2))
        go_roundw
        case rel => exact ⟨lo, m, rfl, by go_num, hlo, by omega, by omega, hbel2⟩
        case measure => simp [intOf]; omega
    · obtain rfl : lo = p := by omega
      obtain rfl : hi = lo := by omega
      by_cases hlp : hi < l.length
      · have hli : (hi : Int) < (l.length : Int) := by omega
        obtain ⟨g, o, rfl, hg, hcell⟩ := hat (by omega)
        obtain ⟨x, hx⟩ : ∃ x, l[hi]? = some x := ⟨_, List.getElem?_eq_getElem hlp⟩
        have hxm := List.mem_of_getElem? hx
        have hxok := hok x hxm
        have hx0 := rangeAt_below (hcell hi x hx) hg hbel
        have hld := run_ldvFile hx0 hxok
        have hc2 := hcl wr x hxm hbel
        have hsz := hbel.size
        have hb' : Hid (b = decide (cmp x = 0)) := by show _ = _; rw [hb.out, hitAt_some hx]
        clear hx hcell hat hb
        go_wp2_with (first
          | ((with_reducible refine hc2.mono ?_); rintro e w2 ⟨rfl, hb2⟩
             have hbel2 := bthen hbel hsz hb2))
        go_ret2
        exact ⟨by rw [hb'.out]; rfl, hbel2⟩
      · have hli : ¬ (hi : Int) < (l.length : Int) := by omega
        have hb' : Hid (b = false) := by show _ = _; rw [hb.out, hitAt_none (by omega)]
        go_wp2
        go_ret2
        exact ⟨by rw [hb'.out]; rfl, hbel⟩
end Go.Proofs.Ytejaeclcgkcklaa
