/- The walks of layer 9 (ref): places: slices.IndexFunc at refs, place, Find. No condition. -/
import Derived.Test.YtlpiefopegjgjaaRefM
namespace Go.Proofs.Ytlpiefopegjgjaa
open Go.RowKit
attribute [local go_sem ↓] ldvI_eq
/-- The place of the first one of some; -1: there is none. -/
def idxOf {α : Type} (p : α → Bool) (l : List α) : Int := match l.findIdx? p with | some i => (i : Int) | none => -1
theorem idxOf_found {α : Type} {p : α → Bool} {l : List α} {k : Nat} {x : α} (hn : (l.take k).all (fun y => !p y) = true) (hx : l[k]? = some x) (hp : p x = true) : idxOf p l = (k : Int) := by
  have : l.findIdx? p = some k := by
    rw [List.findIdx?_eq_some_iff_getElem]
    obtain ⟨hk, he⟩ := List.getElem?_eq_some_iff.1 hx
    refine ⟨hk, by rw [he]; exact hp, fun j hj => ?_⟩
    have hm : l[j] ∈ l.take k := by
      rw [List.mem_take_iff_getElem]
      exact ⟨j, by omega, rfl⟩
    have := List.all_eq_true.1 hn _ hm
    simpa using this
  simp [idxOf, this]
theorem idxOf_none {α : Type} {p : α → Bool} {l : List α} (hn : l.all (fun y => !p y) = true) : idxOf p l = -1 := by
  have : l.findIdx? p = none := by
    rw [List.findIdx?_eq_none_iff]
    intro x hx
    have := List.all_eq_true.1 hn x hx
    simpa using this
  simp [idxOf, this]
theorem none_step {α : Type} {p : α → Bool} {l : List α} {k : Nat} {x : α} (hn : (l.take k).all (fun y => !p y) = true) (hx : l[k]? = some x) (hp : p x = false) : (l.take (k + 1)).all (fun y => !p y) = true := by
  rw [List.take_add_one, List.all_append, hn, hx]
  simp [hp]
set_option maxRecDepth 100000 in
set_option maxHeartbeats 400000 in
theorem indexFunc_calls (l : List RefL) (hok : RefsOk l) (v : Value) (w : World) (hv : Refs w v l) (f : FuncId) (hf : ∀ (a : Array Value) (W : World), (callFunc f a).run Try.prog W = .ok (.enter f a) W) (c : Value) (p : RefL → Bool)
    (hcl : ∀ (W : World) (x : RefL), x ∈ l → Below w.heap.size w W → Calls Try.prog f #[.agg (refC x).toArray, c] W fun e w' => e = .returned (.bool (p x)) ∧ Below W.heap.size W w') :
    Calls Try.prog 42 #[v, .func (.func f) #[] #[c]] w fun e w' => e = .returned (.int .i64 (idxOf p l)) ∧ Below w.heap.size w w' := by
  have hlen := hv.len
  obtain ⟨A, cap, rfl, hcap1, hcap2, hat⟩ := hv
  go_enter Try.func42, Try.ntmps42
  go_wp2
  go_loopw [8] (fun i wr => ∃ k : Nat, i = .int .i64 k ∧ k ≤ l.length ∧ Hid ((l.take k).all (fun y => !p y) = true) ∧ Below w.heap.size w wr) (fun i _ => l.length - (intOf i).toNat)
  case atStart => exact ⟨0, rfl, by omega, by show _ = _; simp, Below.refl _ _⟩
  case round =>
    obtain ⟨k, rfl, hk, hall, hbel⟩ := hrel
    by_cases hlt : k < l.length
    · have hki : (k : Int) < (l.length : Int) := by omega
      obtain ⟨gs, os, rfl, hgs, hcell⟩ := hat (by omega)
      obtain ⟨x, hx⟩ : ∃ x, l[k]? = some x := ⟨_, List.getElem?_eq_getElem hlt⟩
      have hxm := List.mem_of_getElem? hx
      have hxok : RefOk x := hok x hxm
      have hx0 := rangeAt_below (hcell k x hx) hgs hbel
      have hxh := Lib.hid hx
      clear hx
      have hc := Lib.hid (hcl wr x hxm hbel)
      clear hcl hat hcell
      cases hp : p x
      · have hst := Lib.hid (none_step hall.out hxh.out hp)
        rw [hp] at hc
        clear hp
        go_wp2_with (first
          | (refine wpList_load_mid rfl 54 (.tmp 14) rfl gs (os + k * 33) rfl (refC x) _ hx0 Try.underlying54 rfl (sizedRef hxok) ?_)
          | ((with_reducible refine hc.out.mono ?_); rintro e w1 ⟨rfl, hb1⟩))
        go_roundw
        case rel => exact ⟨k + 1, by go_num, by omega, hst, bthen hbel hbel.size hb1⟩
        case measure => simp [intOf]; omega
      · have hst := Lib.hid (idxOf_found hall.out hxh.out hp)
        rw [hp] at hc
        clear hp
        go_wp2_with (first
          | (refine wpList_load_mid rfl 54 (.tmp 14) rfl gs (os + k * 33) rfl (refC x) _ hx0 Try.underlying54 rfl (sizedRef hxok) ?_)
          | ((with_reducible refine hc.out.mono ?_); rintro e w1 ⟨rfl, hb1⟩))
        go_ret
        exact ⟨by rw [hst.out]; rfl, bthen hbel hbel.size hb1⟩
    · have hki : ¬ (k : Int) < (l.length : Int) := by omega
      have hst : Hid (idxOf p l = -1) := by
        have := hall.out
        rw [List.take_of_length_le (by omega)] at this
        exact idxOf_none this
      clear hall hat hcl
      go_wp2
      go_ret
      exact ⟨by rw [hst.out]; rfl, hbel⟩
set_option maxRecDepth 100000 in
set_option maxHeartbeats 400000 in
theorem place1_calls (r : RefL) (hr : RefOk r) (b : Nat) (name : List UInt8) (w : World) (hb : b < w.heap.size) (hc : w.cell? ⟨b, 0, none⟩ = some (.string (B name))) :
    Calls Try.prog 43 #[.agg (refC r).toArray, .pointer (some ⟨b, 0, none⟩)] w fun e w' => e = .returned (.bool (r.name == name)) ∧ Below w.heap.size w w' := by
  have hn := (Blk.new w 54 (refC r).toArray)
  have c0 : (w.alloc (.cells (refC r).toArray 54)).cell? ⟨w.heap.size, 0, none⟩ = some (.string (B r.name)) := range_name (range_blkRef hn)
  have c1 : (w.alloc (.cells (refC r).toArray 54)).cell? ⟨b, 0, none⟩ = some (.string (B name)) := (World.cell?_alloc_lt w _ ⟨b, 0, none⟩ hb).trans hc
  clear hn hc
  go_enter Try.func43, Try.ntmps43
  go_wp2
  go_ret
  exact ⟨rfl, (Below.refl _ _).alloc (Nat.le_refl _) _⟩
theorem place1_func (a : Array Value) (W : World) : (callFunc 43 a).run Try.prog W = .ok (.enter 43 a) W := by kernel_rfl
set_option maxRecDepth 100000 in
set_option maxHeartbeats 400000 in
theorem place_calls (l : List RefL) (hok : RefsOk l) (v : Value) (name : List UInt8) (w : World) (hv : Refs w v l) :
    Calls Try.prog 35 #[v, .string (B name)] w fun e w' => e = .returned (.int .i64 (idxOf (fun r => r.name == name) l)) ∧ Below w.heap.size w w' := by
  have hb0 : Below w.heap.size w (w.alloc (.cells #[.string (B name)] 9)) := (Below.refl _ _).alloc (Nat.le_refl _) _
  have c0 : (w.alloc (.cells #[.string (B name)] 9)).cell? ⟨w.heap.size, 0, none⟩ = some (.string (B name)) := cell_new1 _ _ _
  have hv1 := hv.below hb0
  have hix := Lib.hid (indexFunc_calls l hok v (w.alloc (.cells #[.string (B name)] 9)) hv1 43 place1_func (.pointer (some ⟨w.heap.size, 0, none⟩)) (fun r => r.name == name)
    (fun W x hx hb => place1_calls x (hok x hx) w.heap.size name W (Nat.lt_of_lt_of_le (by rw [size_alloc']; omega) hb.size) ((hb.cell (p := ⟨w.heap.size, 0, none⟩) (by rw [size_alloc']; show w.heap.size < _; omega)).trans c0)))
  clear c0 hv1 hv
  go_enter Try.func35, Try.ntmps35
  go_wp2_with (first
    | (go_at_call 42; go_must (refine hix.out.mono ?_); rintro e w1 ⟨rfl, hb1⟩))
  go_ret
  exact ⟨rfl, bthen hb0 (by rw [size_alloc']; omega) hb1⟩
end Go.Proofs.Ytlpiefopegjgjaa
