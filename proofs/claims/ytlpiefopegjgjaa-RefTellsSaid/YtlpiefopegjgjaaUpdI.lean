/- Updates in memory; slices.IndexFunc, slices.ContainsFunc at updates; right's closure. Written by wip/tools/gen_upd.py. No condition. -/
import Derived.Test.YtlpiefopegjgjaaRefI
namespace Go.Proofs.Ytlpiefopegjgjaa
open Go.RowKit
/-- The cells of an update. -/
def updC (u : UpdL) : List Value := .string (B u.name) :: (u.old.map u8v ++ u.new.map u8v)
def UpdOk (u : UpdL) : Prop := u.old.length = 32 ∧ u.new.length = 32 ∧ u.name.length ≤ 9223372036854775807
def UpdsOk (l : List UpdL) : Prop := ∀ u ∈ l, UpdOk u
theorem updC_len {u : UpdL} (h : UpdOk u) : (updC u).length = 65 := by simp [updC, h.1, h.2.1]
theorem updC_one (u : UpdL) : ∀ c ∈ updC u, c.oneCell' = true := by
  intro c hc
  simp only [updC, List.mem_cons, List.mem_append, List.mem_map] at hc
  rcases hc with rfl | ⟨c, _, rfl⟩ | ⟨c, _, rfl⟩ <;> rfl
theorem range_uname {w : World} {g o : Nat} {u : UpdL} (h : w.rangeAt g o (updC u)) : w.cell? ⟨g, o, none⟩ = some (.string (B u.name)) := h 0 _ rfl
theorem range_old {w : World} {g o : Nat} {u : UpdL} (h : w.rangeAt g o (updC u)) : w.rangeAt g (o + 1) (u8s u.old).toList := fun j c hc => by
  have hj : j < u.old.length := by have := (List.getElem?_eq_some_iff.1 hc).1; simpa [u8s] using this
  have := h (j + 1) c (by rw [updC, List.getElem?_cons_succ, List.getElem?_append_left (by simpa using hj)]; simpa [u8s] using hc)
  rwa [show o + (j + 1) = o + 1 + j from by omega] at this
theorem range_new {w : World} {g o : Nat} {u : UpdL} (hu : UpdOk u) (h : w.rangeAt g o (updC u)) : w.rangeAt g (o + 33) (u8s u.new).toList := fun j c hc => by
  have hj : j < u.new.length := by have := (List.getElem?_eq_some_iff.1 hc).1; simpa [u8s] using this
  have := h (j + 33) c (by rw [updC, show j + 33 = (j + 32) + 1 from rfl, List.getElem?_cons_succ, List.getElem?_append_right (by simp [hu.1]), List.length_map, hu.1, Nat.add_sub_cancel]; simpa [u8s] using hc)
  rwa [show o + (j + 33) = o + 33 + j from by omega] at this
theorem szUpd : (Try.prog.info? 39).map (·.size) = some 65 := by kernel_rfl
theorem sizedUpd {u : UpdL} (h : UpdOk u) : (Try.prog.info? 39).map (·.size) = some (updC u).length := by rw [updC_len h]; exact szUpd
theorem wpList_store_newUpd {W : World} {ops : Array Oper} {rest : List Oper} {o : Oper} {a : Act} {Q : Exit → Act → World → Prop} (hgd : o.guard = none) (x y : Operand) (ho : o.op = .store 39 x y)
    (u : UpdL) (hu : UpdOk u) (zs : Array Value) (hx : a.eval x = .pointer (some ⟨W.heap.size, 0, none⟩)) (hy : a.eval y = .agg (updC u).toArray) (hz : zs.size = 65)
    (h : ∀ W1, Blk W1 W.heap.size 39 (updC u).toArray → Below W.heap.size W W1 → wpList Try.prog ops Q rest (a.put o.dst undef) W1) : wpList Try.prog ops Q (o :: rest) a (W.alloc (.cells zs 39)) :=
  wpList_store_new hgd _ x y ho (updC u).toArray zs hx hy (by rw [List.size_toArray]; exact sizedUpd hu) (hz.trans (by simp [updC_len hu])) (Array.all_eq_true_iff_forall_mem.2 fun c hc => updC_one u c (by simpa using hc)) h
abbrev Upds (w : World) (v : Value) (l : List UpdL) : Prop := SliceAt w 65 updC v l
theorem range_blkUpd {w : World} {g : Nat} {u : UpdL} (h : Blk w g 39 (updC u).toArray) : w.rangeAt g 0 (updC u) := by
  have := range_blk h
  rwa [List.toList_toArray] at this
set_option maxRecDepth 100000 in
set_option maxHeartbeats 400000 in
theorem indexFuncU_calls (l : List UpdL) (hok : UpdsOk l) (v : Value) (w : World) (hv : Upds w v l) (f : FuncId) (hf : ∀ (a : Array Value) (W : World), (callFunc f a).run Try.prog W = .ok (.enter f a) W) (c : Value) (p : UpdL → Bool)
    (hcl : ∀ (W : World) (x : UpdL), x ∈ l → Below w.heap.size w W → Calls Try.prog f #[.agg (updC x).toArray, c] W fun e w' => e = .returned (.bool (p x)) ∧ Below W.heap.size W w') :
    Calls Try.prog 52 #[v, .func (.func f) #[] #[c]] w fun e w' => e = .returned (.int .i64 (idxOf p l)) ∧ Below w.heap.size w w' := by
  have hlen := hv.len
  obtain ⟨A, cap, rfl, hcap1, hcap2, hat⟩ := hv
  go_enter Try.func52, Try.ntmps52
  go_wp2
  go_loopw [8] (fun i wr => ∃ k : Nat, i = .int .i64 k ∧ k ≤ l.length ∧ Hid ((l.take k).all (fun y => !p y) = true) ∧ Below w.heap.size w wr) (fun i _ => l.length - (intOf i).toNat)
  case atStart => exact ⟨0, rfl, by omega, by show _ = _; simp, Below.refl _ _⟩
  case round =>
    obtain ⟨k, rfl, hk, hall, hbel⟩ := hrel
    by_cases hlt : k < l.length
    · have hki : (k : Int) < (l.length : Int) := by omega
      obtain ⟨gs, os, rfl, hgs, hcell⟩ := hat (by omega)
      obtain ⟨x, hx⟩ : ∃ x, l[k]? = some x := ⟨_, List.getElem?_eq_getElem hlt⟩
      have hxm := List.mem_of_getElem? hx
      have hxok : UpdOk x := hok x hxm
      have hx0 := rangeAt_below (hcell k x hx) hgs hbel
      have hxh := Lib.hid hx
      clear hx
      have hc := Lib.hid (hcl wr x hxm hbel)
      clear hcl hat hcell
      cases hp : p x
      · have hst := Lib.hid (none_step hall.out hxh.out hp)
        rw [hp] at hc
        clear hp
        go_wp2_with (first
          | (refine wpList_load_mid rfl 39 (.tmp 14) rfl gs (os + k * 65) rfl (updC x) _ hx0 Try.underlying39 rfl (sizedUpd hxok) ?_)
          | ((with_reducible refine hc.out.mono ?_); rintro e w1 ⟨rfl, hb1⟩))
        go_roundw
        case rel => exact ⟨k + 1, by go_num, by omega, hst, bthen hbel hbel.size hb1⟩
        case measure => simp [intOf]; omega
      · have hst := Lib.hid (idxOf_found hall.out hxh.out hp)
        rw [hp] at hc
        clear hp
        go_wp2_with (first
          | (refine wpList_load_mid rfl 39 (.tmp 14) rfl gs (os + k * 65) rfl (updC x) _ hx0 Try.underlying39 rfl (sizedUpd hxok) ?_)
          | ((with_reducible refine hc.out.mono ?_); rintro e w1 ⟨rfl, hb1⟩))
        go_ret
        exact ⟨by rw [hst.out]; rfl, bthen hbel hbel.size hb1⟩
    · have hki : ¬ (k : Int) < (l.length : Int) := by omega
      have hst : Hid (idxOf p l = -1) := by
        have := hall.out
        rw [List.take_of_length_le (by omega)] at this
        exact idxOf_none this
      clear hall hat hcl
      go_wp2
      go_ret
      exact ⟨by rw [hst.out]; rfl, hbel⟩
set_option maxRecDepth 100000 in
set_option maxHeartbeats 400000 in
theorem right1_calls (r : UpdL) (hr : UpdOk r) (b : Nat) (name : List UInt8) (w : World) (hb : b < w.heap.size) (hc : w.cell? ⟨b, 0, none⟩ = some (.string (B name))) :
    Calls Try.prog 45 #[.agg (updC r).toArray, .pointer (some ⟨b, 0, none⟩)] w fun e w' => e = .returned (.bool (r.name == name)) ∧ Below w.heap.size w w' := by
  have hn := (Blk.new w 39 (updC r).toArray)
  have c0 : (w.alloc (.cells (updC r).toArray 39)).cell? ⟨w.heap.size, 0, none⟩ = some (.string (B r.name)) := range_uname (range_blkUpd hn)
  have c1 : (w.alloc (.cells (updC r).toArray 39)).cell? ⟨b, 0, none⟩ = some (.string (B name)) := (World.cell?_alloc_lt w _ ⟨b, 0, none⟩ hb).trans hc
  clear hn hc
  go_enter Try.func45, Try.ntmps45
  go_wp2
  go_ret
  exact ⟨rfl, (Below.refl _ _).alloc (Nat.le_refl _) _⟩
theorem right1_func (a : Array Value) (W : World) : (callFunc 45 a).run Try.prog W = .ok (.enter 45 a) W := by kernel_rfl
end Go.Proofs.Ytlpiefopegjgjaa
