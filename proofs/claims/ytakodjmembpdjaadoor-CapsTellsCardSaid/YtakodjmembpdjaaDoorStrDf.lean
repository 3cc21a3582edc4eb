/- slices.IndexFunc, slices.DeleteFunc at texts, with a function that holds two variables. No condition. -/
import Derived.Test.YtakodjmembpdjaaDoorStrW
import Derived.Test.YtakodjmembpdjaaDoorDelP
import Derived.Test.YtakodjmembpdjaaDoorRowF
import Derived.Lib.SliceRun
namespace Go.Proofs.YtakodjmembpdjaaDoor
open Go.RowKit
def zStr : Value := .string (B [])
theorem zStr_info : (Tryd.prog.info? 9).map (·.zero) = some (some zStr) := by
  obtain ⟨i, h1, h2, _⟩ := Tryd.strTy.hi
  rw [h1]
  simp [h2, zStr]
theorem run_clear_strs {w : World} {g i n cap : Nat} {s : List Txt} (h : Row w g 9 1 strC cap s) (hn : s.length = n) (hi : i < n) (ty : TypeId) (m c : Nat) (hm : m = n - i) :
    (Builtin.clear_ #[22] ty #[.slice (some ⟨g, i * 1, none⟩) m c]).run Tryd.prog w = .ok (.tuple #[]) (w.setCells g (i * 1) (Builtin.zeroCells zStr.cells (n - i)).toList) := by
  subst hm
  have hzs : zStr.cells.size = 1 := rfl
  refine run_clear_rows w _ ty _ zStr g (i * 1) (n - i) c Tryd.underlying22 zStr_info (by omega) ?_ (zeroCells_one (fun u hu => by simp [zStr, Value.cells] at hu; subst hu; rfl) _)
  rw [size_zeroCells, hzs]
  refine h.there ?_
  have := h.le
  omega
set_option maxRecDepth 100000 in
set_option maxHeartbeats 1000000 in
theorem indexFunc_calls (l : List Txt) (v : Value) (w : World) (hv : Strs w v l) (f : FuncId) (hf : ∀ (a : Array Value) (W : World), (callFunc f a).run Tryd.prog W = .ok (.enter f a) W) (c1 c2 : Value) (p : Txt → Bool)
    (hcl : ∀ (W : World) (x : Txt), x ∈ l → Below w.heap.size w W → Calls Tryd.prog f #[.string (B x), c1, c2] W fun e w' => e = .returned (.bool (p x)) ∧ Below W.heap.size W w') :
    Calls Tryd.prog 26 #[v, .func (.func f) #[] #[c1, c2]] w fun e w' => e = .returned (.int .i64 (idxOf p l)) ∧ Below w.heap.size w w' := by
  have hlen := hv.len
  obtain ⟨A, cap, rfl, hcap1, hcap2, hat⟩ := hv
  go_enter Tryd.func26, Tryd.ntmps26
  go_wp2
  go_loopw [8] (fun i wr => ∃ k : Nat, i = .int .i64 k ∧ k ≤ l.length ∧ Hid ((l.take k).all (fun y => !p y) = true) ∧ Below w.heap.size w wr) (fun i _ => l.length - (intOf i).toNat)
  case atStart => exact ⟨0, rfl, by omega, by show _ = _; simp, Below.refl _ _⟩
  case round =>
    obtain ⟨k, rfl, hk, hall, hbel⟩ := hrel
    by_cases hlt : k < l.length
    · have hki : (k : Int) < (l.length : Int) := by omega
      obtain ⟨gs, os, rfl, hgs, hcell⟩ := hat (by omega)
      obtain ⟨x, hx⟩ : ∃ x, l[k]? = some x := ⟨_, List.getElem?_eq_getElem hlt⟩
      have hxm := List.mem_of_getElem? hx
      have hx0 := rangeAt_below (hcell k x hx) hgs hbel
      rw [Nat.mul_one] at hx0
      have cn : wr.cell? ⟨gs, os + k, none⟩ = some (.string (B x)) := hx0 0 _ rfl
      have hxh := Lib.hid hx
      clear hx
      have hc := Lib.hid (hcl wr x hxm hbel)
      clear hcl hat hcell hx0
      cases hp : p x
      · have hst := Lib.hid (none_step hall.out hxh.out hp)
        rw [hp] at hc
        clear hp
        go_wp2_with (first
          | ((with_reducible refine hc.out.mono ?_); rintro e w1 ⟨rfl, hb1⟩))
        go_roundw
        case rel => exact ⟨k + 1, by go_num, by omega, hst, bthen hbel hbel.size hb1⟩
        case measure => simp [intOf]; omega
      · have hst := Lib.hid (idxOf_found hall.out hxh.out hp)
        rw [hp] at hc
        clear hp
        go_wp2_with (first
          | ((with_reducible refine hc.out.mono ?_); rintro e w1 ⟨rfl, hb1⟩))
        go_ret
        exact ⟨by rw [hst.out]; rfl, bthen hbel hbel.size hb1⟩
    · have hki : ¬ (k : Int) < (l.length : Int) := by omega
      have hst : Hid (idxOf p l = -1) := by
        have := hall.out
        rw [List.take_of_length_le (by omega)] at this
        exact idxOf_none this
      clear hall hat hcl
      go_wp2
      go_ret
      exact ⟨by rw [hst.out]; rfl, hbel⟩
theorem Row.str_at {w : World} {g cap i : Nat} {s : List Txt} {x : Txt} (h : Row w g 9 1 strC cap s) (hx : s[i]? = some x) : w.cell? ⟨g, i, none⟩ = some (.string (B x)) := by
  have := h.at_ i x hx 0 _ rfl
  rwa [Nat.mul_one, Nat.add_zero] at this
set_option maxRecDepth 100000 in
set_option maxHeartbeats 2000000 in
theorem deleteFunc_calls (l : List Txt) (v : Value) (w : World) (base : Nat) (hbase : base ≤ w.heap.size) (hv : OwnStrs w base v l) (f : FuncId) (hf : ∀ (a : Array Value) (W : World), (callFunc f a).run Tryd.prog W = .ok (.enter f a) W) (c1 c2 : Value) (p : Txt → Bool)
    (hcl : ∀ (W : World) (x : Txt), x ∈ l → Below base w W → Calls Tryd.prog f #[.string (B x), c1, c2] W fun e w' => e = .returned (.bool (p x)) ∧ Below W.heap.size W w') :
    Calls Tryd.prog 19 #[v, .func (.func f) #[] #[c1, c2]] w fun e w' => ∃ v', e = .returned v' ∧ OwnStrs w' base v' (l.filter (fun y => !p y)) ∧ Below base w w' := by
  have hix := Lib.hid (indexFunc_calls l v w hv.strs f hf c1 c2 p (fun W x hx hb => hcl W x hx (hb.mono hbase)))
  rcases idx_cases p l with ⟨k, x, hx, hk, hi, hp, hall⟩ | ⟨hi, hall⟩
  · rw [hi] at hix
    have hkl : (k : Int) ≠ -1 := by omega
    rcases Row.of_own (strK l) hv with ⟨_, rfl⟩ | ⟨g, cap, rfl, hg, hrow⟩
    · simp at hk
    have hrl := hrow.le
    have hr63 := hrow.top63
    have hkk : keptOf p l (k + 1) = l.take k := by rw [kept_drop hx hp, kept_all hall]
    clear hi hv hall
    go_enter Tryd.func19, Tryd.ntmps19
    go_wp2_with (first
      | (go_at_call 26; go_must (refine hix.out.mono ?_); rintro e w1 ⟨rfl, hb1⟩
         have hbel1 : Below base w w1 := hb1.mono hbase
         have hrow1 := hrow.below hb1))
    clear hrow hb1
    go_loopw [5, 6] (fun vi vj wr => ∃ (j i : Nat) (s : List Txt), vj = .int .i64 j ∧ vi = .int .i64 i ∧ j ≤ l.length ∧ Hid (i = (keptOf p l j).length) ∧ i + 1 ≤ j ∧ s.length = l.length ∧ Hid (s.take i = keptOf p l j) ∧ Hid (s.drop j = l.drop j) ∧ Row wr g 9 1 strC cap s ∧ Below base w wr) (fun _ vj _ => l.length - (intOf vj).toNat)
    case atStart =>
      have hkl : (keptOf p l (k + 1)).length = k := by rw [hkk]; simp; omega
      refine ⟨k + 1, k, l, ?_, rfl, by omega, Lib.hid hkl.symm, by omega, rfl, ?_, ?_, hrow1, hbel1⟩
      · go_num
      · show _ = _
        rw [hkk]
      · show _ = _
        rfl
    case round =>
      clear hrow1 hbel1 hx hp hkk hix hkl hk
      obtain ⟨j, i, s, rfl, rfl, hj, hi, hij, hsl, htake, hdrop, hrow1, hbel1⟩ := hrel
      by_cases hlt : j < l.length
      · have hji : (j : Int) < (l.length : Int) := by omega
        obtain ⟨y, hy⟩ : ∃ y, l[j]? = some y := ⟨_, List.getElem?_eq_getElem hlt⟩
        have hym := List.mem_of_getElem? hy
        have cy := hrow1.str_at (drop_at hdrop.out hy)
        have hyh := Lib.hid hy
        clear hy
        have hil : i < s.length := by omega
        have hii : (i : Int) < (l.length : Int) := by omega
        have hbs := Nat.le_trans hbase hbel1.size
        have hc2 := Lib.hid (hcl wr y hym hbel1)
        cases hp : p y
        · have hkp := Lib.hid (kept_keep hyh.out hp)
          rw [hp] at hc2
          clear hp hcl
          go_wp2_with (first
            | ((with_reducible refine hc2.out.mono ?_); rintro e w2 ⟨rfl, hb2⟩
               have hrow3 := hrow1.below hb2
               have hbel3 := bthen hbel1 hbs hb2
               obtain ⟨u, hu⟩ := Option.isSome_iff_exists.1 (hrow3.cell_some hil (j := 0) (by omega))
               rw [Nat.mul_one, Nat.add_zero] at hu
               have hfz := hrow3.frozen i
               clear hc2 hrow1 cy))
          have hrow4 := hrow3.set (strK s) hil (x := y) rfl
          rw [Nat.mul_one] at hrow4
          have hbel4 := below_setCells (strC y) i w w2 hbel3 hg
          have ht2 : Hid ((s.set i y).take (i + 1) = keptOf p l (j + 1)) := by
            show _ = _
            rw [hkp.out, set_take hil, htake.out]
          have hd2 : Hid ((s.set i y).drop (j + 1) = l.drop (j + 1)) := by
            show _ = _
            rw [set_drop (by omega), drop_next hdrop.out]
          have hi2 : Hid (i + 1 = (keptOf p l (j + 1)).length) := by
            show _ = _
            rw [hkp.out, hi.out]; simp
          have hsl2 : (s.set i y).length = l.length := by rw [List.length_set, hsl]
          clear hrow3 hbel3 htake hdrop hi hkp
          go_roundw
          case rel =>
            (repeat apply Exists.intro)
            exact ⟨⟨j + 1, i + 1, s.set i y, by go_num, by go_num, by omega, hi2, by omega, hsl2, ht2, hd2, hrow4, hbel4⟩, rfl⟩
          case measure => simp [intOf]; omega
        · have hkp := Lib.hid (kept_drop hyh.out hp)
          rw [hp] at hc2
          clear hp hcl
          go_wp2_with (first
            | ((with_reducible refine hc2.out.mono ?_); rintro e w2 ⟨rfl, hb2⟩
               have hrow3 := hrow1.below hb2
               have hbel3 := bthen hbel1 hbs hb2
               clear hc2 hrow1 cy))
          have ht2 : Hid (s.take i = keptOf p l (j + 1)) := by
            show _ = _
            rw [hkp.out, htake.out]
          have hd2 := Lib.hid (drop_next hdrop.out)
          have hi2 : Hid (i = (keptOf p l (j + 1)).length) := by
            show _ = _
            rw [hkp.out]; exact hi.out
          clear htake hdrop hi hkp
          go_roundw
          case rel =>
            (repeat apply Exists.intro)
            exact ⟨⟨j + 1, i, s, by go_num, rfl, by omega, hi2, by omega, hsl, ht2, hd2, hrow3, hbel3⟩, rfl⟩
          case measure => simp [intOf]; omega
      · have hji : ¬ (j : Int) < (l.length : Int) := by omega
        have hii : (i : Int) ≤ (l.length : Int) := by omega
        have hci : ¬ (cap = i) := by omega
        have hclr := fun ty m c hm => run_clear_strs hrow1 hsl (i := i) (by omega) ty m c hm
        obtain ⟨ZS, hZS⟩ : ∃ ZS, ZS = (Builtin.zeroCells zStr.cells (l.length - i)).toList := ⟨_, rfl⟩
        rw [← hZS] at hclr
        simp only [Nat.mul_one] at hclr
        clear hZS
        clear hcl
        go_wp2_with (first
          | (at_builtin
             refine wpList_clear_run _ rfl (.tmp 38) _ rfl _ rfl (hclr _ _ _ rfl) ?_))
        go_ret
        obtain rfl : j = l.length := by omega
        have hfin : s.take i = l.filter (fun y => !p y) := by rw [htake.out, kept_end (Nat.le_refl _)]
        have hrow5 := hrow1.shed (strK s) i ZS
        rw [Nat.mul_one] at hrow5
        have hbel5 := below_setCells ZS i w wr hbel1 hg
        have hlen5 : (s.take i).length = i := by simp; omega
        rw [← hfin]
        have hown5 := hrow5.own (strK (s.take i)) hg
        rw [hlen5] at hown5
        have hown6 : OwnStrs (wr.setCells g i ZS) base (.slice (some ⟨g, 0, none⟩) i cap) (s.take i) := by
          unfold OwnStrs
          rw [hlen5]
          exact hown5
        exact ⟨_, rfl, hown6, hbel5⟩
  · have hfl : l.filter (fun y => !p y) = l := List.filter_eq_self.2 fun y hy => List.all_eq_true.1 hall y hy
    rw [hi] at hix
    rw [hfl]
    clear hall hi hcl hfl
    go_enter Tryd.func19, Tryd.ntmps19
    go_wp2_with (first
      | (go_at_call 26; go_must (refine hix.out.mono ?_); rintro e w1 ⟨rfl, hb1⟩))
    go_ret
    exact ⟨_, rfl, own_below hv hb1, hb1.mono hbase⟩
end Go.Proofs.YtakodjmembpdjaaDoor
