/- The walks of layer 9 (ref): slices.DeleteFunc at refs. No condition. -/
import Derived.Test.YtlpiefopegjgjaaRefC
namespace Go.Proofs.Ytlpiefopegjgjaa
open Go.RowKit
theorem idx_cases {α : Type} (p : α → Bool) (l : List α) :
    (∃ k x, l[k]? = some x ∧ k < l.length ∧ idxOf p l = (k : Int) ∧ p x = true ∧ (l.take k).all (fun y => !p y) = true) ∨ (idxOf p l = -1 ∧ l.all (fun y => !p y) = true) := by
  cases h : l.findIdx? p with
  | some k =>
    obtain ⟨hk, hp, hn⟩ := List.findIdx?_eq_some_iff_getElem.1 h
    refine .inl ⟨k, l[k], List.getElem?_eq_getElem hk, hk, by simp [idxOf, h], hp, ?_⟩
    rw [List.all_eq_true]
    intro y hy
    obtain ⟨j, hj, rfl⟩ := List.mem_take_iff_getElem.1 hy
    have := hn j (by omega)
    simpa using this
  | none =>
    refine .inr ⟨by simp [idxOf, h], ?_⟩
    rw [List.all_eq_true]
    intro y hy
    have := List.findIdx?_eq_none_iff.1 h y hy
    simpa using this
/-- What is kept of the first j elements. -/
def keptOf {α : Type} (p : α → Bool) (l : List α) (j : Nat) : List α := (l.take j).filter (fun y => !p y)
theorem kept_le {α : Type} (p : α → Bool) (l : List α) (j : Nat) : (keptOf p l j).length ≤ j :=
  Nat.le_trans (List.length_filter_le _ _) (by simp; omega)
theorem kept_keep {α : Type} {p : α → Bool} {l : List α} {j : Nat} {x : α} (hx : l[j]? = some x) (hp : p x = false) : keptOf p l (j + 1) = keptOf p l j ++ [x] := by
  simp [keptOf, List.take_add_one, hx, hp]
theorem kept_drop {α : Type} {p : α → Bool} {l : List α} {j : Nat} {x : α} (hx : l[j]? = some x) (hp : p x = true) : keptOf p l (j + 1) = keptOf p l j := by
  simp [keptOf, List.take_add_one, hx, hp]
theorem kept_all {α : Type} {p : α → Bool} {l : List α} {j : Nat} (h : (l.take j).all (fun y => !p y) = true) : keptOf p l j = l.take j := by
  rw [keptOf, List.filter_eq_self]
  exact fun y hy => List.all_eq_true.1 h y hy
theorem kept_end {α : Type} {p : α → Bool} {l : List α} {j : Nat} (h : l.length ≤ j) : keptOf p l j = l.filter (fun y => !p y) := by
  rw [keptOf, List.take_of_length_le h]
theorem set_take {α : Type} {s : List α} {i : Nat} (hi : i < s.length) (x : α) : (s.set i x).take (i + 1) = s.take i ++ [x] := by
  rw [List.take_add_one, List.getElem?_set_self hi, List.take_set_of_le (Nat.le_refl _)]
  rfl
theorem set_drop {α : Type} {s : List α} {i j : Nat} (hi : i < j) (x : α) : (s.set i x).drop j = s.drop j := List.drop_set_of_lt hi
theorem drop_at {α : Type} {s l : List α} {j : Nat} (h : s.drop j = l.drop j) {x : α} (hx : l[j]? = some x) : s[j]? = some x := by
  have := congrArg (fun q => q[0]?) h
  simp only [List.getElem?_drop, Nat.add_zero] at this
  rw [this]
  exact hx
theorem drop_next {α : Type} {s l : List α} {j : Nat} (h : s.drop j = l.drop j) : s.drop (j + 1) = l.drop (j + 1) := by
  rw [← List.drop_drop, ← List.drop_drop, h]
theorem refsOk_set {s : List RefL} (h : RefsOk s) (i : Nat) {x : RefL} (hx : RefOk x) : RefsOk (s.set i x) := by
  intro y hy
  rcases List.mem_or_eq_of_mem_set hy with h1 | rfl
  · exact h y h1
  · exact hx
theorem refsOk_take {s : List RefL} (h : RefsOk s) (n : Nat) : RefsOk (s.take n) := fun y hy => h y (List.mem_of_mem_take hy)
theorem refsOk_filter {s : List RefL} (h : RefsOk s) (p : RefL → Bool) : RefsOk (s.filter p) := fun y hy => h y (List.mem_filter.1 hy).1
theorem zRef_info : (Try.prog.info? 54).map (·.zero) = some (some zRef) := by
  obtain ⟨i, h1, h2, _⟩ := Try.refTy.hi
  rw [h1]
  simp [h2]
theorem zRef_cells : zRef.cells.size = 33 := rfl
theorem zRef_one : ∀ u ∈ zRef.cells.toList, u.oneCell' = true := fun u hu => refC_one ⟨[], List.replicate 32 0⟩ u (by simpa [zRef, Value.cells] using hu)
theorem run_clear_refs {w : World} {g i n cap : Nat} {s : List RefL} (h : Row w g 54 33 refC cap s) (hn : s.length = n) (hi : i < n) (ty : TypeId) (m c : Nat) (hm : m = n - i) :
    (Builtin.clear_ #[22] ty #[.slice (some ⟨g, i * 33, none⟩) m c]).run Try.prog w = .ok (.tuple #[]) (w.setCells g (i * 33) (Builtin.zeroCells zRef.cells (n - i)).toList) := by
  subst hm
  refine run_clear_rows w _ ty _ zRef g (i * 33) (n - i) c Try.underlying22 zRef_info (by omega) ?_ (zeroCells_one zRef_one _)
  rw [size_zeroCells, zRef_cells]
  refine h.there ?_
  have := h.le
  rw [← Nat.add_mul]
  exact Nat.mul_le_mul_right _ (by omega)
set_option maxRecDepth 100000 in
set_option maxHeartbeats 2000000 in
theorem deleteFunc_calls (l : List RefL) (hok : RefsOk l) (v : Value) (w : World) (base : Nat) (hbase : base ≤ w.heap.size) (hv : OwnRefs w base v l) (f : FuncId) (hf : ∀ (a : Array Value) (W : World), (callFunc f a).run Try.prog W = .ok (.enter f a) W) (c : Value) (p : RefL → Bool)
    (hcl : ∀ (W : World) (x : RefL), x ∈ l → Below base w W → Calls Try.prog f #[.agg (refC x).toArray, c] W fun e w' => e = .returned (.bool (p x)) ∧ Below W.heap.size W w') :
    Calls Try.prog 46 #[v, .func (.func f) #[] #[c]] w fun e w' => ∃ v', e = .returned v' ∧ OwnRefs w' base v' (l.filter (fun y => !p y)) ∧ Below base w w' := by
  have hix := Lib.hid (indexFunc_calls l hok v w (hv.refs hok) f hf c p (fun W x hx hb => hcl W x hx (hb.mono hbase)))
  rcases idx_cases p l with ⟨k, x, hx, hk, hi, hp, hall⟩ | ⟨hi, hall⟩
  · rw [hi] at hix
    have hkl : (k : Int) ≠ -1 := by omega
    rcases Row.of_own (refK hok) hv with ⟨_, rfl⟩ | ⟨g, cap, rfl, hg, hrow⟩
    · simp at hk
    have hrl := hrow.le
    have hr63 := hrow.top63
    have hkk : keptOf p l (k + 1) = l.take k := by rw [kept_drop hx hp, kept_all hall]
    clear hi hv hall
    go_enter Try.func46, Try.ntmps46
    go_wp2_with (first
      | (go_at_call 42; go_must (refine hix.out.mono ?_); rintro e w1 ⟨rfl, hb1⟩
         have hbel1 : Below base w w1 := hb1.mono hbase
         have hrow1 := hrow.below hb1))
    clear hrow hb1
    go_loopw [5, 6] (fun vi vj wr => ∃ (j i : Nat) (s : List RefL), vj = .int .i64 j ∧ vi = .int .i64 i ∧ j ≤ l.length ∧ Hid (i = (keptOf p l j).length) ∧ i + 1 ≤ j ∧ s.length = l.length ∧ RefsOk s ∧ Hid (s.take i = keptOf p l j) ∧ Hid (s.drop j = l.drop j) ∧ Row wr g 54 33 refC cap s ∧ Below base w wr) (fun _ vj _ => l.length - (intOf vj).toNat)
    case atStart =>
      have hkl : (keptOf p l (k + 1)).length = k := by rw [hkk]; simp; omega
      refine ⟨k + 1, k, l, ?_, rfl, by omega, Lib.hid hkl.symm, by omega, rfl, hok, ?_, ?_, hrow1, hbel1⟩
      · go_num
      · show _ = _
        rw [hkk]
      · show _ = _
        rfl
    case round =>
      clear hrow1 hbel1 hx hp hkk hix hkl hk
      obtain ⟨j, i, s, rfl, rfl, hj, hi, hij, hsl, hsok, htake, hdrop, hrow1, hbel1⟩ := hrel
      by_cases hlt : j < l.length
      · have hji : (j : Int) < (l.length : Int) := by omega
        obtain ⟨y, hy⟩ : ∃ y, l[j]? = some y := ⟨_, List.getElem?_eq_getElem hlt⟩
        have hym := List.mem_of_getElem? hy
        have hyok : RefOk y := hok y hym
        have hy0 := hrow1.at_ j y (drop_at hdrop.out hy)
        have hyh := Lib.hid hy
        clear hy
        have hil : i < s.length := by omega
        have hii : (i : Int) < (l.length : Int) := by omega
        have hbs := Nat.le_trans hbase hbel1.size
        cases hp : p y
        · have hkp := Lib.hid (kept_keep hyh.out hp)
          have hcl' := fun W hb => Lib.hid (hcl W y hym hb)
          rw [hp] at hcl'
          have hroom : i * 33 + (refC y).toArray.size ≤ cap * 33 := by
            rw [List.size_toArray, refC_len hyok]; omega
          clear hp hcl
          go_wp2_with (first
            | (refine wpList_load_mid rfl 54 (.tmp 24) rfl g (j * 33) rfl (refC y) _ hy0 Try.underlying54 rfl (sizedRef hyok) ?_)
            | (refine wpList_store_newRef rfl (.tmp 7) (.tmp 25) rfl y hyok _ rfl rfl rfl ?_; intro W1 hn1 hbl1
               have hrow2 := hrow1.below hbl1
               have hbel2 := bthen hbel1 hbs hbl1
               have hbs2 := Nat.le_trans hbase hbel2.size
               have hc2 := hcl' W1 hbel2
               clear hy0)
            | (refine wpList_load_row rfl 54 (.tmp 7) rfl wr.heap.size rfl _ _ _ _ hn1 Try.underlying54 rfl (sizedRef hyok) ?_)
            | ((with_reducible refine hc2.out.mono ?_); rintro e w2 ⟨rfl, hb2⟩
               have hrow3 := hrow2.below hb2
               have hn2 := hn1.below hb2 hn1.lt
               have hbel3 := bthen hbel2 hbs2 hb2
               have hbs3 := Nat.le_trans hbase hbel3.size
               clear hn1 hc2 hrow2 hrow1)
            | (refine wpList_load_row rfl 54 (.tmp 7) rfl wr.heap.size rfl _ _ _ _ hn2 Try.underlying54 rfl (sizedRef hyok) ?_)
            | (refine wpList_store_mid rfl 54 (.tmp 33) (.tmp 32) rfl g (i * 33) (refC y).toArray rfl rfl (hrow3.there hroom) (by rw [List.size_toArray]; exact sizedRef hyok) (all_oneCell_toArray (refC_one y)) ?_))
          have hrow4 := hrow3.set (refK hsok) hil (refC_len hyok)
          have hbel4 := below_setCells (refC y) (i * 33) w w2 hbel3 hg
          have ht2 : Hid ((s.set i y).take (i + 1) = keptOf p l (j + 1)) := by
            show _ = _
            rw [hkp.out, set_take hil, htake.out]
          have hd2 : Hid ((s.set i y).drop (j + 1) = l.drop (j + 1)) := by
            show _ = _
            rw [set_drop (by omega), drop_next hdrop.out]
          have hi2 : Hid (i + 1 = (keptOf p l (j + 1)).length) := by
            show _ = _
            rw [hkp.out, hi.out]; simp
          have hsl2 : (s.set i y).length = l.length := by rw [List.length_set, hsl]
          have hsok2 := refsOk_set hsok i hyok
          clear hrow3 hbel3 htake hdrop hi hkp
          go_roundw
          case rel =>
            (repeat apply Exists.intro)
            exact ⟨⟨j + 1, i + 1, s.set i y, by go_num, by go_num, by omega, hi2, by omega, hsl2, hsok2, ht2, hd2, hrow4, hbel4⟩, rfl⟩
          case measure => simp [intOf]; omega
        · have hkp := Lib.hid (kept_drop hyh.out hp)
          have hcl' := fun W hb => Lib.hid (hcl W y hym hb)
          rw [hp] at hcl'
          clear hp hcl
          go_wp2_with (first
            | (refine wpList_load_mid rfl 54 (.tmp 24) rfl g (j * 33) rfl (refC y) _ hy0 Try.underlying54 rfl (sizedRef hyok) ?_)
            | (refine wpList_store_newRef rfl (.tmp 7) (.tmp 25) rfl y hyok _ rfl rfl rfl ?_; intro W1 hn1 hbl1
               have hrow2 := hrow1.below hbl1
               have hbel2 := bthen hbel1 hbs hbl1
               have hbs2 := Nat.le_trans hbase hbel2.size
               have hc2 := hcl' W1 hbel2
               clear hy0)
            | (refine wpList_load_row rfl 54 (.tmp 7) rfl wr.heap.size rfl _ _ _ _ hn1 Try.underlying54 rfl (sizedRef hyok) ?_)
            | ((with_reducible refine hc2.out.mono ?_); rintro e w2 ⟨rfl, hb2⟩
               have hrow3 := hrow2.below hb2
               have hn2 := hn1.below hb2 hn1.lt
               have hbel3 := bthen hbel2 hbs2 hb2
               have hbs3 := Nat.le_trans hbase hbel3.size
               clear hn1 hc2 hrow2 hrow1))
          have ht2 : Hid (s.take i = keptOf p l (j + 1)) := by
            show _ = _
            rw [hkp.out, htake.out]
          have hd2 := Lib.hid (drop_next hdrop.out)
          have hi2 : Hid (i = (keptOf p l (j + 1)).length) := by
            show _ = _
            rw [hkp.out]; exact hi.out
          clear hbel2 htake hdrop hi hkp
          go_roundw
          case rel =>
            (repeat apply Exists.intro)
            exact ⟨⟨j + 1, i, s, by go_num, rfl, by omega, hi2, by omega, hsl, hsok, ht2, hd2, hrow3, hbel3⟩, rfl⟩
          case measure => simp [intOf]; omega
      · have hji : ¬ (j : Int) < (l.length : Int) := by omega
        have hii : (i : Int) ≤ (l.length : Int) := by omega
        have hci : ¬ (cap = i) := by omega
        have hclr := fun ty m c hm => run_clear_refs hrow1 hsl (i := i) (by omega) ty m c hm
        obtain ⟨ZS, hZS⟩ : ∃ ZS, ZS = (Builtin.zeroCells zRef.cells (l.length - i)).toList := ⟨_, rfl⟩
        rw [← hZS] at hclr
        clear hZS
        clear hcl
        go_wp2_with (first
          | (at_builtin
             refine wpList_clear_run _ rfl (.tmp 38) _ rfl _ rfl (hclr _ _ _ rfl) ?_))
        go_ret
        obtain rfl : j = l.length := by omega
        have hfin : s.take i = l.filter (fun y => !p y) := by rw [htake.out, kept_end (Nat.le_refl _)]
        have hrow5 := hrow1.shed (refK hsok) i ZS
        have hbel5 := below_setCells ZS (i * 33) w wr hbel1 hg
        have hlen5 : (s.take i).length = i := by simp; omega
        rw [← hfin]
        have hown5 := hrow5.own (refK (refsOk_take hsok i)) hg
        rw [hlen5] at hown5
        have hown6 : OwnRefs (wr.setCells g (i * 33) ZS) base (.slice (some ⟨g, 0, none⟩) i cap) (s.take i) := by
          unfold OwnRefs
          rw [hlen5]
          exact hown5
        exact ⟨_, rfl, hown6, hbel5⟩
  · have hfl : l.filter (fun y => !p y) = l := List.filter_eq_self.2 fun y hy => List.all_eq_true.1 hall y hy
    rw [hi] at hix
    rw [hfl]
    clear hall hi hcl hfl
    go_enter Try.func46, Try.ntmps46
    go_wp2_with (first
      | (go_at_call 42; go_must (refine hix.out.mono ?_); rintro e w1 ⟨rfl, hb1⟩))
    go_ret
    exact ⟨_, rfl, own_below hv hb1, hb1.mono hbase⟩
end Go.Proofs.Ytlpiefopegjgjaa
