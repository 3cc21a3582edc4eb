/- The walks of layer 9 (ref): put. No condition. -/
import Derived.Test.YtlpiefopegjgjaaRefO
import Derived.Test.YtlpiefopegjgjaaRefJ
import Derived.Test.YtlpiefopegjgjaaRefB
namespace Go.Proofs.Ytlpiefopegjgjaa
open Go.RowKit
/-- The refs but for those of a name; the place of a name among sorted refs; refs in which a name stands for an id. -/
def dropL (l : List RefL) (name : List UInt8) : List RefL := l.filter (fun r => !(r.name == name))
def posL (l : List RefL) (name : List UInt8) : Nat := (l.takeWhile (fun r => Op.bytesLess r.name name)).length
def insL (l : List RefL) (name id : List UInt8) : List RefL := l.take (posL l name) ++ [⟨name, id⟩] ++ l.drop (posL l name)
def putL (l : List RefL) (name id : List UInt8) : List RefL := if isNone id then dropL l name else insL (dropL l name) name id
theorem posL_le (l : List RefL) (name : List UInt8) : posL l name ≤ l.length := (List.takeWhile_sublist _).length_le
theorem posL_here {l : List RefL} {name : List UInt8} {k : Nat} {x : RefL} (hn : (l.take k).all (fun r => Op.bytesLess r.name name) = true) (hx : l[k]? = some x) (hp : Op.bytesLess x.name name = false) : posL l name = k := by
  induction l generalizing k with
  | nil => simp at hx
  | cons y l ih =>
    cases k with
    | zero =>
      simp only [List.getElem?_cons_zero, Option.some.injEq] at hx
      subst hx
      simp [posL, List.takeWhile_cons, hp]
    | succ k =>
      simp only [List.take_succ_cons, List.all_cons, Bool.and_eq_true] at hn
      have := ih hn.2 (by simpa using hx)
      simp only [posL] at this
      simp [posL, List.takeWhile_cons, hn.1, this]
theorem posL_all {l : List RefL} {name : List UInt8} (hn : l.all (fun r => Op.bytesLess r.name name) = true) : posL l name = l.length := by
  induction l with
  | nil => rfl
  | cons y l ih =>
    simp only [List.all_cons, Bool.and_eq_true] at hn
    have := ih hn.2
    simp only [posL] at this
    simp [posL, List.takeWhile_cons, hn.1, this]
theorem less_step {l : List RefL} {name : List UInt8} {k : Nat} {x : RefL} (hn : (l.take k).all (fun r => Op.bytesLess r.name name) = true) (hx : l[k]? = some x) (hp : Op.bytesLess x.name name = true) : (l.take (k + 1)).all (fun r => Op.bytesLess r.name name) = true := by
  rw [List.take_add_one, List.all_append, hn, hx]
  simp [hp]
set_option maxRecDepth 100000 in
set_option maxHeartbeats 400000 in
theorem put1_calls (r : RefL) (hr : RefOk r) (b : Nat) (name : List UInt8) (w : World) (hb : b < w.heap.size) (hc : w.cell? ⟨b, 0, none⟩ = some (.string (B name))) :
    Calls Try.prog 47 #[.agg (refC r).toArray, .pointer (some ⟨b, 0, none⟩)] w fun e w' => e = .returned (.bool (r.name == name)) ∧ Below w.heap.size w w' := by
  have hn := (Blk.new w 54 (refC r).toArray)
  have c0 : (w.alloc (.cells (refC r).toArray 54)).cell? ⟨w.heap.size, 0, none⟩ = some (.string (B r.name)) := range_name (range_blkRef hn)
  have c1 : (w.alloc (.cells (refC r).toArray 54)).cell? ⟨b, 0, none⟩ = some (.string (B name)) := (World.cell?_alloc_lt w _ ⟨b, 0, none⟩ hb).trans hc
  clear hn hc
  go_enter Try.func47, Try.ntmps47
  go_wp2
  go_ret
  exact ⟨rfl, (Below.refl _ _).alloc (Nat.le_refl _) _⟩
theorem put1_func (a : Array Value) (W : World) : (callFunc 47 a).run Try.prog W = .ok (.enter 47 a) W := by kernel_rfl
theorem own_mono {w : World} {b b' : Nat} {e : TypeId} {k n : Nat} {v : Value} {xs : List Value} (h : w.ownsRow b e k v n xs) (hb : b' ≤ b) : w.ownsRow b' e k v n xs :=
  ⟨h.1, h.2.imp id fun ⟨g, cap, cur, h1, h2, r⟩ => ⟨g, cap, cur, h1, Nat.le_trans hb h2, r⟩⟩
set_option maxRecDepth 100000 in
set_option maxHeartbeats 1000000 in
theorem put_calls (l : List RefL) (hok : RefsOk l) (hbig : l.length ≤ 100000) (v : Value) (name id : List UInt8) (hid : id.length = 32) (hnm : name.length ≤ 9223372036854775807) (w : World) (hv : Refs w v l) :
    Calls Try.prog 37 #[v, .string (B name), .agg (u8s id)] w fun e w' => ∃ v', e = .returned v' ∧ OwnRefs w' w.heap.size v' (putL l name id) ∧ Below w.heap.size w w' := by
  have hbx := (Below.refl w.heap.size w).alloc (Nat.le_refl _) (.cells #[.string (B name)] 9)
  have hbx := hbx.alloc (by rw [size_alloc']; omega) (.cells (u8s id) 37)
  have c0 : ((w.alloc (.cells #[.string (B name)] 9)).alloc (.cells (u8s id) 37)).cell? ⟨w.heap.size, 0, none⟩ = some (.string (B name)) := (World.cell?_alloc_lt _ _ ⟨w.heap.size, 0, none⟩ (by rw [size_alloc']; show w.heap.size < _; omega)).trans (cell_new1 _ _ _)
  have c1 : Blk ((w.alloc (.cells #[.string (B name)] 9)).alloc (.cells (u8s id) 37)) (w.heap.size + 1) 37 (u8s id) := by
    have := Blk.new (w.alloc (.cells #[.string (B name)] 9)) 37 (u8s id)
    rwa [size_alloc'] at this
  have hvx := hv.below hbx
  have hszx : ((w.alloc (.cells #[.string (B name)] 9)).alloc (.cells (u8s id) 37)).heap.size = w.heap.size + 2 := by rw [size_alloc', size_alloc']
  have hclone := Lib.hid (clone_calls l hok (by omega) v _ hvx)
  have hokd : RefsOk (dropL l name) := refsOk_filter hok _
  have hdl : (dropL l name).length ≤ l.length := List.length_filter_le _ _
  have hnone := fun W => Lib.hid (none_calls id hid W)
  have hdel : ∀ (W : World) (v1 : Value), OwnRefs W (w.heap.size + 2) v1 l → Below (w.heap.size + 2) ((w.alloc (.cells #[.string (B name)] 9)).alloc (.cells (u8s id) 37)) W →
      Hid (Calls Try.prog 46 #[v1, .func (.func 47) #[] #[.pointer (some ⟨w.heap.size, 0, none⟩)]] W fun e w' => ∃ v', e = .returned v' ∧ OwnRefs w' (w.heap.size + 2) v' (dropL l name) ∧ Below (w.heap.size + 2) W w') := fun W v1 h1 h2 =>
    Lib.hid (deleteFunc_calls l hok v1 W (w.heap.size + 2) (by have := h2.size; omega) h1 47 put1_func _ (fun r => r.name == name)
      (fun W' x hx hb => put1_calls x (hok x hx) w.heap.size name W' (by have := h2.size; have := hb.size; omega)
        ((hb.cell (p := ⟨w.heap.size, 0, none⟩) (by show w.heap.size < _; omega)).trans ((h2.cell (p := ⟨w.heap.size, 0, none⟩) (by show w.heap.size < _; omega)).trans c0))))
  rw [hszx] at hclone
  have hn32 := sized32 hid
  clear hv hvx
  cases hz : isNone id
  · rw [hz] at hnone
    have hpl : Hid (putL l name id = insL (dropL l name) name id) := by show _ = _; simp [putL, hz]
    clear hz
    go_enter Try.func37, Try.ntmps37
    go_wp2_with (first
      | (go_at_call 23; go_must (refine hclone.out.mono ?_); rintro e w1 ⟨v1, rfl, ho1, hb1⟩
         have hd1 := hdel w1 v1 ho1 hb1)
      | (go_at_call 46; go_must (refine hd1.out.mono ?_); rintro e w2 ⟨v2, rfl, ho2, hb2⟩
         have hb12 := hb1.trans hb2
         have c2 := c1.below hb12 (by omega)
         have c3 := (hb12.cell (p := ⟨w.heap.size, 0, none⟩) (by show w.heap.size < _; omega)).trans c0)
      | (refine wpList_load_row rfl 37 (.tmp 5) rfl (w.heap.size + 1) rfl _ _ _ _ c2 Try.underlying37 rfl hn32 ?_)
      | (go_at_call 27; go_must (refine (hnone _).out.mono ?_); rintro e w3 ⟨rfl, hb3⟩))
    have hs2 := hb12.size
    have hs3 := hb3.size
    have hbel3 : Below w.heap.size w w3 := (hbx.trans (hb12.mono (by omega))).trans (hb3.mono (by omega))
    have ho3 : OwnRefs w3 (w.heap.size + 2) v2 (dropL l name) := own_below ho2 hb3
    have c4 : w3.cell? ⟨w.heap.size, 0, none⟩ = some (.string (B name)) := (hb3.cell (p := ⟨w.heap.size, 0, none⟩) (by show w.heap.size < _; omega)).trans c3
    have c5 := c2.below hb3 (by omega)
    have hsz3 : w.heap.size + 2 ≤ w3.heap.size := by omega
    clear hbx hb12 hb3 hb1 hb2 hd1 ho1 ho2 c0 c1 c2 c3 hclone hdel hs2 hs3 hnone hszx
    generalize hD : dropL l name = d at *
    clear hD
    have hv3 := ho3.refs hokd
    have hdlen := hv3.len
    obtain ⟨A, cap, rfl, hcap1, hcap2, hat⟩ := hv3
    go_loopw [8] (fun i wr => ∃ k : Nat, i = .int .i64 k ∧ k ≤ d.length ∧ Hid ((d.take k).all (fun r => Op.bytesLess r.name name) = true) ∧ Below w3.heap.size w3 wr) (fun i _ => d.length - (intOf i).toNat)
    case atStart => exact ⟨0, rfl, by omega, by show _ = _; simp, Below.refl _ _⟩
    case round =>
      obtain ⟨k, rfl, hk, hall, hbel⟩ := hrel
      have c6 : wr.cell? ⟨w.heap.size, 0, none⟩ = some (.string (B name)) := (hbel.cell (p := ⟨w.heap.size, 0, none⟩) (by show w.heap.size < _; omega)).trans c4
      have c7 := c5.below hbel (by omega)
      have ho4 := own_below ho3 hbel
      have hszr := Nat.le_trans hsz3 hbel.size
      by_cases hlt : k < d.length
      · have hki : (k : Int) < (d.length : Int) := by omega
        obtain ⟨gs, os, rfl, hgs, hcell⟩ := hat (by omega)
        obtain ⟨x, hx⟩ : ∃ x, d[k]? = some x := ⟨_, List.getElem?_eq_getElem hlt⟩
        have hx0 := range_name (rangeAt_below (hcell k x hx) hgs hbel)
        have hxh := Lib.hid hx
        clear hx hat hcell
        cases hp : Op.bytesLess x.name name
        · have hpos := Lib.hid (posL_here hall.out hxh.out hp)
          go_wp2
          go_quiet (fail)
          have hbq := bdrewN hbel nq
          have c6' : (wr.drewN nq).cell? ⟨w.heap.size, 0, none⟩ = some (.string (B name)) := c6
          have c7' := c7.drewN nq
          have ho4' : OwnRefs (wr.drewN nq) (w.heap.size + 2) _ d := ho4
          have hszq : w.heap.size + 2 ≤ (wr.drewN nq).heap.size := hszr
          clear c6 c7 ho4 hszr hbel
          generalize wr.drewN nq = wq at *
          have hins := Lib.hid (insert_calls d hokd (by omega) _ (wq.alloc (.cells (refC ⟨name, id⟩).toArray 54)) (w.heap.size + 2) k wq.heap.size ⟨name, id⟩ ⟨hid, hnm⟩ (by rw [size_alloc']; omega) (World.ownsRow.alloc ho4' _) hk (Blk.new _ _ _) (by
            intro he
            have := (World.ownsRow.lt ho4' _ he).2
            omega))
          clear ho4'
          go_wp2_with (first
            | (refine wpList_load_row rfl 37 (.tmp 5) rfl (w.heap.size + 1) rfl _ _ _ _ c7' Try.underlying37 rfl hn32 ?_)
            | (refine wpList_build_ref rfl (.tmp 33) (.tmp 34) rfl name id hid rfl rfl ?_)
            | (refine wpList_buildSlice_ref rfl (.tmp 35) rfl ⟨name, id⟩ ⟨hid, hnm⟩ rfl ?_)
            | (go_at_call 48; go_must (refine hins.out.mono ?_); rintro e w5 ⟨v5, rfl, ho5, hb5⟩))
          go_ret
          have hsz5 := hbq.size
          have hnew5 := ((Below.refl wq.heap.size wq).alloc (Nat.le_refl _) (.cells (refC ⟨name, id⟩).toArray 54)).mono (show w.heap.size ≤ wq.heap.size by omega)
          have ho6 : OwnRefs w5 w.heap.size v5 (putL l name id) := by
            rw [hpl.out]
            unfold insL
            rw [hpos.out]
            exact own_mono ho5 (by omega)
          exact ⟨_, rfl, ho6, ((hbel3.trans (hbq.mono (by omega))).trans hnew5).trans (hb5.mono (by omega))⟩
        · have hst := Lib.hid (less_step hall.out hxh.out hp)
          go_wp2
          go_quiet (fail)
          go_wp2
          go_roundw
          case rel => exact ⟨k + 1, by go_num, by omega, hst, bdrewN hbel nq⟩
          case measure => simp [intOf]; omega
      · have hki : ¬ (k : Int) < (d.length : Int) := by omega
        have hpos : Hid (posL d name = k) := by
          have := hall.out
          rw [List.take_of_length_le (by omega)] at this
          show _ = _
          rw [posL_all this]
          omega
        clear hat
        go_wp2
        go_quiet (fail)
        have hbq := bdrewN hbel nq
        have c6' : (wr.drewN nq).cell? ⟨w.heap.size, 0, none⟩ = some (.string (B name)) := c6
        have c7' := c7.drewN nq
        have ho4' : OwnRefs (wr.drewN nq) (w.heap.size + 2) _ d := ho4
        have hszq : w.heap.size + 2 ≤ (wr.drewN nq).heap.size := hszr
        clear c6 c7 ho4 hszr hbel
        generalize wr.drewN nq = wq at *
        have hins := Lib.hid (insert_calls d hokd (by omega) _ (wq.alloc (.cells (refC ⟨name, id⟩).toArray 54)) (w.heap.size + 2) k wq.heap.size ⟨name, id⟩ ⟨hid, hnm⟩ (by rw [size_alloc']; omega) (World.ownsRow.alloc ho4' _) hk (Blk.new _ _ _) (by
          intro he
          have := (World.ownsRow.lt ho4' _ he).2
          omega))
        clear ho4'
        go_wp2_with (first
          | (refine wpList_load_row rfl 37 (.tmp 5) rfl (w.heap.size + 1) rfl _ _ _ _ c7' Try.underlying37 rfl hn32 ?_)
          | (refine wpList_build_ref rfl (.tmp 33) (.tmp 34) rfl name id hid rfl rfl ?_)
          | (refine wpList_buildSlice_ref rfl (.tmp 35) rfl ⟨name, id⟩ ⟨hid, hnm⟩ rfl ?_)
          | (go_at_call 48; go_must (refine hins.out.mono ?_); rintro e w5 ⟨v5, rfl, ho5, hb5⟩))
        go_ret
        have hsz5 := hbq.size
        have hnew5 := ((Below.refl wq.heap.size wq).alloc (Nat.le_refl _) (.cells (refC ⟨name, id⟩).toArray 54)).mono (show w.heap.size ≤ wq.heap.size by omega)
        have ho6 : OwnRefs w5 w.heap.size v5 (putL l name id) := by
          rw [hpl.out]
          unfold insL
          rw [hpos.out]
          exact own_mono ho5 (by omega)
        exact ⟨_, rfl, ho6, ((hbel3.trans (hbq.mono (by omega))).trans hnew5).trans (hb5.mono (by omega))⟩
  · rw [hz] at hnone
    have hpl : Hid (putL l name id = dropL l name) := by show _ = _; simp [putL, hz]
    clear hz
    go_enter Try.func37, Try.ntmps37
    go_wp2_with (first
      | (go_at_call 23; go_must (refine hclone.out.mono ?_); rintro e w1 ⟨v1, rfl, ho1, hb1⟩
         have hd1 := hdel w1 v1 ho1 hb1)
      | (go_at_call 46; go_must (refine hd1.out.mono ?_); rintro e w2 ⟨v2, rfl, ho2, hb2⟩
         have hb12 := hb1.trans hb2
         have c2 := c1.below hb12 (by omega))
      | (refine wpList_load_row rfl 37 (.tmp 5) rfl (w.heap.size + 1) rfl _ _ _ _ c2 Try.underlying37 rfl hn32 ?_)
      | (go_at_call 27; go_must (refine (hnone _).out.mono ?_); rintro e w3 ⟨rfl, hb3⟩))
    go_ret
    have hs2 := hb12.size
    have hb3' := hb3.mono (show w.heap.size ≤ w2.heap.size by omega)
    have ho3 : OwnRefs w3 w.heap.size v2 (putL l name id) := by
      rw [hpl.out]
      exact own_mono (own_below ho2 hb3) (by omega)
    exact ⟨_, rfl, ho3, (hbx.trans (hb12.mono (by omega))).trans hb3'⟩
end Go.Proofs.Ytlpiefopegjgjaa
