/- The walk of layer 9's reference: Update. No condition. -/
import Derived.Test.YtlpiefopegjgjaaRefT
import Derived.Test.YtlpiefopegjgjaaRefX
namespace Go.Proofs.Ytlpiefopegjgjaa
open Go.RowKit
attribute [local go_sem ↓] ldvI_eq
def nextS (l : List RefL) (p : List UpdL) (x : UpdL) : List RefL := if codeS l p x = 0 then setL l x.name x.new else l
def runS (l : List RefL) (u : List UpdL) : Nat → List RefL × List Nat
  | 0 => (l, [])
  | k + 1 => match u[k]? with
    | none => runS l u k
    | some x => (nextS (runS l u k).1 (u.take k) x, (runS l u k).2 ++ [codeS (runS l u k).1 (u.take k) x])
theorem runS_step {l : List RefL} {u : List UpdL} {k : Nat} {x : UpdL} (hx : u[k]? = some x) : runS l u (k + 1) = (nextS (runS l u k).1 (u.take k) x, (runS l u k).2 ++ [codeS (runS l u k).1 (u.take k) x]) := by
  simp [runS, hx]
theorem refsOk_setGo {l : List RefL} (hok : RefsOk l) {name id : List UInt8} (hn : RefOk ⟨name, id⟩) (d : Bool) : RefsOk (setGo name id d l) := by
  induction l generalizing d with
  | nil =>
    intro y hy
    cases d
    · simp [setGo] at hy; subst hy; exact hn
    · simp [setGo] at hy
  | cons x l ih =>
    intro y hy
    simp only [setGo, List.mem_append] at hy
    rcases hy with (h1 | h1) | h1
    · split at h1
      · simp at h1; subst h1; exact hn
      · simp at h1
    · split at h1
      · simp at h1
      · simp at h1; subst h1; exact hok _ (by simp)
    · exact ih (fun z hz => hok z (by simp [hz])) _ y h1
theorem setGo_le (name id : List UInt8) (d : Bool) (l : List RefL) : (setGo name id d l).length ≤ l.length + (if d then 0 else 1) := by
  induction l generalizing d with
  | nil => cases d <;> simp [setGo]
  | cons x l ih =>
    have h := ih (d || !Op.bytesLess x.name name)
    simp only [setGo, List.length_append, List.length_cons]
    cases d <;> cases hp : Op.bytesLess x.name name <;> cases (x.name == name) <;> simp [hp] at h ⊢ <;> omega
theorem nextS_ok {l : List RefL} (hok : RefsOk l) {p : List UpdL} {x : UpdL} (hx : UpdOk x) : RefsOk (nextS l p x) := by
  unfold nextS
  split
  · exact refsOk_setGo hok ⟨hx.2.1, hx.2.2⟩ _
  · exact hok
theorem nextS_le (l : List RefL) (p : List UpdL) (x : UpdL) : (nextS l p x).length ≤ l.length + 1 := by
  unfold nextS
  split
  · have := setGo_le x.name x.new (isNone x.new) l
    unfold setL
    split at this <;> omega
  · omega
theorem runS_ok {l : List RefL} (hok : RefsOk l) {u : List UpdL} (hu : UpdsOk u) (k : Nat) : RefsOk (runS l u k).1 := by
  induction k with
  | zero => exact hok
  | succ k ih =>
    cases hx : u[k]? with
    | none => simpa [runS, hx] using ih
    | some x => rw [runS_step hx]; exact nextS_ok ih (hu x (List.mem_of_getElem? hx))
theorem runS_le (l : List RefL) (u : List UpdL) (k : Nat) : (runS l u k).1.length ≤ l.length + k := by
  induction k with
  | zero => exact Nat.le_refl _
  | succ k ih =>
    cases hx : u[k]? with
    | none => simp only [runS, hx]; omega
    | some x =>
      rw [runS_step hx]
      have := nextS_le (runS l u k).1 (u.take k) x
      simp only
      omega
theorem runS_told {l : List RefL} {u : List UpdL} {k : Nat} (hk : k ≤ u.length) : (runS l u k).2.length = k := by
  induction k with
  | zero => rfl
  | succ k ih =>
    have hx : u[k]? = some u[k] := List.getElem?_eq_getElem (by omega)
    rw [runS_step hx]
    simp [ih (by omega)]
def cntBad (l : List Nat) : Nat := (l.filter (fun n => decide (n ≠ 0))).length
theorem cnt_le (l : List Nat) : cntBad l ≤ l.length := List.length_filter_le _ _
theorem cnt_zero (l : List Nat) (h : anyBad l = false) : cntBad l = 0 := by
  unfold anyBad at h
  unfold cntBad
  rw [List.any_eq_false] at h
  rw [List.length_eq_zero_iff, List.filter_eq_nil_iff]
  exact h
theorem cnt_pos (l : List Nat) (h : anyBad l = true) : cntBad l ≠ 0 := by
  intro hc
  unfold cntBad at hc
  rw [List.length_eq_zero_iff, List.filter_eq_nil_iff] at hc
  unfold anyBad at h
  rw [List.any_eq_true] at h
  obtain ⟨x, hx, hp⟩ := h
  exact hc x hx hp
def resS (l : List RefL) (u : List UpdL) (all : Bool) : List RefL := if all && anyBad (runS l u u.length).2 then l else (runS l u u.length).1
def toldS (l : List RefL) (u : List UpdL) (all : Bool) : List Nat := if all && anyBad (runS l u u.length).2 then (runS l u u.length).2.map markN else (runS l u u.length).2
theorem Try.intTy : SliceTy Try.prog 31 3 (.int .i64 0) 1 8 := ⟨Try.underlying31, info_parts (by kernel_rfl), rfl, by omega⟩
theorem run_append_nil (w : World) (ty : TypeId) (g c : Nat) : (Builtin.append_ #[22, 22] ty #[.slice (some ⟨g, 0, none⟩) 0 0, .slice none 0 c]).run Try.prog w = .ok (.slice (some ⟨g, 0, none⟩) 0 0) w := by
  obtain ⟨i, h1, h2, h3, h4⟩ := Try.refTy.hi
  simp [Builtin.append_, run_underlying Try.underlying22, Builtin.lenOf, Builtin.firstCells, sizeOf, typeInfo, h1, h3, storeCells]
/-- A slice of refs, or nothing, is taken on behind nothing. -/
theorem lit_append_refs {w : World} {ops : Array Oper} {rest : List Oper} {a : Act} {Q : Exit → Act → World → Prop} {d : Option Tmp} {rt : TypeId} {pos : String} {af : Array Edge} (s x : Operand) {l : List RefL} (hok : RefsOk l) (hbig : l.length ≤ 1000000) (v : Value) (hv : Refs w v l)
    (hs : a.eval s = .slice (some ⟨w.heap.size, 0, none⟩) 0 0) (hx : a.eval x = v)
    (h : ∀ v' w', OwnRefs w' w.heap.size v' l → Below w.heap.size w w' → wpList Try.prog ops Q rest (a.put d v') w') :
    wpList Try.prog ops Q ({ dst := d, op := .call { callee := .builtin .append, args := #[s, x], argTypes := #[22, 22] }, type := rt, pos := pos, after := af, guard := none } :: rest) a (w.alloc (.cells #[] 54)) := by
  have hl := rowsOf_length (refK hok)
  have hb0 : Below w.heap.size w (w.alloc (.cells #[] 54)) := (Below.refl _ _).alloc (Nat.le_refl _) _
  have hown0 : (w.alloc (.cells #[] 54)).ownsRow w.heap.size 54 33 (.slice (some ⟨w.heap.size, 0, none⟩) 0 0) 0 [] :=
    World.ownsRow_lit (size := 33) w #[] 0 (Nat.le_refl _) (by simp [maxLen]) rfl
  have hv1 := hv.below hb0
  have hv2 := hv1
  obtain ⟨A, cap, rfl, h1, h2, h3⟩ := hv1
  cases A with
  | none =>
    obtain rfl : l = [] := by
      cases l with
      | nil => rfl
      | cons y l => obtain ⟨g, o, hh, _⟩ := h3 (by simp); cases hh
    refine wpList_plain rfl fun _ hK => ?_
    unfold Oper.wp execOp
    simp only [resolve, invoke, builtin, Sem.run_bind, Sem.run_pure, Result.andThen_ok, List.map_toArray, List.map_cons, List.map_nil, hs, hx]
    rw [show ([] : List RefL).length = 0 from rfl, run_append_nil]
    exact hK _ _ (h _ _ hown0 hb0)
  | some ad =>
    refine wpList_append_slice rfl s x _ rfl 54 _ 33 48 Try.refTy w.heap.size _ 0 [] hs hown0 ad l.length cap (rowsOf refC l) hx hl (hv2.news (refK hok) rfl) (refOne l) (by omega) (by omega) w hb0 hb0.size ?_
    intro v' w' hown3 hbel3
    refine h v' w' ?_ hbel3
    rw [Nat.zero_add, List.nil_append] at hown3
    exact hown3
set_option maxRecDepth 100000 in
set_option maxHeartbeats 4000000 in
theorem refUpdate_calls (l : List RefL) (hok : RefsOk l) (hbig : l.length ≤ 1000) (vl : Value) (u : List UpdL) (huok : UpdsOk u) (hub : u.length ≤ 1000) (vu : Value) (all : Bool) (w : World) (hl : Refs w vl l) (hu : Upds w vu u) :
    Calls Try.prog 12 #[vl, vu, .bool all] w fun e w' => ∃ v1 v2, e = .returned (.tuple #[v1, v2]) ∧ OwnRefs w' w.heap.size v1 (resS l u all) ∧
      OwnNs w' w.heap.size 3 v2 (toldS l u all) ∧ Below w.heap.size w w' := by
  have hu0 := hu
  have hlen := hu.len
  obtain ⟨A, cap, rfl, hcap1, hcap2, hat⟩ := hu
  have hru : Hid (∀ b, resS l u b = if b && anyBad (runS l u u.length).2 then l else (runS l u u.length).1) := fun _ => rfl
  have htu : Hid (∀ b, toldS l u b = if b && anyBad (runS l u u.length).2 then (runS l u u.length).2.map markN else (runS l u u.length).2) := fun _ => rfl
  have hbm : l.length ≤ 1000000 := by omega
  go_enter Try.func12, Try.ntmps12
  go_wp2_with (first
    | (at_builtin
       (with_reducible refine lit_append_refs (.tmp 14) (.tmp 15) hok hbm _ hl ?_ ?_ ?_); rfl; rfl; intro v2 w2 ho2 hb2))
  go_loopw [8, 9, 10, 11] (fun vo vt vm vi wr => ∃ k : Nat, vi = .int .i64 k ∧ k ≤ u.length ∧ vm = .int .i64 (cntBad (runS l u k).2 : Nat) ∧ OwnRefs wr w.heap.size vo (runS l u k).1 ∧ OwnNs wr w.heap.size 3 vt (runS l u k).2 ∧ Below w.heap.size w wr) (fun _ _ _ vi _ => u.length - (intOf vi).toNat)
  case atStart => exact ⟨0, rfl, by omega, rfl, ho2, World.ownsRow_nil _ _ _ _, hb2⟩
  case round =>
    clear ho2 hb2
    obtain ⟨k, rfl, hk, rfl, hor, hot, hbel⟩ := hrel
    have hrok := runS_ok hok huok k
    have hrle := runS_le l u k
    have htl := runS_told (l := l) hk
    have hcl := cnt_le (runS l u k).2
    by_cases hlt : k < u.length
    · clear hru htu
      have hki : (k : Int) < (u.length : Int) := by omega
      obtain ⟨gs, os, rfl, hgs, hcell⟩ := hat (by omega)
      obtain ⟨x, hx⟩ : ∃ x, u[k]? = some x := ⟨_, List.getElem?_eq_getElem hlt⟩
      have hxok : UpdOk x := huok x (List.mem_of_getElem? hx)
      have hxn : x.new.length = 32 := hxok.2.1
      have hx0 := hcell k x hx
      have hst := Lib.hid (runS_step (l := l) hx)
      have hwr := Lib.hid (refWrong_calls (runS l u k).1 hrok (by omega) _ u huok k x hx _ wr (hor.refs hrok) (hu0.below hbel))
      have hset := fun W v (ho : OwnRefs W w.heap.size v (runS l u k).1) => Lib.hid (refSet_calls (runS l u k).1 hrok (by omega) v x.name x.new hxok.2.1 hxok.2.2 W (ho.refs hrok))
      have hns : Hid (nextS (runS l u k).1 (u.take k) x = if codeS (runS l u k).1 (u.take k) x = 0 then setL (runS l u k).1 x.name x.new else (runS l u k).1) := rfl
      clear hx hcell hat hu0 hl
      generalize codeS (runS l u k).1 (u.take k) x = c at *
      generalize nextS (runS l u k).1 (u.take k) x = nx at *
      have hone1 : ∀ u ∈ (#[.int .i64 c] : Array Value).toList, u.oneCell' = true := by
        intro u hu; simp at hu; subst hu; rfl
      have hone2 := Lib.hid hone1
      clear hone1
      generalize runS l u k = rp at *
      have hsz := hbel.size
      have hne3 : (3 : TypeId) ≠ 54 := by decide
      have hn1 : rp.2.length + 1 ≤ 9223372036854775807 := by omega
      have hn2 : (rp.2.length + 1) * 8 ≤ 140737488355328 := by omega
      by_cases hc0 : c = 0
      · have hch := Lib.hid hc0
        clear hc0
        go_wp2_with (first
          | (go_at_call 25; go_must (refine hwr.out.mono ?_); rintro e w3 ⟨rfl, hb3⟩
             have hbel3 := bthen hbel hsz hb3
             have hot4 := World.ownsRow.alloc (own_below hot hb3) (.cells #[.int .i64 c] 3)
             have ho4 := World.ownsRow.alloc (own_below hor hb3) (.cells #[.int .i64 c] 3)
             have hnew := new_of_own (own_below hot hb3) 3 #[.int .i64 c]
             have hbel4 := hbel3.alloc hbel3.size (.cells #[.int .i64 c] 3)
             clear hbel3 hb3)
          | (at_builtin
             (with_reducible refine lit_append (.tmp 27) (.tmp 29) 1 _ Try.intTy hot4 hnew (m := 1) ?_ hone2.out hn1 hn2 w hbel4 hbel4.size ?_ ?_ ?_); rfl; rfl; rfl
             intro v5 w5 hot5 hbel5 hg5
             have ho5 := World.ownsRow.kept ho4 hg5 (own_own_ne ho4 hot4 hne3)
             have hci : (c : Int) = 0 := by rw [hch.out]; rfl
             clear hot4 ho4 hnew hbel4 hg5))
        have hot6 : OwnNs w5 w.heap.size 3 v5 (runS l u (k + 1)).2 := by
          rw [hst.out]
          show World.ownsRow _ _ _ _ _ (rp.2 ++ [c]).length (rowsOf natC (rp.2 ++ [c]))
          rw [rowsOf_append, List.length_append]
          exact hot5
        have hcn : Hid (cntBad (runS l u (k + 1)).2 = cntBad rp.2) := by
          show _ = _
          rw [hst.out]
          show cntBad (rp.2 ++ [c]) = _
          simp [cntBad, hch.out]
        have hx5 := rangeAt_below hx0 hgs hbel5.drew
        have c5 := range_uname hx5
        have q5 := run_ldvI_mid (range_new hxok hx5) hxn
        have hs5 := hset w5.drew _ ho5
        clear hot5 hset hci
        go_region_with (first
          | (go_at_call 26; go_must (refine hs5.out.mono ?_); rintro e w7 ⟨v7, rfl, ho7, hb7⟩))
        all_goals
          go_wp2
          have hot7 : OwnNs w7 w.heap.size 3 v5 (runS l u (k + 1)).2 := own_below (w := w5.drew) hot6 hb7
          have ho7' : OwnRefs w7 w.heap.size v7 (runS l u (k + 1)).1 := by
            rw [hst.out]
            show OwnRefs _ _ _ nx
            rw [hns.out, if_pos hch.out]
            exact own_mono ho7 hbel5.size
          have hb8 := bthen hbel5.drew hbel5.size hb7
          go_roundw
          case rel => exact ⟨k + 1, by go_num, by omega, by rw [hcn.out], ho7', hot7, hb8⟩
          case measure => simp [intOf]; omega
      · have hch := Lib.hid hc0
        have hci : ¬ (c : Int) = 0 := by omega
        clear hc0
        go_wp2_with (first
          | (go_at_call 25; go_must (refine hwr.out.mono ?_); rintro e w3 ⟨rfl, hb3⟩
             have hbel3 := bthen hbel hsz hb3
             have hot4 := World.ownsRow.alloc (own_below hot hb3) (.cells #[.int .i64 c] 3)
             have ho4 := World.ownsRow.alloc (own_below hor hb3) (.cells #[.int .i64 c] 3)
             have hnew := new_of_own (own_below hot hb3) 3 #[.int .i64 c]
             have hbel4 := hbel3.alloc hbel3.size (.cells #[.int .i64 c] 3)
             clear hbel3 hb3)
          | (at_builtin
             (with_reducible refine lit_append (.tmp 27) (.tmp 29) 1 _ Try.intTy hot4 hnew (m := 1) ?_ hone2.out hn1 hn2 w hbel4 hbel4.size ?_ ?_ ?_); rfl; rfl; rfl
             intro v5 w5 hot5 hbel5 hg5
             have ho5 := World.ownsRow.kept ho4 hg5 (own_own_ne ho4 hot4 hne3)
             skip
             clear hot4 ho4 hnew hbel4 hg5))
        have hot6 : OwnNs w5 w.heap.size 3 v5 (runS l u (k + 1)).2 := by
          rw [hst.out]
          show World.ownsRow _ _ _ _ _ (rp.2 ++ [c]).length (rowsOf natC (rp.2 ++ [c]))
          rw [rowsOf_append, List.length_append]
          exact hot5
        have hcn : Hid (cntBad (runS l u (k + 1)).2 = cntBad rp.2 + 1) := by
          show _ = _
          rw [hst.out]
          show cntBad (rp.2 ++ [c]) = _
          simp [cntBad, hch.out]
        have hnx : Hid ((runS l u (k + 1)).1 = rp.1) := by
          show _ = _
          rw [hst.out]
          show nx = _
          rw [hns.out, if_neg hch.out]
        clear hot5 hset
        go_roundw
        case rel => exact ⟨k + 1, by go_num, by omega, by rw [hcn.out]; go_num, by rw [hnx.out]; exact ho5, hot6, hbel5⟩
        case measure => simp [intOf]; omega
    · have hki : ¬ (k : Int) < (u.length : Int) := by omega
      obtain rfl : k = u.length := by omega
      clear hat hu0
      generalize runS l u u.length = rp at *
      cases all
      · have hr1 : Hid (resS l u false = rp.1) := hru.out false
        have ht1 : Hid (toldS l u false = rp.2) := htu.out false
        clear hru htu
        go_wp2
        go_ret2
        rw [← hr1.out] at hor
        rw [← ht1.out] at hot
        exact ⟨_, _, rfl, hor, hot, hbel⟩
      · cases hbd : anyBad rp.2
        · have hr1 : Hid (resS l u true = rp.1) := by show _ = _; rw [hru.out true, hbd]; rfl
          have ht1 : Hid (toldS l u true = rp.2) := by show _ = _; rw [htu.out true, hbd]; rfl
          have hcz : ((cntBad rp.2 : Nat) : Int) = 0 := by rw [cnt_zero _ hbd]; rfl
          clear hru htu hbd
          go_wp2
          go_ret2
          rw [← hr1.out] at hor
          rw [← ht1.out] at hot
          exact ⟨_, _, rfl, hor, hot, hbel⟩
        · have hr1 : Hid (resS l u true = l) := by show _ = _; rw [hru.out true, hbd]; rfl
          have ht1 : Hid (toldS l u true = rp.2.map markN) := by show _ = _; rw [htu.out true, hbd]; rfl
          have hcz : ¬ ((cntBad rp.2 : Nat) : Int) = 0 := by have := cnt_pos _ hbd; omega
          clear hru htu hor
          rcases Row.of_own (natK _) hot with ⟨_, h0⟩ | ⟨g, capT, rfl, hg, hrow⟩
          · rw [h0] at hbd; simp [anyBad] at hbd
          clear hot hbd
          have h63 : rp.2.length ≤ 1000 := by omega
          clear htl hrle hrok hcl
          go_wp2
          go_loopw [13] (fun i wr => ∃ j : Nat, i = .int .i64 j ∧ j ≤ rp.2.length ∧ Row wr g 3 1 natC capT (mixN rp.2 j) ∧ Below w.heap.size w wr) (fun i _ => rp.2.length - (intOf i).toNat)
          case atStart => exact ⟨0, rfl, by omega, by rw [mixN_zero]; exact hrow, hbel⟩
          case round =>
            clear hrow hbel hcz
            obtain ⟨j, rfl, hj, hrow, hbel⟩ := hrel
            by_cases hjl : j < rp.2.length
            · have hji : (j : Int) < (rp.2.length : Int) := by omega
              obtain ⟨x, hx⟩ : ∃ x, rp.2[j]? = some x := ⟨_, List.getElem?_eq_getElem hjl⟩
              have c0 := Row.nat_at hrow (mixN_at hx)
              have hxh := Lib.hid hx
              clear hx
              by_cases hx0 : x = 0
              · subst hx0
                have c0 : wr.cell? ⟨g, j, none⟩ = some (.int .i64 0) := c0
                have hfr := Row.frozen hrow j
                go_wp2
                have hrow2 := Row.setNat hrow (i := j) (by rw [mixN_length]; exact hjl) 12
                rw [mixN_step hxh.out 12 rfl] at hrow2
                have hbel2 := hbel.setCell (p := ⟨g, j, none⟩) hg (.int .i64 12)
                clear c0 hfr hrow hbel
                go_roundw
                case rel => exact ⟨j + 1, by go_num, by omega, hrow2, hbel2⟩
                case measure => simp [intOf]; omega
              · have hxi : ¬ (x : Int) = 0 := by omega
                go_wp2
                rw [mixN_skip hxh.out hx0] at hrow
                go_roundw
                case rel => exact ⟨j + 1, by go_num, by omega, hrow, hbel⟩
                case measure => simp [intOf]; omega
            · have hji : ¬ (j : Int) < (rp.2.length : Int) := by omega
              obtain rfl : j = rp.2.length := by omega
              have hown := hrow.own (natK _) hg
              rw [mixN_all, List.length_map] at hown
              have hlr := hl.below hbel
              clear hrow
              go_wp2_with (first
                | (at_builtin
                   (with_reducible refine lit_append_refs (.tmp 69) (.tmp 70) hok hbm _ hlr ?_ ?_ ?_); rfl; rfl; intro v7 w7 ho7 hb7))
              go_ret2
              have ho8 := own_mono ho7 hbel.size
              have hown8 : OwnNs w7 w.heap.size 3 (.slice (some ⟨g, 0, none⟩) rp.2.length capT) (rp.2.map markN) := by
                unfold OwnNs
                rw [List.length_map]
                exact own_below hown hb7
              rw [← hr1.out] at ho8
              rw [← ht1.out] at hown8
              exact ⟨_, _, rfl, ho8, hown8, bthen hbel hbel.size hb7⟩
end Go.Proofs.Ytlpiefopegjgjaa
