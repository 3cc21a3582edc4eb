/- The walks of layer 21 (disk), the document's side: Set, Get. No condition. -/
import Derived.Test.YtejaeclcgkcklaaDiskP
import Derived.Test.YtejaeclcgkcklaaStrW
import Derived.Test.YtejaeclcgkcklaaLitB
import Derived.Test.YtejaeclcgkcklaaFileCl
namespace Go.Proofs.Ytejaeclcgkcklaa
open Go.RowKit
abbrev RFiles (w : World) (v : Value) (l : List FileL) : Prop := SliceAt w 2 fileC v l
abbrev OwnRF (w : World) (base : Nat) (v : Value) (l : List FileL) : Prop := w.ownsRow base 51 2 v l.length (rowsOf fileC l)
theorem Try.rfileTy : SliceTy Try.prog 28 51 zFile 2 32 := ⟨Try.underlying28, info_parts (by kernel_rfl), rfl, by omega⟩
theorem szRFile : (Try.prog.info? 51).map (·.size) = some 2 := by kernel_rfl
theorem OwnRF.refs {w : World} {base : Nat} {v : Value} {l : List FileL} (hok : FilesOk l) (h : OwnRF w base v l) : RFiles w v l := SliceAt.of_own (fileK hok) h
theorem OwnRF.more {w : World} {base : Nat} {v : Value} {o : List FileL} {r : FileL} (h : w.ownsRow base 51 2 v (o.length + 1) (rowsOf fileC o ++ (fileC r).toArray.toList)) : OwnRF w base v (o ++ [r]) := by
  unfold OwnRF
  rw [rowsOf_append, rowsOf_one, List.length_append]
  rwa [List.toList_toArray] at h
/-- What is to be laid yet. -/
def restK (x : FileL) (dn : Bool) (l : List FileL) (k : Nat) : List FileL := setK FileL.name x dn (l.drop k)
theorem restK_end {x : FileL} {dn : Bool} {l : List FileL} {k : Nat} (h : l.length ≤ k) : restK x dn l k = if dn then [] else [x] := by
  unfold restK
  rw [List.drop_of_length_le h]
  rfl
theorem restK_at {x : FileL} {dn : Bool} {l : List FileL} {k : Nat} {y : FileL} (h : l[k]? = some y) : restK x dn l k = (if !dn && !Op.bytesLess y.name x.name then [x] else []) ++ (if y.name == x.name then [] else [y]) ++ restK x (dn || !Op.bytesLess y.name x.name) l (k + 1) := by
  unfold restK
  obtain ⟨hlt, rfl⟩ := List.getElem?_eq_some_iff.1 h
  rw [List.drop_eq_getElem_cons hlt]
  rfl
set_option maxRecDepth 100000 in
set_option maxHeartbeats 1000000 in
theorem refSet_calls (l : List FileL) (hok : FilesOk l) (hfew : l.length ≤ 500000) (v : Value) (w : World) (hv : RFiles w v l) (n d : Txt) (hn : n.length ≤ 9223372036854775807) (hd : d.length ≤ 9223372036854775807) (gone : Bool) :
    Calls Try.prog 26 #[v, .string (B n), .string (B d), .bool gone] w fun e w' => ∃ v', e = .returned v' ∧ OwnRF w' w.heap.size v' (setK FileL.name ⟨n, d⟩ gone l) ∧ Below w.heap.size w w' := by
  obtain ⟨A, cap, rfl, hc1, hc2, hat⟩ := hv
  have hat := Lib.hid hat
  have hg0 : Hid (setK FileL.name ⟨n, d⟩ gone l = [] ++ restK ⟨n, d⟩ gone l 0) := Lib.hid rfl
  obtain ⟨goal, hgoal⟩ : ∃ goal, Hid (setK FileL.name ⟨n, d⟩ gone l = goal) := ⟨_, Lib.hid rfl⟩
  rw [hgoal.out]
  rw [hgoal.out] at hg0
  clear hgoal
  have hbd : Try.prog.built 51 [(0, .string (B n)), (1, .string (B d))] = some #[.string (B n), .string (B d)] := by kernel_rfl
  go_enter Try.func26, Try.ntmps26
  go_wp2
  go_loopw [9, 10, 11] (fun vo vd vi wr => ∃ (k : Nat) (dn : Bool) (acc : List FileL), vi = .int .i64 k ∧ vd = .bool dn ∧ k ≤ l.length ∧ acc.length ≤ 2 * k ∧ OwnRF wr w.heap.size vo acc ∧ Hid (goal = acc ++ restK ⟨n, d⟩ dn l k) ∧ Below w.heap.size w wr) (fun _ _ vi _ => l.length - (intOf vi).toNat)
  case atStart => exact ⟨0, gone, [], rfl, rfl, by omega, by simp, World.ownsRow_nil _ _ _ _, hg0, Below.refl _ _⟩
  case round =>
    clear hg0
    obtain ⟨k, dn, acc, rfl, rfl, hk, hacc, hown, hrest, hbel⟩ := hrel
    by_cases hlt : k < l.length
    · have hki : (k : Int) < (l.length : Int) := by omega
      obtain ⟨y, hy⟩ : ∃ y, l[k]? = some y := ⟨_, List.getElem?_eq_getElem hlt⟩
      have hyok := hok y (List.mem_of_getElem? hy)
      obtain ⟨g, o, rfl, hg, hcell⟩ := hat.out (by omega)
      have hx0 := rangeAt_below (hcell k y hy) hg hbel
      have cd : wr.cell? ⟨g, o + k * 2 + 1, none⟩ = some (.string (B y.data)) := hx0 1 _ rfl
      have cn : wr.cell? ⟨g, o + k * 2, none⟩ = some (.string (B y.name)) := hx0 0 _ rfl
      have hsz := hbel.size
      have hr := hrest.out
      rw [restK_at hy] at hr
      have hyo : ∀ u ∈ (#[.string (B y.name), .string (B y.data)] : Array Value).toList, u.oneCell' = true := fileC_one y
      have hxo : ∀ u ∈ (#[.string (B n), .string (B d)] : Array Value).toList, u.oneCell' = true := fileC_one ⟨n, d⟩
      clear hy hcell hrest hx0
      cases hq : (y.name == n) with
      | true =>
        cases dn with
        | true =>
          rw [hq] at hr
          simp at hr
          replace hr := Lib.hid hr
          go_wp2
          go_roundw
          case rel => exact ⟨k + 1, true, _, by go_num, rfl, by omega, by omega, hown, Lib.hid (by first | (rw [hr.out]; done) | (rw [hr.out]; simp)), hbel⟩
          case measure => simp [intOf]; omega
        | false =>
          cases hls : Op.bytesLess y.name n with
          | true => exact absurd hq (by rw [less_ne hls]; simp)
          | false =>
            have hq1 : y.name = n := by simpa using hq
            have h1 : Op.bytesLess n y.name = false := by rw [hq1]; exact less_irrefl n
            have h2 : (n == y.name) = true := by rw [hq1]; simp
            clear hq1
            rw [hls] at hr
            rw [hq] at hr
            simp at hr
            replace hr := Lib.hid hr
            go_wp2_with (first
                      | ((with_reducible refine lit_build2 hbd ?_ ?_ ?_); rfl; rfl)
                      | (at_builtin
                         (with_reducible refine lit_append_new (.tmp 30) (.tmp 34) 1 _ Try.rfileTy hown #[.string (B n), .string (B d)] rfl hxo (by omega) (by omega) hsz ?_ ?_ ?_); rfl; rfl
                         intro v1 wv1 hv1 hbv1 hgv1 hnv1
                         have hmv1 : OwnRF wv1 w.heap.size v1 (acc ++ [(⟨n, d⟩ : FileL)]) := OwnRF.more hv1
                         have cn1 := (hbv1.cell (p := ⟨g, o + k * 2, none⟩) hg).trans cn
                         have cd1 := (hbv1.cell (p := ⟨g, o + k * 2 + 1, none⟩) hg).trans cd
                         have hsv1 := Nat.le_trans hsz hbv1.size
                         have hlv1 : (acc ++ [(⟨n, d⟩ : FileL)]).length = acc.length + 1 := List.length_append
                         clear hgv1 hnv1 hv1))
            go_roundw
            case rel => exact ⟨k + 1, true, _, by go_num, rfl, by omega, by omega, hmv1, Lib.hid (by first | (rw [hr.out]; done) | (rw [hr.out]; simp)), (hbel.trans hbv1)⟩
            case measure => simp [intOf]; omega
      | false =>
        cases dn with
        | true =>
          rw [hq] at hr
          simp at hr
          replace hr := Lib.hid hr
          go_wp2_with (first
                    | (at_builtin
                       (with_reducible refine lit_append_new (.tmp 43) (.tmp 48) 1 _ Try.rfileTy hown #[.string (B y.name), .string (B y.data)] rfl hyo (by omega) (by omega) hsz ?_ ?_ ?_); rfl; rfl
                       intro v2 wv2 hv2 hbv2 hgv2 hnv2
                       have hmv2 : OwnRF wv2 w.heap.size v2 (acc ++ [y]) := OwnRF.more hv2
                       have hsv2 := Nat.le_trans hsz hbv2.size
                       have hlv2 : (acc ++ [y]).length = acc.length + 1 := List.length_append
                       clear hgv2 hnv2 hv2))
          go_roundw
          case rel => exact ⟨k + 1, true, _, by go_num, rfl, by omega, by omega, hmv2, Lib.hid (by first | (rw [hr.out]; done) | (rw [hr.out]; simp)), (hbel.trans hbv2)⟩
          case measure => simp [intOf]; omega
        | false =>
          cases hls : Op.bytesLess y.name n with
          | true =>
            have h1 : Op.bytesLess n y.name = false := less_asymm hls
            have h2 : (n == y.name) = false := by rw [beq_eq_false_iff_ne] at hq ⊢; exact fun e => hq e.symm
            rw [hls] at hr
            rw [hq] at hr
            simp at hr
            replace hr := Lib.hid hr
            go_wp2_with (first
                      | (at_builtin
                         (with_reducible refine lit_append_new (.tmp 43) (.tmp 48) 1 _ Try.rfileTy hown #[.string (B y.name), .string (B y.data)] rfl hyo (by omega) (by omega) hsz ?_ ?_ ?_); rfl; rfl
                         intro v2 wv2 hv2 hbv2 hgv2 hnv2
                         have hmv2 : OwnRF wv2 w.heap.size v2 (acc ++ [y]) := OwnRF.more hv2
                         have hsv2 := Nat.le_trans hsz hbv2.size
                         have hlv2 : (acc ++ [y]).length = acc.length + 1 := List.length_append
                         clear hgv2 hnv2 hv2))
            go_roundw
            case rel => exact ⟨k + 1, false, _, by go_num, rfl, by omega, by omega, hmv2, Lib.hid (by first | (rw [hr.out]; done) | (rw [hr.out]; simp)), (hbel.trans hbv2)⟩
            case measure => simp [intOf]; omega
          | false =>
            have h1 : Op.bytesLess n y.name = true := less_total hls (by simpa using hq)
            have h2 : (n == y.name) = false := by rw [beq_eq_false_iff_ne] at hq ⊢; exact fun e => hq e.symm
            rw [hls] at hr
            rw [hq] at hr
            simp at hr
            replace hr := Lib.hid hr
            go_wp2_with (first
                      | ((with_reducible refine lit_build2 hbd ?_ ?_ ?_); rfl; rfl)
                      | (at_builtin
                         (with_reducible refine lit_append_new (.tmp 30) (.tmp 34) 1 _ Try.rfileTy hown #[.string (B n), .string (B d)] rfl hxo (by omega) (by omega) hsz ?_ ?_ ?_); rfl; rfl
                         intro v1 wv1 hv1 hbv1 hgv1 hnv1
                         have hmv1 : OwnRF wv1 w.heap.size v1 (acc ++ [(⟨n, d⟩ : FileL)]) := OwnRF.more hv1
                         have cn1 := (hbv1.cell (p := ⟨g, o + k * 2, none⟩) hg).trans cn
                         have cd1 := (hbv1.cell (p := ⟨g, o + k * 2 + 1, none⟩) hg).trans cd
                         have hsv1 := Nat.le_trans hsz hbv1.size
                         have hlv1 : (acc ++ [(⟨n, d⟩ : FileL)]).length = acc.length + 1 := List.length_append
                         clear hgv1 hnv1 hv1)
                      | (at_builtin
                         (with_reducible refine lit_append_new (.tmp 43) (.tmp 48) 1 _ Try.rfileTy hmv1 #[.string (B y.name), .string (B y.data)] rfl hyo (by omega) (by omega) hsv1 ?_ ?_ ?_); rfl; rfl
                         intro v2 wv2 hv2 hbv2 hgv2 hnv2
                         have hmv2 : OwnRF wv2 w.heap.size v2 ((acc ++ [(⟨n, d⟩ : FileL)]) ++ [y]) := OwnRF.more hv2
                         have hsv2 := Nat.le_trans hsv1 hbv2.size
                         have hlv2 : ((acc ++ [(⟨n, d⟩ : FileL)]) ++ [y]).length = (acc ++ [(⟨n, d⟩ : FileL)]).length + 1 := List.length_append
                         clear hgv2 hnv2 hv2))
            go_roundw
            case rel => exact ⟨k + 1, true, _, by go_num, rfl, by omega, by omega, hmv2, Lib.hid (by first | (rw [hr.out]; done) | (rw [hr.out]; simp)), ((hbel.trans hbv1).trans hbv2)⟩
            case measure => simp [intOf]; omega
    · obtain rfl : k = l.length := by omega
      have hr := hrest.out
      rw [restK_end (Nat.le_refl _)] at hr
      have hsz := hbel.size
      have hxo : ∀ u ∈ (#[.string (B n), .string (B d)] : Array Value).toList, u.oneCell' = true := fileC_one ⟨n, d⟩
      cases dn with
      | true =>
        replace hr := Lib.hid hr
        clear hrest
        go_wp2
        go_ret
        exact ⟨_, rfl, by rw [hr.out]; simpa using hown, hbel⟩
      | false =>
        replace hr := Lib.hid hr
        clear hrest
        go_wp2_with (first
          | ((with_reducible refine lit_build2 hbd ?_ ?_ ?_); rfl; rfl)
          | (at_builtin
             (with_reducible refine lit_append_new (.tmp 52) (.tmp 56) 1 _ Try.rfileTy hown #[.string (B n), .string (B d)] rfl hxo (by omega) (by omega) hsz ?_ ?_ ?_); rfl; rfl
             intro v1 wv1 hv1 hbv1 hgv1 hnv1
             have hmv1 : OwnRF wv1 w.heap.size v1 (acc ++ [(⟨n, d⟩ : FileL)]) := OwnRF.more hv1
             clear hgv1 hnv1 hv1))
        go_ret
        exact ⟨_, rfl, by rw [hr.out]; exact hmv1, hbel.trans hbv1⟩
theorem getL_step {l : List FileL} {n : Txt} {k : Nat} {y : FileL} (h : l[k]? = some y) : getL (l.drop k) n = if y.name == n then some y else getL (l.drop (k + 1)) n := by
  obtain ⟨hlt, rfl⟩ := List.getElem?_eq_some_iff.1 h
  unfold getL
  rw [List.drop_eq_getElem_cons hlt, List.find?_cons]
  cases l[k].name == n <;> rfl
def getT (r : Option FileL) : Txt × Bool := match r with | some x => (x.data, true) | none => ([], false)
set_option maxRecDepth 100000 in
set_option maxHeartbeats 1000000 in
theorem refGet_calls (l : List FileL) (hok : FilesOk l) (v : Value) (w : World) (hv : RFiles w v l) (n : Txt) :
    Calls Try.prog 20 #[v, .string (B n)] w fun e w' => e = .returned (.tuple #[.string (B (getT (getL l n)).1), .bool (getT (getL l n)).2]) ∧ Below w.heap.size w w' := by
  obtain ⟨A, cap, rfl, hc1, hc2, hat⟩ := hv
  have hat := Lib.hid hat
  have hlen : l.length ≤ 9223372036854775807 := by omega
  obtain ⟨goal, hgoal⟩ : ∃ goal, Hid (goal = getL l n) := ⟨_, Lib.hid rfl⟩
  rw [← hgoal.out]
  have hg0 : Hid (goal = getL (l.drop 0) n) := hgoal
  clear hgoal
  go_enter Try.func20, Try.ntmps20
  go_wp2
  go_loopw [6] (fun vi wr => ∃ (k : Nat), vi = .int .i64 k ∧ k ≤ l.length ∧ Hid (goal = getL (l.drop k) n) ∧ Below w.heap.size w wr) (fun vi _ => l.length - (intOf vi).toNat)
  case atStart => exact ⟨0, rfl, by omega, hg0, Below.refl _ _⟩
  case round =>
    clear hg0
    obtain ⟨k, rfl, hk, hrest, hbel⟩ := hrel
    by_cases hlt : k < l.length
    · have hki : (k : Int) < (l.length : Int) := by omega
      obtain ⟨y, hy⟩ : ∃ y, l[k]? = some y := ⟨_, List.getElem?_eq_getElem hlt⟩
      obtain ⟨g, o, rfl, hg, hcell⟩ := hat.out (by omega)
      have hx0 := rangeAt_below (hcell k y hy) hg hbel
      have cd : wr.cell? ⟨g, o + k * 2 + 1, none⟩ = some (.string (B y.data)) := hx0 1 _ rfl
      have cn : wr.cell? ⟨g, o + k * 2, none⟩ = some (.string (B y.name)) := hx0 0 _ rfl
      have hr := hrest.out
      rw [getL_step hy] at hr
      clear hy hcell hrest hx0
      cases hq : (y.name == n) with
      | true =>
        rw [hq] at hr
        replace hr := Lib.hid hr
        go_wp2
        go_ret2
        exact ⟨by rw [hr.out]; rfl, hbel⟩
      | false =>
        rw [hq] at hr
        replace hr := Lib.hid hr
        go_wp2
        go_roundw
        case rel => exact ⟨k + 1, by go_num, by omega, hr, hbel⟩
        case measure => simp [intOf]; omega
    · obtain rfl : k = l.length := by omega
      have hr := hrest.out
      rw [List.drop_length] at hr
      replace hr := Lib.hid hr
      clear hrest
      go_wp2
      go_ret2
      exact ⟨by rw [hr.out]; rfl, hbel⟩
end Go.Proofs.Ytejaeclcgkcklaa
