/- The walk of layer 21's law: same, few. No condition. -/
import Derived.Test.YtejaeclcgkcklaaDiskB
namespace Go.Proofs.Ytejaeclcgkcklaa
open Go.RowKit
structure SmC (w0 : World) (base p q : Nat) (vl vm vn : Value) (s : DiskL) (ns : List Txt) (w : World) : Prop where
  d : DiskAt w base p vl s
  r : RDiskAt w base q vm s
  n : Strs w vn ns
  bel : Below w0.heap.size w0 w
section
variable {w0 w w' : World} {base p q : Nat} {vl vm vn : Value} {s : DiskL} {ns : List Txt}
theorem SmC.drew (h : SmC w0 base p q vl vm vn s ns w) : SmC w0 base p q vl vm vn s ns w.drew := ⟨h.d.drew, h.r.drew, h.n, h.bel.drew⟩
theorem SmC.below (h : SmC w0 base p q vl vm vn s ns w) (hb : Below w.heap.size w w') : SmC w0 base p q vl vm vn s ns w' := ⟨h.d.below hb, h.r.below hb, h.n.below hb, bthen h.bel h.bel.size hb⟩
theorem SmC.keep {f : FuncId} {args : Array Value} {v : Value} (hS : SmC w0 base p q vl vm vn s ns w) (h : Calls Try.prog f args w fun e w' => e = .returned v ∧ Below w.heap.size w w') :
    Calls Try.prog f args w fun e w' => e = .returned v ∧ SmC w0 base p q vl vm vn s ns w' := h.mono fun _ _ ⟨he, hb⟩ => ⟨he, hS.below hb⟩
end
set_option maxRecDepth 100000 in
set_option maxHeartbeats 4000000 in
theorem same_calls {w : World} {base p q : Nat} {vl vm : Value} {s : DiskL} (h1 : DiskAt w base p vl s) (h2 : RDiskAt w base q vm s) :
    Calls Try.prog 9 #[.pointer (some ⟨p, 0, none⟩), .pointer (some ⟨q, 0, none⟩)] w fun e w' => e = .returned (.bool true) ∧ Below w.heap.size w w' := by
  have hn := Lib.hid (diskNames_calls h1)
  have hd1 := Lib.hid h1
  have hd2 := Lib.hid h2
  have hok := h1.ok
  clear h1 h2
  go_enter Try.func9, Try.ntmps9
  go_wp2_with (first
    | (go_at_call 15; go_must (refine hn.out.mono ?_); rintro e w1 ⟨vn, rfl, hown, hb1⟩))
  have hS1 : SmC w base p q vl vm vn s (namesR s) w1 := ⟨hd1.out.below hb1, hd2.out.below hb1, hown.strs, hb1⟩
  clear hn hown hb1 hd1 hd2
  refine wp_region_class (C := SmC w base p q vl vm vn s (namesR s)) (by kernel_rfl) (by kernel_rfl) hS1.drew ?_
  repeat
    first
      | ((with_reducible refine wpQuiet_ex ?_ ?_)
         · (go_simp; done)
         apply Exists.intro
         refine ⟨fun W hW => ?_, ?_⟩
         · have f0 := hW.r.c3
           have hgt := diskDown_calls hW.d
           go_simp
           first
             | rfl
             | (go_at_call 17; with_reducible exact hW.keep hgt)
         simp only [Act.put, List.setIfInBounds_toArray, List.set_cons_zero, List.set_cons_succ])
      | ((with_reducible refine wpQuiet_pass ?_ ?_)
         · (first | rfl | (go_simp; done))
         simp only [Act.put, List.setIfInBounds_toArray, List.set_cons_zero, List.set_cons_succ])
  intro W hW
  have c3 := hW.r.c3
  have c0 := hW.r.c0
  clear hS1
  obtain ⟨An, cn, rfl, hn1, hn2, hatn⟩ := hW.n
  obtain ⟨Am, cm, rfl, hm1, hm2, hatm⟩ := hW.r.files
  cases hdn : s.down with
  | true =>
    have hr : namesR s = [] := by simp [namesR, hdn]
    have hl0 : (namesR s).length = 0 := by rw [hr]; rfl
    rw [hl0] at hW ⊢
    rw [hdn] at c3
    have hbel := hW.bel
    clear hatn hatm hW hr hdn hl0 hn1
    go_wp2
    go_ret
    exact ⟨rfl, hbel⟩
  | false =>
    have hr : namesR s = s.l.map FileL.name := by simp [namesR, hdn]
    rw [hr] at hW hatn ⊢
    have hl0 : (s.l.map FileL.name).length = s.l.length := List.length_map _
    rw [hl0] at hW hatn ⊢
    rw [hdn] at c3
    have hatn := Lib.hid hatn
    have hatm := Lib.hid hatm
    have hl63 : s.l.length ≤ 500000 := hok.few
    clear hl0 hn1
    go_wp2
    go_loopw [6] (fun vi wr => ∃ k : Nat, vi = .int .i64 k ∧ k ≤ s.l.length ∧ Below W.heap.size W wr) (fun vi _ => s.l.length - (intOf vi).toNat)
    case atStart => exact ⟨0, rfl, by omega, Below.refl _ _⟩
    case round =>
      obtain ⟨k, rfl, hk, hbel⟩ := hrel
      by_cases hlt : k < s.l.length
      · have hki : (k : Int) < (s.l.length : Int) := by omega
        obtain ⟨y, hy⟩ : ∃ y, s.l[k]? = some y := ⟨_, List.getElem?_eq_getElem hlt⟩
        have hym : (s.l.map FileL.name)[k]? = some y.name := by rw [List.getElem?_map, hy]; rfl
        obtain ⟨gn, on, rfl, hgn, hcn⟩ := hatn.out (by omega)
        obtain ⟨gm, om, rfl, hgm, hcm⟩ := hatm.out (by omega)
        have hx1 := hcn k _ hym
        have hx2 := hcm k _ hy
        rw [Nat.mul_one] at hx1
        have hgr : getR s y.name = (y.data, true) := by
          unfold getR
          rw [hdn, getL_self hok.sorted hy]
          rfl
        have hct := Lib.hid (diskGet_calls (hW.d.below hbel) y.name)
        rw [hgr] at hct
        have n0 : wr.cell? ⟨gn, on + k, none⟩ = some (.string (B y.name)) := rangeAt_below hx1 hgn hbel 0 _ rfl
        have hsz := hbel.size
        clear hy hym hcn hcm hgr
        go_wp2_with (first
          | (go_at_call 16; go_must (refine hct.out.mono ?_); rintro e w2 ⟨rfl, hb2⟩
             have hbel2 := bthen hbel hsz hb2
             have n1 : w2.cell? ⟨gn, on + k, none⟩ = some (.string (B y.name)) := rangeAt_below hx1 hgn hbel2 0 _ rfl
             have n2 : w2.cell? ⟨gm, om + k * 2, none⟩ = some (.string (B y.name)) := rangeAt_below hx2 hgm hbel2 0 _ rfl
             have n3 : w2.cell? ⟨gm, om + k * 2 + 1, none⟩ = some (.string (B y.data)) := rangeAt_below hx2 hgm hbel2 1 _ rfl
             have n4 := (hW.below hbel2).r.c0))
        clear hct n0 hatn hatm hW c0 c3 hb2 hbel
        go_quiet (fail)
        go_wp2
        go_roundw
        case rel => exact ⟨k + 1, by go_num, by omega, bdrewN hbel2 nq⟩
        case measure => simp [intOf]; omega
      · have hki : ¬ (k : Int) < (s.l.length : Int) := by omega
        have hbel3 := bthen hW.bel hW.bel.size hbel
        go_wp2
        go_ret
        exact ⟨rfl, hbel3⟩
end Go.Proofs.Ytejaeclcgkcklaa
