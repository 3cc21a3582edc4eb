/- The walks of the order of ids: Less, on the program's side and on the document's. No condition. -/
import Derived.Test.YtmgijjfjldkgaaaDoorUnhex
namespace Go.Proofs.YtmgijjfjldkgaaaDoor
open Go.RowKit

theorem bytesLess_at {a b : List UInt8} (k : Nat) (ha : k < a.length) (hb : k < b.length) (he : a.take k = b.take k) (hne : a.getD k 0 ≠ b.getD k 0) :
    Op.bytesLess a b = decide (((a.getD k 0).toNat : Int) < ((b.getD k 0).toNat : Int)) := by
  induction k generalizing a b with
  | zero =>
    cases a with
    | nil => simp at ha
    | cons x a =>
      cases b with
      | nil => simp at hb
      | cons y b =>
        have hxy : x ≠ y := hne
        rw [Op.bytesLess, Bool.eq_iff_iff]
        simp only [Bool.or_eq_true, Bool.and_eq_true, decide_eq_true_eq, beq_iff_eq, hxy, false_and, or_false, List.getD_cons_zero, UInt8.lt_iff_toNat_lt]
        omega
  | succ k ih =>
    cases a with
    | nil => simp at ha
    | cons x a =>
      cases b with
      | nil => simp at hb
      | cons y b =>
        simp only [List.take_succ_cons, List.cons.injEq] at he
        obtain ⟨rfl, he⟩ := he
        have := ih (a := a) (b := b) (by simpa using ha) (by simpa using hb) he hne
        rw [Op.bytesLess]
        simp only [List.getD_cons_succ, beq_self_eq_true, Bool.true_and, UInt8.lt_irrefl, decide_false, Bool.false_or]
        exact this
theorem bytesLess_self (a : List UInt8) : Op.bytesLess a a = false := by
  induction a with
  | nil => rfl
  | cons x a ih => rw [Op.bytesLess, ih]; simp
theorem str_of_blk (w : World) {t : TypeId} {g : Nat} {l : List UInt8} (h : Blk w g t (u8s l)) :
    (convert 40 9 (.slice (some ⟨g, 0, none⟩) l.length l.length)).run Tryd.prog w = .ok (.string (B l)) w := by
  rw [run_convert_bytes_arg w 40 5 Tryd.underlying40 Tryd.underlying5 g 0 l.length l.length (l.map fun c => (c.toNat : Int)) (by simp) (fun i hi => by
    rw [Nat.zero_add, h.cell, u8s_get l i hi]
    simp [List.getD, List.getElem?_map, List.getElem?_eq_getElem hi]) 9 Tryd.underlying9]
  have hl : (l.map fun c => (c.toNat : Int)).map (fun n => UInt8.ofNat n.toNat) = l := by
    rw [List.map_map]
    exact (List.map_congr_left (g := id) (fun c _ => by simp)).trans (List.map_id l)
  rw [strOfNums, hl]
  rfl
theorem str_of_id (w : World) {t : TypeId} {g : Nat} {l : List UInt8} (hl : l.length = 32) (h : Blk w g t (u8s l)) (n : Nat) :
    (convert 40 9 (.slice (some ⟨g, 0, none⟩) 32 32)).run Tryd.prog (w.drewN n) = .ok (.string (B l)) (w.drewN n) := by
  have := str_of_blk (w.drewN n) (h.drewN n)
  rwa [hl] at this
set_option maxRecDepth 100000 in
set_option maxHeartbeats 1000000 in
theorem less_calls (a b : List UInt8) (ha : a.length = 32) (hb : b.length = 32) (w : World) :
    Calls Tryd.prog 13 #[.agg (u8s a), .agg (u8s b)] w fun e w' => e = .returned (.bool (Op.bytesLess a b)) ∧ Below w.heap.size w w' := by
  have h0 : Blk ((w.alloc (.cells (u8s a) 24)).alloc (.cells (u8s b) 24)) w.heap.size 24 (u8s a) := (Blk.new w _ _).alloc _
  have h1 : Blk ((w.alloc (.cells (u8s a) 24)).alloc (.cells (u8s b) 24)) (w.heap.size + 1) 24 (u8s b) := blk_at2 _ _ _ _
  have bb : Below w.heap.size w ((w.alloc (.cells (u8s a) 24)).alloc (.cells (u8s b) 24)) := ((Below.refl _ _).alloc (Nat.le_refl _) _).alloc (by simp) _
  have s0 := fun n => str_of_id _ ha h0 n
  have s1 := fun n => str_of_id _ hb h1 n
  go_enter Tryd.func13, Tryd.ntmps13
  go_wp2
  go_quiet (fail)
  go_wp2
  go_ret
  exact ⟨rfl, bdrewN bb nq⟩
set_option maxRecDepth 100000 in
set_option maxHeartbeats 1000000 in
theorem refLess_calls (a b : List UInt8) (ha : a.length = 32) (hb : b.length = 32) (w : World) :
    Calls Tryd.prog 14 #[.agg (u8s a), .agg (u8s b)] w fun e w' => e = .returned (.bool (Op.bytesLess a b)) ∧ Below w.heap.size w w' := by
  have h0 : Blk ((w.alloc (.cells (u8s a) 24)).alloc (.cells (u8s b) 24)) w.heap.size 24 (u8s a) := (Blk.new w _ _).alloc _
  have h1 : Blk ((w.alloc (.cells (u8s a) 24)).alloc (.cells (u8s b) 24)) (w.heap.size + 1) 24 (u8s b) := blk_at2 _ _ _ _
  have bb : Below w.heap.size w ((w.alloc (.cells (u8s a) 24)).alloc (.cells (u8s b) 24)) := ((Below.refl _ _).alloc (Nat.le_refl _) _).alloc (by simp) _
  obtain ⟨r, hr⟩ : ∃ r, Hid (Op.bytesLess a b = r) := ⟨_, rfl⟩
  rw [hr.out]
  go_enter Tryd.func14, Tryd.ntmps14
  go_wp2
  go_loopw [5] (fun i wr => ∃ k : Nat, i = .int .i64 k ∧ k ≤ 32 ∧ Hid (a.take k = b.take k) ∧ Blk wr w.heap.size 24 (u8s a) ∧ Blk wr (w.heap.size + 1) 24 (u8s b) ∧ Below w.heap.size w wr) (fun i _ => 32 - (intOf i).toNat)
  case atStart => exact ⟨0, rfl, by omega, rfl, h0, h1, bb⟩
  case round =>
    clear h0 h1 bb
    obtain ⟨k, rfl, hk, hek, h0, h1, hbel⟩ := hrel
    have hbs := h1.lt
    by_cases hlt : k < 32
    · have hki : (k : Int) < 32 := by omega
      have hat := fun hne => Lib.hid (bytesLess_at k (by omega) (by omega) hek.out (a := a) (b := b) hne)
      have hc0 : wr.cell? ⟨w.heap.size, k, none⟩ = some (.int .u8 ((a.getD k 0).toNat : Nat)) := by rw [h0.cell, u8s_get a k (by omega)]
      have hc1 : wr.cell? ⟨w.heap.size + 1, k, none⟩ = some (.int .u8 ((b.getD k 0).toNat : Nat)) := by rw [h1.cell, u8s_get b k (by omega)]
      have hnx : Hid (a.getD k 0 = b.getD k 0 → a.take (k + 1) = b.take (k + 1)) := by
        intro he
        rw [List.take_add_one, List.take_add_one, hek.out]
        congr 1
        simp only [List.getD, List.getElem?_eq_getElem (show k < a.length by omega), List.getElem?_eq_getElem (show k < b.length by omega), Option.getD_some] at he
        rw [List.getElem?_eq_getElem (show k < a.length by omega), List.getElem?_eq_getElem (show k < b.length by omega), he]
      generalize a.getD k 0 = x at *
      generalize b.getD k 0 = y at *
      by_cases hxy : x = y
      · have hn := Lib.hid (hnx.out hxy)
        have hx1 : ((x.toNat : Int) != (y.toNat : Int)) = false := by rw [hxy]; simp
        clear hat hnx hxy
        go_wp2
        go_quiet (fail)
        go_wp2
        go_roundw
        case rel => exact ⟨k + 1, by go_num, by omega, hn, h0.drewN nq, h1.drewN nq, bdrewN hbel nq⟩
        case measure => simp [intOf]; omega
      · have hx1 : ((x.toNat : Int) != (y.toNat : Int)) = true := by
          simp only [bne_iff_ne, ne_eq]
          exact fun h => hxy (UInt8.toNat_inj.1 (by omega))
        have hres := hat hxy
        have hrr : Hid (r = decide (x.toNat < y.toNat)) := by show _ = _; rw [← hr.out, hres.out]; exact decide_eq_decide.2 Int.ofNat_lt
        clear hat hnx hxy hres
        go_wp2
        go_quiet (fail)
        have hc0' : (wr.drewN nq).cell? ⟨w.heap.size, k, none⟩ = some (.int .u8 (x.toNat : Nat)) := hc0
        have hc1' : (wr.drewN nq).cell? ⟨w.heap.size + 1, k, none⟩ = some (.int .u8 (y.toNat : Nat)) := hc1
        have hbel' := bdrewN hbel nq
        clear hc0 hc1 h0 h1 hbel
        generalize wr.drewN nq = wo at *
        go_wp2
        go_quiet (fail)
        go_wp2
        go_ret
        exact ⟨by rw [hrr.out]; rfl, bdrewN hbel' nq⟩
    · have hk32 : k = 32 := by omega
      have hki : ¬ (k : Int) < 32 := by omega
      have hrr : Hid (r = false) := by
        have := hek.out
        rw [hk32, List.take_of_length_le (by omega), List.take_of_length_le (by omega)] at this
        show _ = _
        rw [← hr.out, this, bytesLess_self]
      clear hk32
      go_wp2
      go_ret
      exact ⟨by rw [hrr.out]; rfl, hbel⟩
end Go.Proofs.YtmgijjfjldkgaaaDoor
