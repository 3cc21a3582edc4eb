/- The walks of layer 10: Put, on both sides; caps.Get. Condition of Get: internal/bytealg.MaxLen holds an int. -/
import Derived.Test.YtakodjmembpdjaaDoorCapD
import Derived.Test.YtakodjmembpdjaaDoorShelf
import Derived.Lib.SplitLaws
namespace Go.Proofs.YtakodjmembpdjaaDoor
open Go.RowKit
theorem join_snoc (x : Txt) : ∀ l : List Txt, joinW (l ++ [x]) = if l = [] then x else joinW l ++ (32 :: x)
  | [] => by show Lib.join [x] [32] = x; exact Lib.join_one _ _
  | [a] => by
    rw [if_neg (by simp), List.singleton_append, joinW_cons a [x] (by simp)]
    show _ ++ 32 :: Lib.join [x] [32] = Lib.join [a] [32] ++ _
    rw [Lib.join_one, Lib.join_one]
  | a :: b :: l => by
    have ih := join_snoc x (b :: l)
    rw [if_neg (by simp)] at ih
    rw [if_neg (by simp), List.cons_append, joinW_cons a (b :: l ++ [x]) (by simp), ih, joinW_cons a (b :: l) (by simp)]
    simp
theorem joinW_len : ∀ l : List Txt, (∀ x ∈ l, x.length ≤ 20) → (joinW l).length ≤ 21 * l.length
  | [], _ => by show (Lib.join [] [32]).length ≤ _; rw [Lib.join_nil]; simp
  | [a], h => by
    show (Lib.join [a] [32]).length ≤ _
    rw [Lib.join_one]
    have := h a (by simp)
    simp; omega
  | a :: b :: l, h => by
    have ih := joinW_len (b :: l) (fun x hx => h x (by simp only [List.mem_cons] at hx ⊢; exact .inr hx))
    rw [joinW_cons a (b :: l) (by simp)]
    have := h a (by simp)
    simp only [List.length_append, List.length_cons] at ih ⊢
    omega
theorem fineW_short {l : List Txt} (h : fineW l = true) : l.length ≤ 20 ∧ ∀ x ∈ l, x.length ≤ 20 := by
  unfold fineW at h
  rw [Bool.and_eq_true, List.all_eq_true] at h
  refine ⟨of_decide_eq_true h.2, fun x hx => ?_⟩
  obtain ⟨i, hi, rfl⟩ := List.getElem_of_mem hx
  have h1 := h.1 i (by simpa using hi)
  unfold fineAtW at h1
  rw [List.getElem?_eq_getElem hi] at h1
  simp only [Bool.and_eq_true] at h1
  have h2 := h1.1
  unfold wordB at h2
  simp only [Bool.and_eq_true, decide_eq_true_eq] at h2
  exact h2.1.2
def putC (l : List Txt) : Value := .tuple #[.string (B (if fineW l then joinW l else [])), .int .i64 (if fineW l then 0 else 1)]
theorem join_calls (l : List Txt) (v : Value) (w : World) (hv : Strs w v l) (hf : fineW l = true) : Calls Tryd.prog 23 #[v, .string ⟨#[32]⟩] w fun e w' => e = .returned (.string (B (joinW l))) ∧ Below w.heap.size w w' := by
  obtain ⟨hl, hx⟩ := fineW_short hf
  have hj := joinW_len l hx
  obtain ⟨A, cap, rfl, hc1, hc2, hat⟩ := hv
  by_cases h0 : l = []
  · subst h0
    refine (Tryd.strings_Join_none A cap (B [32]) w).mono ?_
    rintro e w' ⟨rfl, rfl⟩
    exact ⟨rfl, Below.refl _ _⟩
  · obtain ⟨g, o, rfl, hg, hcell⟩ := hat (List.length_pos_iff.2 h0)
    have hm : (l.map B).map (·.data.toList) = l := by
      rw [List.map_map]
      conv => rhs; rw [← List.map_id l]
      exact List.map_congr_left fun x _ => by simp [B]
    have h32 : (B [32]).data.toList = [32] := rfl
    have := Tryd.strings_Join g o cap (l.map B) (B [32]) w (by
      intro j x hj
      rw [List.getElem?_map] at hj
      obtain ⟨y, hy, rfl⟩ := Option.map_eq_some_iff.1 hj
      have := hcell j y hy 0 _ rfl
      rwa [Nat.mul_one] at this) hg (by simp; omega) (by simpa using hc1) (by rw [hm, h32]; show (joinW l).length ≤ _; omega)
    rw [hm, h32, List.length_map] at this
    exact this
set_option maxRecDepth 100000 in
set_option maxHeartbeats 2000000 in
theorem put_calls (l : List Txt) (v : Value) (w : World) (hv : Strs w v l) : Calls Tryd.prog 12 #[v] w fun e w' => e = .returned (putC l) ∧ Below w.heap.size w w' := by
  have hf := Lib.hid (fine_calls l v w hv)
  obtain ⟨r, hr⟩ : ∃ r, Hid (r = putC l) := ⟨_, Lib.hid rfl⟩
  rw [← hr.out]
  cases h : fineW l with
  | false =>
    have h2 := hr.out
    unfold putC at h2
    rw [h] at h2 hf
    replace h2 := Lib.hid h2
    clear hv
    go_enter Tryd.func12, Tryd.ntmps12
    go_wp2_with (go_at_call 10; (with_reducible refine hf.out.mono ?_); rintro e w1 ⟨rfl, hb1⟩)
    go_ret2
    exact ⟨by rw [h2.out]; rfl, hb1⟩
  | true =>
    have h2 := hr.out
    unfold putC at h2
    rw [h] at h2 hf
    replace h2 := Lib.hid h2
    have hj := fun W hb => Lib.hid (join_calls l v W (hv.below (w' := W) hb) h)
    clear hv
    go_enter Tryd.func12, Tryd.ntmps12
    go_wp2_with (first
      | ((with_reducible refine hf.out.mono ?_); rintro e w1 ⟨rfl, hb1⟩
         have hj1 := hj w1 hb1
         clear hf hj)
      | ((with_reducible refine hj1.out.mono ?_); rintro e w2 ⟨rfl, hb2⟩))
    go_ret2
    exact ⟨by rw [h2.out]; rfl, bthen hb1 hb1.size hb2⟩
set_option maxRecDepth 100000 in
set_option maxHeartbeats 2000000 in
theorem refPut_calls (l : List Txt) (v : Value) (w : World) (hv : Strs w v l) (hf : fineW l = true) : Calls Tryd.prog 13 #[v] w fun e w' => e = .returned (.string (B (joinW l))) ∧ Below w.heap.size w w' := by
  have hlen := hv.len
  obtain ⟨hl20, hx20⟩ := fineW_short hf
  obtain ⟨A, cap, rfl, hc1, hc2, hat⟩ := hv
  have hat := Lib.hid hat
  go_enter Tryd.func13, Tryd.ntmps13
  go_wp2
  go_loopw [3, 4] (fun vs vi wr => ∃ (k : Nat) (s : Txt), vs = .string (B s) ∧ vi = .int .i64 k ∧ k ≤ l.length ∧ Hid (s = joinW (l.take k)) ∧ wr = w) (fun _ vi _ => l.length - (intOf vi).toNat)
  case atStart => exact ⟨0, [], rfl, rfl, by omega, Lib.hid rfl, rfl⟩
  case round =>
    obtain ⟨k, s, rfl, rfl, hk, hs, rfl⟩ := hrel
    by_cases hlt : k < l.length
    · have hki : (k : Int) < (l.length : Int) := by omega
      obtain ⟨x, hx⟩ : ∃ x, l[k]? = some x := ⟨_, List.getElem?_eq_getElem hlt⟩
      obtain ⟨g, o, rfl, hg, hcell⟩ := hat.out (by omega)
      have hx0 := hcell k x hx
      rw [Nat.mul_one] at hx0
      have cn : wr.cell? ⟨g, o + k, none⟩ = some (.string (B x)) := hx0 0 _ rfl
      have hx1 := hx20 x (List.mem_of_getElem? hx)
      have hs1 : s.length ≤ 420 := by
        rw [hs.out]
        have := joinW_len (l.take k) (fun y hy => hx20 y (List.mem_of_mem_take hy))
        simp at this
        omega
      have n1 : ¬ 9223372036854775807 < s.length + x.length := by omega
      have n2 : ¬ 9223372036854775807 < s.length + 1 := by omega
      have n3 : ¬ 9223372036854775807 < s.length + 1 + x.length := by omega
      have hst : Hid (joinW (l.take (k + 1)) = if k = 0 then x else s ++ 32 :: x) := by
        show _ = _
        rw [List.take_add_one, hx, Option.toList_some, join_snoc, hs.out]
        have : l.take k = [] ↔ k = 0 := by
          rw [List.take_eq_nil_iff]
          constructor
          · rintro (h | h)
            · exact h
            · rw [h] at hlt; simp at hlt
          · exact .inl
        simp only [this]
      clear hx hx0 hcell hat hx20 hl20 hs1
      cases k with
      | zero =>
        have hs2 := hs.out
        rw [List.take_zero] at hs2
        have hs3 : s = [] := hs2
        subst hs3
        have cn0 := cn
        rw [Nat.add_zero] at cn0
        clear hs hs2
        simp only [List.length_nil, Nat.zero_add] at n1
        go_wp2
        go_roundw
        case rel => exact ⟨1, x, by first | rfl | (congr 1), by go_num, by omega, Lib.hid (by rw [hst.out]; rfl), trivial⟩
        case measure => simp [intOf]; omega
      | succ k =>
        clear hs
        go_wp2
        go_roundw
        case rel => exact ⟨k + 2, s ++ 32 :: x, by simp [B], by go_num, by omega, Lib.hid (by rw [hst.out]; rfl), trivial⟩
        case measure => simp [intOf]; omega
    · have hki : ¬ (k : Int) < (l.length : Int) := by omega
      have he : Hid (joinW l = s) := by
        show _ = _
        rw [hs.out, List.take_of_length_le (by omega)]
      clear hs hat
      go_wp2
      go_ret
      exact ⟨by rw [he.out]; rfl, Below.refl _ _⟩
end Go.Proofs.YtakodjmembpdjaaDoor
