/- The walks of layer 4: Name on both sides, kind, one, bytes. No condition. -/
import Derived.Test.YtlanconcbpdneaaObjW
import Derived.Test.YtlanconcbpdneaaShelf
namespace Go.Proofs.Ytlanconcbpdneaa
open Go.RowKit
theorem idx_mem (c : UInt8) : ∀ s : Txt, (c ∉ s ∧ Lib.indexByte s c = -1) ∨ (c ∈ s ∧ 0 ≤ Lib.indexByte s c)
  | [] => .inl ⟨by simp, rfl⟩
  | x :: r => by
    by_cases hx : x = c
    · exact .inr ⟨by simp [hx], by simp [Lib.indexByte, hx]⟩
    · have hb : (x == c) = false := by simpa using hx
      rcases idx_mem c r with ⟨h1, h2⟩ | ⟨h1, h2⟩
      · exact .inl ⟨by simp [h1]; exact fun e => hx e.symm, by simp [Lib.indexByte, hb, h2]⟩
      · refine .inr ⟨by simp [h1], ?_⟩
        have hne : (Lib.indexByte r c == -1) = false := by rw [beq_eq_false_iff_ne]; omega
        simp only [Lib.indexByte, hb, hne]
        simp
        omega
theorem name_all {s : Txt} (h0 : (0 : UInt8) ∉ s) (h47 : (47 : UInt8) ∉ s) : s.all (fun c => !(c == 0) && !(c == 47)) = true := by
  rw [List.all_eq_true]
  intro c hc
  have h1 : c ≠ 0 := fun e => h0 (e ▸ hc)
  have h2 : c ≠ 47 := fun e => h47 (e ▸ hc)
  simp [h1, h2]
theorem name_no {s : Txt} (h : (0 : UInt8) ∈ s ∨ (47 : UInt8) ∈ s) : nameB s = false := by
  unfold nameB
  rw [Bool.and_eq_false_iff]
  refine .inr (List.all_eq_false.2 ?_)
  rcases h with h | h
  · exact ⟨0, h, by simp⟩
  · exact ⟨47, h, by simp⟩
theorem indexByte_calls (s : Txt) (c : Int) (k : UInt8) (hk : c.toNat.toUInt8 = k) (w : World) : Calls Try.prog 28 #[.string (B s), .int .u8 c] w fun e w' => e = .returned (.int .i64 (Lib.indexByte s k)) ∧ w' = w := by
  have := Try.strings_IndexByte (B s) c w
  rw [hk, show (B s).data.toList = s by simp [B]] at this
  exact this
set_option maxRecDepth 100000 in
set_option maxHeartbeats 1000000 in
theorem name_calls (s : Txt) (w : World) : Calls Try.prog 14 #[.string (B s)] w fun e w' => e = .returned (.bool (nameB s)) ∧ w' = w := by
  obtain ⟨r, hr⟩ : ∃ r, Hid (r = nameB s) := ⟨_, Lib.hid rfl⟩
  rw [← hr.out]
  have x0 := Lib.hid (indexByte_calls s 0 0 rfl w)
  have x47 := Lib.hid (indexByte_calls s 47 47 rfl w)
  by_cases hz : s = []
  · subst hz
    have hf : Hid (r = false) := hr
    clear x0 x47
    go_enter Try.func14, Try.ntmps14
    go_wp2
    go_ret
    exact ⟨by rw [hf.out]; rfl, rfl⟩
  · have hb0 : List.isEmpty s = false := by
      cases s with
      | nil => exact absurd rfl hz
      | cons _ _ => rfl
    have h1 : 1 ≤ s.length := List.length_pos_iff.2 hz
    by_cases h40 : s.length ≤ 40
    · have i40 : (s.length : Int) ≤ 40 := by omega
      rcases idx_mem 0 s with ⟨m0, e0⟩ | ⟨m0, e0⟩
      · rw [e0] at x0
        rcases idx_mem 47 s with ⟨m7, e7⟩ | ⟨m7, e7⟩
        · rw [e7] at x47
          have hf : Hid (r = true) := by show r = true; rw [hr.out]; unfold nameB; rw [name_all m0 m7]; simp [h1, h40]
          clear e0 e7 m0 m7 hr h1 h40
          go_enter Try.func14, Try.ntmps14
          go_wp2_with (first
            | ((with_reducible refine x0.out.mono ?_); rintro e w1 ⟨rfl, rfl⟩)
            | ((with_reducible refine x47.out.mono ?_); rintro e w1 ⟨rfl, rfl⟩))
          go_ret
          exact ⟨by rw [hf.out]; rfl, rfl⟩
        · have hf : Hid (r = false) := by show r = false; rw [hr.out]; exact name_no (.inr m7)
          have e7' : ¬ Lib.indexByte s 47 < 0 := by omega
          generalize Lib.indexByte s 47 = q at *
          clear e0 e7 m0 m7 hr h1 h40
          go_enter Try.func14, Try.ntmps14
          go_wp2_with (first
            | ((with_reducible refine x0.out.mono ?_); rintro e w1 ⟨rfl, rfl⟩)
            | ((with_reducible refine x47.out.mono ?_); rintro e w1 ⟨rfl, rfl⟩))
          go_ret
          exact ⟨by rw [hf.out]; simp [e7'], rfl⟩
      · have hf : Hid (r = false) := by show r = false; rw [hr.out]; exact name_no (.inl m0)
        have e0' : ¬ Lib.indexByte s 0 < 0 := by omega
        generalize Lib.indexByte s 0 = q at *
        clear e0 m0 hr h1 h40 x47
        go_enter Try.func14, Try.ntmps14
        go_wp2_with (first
          | ((with_reducible refine x0.out.mono ?_); rintro e w1 ⟨rfl, rfl⟩))
        go_ret
        exact ⟨by rw [hf.out]; rfl, rfl⟩
    · have i40 : ¬ (s.length : Int) ≤ 40 := by omega
      have hf : Hid (r = false) := by show r = false; rw [hr.out]; unfold nameB; simp [h40]
      clear x0 x47 hr h1 h40
      go_enter Try.func14, Try.ntmps14
      go_wp2
      go_ret
      exact ⟨by rw [hf.out]; rfl, rfl⟩
theorem all_take {s : Txt} {p : UInt8 → Bool} {k : Nat} {c : UInt8} (h : (s.take k).all p = true) (hc : s[k]? = some c) (hp : p c = true) : (s.take (k + 1)).all p = true := by
  rw [List.take_add_one, List.all_append, h, hc]
  simp [hp]
set_option maxRecDepth 100000 in
set_option maxHeartbeats 1000000 in
theorem refName_calls (s : Txt) (hs : s.length ≤ 9223372036854775807) (w : World) : Calls Try.prog 15 #[.string (B s)] w fun e w' => e = .returned (.bool (nameB s)) ∧ w' = w := by
  obtain ⟨b, hb⟩ : ∃ b, Hid (b = nameB s) := ⟨_, Lib.hid rfl⟩
  rw [← hb.out]
  go_enter Try.func15, Try.ntmps15
  go_wp2
  go_loop [3] (fun vi => ∃ k : Nat, vi = .int .i64 k ∧ k ≤ s.length ∧ Hid ((s.take k).all (fun c => !(c == 0) && !(c == 47)) = true)) (fun vi => s.length - (intOf vi).toNat)
  case atStart => exact ⟨0, rfl, by omega, Lib.hid rfl⟩
  case round =>
    obtain ⟨k, rfl, hk, hall⟩ := hrel
    by_cases hlt : k < s.length
    · have hki : (k : Int) < (s.length : Int) := by omega
      obtain ⟨c, hc⟩ : ∃ c, s[k] = c := ⟨_, rfl⟩
      have hck : s[k]? = some c := by rw [List.getElem?_eq_getElem hlt, hc]
      have hm := List.mem_of_getElem? hck
      obtain ⟨n, hn⟩ : ∃ n, c.toNat = n := ⟨_, rfl⟩
      by_cases g1 : n = 0
      · have e1 : c = 0 := UInt8.toNat_inj.1 (by rw [hn, g1]; rfl)
        have hf : Hid (b = false) := by show b = false; rw [hb.out]; exact name_no (.inl (e1 ▸ hm))
        subst g1
        clear hb hall hck hm e1
        go_wp2
        go_ret
        exact ⟨by rw [hf.out]; rfl, rfl⟩
      · have i1 : ((n : Int) == 0) = false := by rw [beq_eq_false_iff_ne]; omega
        have e1 : c ≠ 0 := fun e => g1 (by rw [← hn, e]; rfl)
        by_cases g2 : n = 47
        · have e2 : c = 47 := UInt8.toNat_inj.1 (by rw [hn, g2]; rfl)
          have hf : Hid (b = false) := by show b = false; rw [hb.out]; exact name_no (.inr (e2 ▸ hm))
          subst g2
          clear hb hall hck hm e2 e1
          go_wp2
          go_ret
          exact ⟨by rw [hf.out]; rfl, rfl⟩
        · have i2 : ((n : Int) == 47) = false := by rw [beq_eq_false_iff_ne]; omega
          have e2 : c ≠ 47 := fun e => g2 (by rw [← hn, e]; rfl)
          have hst := Lib.hid (all_take hall.out hck (by simp [e1, e2]))
          clear hall hck hm e1 e2 g1 g2
          go_wp2
          go_round
          case rel => exact ⟨k + 1, by go_num, by omega, hst⟩
          case measure => simp [intOf]; omega
    · have hki : ¬ (k : Int) < (s.length : Int) := by omega
      have hf : Hid (b = (decide (1 ≤ s.length) && decide (s.length ≤ 40))) := by
        show b = _
        have := hall.out
        rw [List.take_of_length_le (by omega)] at this
        rw [hb.out]
        unfold nameB
        rw [this, Bool.and_true]
      clear hb hall
      by_cases h1 : 1 ≤ s.length
      · have i1 : (1 : Int) ≤ (s.length : Int) := by omega
        by_cases h40 : s.length ≤ 40
        · have i40 : (s.length : Int) ≤ 40 := by omega
          go_wp2
          go_ret
          exact ⟨by rw [hf.out]; simp [h1, h40], rfl⟩
        · have i40 : ¬ (s.length : Int) ≤ 40 := by omega
          go_wp2
          go_ret
          exact ⟨by rw [hf.out]; simp [h1, h40], rfl⟩
      · have i1 : ¬ (1 : Int) ≤ (s.length : Int) := by omega
        go_wp2
        go_ret
        exact ⟨by rw [hf.out]; simp [h1], rfl⟩
end Go.Proofs.Ytlanconcbpdneaa
