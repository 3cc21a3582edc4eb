/- The walk of layer 10: knapsackref10.Get. No condition. -/
import Derived.Test.YtakodjmembpdjaaDoorCapG
namespace Go.Proofs.YtakodjmembpdjaaDoor
open Go.RowKit
theorem row_last {w : World} {base : Nat} {v : Value} {init : List Txt} {last : Txt} (h : OwnStrs w base v (init ++ [last])) : ∃ g cap, v = .slice (some ⟨g, 0, none⟩) (init.length + 1) cap ∧ base ≤ g ∧ Row w g 9 1 strC cap (init ++ [last]) := by
  rcases Row.of_own (strK _) h with ⟨_, h⟩ | ⟨g, cap, he, hg, hrow⟩
  · exact absurd h (by simp)
  · refine ⟨g, cap, ?_, hg, hrow⟩
    rw [he, List.length_append]; rfl
theorem row_own {w : World} {base g cap : Nat} {l : List Txt} (h : Row w g 9 1 strC cap l) (hg : base ≤ g) : OwnStrs w base (.slice (some ⟨g, 0, none⟩) l.length cap) l := Row.own (strK _) h hg
set_option maxRecDepth 100000 in
set_option maxHeartbeats 2000000 in
theorem refGet_calls (s : Txt) (w : World) (hs : s.length ≤ 4294967280) : Calls Tryd.prog 15 #[.string (B s)] w fun e w' => ∃ v', e = .returned (.tuple #[v', .bool (getW s).isSome]) ∧ OwnStrs w' w.heap.size v' ((getW s).getD []) ∧ Below w.heap.size w w' := by
  obtain ⟨c, hc⟩ : ∃ c, Hid (c = (getW s).isSome) := ⟨_, Lib.hid rfl⟩
  rw [← hc.out]
  obtain ⟨r, hr⟩ : ∃ r, Hid (r = (getW s).getD []) := ⟨_, Lib.hid rfl⟩
  rw [← hr.out]
  by_cases h0 : s = []
  · subst h0
    have hc0 : Hid (c = true) := hc
    have hr0 : r = [] := hr.out
    subst hr0
    go_enter Tryd.func15, Tryd.ntmps15
    go_wp2
    go_ret2
    exact ⟨_, by rw [hc0.out]; rfl, own_none _, Below.refl _ _⟩
  · have hb0 : List.isEmpty s = false := by
      cases s with
      | nil => exact absurd rfl h0
      | cons _ _ => rfl
    obtain ⟨W0, hW0⟩ : ∃ W0, w.alloc (.cells #[.string ⟨#[]⟩] 9) = W0 := ⟨_, rfl⟩
    have hown0 : OwnStrs W0 w.heap.size (.slice (some ⟨w.heap.size, 0, none⟩) 1 1) [[]] := by
      rw [← hW0]
      exact World.ownsRow_lit (size := 1) w #[.string ⟨#[]⟩] 1 (Nat.le_refl _) (by simp [maxLen]) rfl
    have hbel0 : Below w.heap.size w W0 := by rw [← hW0]; exact (Below.refl _ _).alloc (Nat.le_refl _) _
    have hst0 : Hid (([[]] : List Txt) = splitW (s.take 0)) := Lib.hid rfl
    have hsl := split_len s
    have hss := split_short s
    have hff := fun W v hv => Lib.hid (refFine_calls (splitW s) (fun x hx => Nat.le_trans (hss x hx) (by omega)) v W hv)
    have hfa := fun (h : fineW (splitW s) = false) => getW_not h0 h
    have hft := fun (h : fineW (splitW s) = true) => getW_fine h0 h
    clear hss h0
    generalize fineW (splitW s) = F at hff hfa hft
    go_enter Tryd.func15, Tryd.ntmps15
    go_wp2
    go_loopw [4, 5] (fun vo vi wr => ∃ (k : Nat) (l : List Txt), vi = .int .i64 k ∧ k ≤ s.length ∧ OwnStrs wr w.heap.size vo l ∧ l.length ≤ k + 1 ∧ Hid (l = splitW (s.take k)) ∧ Below w.heap.size w wr) (fun _ vi _ => s.length - (intOf vi).toNat)
    case atStart =>
      subst hW0
      exact ⟨0, [[]], rfl, by omega, hown0, by simp, hst0, hbel0⟩
    case round =>
      obtain ⟨k, l, rfl, hk, hown, hll, hl, hbel⟩ := hrel
      have hsz := hbel.size
      clear hW0 hown0 hbel0 hst0
      by_cases hlt : k < s.length
      · have hki : (k : Int) < (s.length : Int) := by omega
        obtain ⟨x, hx⟩ : ∃ x, s[k]? = some x := ⟨_, List.getElem?_eq_getElem hlt⟩
        have hxe : s[k] = x := (List.getElem?_eq_some_iff.1 hx).2
        have hex : (B s).extract k (k + 1) = B [x] := by
          rw [extract_B, show k + 1 - k = 1 from by omega]
          congr 1
          rw [List.take_one, List.head?_drop, hx]; rfl
        have htk : s.take (k + 1) = s.take k ++ [x] := by rw [List.take_add_one, hx]; rfl
        obtain ⟨init, last, e1, e2, e3⟩ := splitW_snoc (s.take k)
        have hlast := split_short (s.take k) last (by rw [e1]; simp)
        have hl1 := hl.out
        rw [e1] at hl1
        subst hl1
        clear hff hfa hft
        by_cases h32 : x = 32
        · subst h32
          have hst : Hid (init ++ [last] ++ [[]] = splitW (s.take (k + 1))) := by show _ = _; rw [htk, e2]
          have hxo : ∀ u ∈ (#[Value.string ⟨#[]⟩] : Array Value).toList, u.oneCell' = true := strC_one []
          obtain ⟨vA, kA, rfl⟩ := own_form' hown
          clear htk e1 e2 e3 hl hex hx
          have hn : (32 : UInt8).toNat = 32 := rfl
          go_wp2_with (first
            | (at_builtin
               (with_reducible refine lit_append_new (.tmp 20) (.tmp 21) 1 _ Tryd.strTy hown #[.string ⟨#[]⟩] rfl hxo (by omega) (by omega) hsz ?_ ?_ ?_); rfl; rfl
               intro v3 wv3 hv3 hbv3 hgv3 hnv3
               have hmv3 : OwnStrs wv3 w.heap.size v3 (init ++ [last] ++ [[]]) := OwnStrs.more hv3
               have hbel3 := hbel.trans hbv3
               have hlv3 : (init ++ [last] ++ [([] : Txt)]).length = (init ++ [last]).length + 1 := List.length_append
               clear hgv3 hnv3 hv3))
          go_roundw
          case rel => exact ⟨k + 1, _, by go_num, by omega, hmv3, by omega, hst, hbel3⟩
          case measure => simp [intOf]; omega
        · have hst : Hid (init ++ [last ++ [x]] = splitW (s.take (k + 1))) := by show _ = _; rw [htk, e3 x h32]
          obtain ⟨g, cap, rfl, hg, hrow⟩ := row_last hown
          have cl := hrow.str_at (i := init.length) (x := last) (by simp)
          have fr := hrow.frozen init.length
          clear htk e1 e2 e3 hl hown hx
          have i1 : ¬ (x.toNat : Int) = 32 := fun e => h32 (UInt8.toNat_inj.1 (by show x.toNat = 32; omega))
          have i2 : ((x.toNat : Int) == 32) = false := by rw [beq_eq_false_iff_ne]; exact i1
          have il : ¬ 9223372036854775807 < last.length + 1 := by
            rw [List.length_take] at hlast
            omega
          have hil : init.length ≤ 4294967280 := by
            simp at hll
            omega
          go_wp2
          go_region
          have hrow2 : Row (wr.setCell ⟨g, init.length, none⟩ (.string (B (last ++ [x])))).drew g 9 1 strC cap (init ++ [last ++ [x]]) := by
            have h := (hrow.set (strK _) (i := init.length) (by simp) (x := last ++ [x]) rfl).drew
            rw [List.set_append_right _ _ (Nat.le_refl _), Nat.sub_self, Nat.mul_one] at h
            exact h
          have hown2 := row_own hrow2 hg
          have hln2 : (init ++ [last ++ [x]]).length = init.length + 1 := by simp
          rw [hln2] at hown2
          have hll0 : (init ++ [last]).length = init.length + 1 := by simp
          have hbel2 := (hbel.setCell (p := ⟨g, init.length, none⟩) hg (.string (B (last ++ [x])))).drew
          go_wp2
          go_roundw
          case rel => exact ⟨k + 1, _, by go_num, by omega, hown2, by omega, hst, hbel2⟩
          case measure => simp [intOf]; omega
      · have hki : ¬ (k : Int) < (s.length : Int) := by omega
        have hle : Hid (splitW s = l) := by
          show _ = _
          rw [hl.out, List.take_of_length_le (by omega)]
        obtain ⟨vA, kA, rfl⟩ := own_form' hown
        have hf1 := hff wr (.slice vA l.length kA) (by rw [hle.out]; exact hown.strs)
        clear hff hl
        cases F with
        | false =>
          have hg := hfa rfl
          have hc0 : Hid (c = false) := by show c = false; rw [hc.out, hg]; rfl
          have hr0 : r = [] := by rw [hr.out, hg]; rfl
          subst hr0
          clear hfa hft hg hc
          go_wp2_with (first
            | ((with_reducible refine hf1.out.mono ?_); rintro e w2 ⟨rfl, hb2⟩))
          go_ret2
          exact ⟨_, by rw [hc0.out]; rfl, own_none _, bthen hbel hbel.size hb2⟩
        | true =>
          have hg := hft rfl
          have hc0 : Hid (c = true) := by show c = true; rw [hc.out, hg]; rfl
          have hr0 : Hid (r = l) := by show r = l; rw [hr.out, hg, ← hle.out]; rfl
          clear hfa hft hg hc hr
          go_wp2_with (first
            | ((with_reducible refine hf1.out.mono ?_); rintro e w2 ⟨rfl, hb2⟩))
          go_ret2
          exact ⟨_, by rw [hc0.out]; rfl, by rw [hr0.out]; exact own_below hown hb2, bthen hbel hbel.size hb2⟩
end Go.Proofs.YtakodjmembpdjaaDoor
