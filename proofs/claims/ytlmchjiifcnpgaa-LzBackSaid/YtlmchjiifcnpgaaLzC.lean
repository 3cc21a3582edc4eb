/- The walk of layer 5's Pack. No condition but sizes that every memory has. -/
import Derived.Test.YtlmchjiifcnpgaaLzB
namespace Go.Proofs.Ytlmchjiifcnpgaa
open Go.RowKit Go.Maps

theorem Try.u32key : Keyed Try.prog 47 := int_keyed Try.underlying47
theorem Try.zeroInt (w : World) : (zeroValue 3).run Try.prog w = .ok (.int .i64 0) w := by kernel_rfl
/-- What Pack keeps, ahead of place i: all from fr on is still to be packed. -/
structure PackRel (s e : List UInt8) (fr i : Nat) (D : DataW Unit) : Prop where
  fri : fr ≤ i
  leads : Leads e [] (s.take fr)
  map : MapOk s i D
  run : RunOk s e fr i
theorem leads_plainOf {s e : List UInt8} {fr i : Nat} (h : Leads e [] (s.take fr)) (hf : fr ≤ i) (hi : i ≤ s.length) (hs : s.length ≤ 70368744177664) : Leads (e ++ plainOf ((s.drop fr).take (i - fr))) [] (s.take i) := by
  have ht : s.take fr ++ (s.drop fr).take (i - fr) = s.take i := by
    rw [show i = fr + (i - fr) from by omega, List.take_add, show fr + (i - fr) - fr = i - fr from by omega]
  have hl : ((s.drop fr).take (i - fr)).length = i - fr := by rw [List.length_take, List.length_drop]; omega
  unfold plainOf
  split
  · rename_i h0
    rw [h0, List.append_nil] at ht
    rw [List.append_nil, ← ht]
    exact h
  · rename_i h0
    have := h.trans (Leads.plain _ (s.take fr) h0 (by rw [hl]; omega))
    rwa [ht] at this
theorem PackRel.miss {s e : List UInt8} {fr i : Nat} {D : DataW Unit} (h : PackRel s e fr i D) (hi : i + 4 ≤ s.length) (hno : Maps.has D (kl (keyAt s i)) = false) : PackRel s e fr (i + 1) (D.put (kl (keyAt s i)) (vl i)) :=
  ⟨by have := h.fri; omega, h.leads, h.map.next hi (by omega), h.run.miss h.map hi hno⟩
theorem PackRel.far {s e : List UInt8} {fr i a : Nat} {D : DataW Unit} (h : PackRel s e fr i D) (hi : i + 4 ≤ s.length) (ha : a < i) (hf : 65535 < i - a) : PackRel s e fr (i + 1) (D.put (kl (keyAt s i)) (vl i)) :=
  ⟨by have := h.fri; omega, h.leads, h.map.next hi (by omega), h.run.far hi ha hf⟩
theorem plainOf_length (t : List UInt8) : (plainOf t).length ≤ 10 + t.length := by
  unfold plainOf
  split
  · simp
  · have := put_length (2 * t.length)
    rw [List.length_append]; omega
theorem plainOf_one (t : List UInt8) (h : t.length ≤ 1) : (plainOf t).length ≤ 2 := by
  unfold plainOf
  split
  · simp
  · have := put_small (2 * t.length) (by omega)
    rw [List.length_append]; omega
theorem PackRel.hit {s e : List UInt8} {fr i a n : Nat} {D : DataW Unit} (h : PackRel s e fr i D) (hs : s.length ≤ 70368744177664) (hi : i + 4 ≤ s.length) (ha : a < i) (hf : i - a ≤ 65535) (hk : keyAt s a = keyAt s i)
    (hn : i + n ≤ s.length) (hal : ∀ j, j < n → s.getD (a + j) 0 = s.getD (i + j) 0) (hmax : i + n < s.length → s.getD (a + n) 0 ≠ s.getD (i + n) 0) :
    PackRel s (e ++ (plainOf ((s.drop fr).take (i - fr)) ++ (put (2 * n + 1) ++ put (i - a)))) (i + n) (i + n) (D.put (kl (keyAt s i)) (vl i)) := by
  have hmax' : (h : i + n < s.length) → s[a + n]'(by omega) ≠ s[i + n] := fun hlt => by
    have := hmax hlt
    rwa [getD_lt (by omega), getD_lt (by omega)] at this
  have h4 := alike_four hi ha hk hmax'
  have hl : (s.take i).length = i := by rw [List.length_take]; omega
  refine ⟨Nat.le_refl _, ?_, h.map.next hi (by omega), h.run.hit hi ha hn hmax' _ fun h0 h1 => plainOf_one _ (by rw [List.length_take]; omega)⟩
  have := (leads_plainOf h.leads h.fri (by omega) hs).trans (Leads.far n (i - a) (s.take i) h4 (by omega) (by omega) hf (by omega))
  rw [back_alike s a i ha n hn (fun j hj hjn => by
    have := hal j hjn
    rwa [getD_lt (by omega), getD_lt (by omega)] at this)] at this
  rwa [List.append_assoc] at this
/-- All is packed: steps, or the text as it stands. -/
theorem PackRel.done {s e : List UInt8} {fr i : Nat} {D : DataW Unit} (h : PackRel s e fr i D) (hs : s.length ≤ 70368744177664) (hi : s.length < i + 4) (hfr : fr ≤ s.length) :
    ((1 :: (e ++ plainOf (s.drop fr))).length ≤ s.length → PackOk s (1 :: (e ++ plainOf (s.drop fr)))) ∧ (s.length < (1 :: (e ++ plainOf (s.drop fr))).length → PackOk s (0 :: s)) := by
  have hle : Leads (e ++ plainOf (s.drop fr)) [] s := by
    have := leads_plainOf h.leads hfr (Nat.le_refl _) hs
    rwa [List.take_of_length_le (by rw [List.length_drop]; omega), List.take_length] at this
  have hrun : ∀ (c : UInt8) (n : Nat), s = List.replicate n c → n ≤ 4096 → (1 :: (e ++ plainOf (s.drop fr))).length ≤ 8 ∧ (s.length < (1 :: (e ++ plainOf (s.drop fr))).length → s.length + 1 ≤ 8) := by
    intro c n hc hn
    have hl : s.length = n := by rw [hc]; simp
    rcases h.run c n hc hn with ⟨h1, h2, h3⟩ | ⟨h1, h2, h3⟩
    · have hb : (plainOf (s.drop fr)).length ≤ 5 := by
        have hn4 : n ≤ 4 := by omega
        have hd : (s.drop fr).length = n := by rw [List.length_drop]; omega
        unfold plainOf
        split
        · simp
        · have := put_small (2 * (s.drop fr).length) (by omega)
          rw [List.length_append]; omega
      simp only [h2, List.nil_append, List.length_cons]
      omega
    · have hd : s.drop fr = [] := List.drop_of_length_le (by omega)
      have hp : plainOf [] = [] := rfl
      simp only [hd, hp, List.append_nil, List.length_cons]
      omega
  refine ⟨fun hm => ⟨by omega, .inr ⟨_, rfl, hle⟩, fun c n hc hn => (hrun c n hc hn).1⟩, fun hm => ⟨by simp, .inl rfl, fun c n hc hn => ?_⟩⟩
  have := (hrun c n hc hn).2 hm
  simpa using this

theorem wf_u32 (n : Nat) (h : n < 4294967296) : (Lit.int .u32 (n : Int)).wf = true := by
  simp [Lit.wf, IntKind.min, IntKind.max, IntKind.signed, IntKind.bits]; omega
theorem at_eq {c : Int} {a : Nat} (h : (DataW.lit (.int .i64 c) : DataW Unit) = vl a) : c = (a : Int) := by
  injection h with h
  injection h with _ h
theorem own_below {P : Program} {k : TypeId} {R : Value → Option (DataW Unit × List MemPlace)} {w w' : World} {b n q : Nat} {D : DataW Unit} (h : w.ownsMap P k R b n D) (hb : Below (w.drewN q).heap.size (w.drewN q) w') : w'.ownsMap P k R b n D :=
  World.ownsMap.kept (row := none) h ⟨hb.os, hb.tape, hb.output, hb.size, fun k hk _ => hb.block k hk⟩ (by simp)
theorem own_below' {P : Program} {k : TypeId} {R : Value → Option (DataW Unit × List MemPlace)} {w w' : World} {b n : Nat} {D : DataW Unit} (h : w.ownsMap P k R b n D) (hb : Below w.heap.size w w') : w'.ownsMap P k R b n D :=
  World.ownsMap.kept (row := none) h ⟨hb.os, hb.tape, hb.output, hb.size, fun k hk _ => hb.block k hk⟩ (by simp)
/-- What Pack returns. -/
def PackIs (s : List UInt8) (W : World) (e : Ending) (w' : World) : Prop := ∃ p, e = .returned (.string (B p)) ∧ PackOk s p ∧ Below W.heap.size W w'

set_option maxRecDepth 100000 in
set_option maxHeartbeats 1000000 in
theorem pack_calls (s : List UInt8) (hs : s.length ≤ 1000000) (w : World) :
    Calls Try.prog 10 #[.string (B s)] w (PackIs s w) := by
  have hmm := @run_makeMap Try.prog
  have hc := fun (wx : World) (k : Nat) (x : Int) (h : k = wx.heap.size) => Try.str_of_oneAt wx k x h
  go_enter Try.func10, Try.ntmps10
  go_wp2
  go_loopw [4, 5, 6] (fun o f x wr => ∃ (i fr cnt : Nat) (e : List UInt8) (D : DataW Unit), x = .int .i64 i ∧ f = .int .i64 fr ∧ o = .string (B (1 :: e)) ∧ i ≤ s.length ∧ fr ≤ i ∧ cnt ≤ i ∧ e.length ≤ 40 * fr ∧ Hid (PackRel s e fr i D) ∧ wr.ownsMap Try.prog 47 (plainElem Try.prog 3) w.heap.size cnt D ∧ Below w.heap.size w wr) (fun _ _ x _ => s.length - (intOf x).toNat)
  case atStart => exact ⟨0, 0, 0, [], .map [], rfl, rfl, rfl, by omega, by omega, by omega, by simp, ⟨by omega, by simpa using Leads.refl [], MapOk.start s, RunOk.start s⟩, (World.ownsMap_made _ _ _ _).alloc _, ((Below.refl _ _).alloc (Nat.le_refl _) _).alloc (by simp) _⟩
  case round =>
    obtain ⟨i, fr, cnt, e, D, rfl, rfl, rfl, hi, hfr, hcnt, he, hrel, hown, hb⟩ := hrel
    have hbs := hb.size
    by_cases h4 : i + 4 ≤ s.length
    · have hk := keyAt_lt s i
      have wfk := Lib.hid (wf_u32 (keyAt s i) hk)
      have wfi := Lib.hid (WalkArith.wf_i64 (n := (i : Int)) (by omega))
      rcases hh : Maps.has D (kl (keyAt s i)) with _ | _
      · have hnext := Lib.hid (hrel.out.miss h4 hh)
        clear hrel
        go_wp2_with (first
          | (go_at_call 14; go_must (refine (key_calls s i h4 (by omega) _).mono ?_); rintro e1 w1 ⟨rfl, q, rfl⟩)
          | (at_lookup; go_must (refine wpList_lookup_own_ok_int _ rfl _ _ 46 rfl 47 3 .i64 Try.u32key Try.underlying46 Try.underlying3 (Try.zeroInt _) w.heap.size cnt D rfl hown _ _ rfl (keyOf_int_mk Try.underlying47 wfk.out) ?_); intro c hat hwc; clear hat hwc)
          | (at_mapUpdate; go_must (refine wpList_mapUpdate_own _ rfl _ _ _ 46 rfl 47 3 Try.u32key Try.underlying46 _ w.heap.size cnt D rfl hown (by unfold maxLen; omega) _ _ _ rfl rfl (keyOf_int_mk Try.underlying47 wfk.out) _ [] (plainElem_int Try.underlying3 wfi.out) ?_); intro w2 hown2 hgrow2; have hb2 : Below w.heap.size w w2 := (bdrewN hb q).grown hgrow2 hbs (fun j hj => by cases hj; exact Nat.le_refl _); clear hgrow2))
        all_goals first | (exfalso; omega) | skip
        go_roundw
        case rel => exact ⟨i + 1, fr, cnt + 1, e, _, by go_num, rfl, rfl, by omega, by omega, by omega, by omega, hnext, hown2, hb2⟩
        case measure => simp [intOf]; omega
      · obtain ⟨a, ha1, ha2, ha3, ha4⟩ := hrel.out.map.told _ hh
        by_cases hf : 65535 < i - a
        · have hnext := Lib.hid (hrel.out.far h4 ha3 hf)
          clear hrel
          go_wp2_with (first
            | (go_at_call 14; go_must (refine (key_calls s i h4 (by omega) _).mono ?_); rintro e1 w1 ⟨rfl, q, rfl⟩)
            | (at_lookup; go_must (refine wpList_lookup_own_ok_int _ rfl _ _ 46 rfl 47 3 .i64 Try.u32key Try.underlying46 Try.underlying3 (Try.zeroInt _) w.heap.size cnt D rfl hown _ _ rfl (keyOf_int_mk Try.underlying47 wfk.out) ?_); intro c hat hwc; have hca : c = (a : Int) := at_eq (hat.symm.trans ha1); clear hat hwc)
            | (at_mapUpdate; go_must (refine wpList_mapUpdate_own _ rfl _ _ _ 46 rfl 47 3 Try.u32key Try.underlying46 _ w.heap.size cnt D rfl hown (by unfold maxLen; omega) _ _ _ rfl rfl (keyOf_int_mk Try.underlying47 wfk.out) _ [] (plainElem_int Try.underlying3 wfi.out) ?_); intro w2 hown2 hgrow2; have hb2 : Below w.heap.size w w2 := (bdrewN hb q).grown hgrow2 hbs (fun j hj => by cases hj; exact Nat.le_refl _); clear hgrow2))
          all_goals first | (exfalso; omega) | skip
          go_roundw
          case rel => exact ⟨i + 1, fr, cnt + 1, e, _, by go_num, rfl, rfl, by omega, by omega, by omega, by omega, hnext, hown2, hb2⟩
          case measure => simp [intOf]; omega
        · have hf' : i - a ≤ 65535 := by omega
          go_wp2_with (first
            | (go_at_call 14; go_must (refine (key_calls s i h4 (by omega) _).mono ?_); rintro e1 w1 ⟨rfl, q, rfl⟩)
            | (at_lookup; go_must (refine wpList_lookup_own_ok_int _ rfl _ _ 46 rfl 47 3 .i64 Try.u32key Try.underlying46 Try.underlying3 (Try.zeroInt _) w.heap.size cnt D rfl hown _ _ rfl (keyOf_int_mk Try.underlying47 wfk.out) ?_); intro c hat hwc; have hca : c = (a : Int) := at_eq (hat.symm.trans ha1); clear hat hwc)
            | (at_mapUpdate; go_must (refine wpList_mapUpdate_own _ rfl _ _ _ 46 rfl 47 3 Try.u32key Try.underlying46 _ w.heap.size cnt D rfl hown (by unfold maxLen; omega) _ _ _ rfl rfl (keyOf_int_mk Try.underlying47 wfk.out) _ [] (plainElem_int Try.underlying3 wfi.out) ?_); intro w2 hown2 hgrow2; have hb2 : Below w.heap.size w w2 := (bdrewN hb q).grown hgrow2 hbs (fun j hj => by cases hj; exact Nat.le_refl _); clear hgrow2)
            | (go_at_call 15; go_must (refine (alike_calls s a i ha3 hi (by omega) _).mono ?_); rintro e1 w3 ⟨n, rfl, hn1, hn2, hn3, q3, rfl⟩; have hn2' := Lib.hid hn2; have hn3' := Lib.hid hn3; clear hn2 hn3)
            | (go_at_call 16; go_must (refine (plain_calls ((s.drop fr).take (i - fr)) (by rw [List.length_take, List.length_drop]; omega) _).mono ?_); rintro e1 w4 ⟨rfl, hb4⟩; have hb4' : Below w.heap.size w w4 := bthen (bdrewN hb2 q3) hb2.size hb4; have hbs4 := hb4'.size; have hm4 := own_below hown2 hb4; have hp4 := plainOf_length ((s.drop fr).take (i - fr)); rw [List.length_take, List.length_drop] at hp4)
            | (go_at_call 17; have _t := hp5; go_must (with_reducible refine (put_callsI ((i : Int) - (a : Int)) (by omega) (by omega) _).mono ?_); rintro e1 w6 ⟨rfl, hb6⟩; have hb6' : Below w.heap.size w w6 := bthen hb5' hbs5 hb6; have hm6 := own_below' hm5 hb6; rw [show ((i : Int) - (a : Int)).toNat = i - a from by omega]; have hp6 := put_length (i - a); clear _t)
            | (go_at_call 17; have _t := hp4; go_must (with_reducible refine (put_callsI (2 * (n : Int) + 1) (by omega) (by omega) _).mono ?_); rintro e1 w5 ⟨rfl, hb5⟩; have hb5' : Below w.heap.size w w5 := bthen hb4' hbs4 hb5; have hbs5 := hb5'.size; have hm5 := own_below' hm4 hb5; rw [show (2 * (n : Int) + 1).toNat = 2 * n + 1 from by omega]; have hp5 := put_length (2 * n + 1); clear _t)
            )
          all_goals first | (exfalso; omega) | skip
          have hnext := Lib.hid (hrel.out.hit (by omega) h4 ha3 hf' ha4 hn1 hn2'.out hn3'.out)
          have hn4 : 4 ≤ n := alike_four h4 ha3 ha4 (fun hlt => by
            have := hn3'.out hlt
            rwa [getD_lt (by omega), getD_lt (by omega)] at this)
          go_roundw
          case rel => exact ⟨i + n, i + n, cnt + 1, _, _, by go_num, by go_num, rfl, by omega, by omega, by omega, by simp only [List.length_append]; omega, hnext, hm6, hb6'⟩
          case measure => simp [intOf]; omega
    · have hdone := hrel.out.done (by omega) (by omega) (by omega)
      have hd1 := Lib.hid hdone.1
      have hd2 := Lib.hid hdone.2
      clear hdone hrel
      have hpl := plainOf_length (s.drop fr)
      rw [List.length_drop] at hpl
      go_wp2_with (go_at_call 16; go_must (refine (plain_calls (s.drop fr) (by rw [List.length_drop]; omega) _).mono ?_); rintro e1 w4 ⟨rfl, hb4⟩; have hb4' : Below w.heap.size w w4 := bthen hb hbs hb4)
      all_goals first | (exfalso; omega) | skip
      · go_ret
        exact ⟨_, rfl, hd2.out (by simp only [List.length_cons, List.length_append]; omega), hb4'.alloc hb4'.size _⟩
      · go_ret
        exact ⟨_, rfl, hd1.out (by simp only [List.length_cons, List.length_append]; omega), hb4'⟩
end Go.Proofs.Ytlmchjiifcnpgaa
