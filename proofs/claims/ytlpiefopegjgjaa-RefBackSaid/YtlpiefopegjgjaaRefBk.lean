/- The walk of layer 9's statement RefBack. Condition: internal/bytealg.MaxLen holds an int. -/
import Derived.Test.YtlpiefopegjgjaaRefTw
namespace Go.Proofs.Ytlpiefopegjgjaa
open Go.RowKit
theorem fineL_nil : fineL [] = true := by rfl
theorem fine_many (s : List UInt8) : fineL (manyP s) = true := by
  unfold manyP
  cases hg : getP s with
  | none => exact fineL_nil
  | some l => exact ((getP_iff s l).1 hg).1
theorem put_many {s : List UInt8} (h : (getP s).isSome = true) : putT (manyP s) = s := by
  unfold manyP
  cases hg : getP s with
  | none => rw [hg] at h; cases h
  | some l => exact ((getP_iff s l).1 hg).2.1.symm
theorem getP_put {l : List RefL} (hok : RefsOk l) (hf : fineL l = true) : getP (putT l) = some l := (getP_iff _ _).2 ⟨hf, rfl, fun r hr => (hok r hr).1⟩
set_option maxRecDepth 100000 in
set_option maxHeartbeats 4000000 in
theorem refBack_calls (l : List RefL) (hok : RefsOk l) (vl : Value) (s : List UInt8) (hs : s.length ≤ 9223372036854775807) (w : World) (hm : MaxK w) (hl : Refs w vl l) :
    Calls Try.prog 6 #[vl, .string (B s)] w fun e w' => e = .returned (.bool true) ∧ Below w.heap.size w w' := by
  go_enter Try.func6, Try.ntmps6
  go_wp2_with (fail)
  go_at_call 7
  refine (few_calls l _ w hl).mono ?_
  rintro e w1 ⟨⟨b1, rfl, hf1⟩, rfl⟩
  cases b1
  · clear hf1
    go_wp2_with (first
      | (go_at_call 9; go_must (refine (knows_calls _).mono ?_); rintro e w3 ⟨rfl, hb3⟩))
    go_ret
    exact ⟨rfl, hb3⟩
  have h70 : l.length ≤ 70 := hf1 rfl
  clear hf1
  by_cases hs1 : s.length ≤ 1500
  · have hs1i : ¬ (1500 : Int) < (s.length : Int) := by omega
    have hs1b : decide ((1500 : Int) < (s.length : Int)) = false := decide_eq_false hs1i
    have hpo := Lib.hid (put_text_calls l hok vl w hl)
    have hgo := fun W (hb : Below w.heap.size w W) => Lib.hid (get_uni s (by omega) W (hm.below hb))
    have hpm := fun v W (hv : Refs W v (manyP s)) => Lib.hid (put_text_calls (manyP s) (manyP_ok (by omega)) v W hv)
    have hfm := fun v W (hv : Refs W v (manyP s)) => Lib.hid (fine_calls (manyP s) (manyP_ok (by omega)) v W hv)
    have hmo := manyP_ok (s := s) (by omega)
    have hkn := fun W => Lib.hid (knows_calls W)
    rw [fine_many s] at hfm hpm
    simp only [if_true] at hpm
    have hcs : Hid (codeG s = if (getP s).isSome then 0 else 2) := by show _ = _; rfl
    have hpq : Hid ((getP s).isSome = true → putT (manyP s) = s) := by show _ → _; exact put_many
    generalize putT (manyP s) = pm at *
    generalize manyP s = ms at *
    generalize (getP s).isSome = is at *
    generalize codeG s = cg at *
    cases hfl : fineL l
    · rw [hfl] at hpo
      have hpo : Hid (Calls Try.prog 15 #[vl] w fun e w' => e = .returned (.tuple #[.string (B []), .int .i64 1]) ∧ Below w.heap.size w w') := hpo
      clear hfl
      cases is
      · have hcg := hcs.out
        simp only [Bool.false_eq_true, if_false] at hcg
        subst hcg
        clear hcs hpq
        go_wp2_with (fail)
        go_at_call 15
        refine hpo.out.mono ?_
        rintro e w2 ⟨rfl, hB2⟩
        clear hpo
        go_wp2_with (fail)
        go_at_call 17
        refine (hgo _ hB2).out.mono ?_
        rintro e w5 ⟨v5, rfl, ho5, hb5⟩
        have hB5 := bthen hB2 hB2.size hb5
        clear hgo hb5
        go_wp2_with (fail)
        go_at_call 15
        refine (hpm _ _ (OwnRefs.refs hmo ho5)).out.mono ?_
        rintro e w6 ⟨rfl, hb6⟩
        have hB6 := bthen hB5 hB5.size hb6
        have ho6 := own_below ho5 hb6
        clear hb6 ho5 hpm
        go_wp2_with (fail)
        go_at_call 9
        refine (hkn _).out.mono ?_
        rintro e w7 ⟨rfl, hb7⟩
        have hB7 := bthen hB6 hB6.size hb7
        have ho7 := own_below ho6 hb7
        clear hb7 ho6
        go_wp2
        go_ret
        exact ⟨rfl, hB7⟩
      · have hcg := hcs.out
        simp only [if_true] at hcg
        subst hcg
        have hpq := hpq.out rfl
        subst hpq
        clear hcs
        go_wp2_with (fail)
        go_at_call 15
        refine hpo.out.mono ?_
        rintro e w2 ⟨rfl, hB2⟩
        clear hpo
        go_wp2_with (fail)
        go_at_call 17
        refine (hgo _ hB2).out.mono ?_
        rintro e w5 ⟨v5, rfl, ho5, hb5⟩
        have hB5 := bthen hB2 hB2.size hb5
        clear hgo hb5
        go_wp2_with (fail)
        go_at_call 15
        refine (hpm _ _ (OwnRefs.refs hmo ho5)).out.mono ?_
        rintro e w6 ⟨rfl, hb6⟩
        have hB6 := bthen hB5 hB5.size hb6
        have ho6 := own_below ho5 hb6
        clear hb6 ho5 hpm
        go_wp2_with (fail)
        go_at_call 9
        refine (hkn _).out.mono ?_
        rintro e w7 ⟨rfl, hb7⟩
        have hB7 := bthen hB6 hB6.size hb7
        have ho7 := own_below ho6 hb7
        clear hb7 ho6
        go_wp2_with (fail)
        go_at_call 14
        refine (hfm _ _ (OwnRefs.refs hmo ho7)).out.mono ?_
        rintro e w8 ⟨rfl, hb8⟩
        go_wp2
        go_ret
        exact ⟨rfl, bthen hB7 hB7.size hb8⟩
    · rw [hfl] at hpo
      have hpo : Hid (Calls Try.prog 15 #[vl] w fun e w' => e = .returned (.tuple #[.string (B (putT l)), .int .i64 0]) ∧ Below w.heap.size w w') := hpo
      have hgl : ∀ W, Below w.heap.size w W → Hid (Calls Try.prog 17 #[.string (B (putT l))] W fun e w' => ∃ v', e = .returned (.tuple #[v', .int .i64 0]) ∧ OwnRefs w' W.heap.size v' l ∧ Below W.heap.size W w') := fun W hb => by
        have hle := putT_len hok (fine_names' hfl)
        have h1 := get_uni (putT l) (by omega) W (hm.below hb)
        have e1 := getP_put hok hfl
        rw [show codeG (putT l) = 0 by unfold codeG; rw [e1]; rfl, show manyP (putT l) = l by unfold manyP; rw [e1]; rfl] at h1
        exact h1
      have hsm := fun vb W (hb : Below w.heap.size w W) (hv : Refs W vb l) => Lib.hid (same_self l hok vl vb W (hl.below hb) hv)
      clear hfl
      generalize putT l = pl at *
      cases is
      · have hcg := hcs.out
        simp only [Bool.false_eq_true, if_false] at hcg
        subst hcg
        clear hcs hpq
        go_wp2_with (fail)
        go_at_call 15
        refine hpo.out.mono ?_
        rintro e w2 ⟨rfl, hB2⟩
        clear hpo
        go_wp2_with (fail)
        go_at_call 17
        refine (hgl _ hB2).out.mono ?_
        rintro e w3 ⟨v3, rfl, ho3, hb3⟩
        have hB3 := bthen hB2 hB2.size hb3
        clear hgl hb3
        go_wp2_with (fail)
        go_at_call 13
        refine (hsm _ _ hB3 (OwnRefs.refs hok ho3)).out.mono ?_
        rintro e w4 ⟨rfl, hb4⟩
        have hB4 := bthen hB3 hB3.size hb4
        clear hb4 hsm ho3
        go_wp2_with (fail)
        go_at_call 17
        refine (hgo _ hB4).out.mono ?_
        rintro e w5 ⟨v5, rfl, ho5, hb5⟩
        have hB5 := bthen hB4 hB4.size hb5
        clear hgo hb5
        go_wp2_with (fail)
        go_at_call 15
        refine (hpm _ _ (OwnRefs.refs hmo ho5)).out.mono ?_
        rintro e w6 ⟨rfl, hb6⟩
        have hB6 := bthen hB5 hB5.size hb6
        have ho6 := own_below ho5 hb6
        clear hb6 ho5 hpm
        go_wp2_with (fail)
        go_at_call 9
        refine (hkn _).out.mono ?_
        rintro e w7 ⟨rfl, hb7⟩
        have hB7 := bthen hB6 hB6.size hb7
        have ho7 := own_below ho6 hb7
        clear hb7 ho6
        go_wp2
        go_ret
        exact ⟨rfl, hB7⟩
      · have hcg := hcs.out
        simp only [if_true] at hcg
        subst hcg
        have hpq := hpq.out rfl
        subst hpq
        clear hcs
        go_wp2_with (fail)
        go_at_call 15
        refine hpo.out.mono ?_
        rintro e w2 ⟨rfl, hB2⟩
        clear hpo
        go_wp2_with (fail)
        go_at_call 17
        refine (hgl _ hB2).out.mono ?_
        rintro e w3 ⟨v3, rfl, ho3, hb3⟩
        have hB3 := bthen hB2 hB2.size hb3
        clear hgl hb3
        go_wp2_with (fail)
        go_at_call 13
        refine (hsm _ _ hB3 (OwnRefs.refs hok ho3)).out.mono ?_
        rintro e w4 ⟨rfl, hb4⟩
        have hB4 := bthen hB3 hB3.size hb4
        clear hb4 hsm ho3
        go_wp2_with (fail)
        go_at_call 17
        refine (hgo _ hB4).out.mono ?_
        rintro e w5 ⟨v5, rfl, ho5, hb5⟩
        have hB5 := bthen hB4 hB4.size hb5
        clear hgo hb5
        go_wp2_with (fail)
        go_at_call 15
        refine (hpm _ _ (OwnRefs.refs hmo ho5)).out.mono ?_
        rintro e w6 ⟨rfl, hb6⟩
        have hB6 := bthen hB5 hB5.size hb6
        have ho6 := own_below ho5 hb6
        clear hb6 ho5 hpm
        go_wp2_with (fail)
        go_at_call 9
        refine (hkn _).out.mono ?_
        rintro e w7 ⟨rfl, hb7⟩
        have hB7 := bthen hB6 hB6.size hb7
        have ho7 := own_below ho6 hb7
        clear hb7 ho6
        go_wp2_with (fail)
        go_at_call 14
        refine (hfm _ _ (OwnRefs.refs hmo ho7)).out.mono ?_
        rintro e w8 ⟨rfl, hb8⟩
        go_wp2
        go_ret
        exact ⟨rfl, bthen hB7 hB7.size hb8⟩
  · have hs1i : (1500 : Int) < (s.length : Int) := by omega
    go_wp2_with (first
      | (go_at_call 9; go_must (refine (knows_calls _).mono ?_); rintro e w3 ⟨rfl, hb3⟩))
    go_ret
    exact ⟨rfl, hb3⟩
end Go.Proofs.Ytlpiefopegjgjaa
