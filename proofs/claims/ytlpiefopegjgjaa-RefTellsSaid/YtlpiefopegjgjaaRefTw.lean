/- The walks of layer 9's statements RefTells, RefBack. Condition: internal/bytealg.MaxLen holds an int. -/
import Derived.Test.YtlpiefopegjgjaaGetR
import Derived.Test.YtlpiefopegjgjaaPutO
import Derived.Test.YtlpiefopegjgjaaRefKw
import Derived.Test.YtlpiefopegjgjaaRefJ
namespace Go.Proofs.Ytlpiefopegjgjaa
open Go.RowKit
attribute [local go_sem ↓] ldvI_eq
/-- A text's refs, or none. -/
def manyP (s : List UInt8) : List RefL := (getP s).getD []
def codeG (s : List UInt8) : Int := if (getP s).isSome then 0 else 2
theorem get_uni (s : List UInt8) (hs : s.length ≤ 100000) (w : World) (hm : MaxK w) :
    Calls Try.prog 17 #[.string (B s)] w fun e w' => ∃ v', e = .returned (.tuple #[v', .int .i64 (codeG s)]) ∧ OwnRefs w' w.heap.size v' (manyP s) ∧ Below w.heap.size w w' := by
  refine (get_calls s hs w hm).mono ?_
  rintro e w' ⟨h, hb⟩
  unfold manyP codeG
  cases hg : getP s with
  | none => rw [hg] at h; exact ⟨_, h, World.ownsRow_nil _ _ _ _, hb⟩
  | some l =>
    rw [hg] at h
    obtain ⟨v', he, ho, _⟩ := h
    exact ⟨v', he, ho, hb⟩
theorem refGet_uni (s : List UInt8) (hs : s.length ≤ 100000) (w : World) :
    Calls Try.prog 18 #[.string (B s)] w fun e w' => ∃ v', e = .returned (.tuple #[v', .bool (getP s).isSome]) ∧ OwnRefs w' w.heap.size v' (manyP s) ∧ Below w.heap.size w w' := by
  refine (refGet_calls s hs w).mono ?_
  rintro e w' ⟨h, hb⟩
  rw [getR_eq] at h
  unfold manyP
  cases hg : getP s with
  | none => rw [hg] at h; exact ⟨_, h, World.ownsRow_nil _ _ _ _, hb⟩
  | some l =>
    rw [hg] at h
    obtain ⟨v', he, ho, _⟩ := h
    exact ⟨v', he, ho, hb⟩
theorem manyP_ok {s : List UInt8} (hs : s.length ≤ 100000) : RefsOk (manyP s) := by
  unfold manyP
  cases hg : getP s with
  | none => intro x hx; simp at hx
  | some l =>
    obtain ⟨h1, h2, h3⟩ := (getP_iff s l).1 hg
    intro x hx
    have h4 := fine_names' h1 x hx
    exact ⟨h3 x hx, by show x.name.length ≤ _; omega⟩
theorem same_self (a : List RefL) (hoka : RefsOk a) (va vb : Value) (w : World) (ha : Refs w va a) (hb : Refs w vb a) :
    Calls Try.prog 13 #[va, vb] w fun e w' => e = .returned (.bool true) ∧ Below w.heap.size w w' := by
  have := same_calls a a hoka hoka va vb w ha hb
  rwa [decide_eq_true rfl] at this
set_option maxRecDepth 100000 in
set_option maxHeartbeats 4000000 in
theorem refTells_calls (l : List RefL) (hok : RefsOk l) (vl : Value) (s name : List UInt8) (hs : s.length ≤ 9223372036854775807) (hn : name.length ≤ 9223372036854775807) (w : World) (hm : MaxK w) (hl : Refs w vl l) :
    Calls Try.prog 5 #[vl, .string (B s), .string (B name)] w fun e w' => e = .returned (.bool true) ∧ Below w.heap.size w w' := by
  go_enter Try.func5, Try.ntmps5
  go_wp2_with (fail)
  go_at_call 7
  refine (few_calls l _ w hl).mono ?_
  rintro e w1 ⟨⟨b1, rfl, hf1⟩, rfl⟩
  cases b1
  · clear hf1
    go_wp2_with (first
      | (go_at_call 9; go_must (refine (knows_calls _).mono ?_); rintro e w3 ⟨rfl, hb3⟩))
    go_ret
    exact ⟨rfl, hb3⟩
  have h70 : l.length ≤ 70 := hf1 rfl
  clear hf1
  by_cases hs1 : s.length ≤ 1500
  · have hs1i : ¬ (1500 : Int) < (s.length : Int) := by omega
    have hs1b : decide ((1500 : Int) < (s.length : Int)) = false := decide_eq_false hs1i
    by_cases hn1 : name.length ≤ 100
    · have hn1i : ¬ (100 : Int) < (name.length : Int) := by omega
      have hn1b : decide ((100 : Int) < (name.length : Int)) = false := decide_eq_false hn1i
      have hfo := fun W (hb : Below w.heap.size w W) => Lib.hid (fine_calls l hok vl W (hl.below hb))
      have hfr := Lib.hid (refFine_calls l hok vl w hl)
      have hpo := fun W (hb : Below w.heap.size w W) => Lib.hid (put_text_calls l hok vl W (hl.below hb))
      have hgo := fun W (hb : Below w.heap.size w W) => Lib.hid (get_uni s (by omega) W (hm.below hb))
      have hgr := fun W => Lib.hid (refGet_uni s (by omega) W)
      have hsm := fun va vb W (ha : Refs W va (manyP s)) (hb : Refs W vb (manyP s)) => Lib.hid (same_self (manyP s) (manyP_ok (by omega)) va vb W ha hb)
      have hmo := manyP_ok (s := s) (by omega)
      have hfi := fun W (hb : Below w.heap.size w W) => Lib.hid (find_calls l hok vl name W (hl.below hb))
      have hfir := fun W (hb : Below w.heap.size w W) => Lib.hid (refFind_calls l hok vl name W (hl.below hb))
      have hkn := fun W => Lib.hid (knows_calls W)
      have hna := fun W => Lib.hid (name_calls name hn W)
      have hnar := fun W => Lib.hid (refName_calls name hn W)
      have hfl32 := findOr_len hok name
      have hq := fun W => equalIn_ids (findOr l name) (findOr l name) hfl32 hfl32 W
      have hcs : Hid (codeG s = if (getP s).isSome then 0 else 2) := by show _ = _; rfl
      generalize findOr l name = fo at *
      generalize (findL l name).isSome = fs at *
      generalize nameOk name = no at *
      generalize manyP s = ms at *
      generalize (getP s).isSome = is at *
      generalize codeG s = cg at *
      cases hfl : fineL l
      · rw [hfl] at hfr
        have hfo : ∀ W, Below w.heap.size w W → Hid (Calls Try.prog 14 #[vl] W fun e w' => e = .returned (.bool false) ∧ Below W.heap.size W w') := fun W hb => by have := (hfo W hb).out; rwa [hfl] at this
        have hpo : ∀ W, Below w.heap.size w W → Hid (Calls Try.prog 15 #[vl] W fun e w' => e = .returned (.tuple #[.string (B []), .int .i64 1]) ∧ Below W.heap.size W w') := fun W hb => by have := (hpo W hb).out; rwa [hfl] at this
        clear hfl
        cases is
        · have hcg := hcs.out
          simp only [Bool.false_eq_true, if_false] at hcg
          subst hcg
          clear hcs
          go_wp2_with (first
            | (go_at_call 11; go_must (refine hfr.out.mono ?_); rintro e w1 ⟨rfl, hb1⟩)
            | (go_at_call 15; go_must (refine (hpo _ hb1).out.mono ?_); rintro e w2 ⟨rfl, hb2⟩
               have hB2 := bthen hb1 hb1.size hb2
               clear hb2)
            | (go_at_call 14; go_must (refine (hfo _ hB2).out.mono ?_); rintro e w3 ⟨rfl, hb3⟩
               have hB3 := bthen hB2 hB2.size hb3
               clear hb3)
            | (go_at_call 17; go_must (refine (hgo _ hB3).out.mono ?_); rintro e w5 ⟨v5, rfl, ho5, hb5⟩
               have hB5 := bthen hB3 hB3.size hb5
               clear hb5)
            | (go_at_call 18; go_must (refine (hgr _).out.mono ?_); rintro e w6 ⟨v6, rfl, ho6, hb6⟩
               have hB6 := bthen hB5 hB5.size hb6
               have ho56 := own_below ho5 hb6
               clear hb6 ho5)
            | (go_at_call 13; go_must (refine (hsm _ _ _ (OwnRefs.refs hmo ho56) (OwnRefs.refs hmo ho6)).out.mono ?_); rintro e w7 ⟨rfl, hb7⟩
               have hB7 := bthen hB6 hB6.size hb7
               clear hb7 ho56 ho6)
            | (go_at_call 19; go_must (refine (hfi _ hB7).out.mono ?_); rintro e w8 ⟨rfl, hb8⟩
               have hB8 := bthen hB7 hB7.size hb8
               clear hb8)
            | ((with_reducible refine lit_new_id (.tmp 16) (.tmp 88) fo hfl32 _ ?_ ?_ ?_ ?_); rfl; rfl; rfl; intro w9 hk9 hb9
               have hB9 := bthen hB8 hB8.size hb9
               clear hb9)
            | (go_at_call 20; go_must (refine (hfir _ hB9).out.mono ?_); rintro e w10 ⟨rfl, hb10⟩
               have hB10 := bthen hB9 hB9.size hb10
               have hk10 := hk9.below hb10 hk9.lt
               clear hb10)
            | ((with_reducible refine lit_new_id (.tmp 18) (.tmp 94) fo hfl32 _ ?_ ?_ ?_ ?_); rfl; rfl; rfl; intro w11 hk11 hb11
               have hB11 := bthen hB10 hB10.size hb11
               have hk12 := hk10.below hb11 hk10.lt
               clear hb11)
            | fail)
          go_at_call 9
          refine (hkn _).out.mono ?_
          rintro e w13 ⟨rfl, hb13⟩
          have hB13 := bthen hB11 hB11.size hb13
          have hk13 := hk12.below hb13 hk12.lt
          have hk14 := hk11.below hb13 hk11.lt
          have q13 := run_ldvI_mid (range_blk hk13) hfl32
          have q14 := run_ldvI_mid (range_blk hk14) hfl32
          clear hb13 hk13 hk14
          go_wp2_with (first
            | (go_at_call 21; go_must (refine (hna _).out.mono ?_); rintro e w15 ⟨rfl, rfl⟩)
            | (go_at_call 22; go_must (refine (hnar _).out.mono ?_); rintro e w16 ⟨rfl, rfl⟩))
          go_ret
          exact ⟨rfl, hB13⟩
        · have hcg := hcs.out
          simp only [if_true] at hcg
          subst hcg
          clear hcs
          go_wp2_with (first
            | (go_at_call 11; go_must (refine hfr.out.mono ?_); rintro e w1 ⟨rfl, hb1⟩)
            | (go_at_call 15; go_must (refine (hpo _ hb1).out.mono ?_); rintro e w2 ⟨rfl, hb2⟩
               have hB2 := bthen hb1 hb1.size hb2
               clear hb2)
            | (go_at_call 14; go_must (refine (hfo _ hB2).out.mono ?_); rintro e w3 ⟨rfl, hb3⟩
               have hB3 := bthen hB2 hB2.size hb3
               clear hb3)
            | (go_at_call 17; go_must (refine (hgo _ hB3).out.mono ?_); rintro e w5 ⟨v5, rfl, ho5, hb5⟩
               have hB5 := bthen hB3 hB3.size hb5
               clear hb5)
            | (go_at_call 18; go_must (refine (hgr _).out.mono ?_); rintro e w6 ⟨v6, rfl, ho6, hb6⟩
               have hB6 := bthen hB5 hB5.size hb6
               have ho56 := own_below ho5 hb6
               clear hb6 ho5)
            | (go_at_call 13; go_must (refine (hsm _ _ _ (OwnRefs.refs hmo ho56) (OwnRefs.refs hmo ho6)).out.mono ?_); rintro e w7 ⟨rfl, hb7⟩
               have hB7 := bthen hB6 hB6.size hb7
               clear hb7 ho56 ho6)
            | (go_at_call 19; go_must (refine (hfi _ hB7).out.mono ?_); rintro e w8 ⟨rfl, hb8⟩
               have hB8 := bthen hB7 hB7.size hb8
               clear hb8)
            | ((with_reducible refine lit_new_id (.tmp 16) (.tmp 88) fo hfl32 _ ?_ ?_ ?_ ?_); rfl; rfl; rfl; intro w9 hk9 hb9
               have hB9 := bthen hB8 hB8.size hb9
               clear hb9)
            | (go_at_call 20; go_must (refine (hfir _ hB9).out.mono ?_); rintro e w10 ⟨rfl, hb10⟩
               have hB10 := bthen hB9 hB9.size hb10
               have hk10 := hk9.below hb10 hk9.lt
               clear hb10)
            | ((with_reducible refine lit_new_id (.tmp 18) (.tmp 94) fo hfl32 _ ?_ ?_ ?_ ?_); rfl; rfl; rfl; intro w11 hk11 hb11
               have hB11 := bthen hB10 hB10.size hb11
               have hk12 := hk10.below hb11 hk10.lt
               clear hb11)
            | fail)
          go_at_call 9
          refine (hkn _).out.mono ?_
          rintro e w13 ⟨rfl, hb13⟩
          have hB13 := bthen hB11 hB11.size hb13
          have hk13 := hk12.below hb13 hk12.lt
          have hk14 := hk11.below hb13 hk11.lt
          have q13 := run_ldvI_mid (range_blk hk13) hfl32
          have q14 := run_ldvI_mid (range_blk hk14) hfl32
          clear hb13 hk13 hk14
          go_wp2_with (first
            | (go_at_call 21; go_must (refine (hna _).out.mono ?_); rintro e w15 ⟨rfl, rfl⟩)
            | (go_at_call 22; go_must (refine (hnar _).out.mono ?_); rintro e w16 ⟨rfl, rfl⟩))
          go_ret
          exact ⟨rfl, hB13⟩
      · rw [hfl] at hfr
        have hpr := fun W (hb : Below w.heap.size w W) => Lib.hid (refPut_calls l hok (fine_names' hfl) (fine_few hfl) vl W (hl.below hb))
        have hfo : ∀ W, Below w.heap.size w W → Hid (Calls Try.prog 14 #[vl] W fun e w' => e = .returned (.bool true) ∧ Below W.heap.size W w') := fun W hb => by have := (hfo W hb).out; rwa [hfl] at this
        have hpo : ∀ W, Below w.heap.size w W → Hid (Calls Try.prog 15 #[vl] W fun e w' => e = .returned (.tuple #[.string (B (putT l)), .int .i64 0]) ∧ Below W.heap.size W w') := fun W hb => by have := (hpo W hb).out; rwa [hfl] at this
        clear hfl
        generalize putT l = pl at *
        cases is
        · have hcg := hcs.out
          simp only [Bool.false_eq_true, if_false] at hcg
          subst hcg
          clear hcs
          go_wp2_with (first
            | (go_at_call 11; go_must (refine hfr.out.mono ?_); rintro e w1 ⟨rfl, hb1⟩)
            | (go_at_call 15; go_must (refine (hpo _ hb1).out.mono ?_); rintro e w2 ⟨rfl, hb2⟩
               have hB2 := bthen hb1 hb1.size hb2
               clear hb2)
            | (go_at_call 14; go_must (refine (hfo _ hB2).out.mono ?_); rintro e w3 ⟨rfl, hb3⟩
               have hB3 := bthen hB2 hB2.size hb3
               clear hb3)
            | (go_at_call 16; go_must (refine (hpr _ hB3).out.mono ?_); rintro e w4 ⟨rfl, hb4⟩
               have hB4 := bthen hB3 hB3.size hb4
               clear hb4)
            | (go_at_call 17; go_must (refine (hgo _ hB4).out.mono ?_); rintro e w5 ⟨v5, rfl, ho5, hb5⟩
               have hB5 := bthen hB4 hB4.size hb5
               clear hb5)
            | (go_at_call 18; go_must (refine (hgr _).out.mono ?_); rintro e w6 ⟨v6, rfl, ho6, hb6⟩
               have hB6 := bthen hB5 hB5.size hb6
               have ho56 := own_below ho5 hb6
               clear hb6 ho5)
            | (go_at_call 13; go_must (refine (hsm _ _ _ (OwnRefs.refs hmo ho56) (OwnRefs.refs hmo ho6)).out.mono ?_); rintro e w7 ⟨rfl, hb7⟩
               have hB7 := bthen hB6 hB6.size hb7
               clear hb7 ho56 ho6)
            | (go_at_call 19; go_must (refine (hfi _ hB7).out.mono ?_); rintro e w8 ⟨rfl, hb8⟩
               have hB8 := bthen hB7 hB7.size hb8
               clear hb8)
            | ((with_reducible refine lit_new_id (.tmp 16) (.tmp 88) fo hfl32 _ ?_ ?_ ?_ ?_); rfl; rfl; rfl; intro w9 hk9 hb9
               have hB9 := bthen hB8 hB8.size hb9
               clear hb9)
            | (go_at_call 20; go_must (refine (hfir _ hB9).out.mono ?_); rintro e w10 ⟨rfl, hb10⟩
               have hB10 := bthen hB9 hB9.size hb10
               have hk10 := hk9.below hb10 hk9.lt
               clear hb10)
            | ((with_reducible refine lit_new_id (.tmp 18) (.tmp 94) fo hfl32 _ ?_ ?_ ?_ ?_); rfl; rfl; rfl; intro w11 hk11 hb11
               have hB11 := bthen hB10 hB10.size hb11
               have hk12 := hk10.below hb11 hk10.lt
               clear hb11)
            | fail)
          go_at_call 9
          refine (hkn _).out.mono ?_
          rintro e w13 ⟨rfl, hb13⟩
          have hB13 := bthen hB11 hB11.size hb13
          have hk13 := hk12.below hb13 hk12.lt
          have hk14 := hk11.below hb13 hk11.lt
          have q13 := run_ldvI_mid (range_blk hk13) hfl32
          have q14 := run_ldvI_mid (range_blk hk14) hfl32
          clear hb13 hk13 hk14
          go_wp2_with (first
            | (go_at_call 21; go_must (refine (hna _).out.mono ?_); rintro e w15 ⟨rfl, rfl⟩)
            | (go_at_call 22; go_must (refine (hnar _).out.mono ?_); rintro e w16 ⟨rfl, rfl⟩))
          go_ret
          exact ⟨rfl, hB13⟩
        · have hcg := hcs.out
          simp only [if_true] at hcg
          subst hcg
          clear hcs
          go_wp2_with (first
            | (go_at_call 11; go_must (refine hfr.out.mono ?_); rintro e w1 ⟨rfl, hb1⟩)
            | (go_at_call 15; go_must (refine (hpo _ hb1).out.mono ?_); rintro e w2 ⟨rfl, hb2⟩
               have hB2 := bthen hb1 hb1.size hb2
               clear hb2)
            | (go_at_call 14; go_must (refine (hfo _ hB2).out.mono ?_); rintro e w3 ⟨rfl, hb3⟩
               have hB3 := bthen hB2 hB2.size hb3
               clear hb3)
            | (go_at_call 16; go_must (refine (hpr _ hB3).out.mono ?_); rintro e w4 ⟨rfl, hb4⟩
               have hB4 := bthen hB3 hB3.size hb4
               clear hb4)
            | (go_at_call 17; go_must (refine (hgo _ hB4).out.mono ?_); rintro e w5 ⟨v5, rfl, ho5, hb5⟩
               have hB5 := bthen hB4 hB4.size hb5
               clear hb5)
            | (go_at_call 18; go_must (refine (hgr _).out.mono ?_); rintro e w6 ⟨v6, rfl, ho6, hb6⟩
               have hB6 := bthen hB5 hB5.size hb6
               have ho56 := own_below ho5 hb6
               clear hb6 ho5)
            | (go_at_call 13; go_must (refine (hsm _ _ _ (OwnRefs.refs hmo ho56) (OwnRefs.refs hmo ho6)).out.mono ?_); rintro e w7 ⟨rfl, hb7⟩
               have hB7 := bthen hB6 hB6.size hb7
               clear hb7 ho56 ho6)
            | (go_at_call 19; go_must (refine (hfi _ hB7).out.mono ?_); rintro e w8 ⟨rfl, hb8⟩
               have hB8 := bthen hB7 hB7.size hb8
               clear hb8)
            | ((with_reducible refine lit_new_id (.tmp 16) (.tmp 88) fo hfl32 _ ?_ ?_ ?_ ?_); rfl; rfl; rfl; intro w9 hk9 hb9
               have hB9 := bthen hB8 hB8.size hb9
               clear hb9)
            | (go_at_call 20; go_must (refine (hfir _ hB9).out.mono ?_); rintro e w10 ⟨rfl, hb10⟩
               have hB10 := bthen hB9 hB9.size hb10
               have hk10 := hk9.below hb10 hk9.lt
               clear hb10)
            | ((with_reducible refine lit_new_id (.tmp 18) (.tmp 94) fo hfl32 _ ?_ ?_ ?_ ?_); rfl; rfl; rfl; intro w11 hk11 hb11
               have hB11 := bthen hB10 hB10.size hb11
               have hk12 := hk10.below hb11 hk10.lt
               clear hb11)
            | fail)
          go_at_call 9
          refine (hkn _).out.mono ?_
          rintro e w13 ⟨rfl, hb13⟩
          have hB13 := bthen hB11 hB11.size hb13
          have hk13 := hk12.below hb13 hk12.lt
          have hk14 := hk11.below hb13 hk11.lt
          have q13 := run_ldvI_mid (range_blk hk13) hfl32
          have q14 := run_ldvI_mid (range_blk hk14) hfl32
          clear hb13 hk13 hk14
          go_wp2_with (first
            | (go_at_call 21; go_must (refine (hna _).out.mono ?_); rintro e w15 ⟨rfl, rfl⟩)
            | (go_at_call 22; go_must (refine (hnar _).out.mono ?_); rintro e w16 ⟨rfl, rfl⟩))
          go_ret
          exact ⟨rfl, hB13⟩
    · have hn1i : (100 : Int) < (name.length : Int) := by omega
      go_wp2_with (first
        | (go_at_call 9; go_must (refine (knows_calls _).mono ?_); rintro e w3 ⟨rfl, hb3⟩))
      go_ret
      exact ⟨rfl, hb3⟩
  · have hs1i : (1500 : Int) < (s.length : Int) := by omega
    go_wp2_with (first
      | (go_at_call 9; go_must (refine (knows_calls _).mono ?_); rintro e w3 ⟨rfl, hb3⟩))
    go_ret
    exact ⟨rfl, hb3⟩
end Go.Proofs.Ytlpiefopegjgjaa
