/- The walk of layer 9's statement RefUpdates. No condition. -/
import Derived.Test.YtlpiefopegjgjaaRefKw
namespace Go.Proofs.Ytlpiefopegjgjaa
open Go.RowKit
theorem resU_ok {l : List RefL} (hok : RefsOk l) {u : List UpdL} (hu : UpdsOk u) (all : Bool) : RefsOk (resU l u all) := by
  unfold resU
  split
  · exact hok
  · exact runP_ok hok hu _
theorem own_nats {w : World} {base : Nat} {e : TypeId} {v : Value} {l : List Nat} (h : OwnNs w base e v l) : ∃ A cap, v = .slice A l.length cap ∧ (0 < l.length → ∃ g, A = some ⟨g, 0, none⟩ ∧ g < w.heap.size ∧ ∀ k x : Nat, l[k]? = some x → w.cell? ⟨g, k, none⟩ = some (.int .i64 x)) := by
  rcases Row.of_own (natK l) h with ⟨rfl, rfl⟩ | ⟨g, cap, rfl, hg, hrow⟩
  · exact ⟨none, 0, rfl, fun h => absurd h (by simp)⟩
  · exact ⟨_, cap, rfl, fun _ => ⟨g, rfl, hrow.lt, fun k x hx => Row.nat_at hrow hx⟩⟩
set_option maxRecDepth 100000 in
set_option maxHeartbeats 4000000 in
theorem refUpdates_calls (l : List RefL) (hok : RefsOk l) (vl : Value) (u : List UpdL) (huok : UpdsOk u) (vu : Value) (all : Bool) (w : World) (hl : Refs w vl l) (hu : Upds w vu u) :
    Calls Try.prog 3 #[vl, vu, .bool all] w fun e w' => e = .returned (.bool true) ∧ Below w.heap.size w w' := by
  go_enter Try.func3, Try.ntmps3
  go_wp2_with (fail)
  go_at_call 7
  refine (few_calls l vl w hl).mono ?_
  rintro e w1 ⟨⟨b1, rfl, hf1⟩, rfl⟩
  go_wp2_with (fail)
  go_at_call 8
  refine (short_calls u vu w hu).mono ?_
  rintro e w2 ⟨⟨b2, rfl, hf2⟩, rfl⟩
  cases b1
  · clear hf1 hf2
    go_wp2_with (first
      | (go_at_call 9; go_must (refine (knows_calls _).mono ?_); rintro e w3 ⟨rfl, hb3⟩))
    go_ret
    exact ⟨rfl, hb3⟩
  cases b2
  · clear hf1 hf2
    go_wp2_with (first
      | (go_at_call 9; go_must (refine (knows_calls _).mono ?_); rintro e w3 ⟨rfl, hb3⟩))
    go_ret
    exact ⟨rfl, hb3⟩
  have h70 : l.length ≤ 70 := hf1 rfl
  have h30 : u.length ≤ 30 := hf2 rfl
  clear hf1 hf2
  have hupd := update_calls l hok (by omega) vl u huok (by omega) vu all w hl hu
  have hfin := fun W (hb : Below w.heap.size w W) => Lib.hid (refFine_calls l hok vl W (hl.below hb))
  have hknow := fun W => Lib.hid (knows_calls W)
  cases hfl : fineL l
  · rw [hfl] at hupd hfin
    have hupH : Hid (Calls Try.prog 10 #[vl, vu, .bool all] w fun e w' => ∃ v1 v2, e = .returned (.tuple #[v1, v2, .int .i64 1]) ∧ OwnRefs w' w.heap.size v1 [] ∧ OwnNs w' w.heap.size 28 v2 [] ∧ Below w.heap.size w w') := hupd
    clear hupd
    clear hfl
    go_wp2_with (first
      | (go_at_call 10; go_must (refine hupH.out.mono ?_); rintro e w3 ⟨v1, v2, rfl, ho1, hn1, hb3⟩
         obtain ⟨A1, cap1, rfl⟩ := own_form' ho1
         obtain ⟨A2, cap2, rfl⟩ := own_form' hn1
         have hf3 := hfin w3 hb3
         clear hupH ho1 hn1 hfin)
      | (go_at_call 11; go_must (refine hf3.out.mono ?_); rintro e w4 ⟨rfl, hb4⟩
         have hk4 := hknow w4)
      | (go_at_call 9; go_must (refine hk4.out.mono ?_); rintro e w5 ⟨rfl, hb5⟩))
    go_ret
    have hb34 := bthen hb3 hb3.size hb4
    exact ⟨rfl, bthen hb34 hb34.size hb5⟩
  · rw [hfl] at hupd hfin
    have hupH : Hid (Calls Try.prog 10 #[vl, vu, .bool all] w fun e w' => ∃ v1 v2, e = .returned (.tuple #[v1, v2, .int .i64 0]) ∧ OwnRefs w' w.heap.size v1 (resU l u all) ∧ OwnNs w' w.heap.size 28 v2 (toldU l u all) ∧ Below w.heap.size w w') := hupd
    clear hupd
    have hrupd := fun W (hb : Below w.heap.size w W) => refUpdate_calls l hok (by omega) vl u huok (by omega) vu all W (hl.below hb) (hu.below hb)
    rw [res_eq hfl, told_eq hfl] at hrupd
    have hrok := resU_ok hok huok all
    have htl := toldU_length l u all
    have hsame := fun W va vb (ha : Refs W va (resU l u all)) (hb : Refs W vb (resU l u all)) => Lib.hid (same_calls _ _ hrok hrok va vb W ha hb)
    clear hfl hl hu
    generalize resU l u all = R at *
    generalize toldU l u all = T at *
    have hRR : decide (R = R) = true := decide_eq_true rfl
    rw [hRR] at hsame
    clear hRR
    go_wp2_with (first
      | (go_at_call 10; go_must (refine hupH.out.mono ?_); rintro e w3 ⟨v1, v2, rfl, ho1, hn1, hb3⟩
         have hf3 := hfin w3 hb3
         clear hupH hfin)
      | (go_at_call 11; go_must (refine hf3.out.mono ?_); rintro e w4 ⟨rfl, hb4⟩
         have hb34 := bthen hb3 hb3.size hb4
         have hu4 := Lib.hid (hrupd w4 hb34)
         have ho4 := own_below ho1 hb4
         have hn4 := own_below hn1 hb4
         clear hf3 hrupd ho1 hn1 hb3 hb4)
      | (go_at_call 12; go_must (refine hu4.out.mono ?_); rintro e w5 ⟨v3, v4, rfl, ho5, hn5, hb5⟩
         have hb35 := bthen hb34 hb34.size hb5
         have ho6 := own_below ho4 hb5
         have hn6 := own_below hn4 hb5
         have hs6 := hsame w5 _ _ (OwnRefs.refs hrok ho6) (OwnRefs.refs hrok ho5)
         obtain ⟨A2, cap2, rfl, hc2⟩ := own_nats hn6
         obtain ⟨A4, cap4, rfl, hc4⟩ := own_nats hn5
         clear hu4 hsame ho4 hn4 hb5 hb34 ho5 hn5 ho6 hn6)
      | (go_at_call 13; go_must (refine hs6.out.mono ?_); rintro e w6 ⟨rfl, hb6⟩
         have hb36 := bthen hb35 hb35.size hb6
         clear hs6))
    go_loopw [16] (fun i wr => ∃ k : Nat, i = .int .i64 k ∧ k ≤ T.length ∧ Below w5.heap.size w5 wr ∧ Below w.heap.size w wr) (fun i _ => T.length - (intOf i).toNat)
    case atStart => exact ⟨0, rfl, by omega, hb6, hb36⟩
    case round =>
      clear hb6 hb36
      obtain ⟨k, rfl, hk, hb6, hb36⟩ := hrel
      by_cases hlt : k < T.length
      · have hki : (k : Int) < (T.length : Int) := by omega
        obtain ⟨g2, rfl, hg2, hat2⟩ := hc2 (by omega)
        obtain ⟨g4, rfl, hg4, hat4⟩ := hc4 (by omega)
        obtain ⟨x, hx⟩ : ∃ x, T[k]? = some x := ⟨_, List.getElem?_eq_getElem hlt⟩
        have c2 := (hb6.cell (p := ⟨g2, k, none⟩) hg2).trans (hat2 k x hx)
        have c4 := (hb6.cell (p := ⟨g4, k, none⟩) hg4).trans (hat4 k x hx)
        clear hx hat2 hat4 hc2 hc4 hknow
        go_wp2
        go_quiet (fail)
        go_wp2
        go_roundw
        case rel => exact ⟨k + 1, by go_num, by omega, bdrewN hb6 nq, bdrewN hb36 nq⟩
        case measure => simp [intOf]; omega
      · have hki : ¬ (k : Int) < (T.length : Int) := by omega
        have hk6 := hknow wr
        clear hc2 hc4 hknow
        go_wp2_with (first
          | (go_at_call 9; go_must (refine hk6.out.mono ?_); rintro e w7 ⟨rfl, hb7⟩))
        go_ret
        exact ⟨rfl, bthen hb36 hb36.size hb7⟩
end Go.Proofs.Ytlpiefopegjgjaa
