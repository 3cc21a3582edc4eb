/- The walk of layer 9 (ref): Get. Condition: internal/bytealg.MaxLen holds an int. -/
import Derived.Test.YtlpiefopegjgjaaGetW
import Derived.Test.YtlpiefopegjgjaaRefY
import Derived.Test.YtlpiefopegjgjaaUnhex
import Derived.Test.YtlpiefopegjgjaaRefF
namespace Go.Proofs.Ytlpiefopegjgjaa
open Go.RowKit
/-- What a text's refs are told as. -/
def GetPost (base : Nat) (no yes : Value) (o : Option (List RefL)) (e : Ending) (w' : World) : Prop := match o with
  | some l => ∃ v', e = .returned (.tuple #[v', yes]) ∧ OwnRefs w' base v' l ∧ RefsOk l
  | none => e = .returned (.tuple #[.slice none 0 0, no])
theorem GetPost.yes_ {base : Nat} {no yes : Value} {o : Option (List RefL)} {e : Ending} {w' : World} {l : List RefL} (h : o = some l) (v' : Value) (he : e = .returned (.tuple #[v', yes])) (ho : OwnRefs w' base v' l) (hok : RefsOk l) : GetPost base no yes o e w' := by
  rw [h]; exact ⟨v', he, ho, hok⟩
theorem GetPost.no_ {base : Nat} {no yes : Value} {o : Option (List RefL)} {e : Ending} {w' : World} (h : o = none) (he : e = .returned (.tuple #[.slice none 0 0, no])) : GetPost base no yes o e w' := by
  rw [h]; exact he
theorem cut_yes {s a b : List UInt8} {c : UInt8} (h : cutB c s = some (a, b)) (w : World) (hs : s.length < 4294967281) (hm : MaxK w) :
    Calls Try.prog 32 #[.string (B s), .string ⟨#[c]⟩] w fun e w' => e = .returned (.tuple #[.string (B a), .string (B b), .bool true]) ∧ Below w.heap.size w w' := by
  refine (cut_calls s c w hs hm).mono ?_
  rintro e w' ⟨he, n, rfl⟩
  rw [h] at he
  exact ⟨he, bdrewN (Below.refl _ _) n⟩
theorem cut_no {s : List UInt8} {c : UInt8} (h : cutB c s = none) (w : World) (hs : s.length < 4294967281) (hm : MaxK w) :
    Calls Try.prog 32 #[.string (B s), .string ⟨#[c]⟩] w fun e w' => e = .returned (.tuple #[.string (B s), .string (B []), .bool false]) ∧ Below w.heap.size w w' := by
  refine (cut_calls s c w hs hm).mono ?_
  rintro e w' ⟨he, n, rfl⟩
  rw [h] at he
  exact ⟨he, bdrewN (Below.refl _ _) n⟩
theorem cut_any (s : List UInt8) (c : UInt8) (w : World) (hs : s.length < 4294967281) (hm : MaxK w) :
    ∃ a b t, a.length ≤ s.length ∧ Calls Try.prog 32 #[.string (B s), .string ⟨#[c]⟩] w fun e w' => e = .returned (.tuple #[.string (B a), .string (B b), .bool t]) ∧ Below w.heap.size w w' := by
  cases h : cutB c s with
  | none => exact ⟨s, [], false, Nat.le_refl _, cut_no h w hs hm⟩
  | some p =>
    obtain ⟨a, b⟩ := p
    refine ⟨a, b, true, ?_, cut_yes h w hs hm⟩
    rw [(cutB_some.1 h).1]
    simp
theorem getGo_end {n : Nat} {acc : List RefL} {G : Option (List RefL)} (h : getGo n [] acc = G) : G = some acc := by
  rw [← h]; cases n <;> rfl
theorem go_no1 {n : Nat} {r : List UInt8} {acc : List RefL} {G : Option (List RefL)} (h : getGo n r acc = G) (hr : r ≠ []) (hn : r.length ≤ n) (hc : cutB 10 r = none) : G = none := by
  cases n with
  | zero => exact absurd (List.eq_nil_of_length_eq_zero (by omega)) hr
  | succ n => rw [← h, getGo, if_neg hr, hc]
theorem go_no2 {n : Nat} {r line rest : List UInt8} {acc : List RefL} {G : Option (List RefL)} (h : getGo n r acc = G) (hr : r ≠ []) (hn : r.length ≤ n) (hc : cutB 10 r = some (line, rest)) (hc2 : cutB 32 line = none) : G = none := by
  cases n with
  | zero => exact absurd (List.eq_nil_of_length_eq_zero (by omega)) hr
  | succ n => rw [← h, getGo, if_neg hr, hc]; simp only [hc2]
theorem go_no3 {n : Nat} {r line rest hex name : List UInt8} {acc : List RefL} {G : Option (List RefL)} (h : getGo n r acc = G) (hr : r ≠ []) (hn : r.length ≤ n) (hc : cutB 10 r = some (line, rest)) (hc2 : cutB 32 line = some (hex, name)) (hx : isHex hex = false) : G = none := by
  cases n with
  | zero => exact absurd (List.eq_nil_of_length_eq_zero (by omega)) hr
  | succ n => rw [← h, getGo, if_neg hr, hc]; simp [hc2, hx]
theorem go_yes {n : Nat} {r line rest hex name : List UInt8} {acc : List RefL} {G : Option (List RefL)} (h : getGo n r acc = G) (hr : r ≠ []) (hn : r.length ≤ n) (hc : cutB 10 r = some (line, rest)) (hc2 : cutB 32 line = some (hex, name)) (hx : isHex hex = true) :
    ∃ n', rest.length ≤ n' ∧ getGo n' rest (acc ++ [⟨name, unhexId hex⟩]) = G := by
  cases n with
  | zero => exact absurd (List.eq_nil_of_length_eq_zero (by omega)) hr
  | succ n =>
    rw [getGo, if_neg hr, hc] at h
    simp only [hc2, hx, if_true] at h
    have := cutB_len hc
    exact ⟨n, by omega, h⟩
theorem getP_no {s : List UInt8} (h : getGo s.length s [] = none) : getP s = none := by unfold getP; rw [h]
theorem getP_fine {s : List UInt8} {l : List RefL} (h : getGo s.length s [] = some l) (hf : fineL l = true) : getP s = some l := by unfold getP; rw [h]; simp [hf]
theorem getP_bad {s : List UInt8} {l : List RefL} (h : getGo s.length s [] = some l) (hf : fineL l = false) : getP s = none := by unfold getP; rw [h]; simp [hf]
set_option maxRecDepth 100000 in
set_option maxHeartbeats 4000000 in
theorem get_calls (s : List UInt8) (hs : s.length ≤ 100000) (w : World) (hm : MaxK w) :
    Calls Try.prog 17 #[.string (B s)] w fun e w' => GetPost w.heap.size (.int .i64 2) (.int .i64 0) (getP s) e w' ∧ Below w.heap.size w w' := by
  go_enter Try.func17, Try.ntmps17
  go_wp2
  go_loopw [0, 4] (fun vs vo wr => ∃ (n : Nat) (r : List UInt8) (acc : List RefL), vs = .string (B r) ∧ r.length ≤ n ∧ acc.length + r.length ≤ s.length ∧ OwnRefs wr w.heap.size vo acc ∧ RefsOk acc ∧ Hid (getGo n r acc = getGo s.length s []) ∧ Below w.heap.size w wr) (fun vs _ _ => (strOf vs).length)
  case atStart => exact ⟨s.length, s, [], rfl, Nat.le_refl _, by simp, World.ownsRow_nil _ _ _ _, fun x hx => by simp at hx, rfl, Below.refl _ _⟩
  case round =>
    obtain ⟨n, r, acc, rfl, hn, hlen, hown, hoo, hgo, hbel⟩ := hrel
    have hm := hm.below hbel
    have hsz := hbel.size
    cases r with
    | nil =>
      have hend := Lib.hid (getGo_end hgo.out)
      clear hgo
      have hfin := Lib.hid (fine_calls acc hoo _ wr (OwnRefs.refs hoo hown))
      cases hfl : fineL acc
      · have hno := Lib.hid (getP_bad hend.out hfl)
        rw [hfl] at hfin
        clear hfl
        go_wp2_with (first
          | (go_at_call 14; go_must (refine hfin.out.mono ?_); rintro e w2 ⟨rfl, hb2⟩))
        go_ret2
        exact ⟨GetPost.no_ hno.out rfl, bthen hbel hsz hb2⟩
      · have hyes := Lib.hid (getP_fine hend.out hfl)
        rw [hfl] at hfin
        clear hfl
        go_wp2_with (first
          | (go_at_call 14; go_must (refine hfin.out.mono ?_); rintro e w2 ⟨rfl, hb2⟩))
        go_ret2
        exact ⟨GetPost.yes_ hyes.out _ rfl (own_below hown hb2) hoo, bthen hbel hsz hb2⟩
    | cons c r =>
      have hne : (c :: r) ≠ [] := by simp
      have hlen1 : (c :: r).length ≤ s.length := by omega
      generalize hR : c :: r = R at *
      have hemp : R.isEmpty = false := by rw [← hR]; rfl
      clear hR
      have hneh := Lib.hid hne
      clear hne
      have hc2 := fun (q : List UInt8) (W : World) (h : q.length ≤ s.length) (hk : MaxK W) => cut_any q 32 W (by omega) hk
      have hux := fun (q : List UInt8) (W : World) (h : q.length ≤ s.length) => unhex_calls q (by omega) W
      cases hc : cutB 10 R with
      | none =>
        have hno := Lib.hid (getP_no (go_no1 hgo.out hneh.out hn hc))
        have h1 := Lib.hid (cut_no hc wr (by omega) hm)
        clear hc hgo
        go_wp2_with (fail)
        go_at_call 32
        refine h1.out.mono ?_
        rintro e w1 ⟨rfl, hb1⟩
        obtain ⟨a, b, t, ha, h2⟩ := hc2 R w1 hlen1 (hm.below hb1)
        have h2 := Lib.hid h2
        clear hc2 h1
        go_wp2_with (fail)
        go_at_call 32
        refine h2.out.mono ?_
        rintro e w2 ⟨rfl, hb2⟩
        have h3 := Lib.hid (hux a w2 (by omega))
        have hlx := unhexOr_length a
        clear hux h2
        go_wp2_with (first
          | (go_at_call 33; go_must (refine h3.out.mono ?_); rintro e w3 ⟨rfl, hb3⟩)
          | ((with_reducible refine lit_new_id (.tmp 11) (.tmp 30) (unhexOr a) hlx _ ?_ ?_ ?_ ?_); rfl; rfl; rfl; intro W4 hb4 hbl4))
        go_ret2
        exact ⟨GetPost.no_ hno.out rfl, bthen (bthen (bthen (bthen hbel hsz hb1) (by have := hb1.size; omega) hb2) (by have := hb1.size; have := hb2.size; omega) hb3) (by have := hb1.size; have := hb2.size; have := hb3.size; omega) hbl4⟩
      | some p =>
        obtain ⟨line, rest⟩ := p
        have hll : line.length + rest.length < R.length := by rw [(cutB_some.1 hc).1, List.length_append, List.length_cons]; omega
        have h1 := Lib.hid (cut_yes hc wr (by omega) hm)
        cases hcc : cutB 32 line with
        | none =>
          have hno := Lib.hid (getP_no (go_no2 hgo.out hneh.out hn hc hcc))
          have hc3 := fun (W : World) (hk : MaxK W) => Lib.hid (cut_no hcc W (by omega) hk)
          have h3 := fun (W : World) => Lib.hid (hux line W (by omega))
          have hlx := unhexOr_length line
          clear hc hcc hgo hux hc2
          go_wp2_with (fail)
          go_at_call 32
          refine h1.out.mono ?_
          rintro e w1 ⟨rfl, hb1⟩
          have h2 := hc3 w1 (hm.below hb1)
          clear hc3 h1
          go_wp2_with (fail)
          go_at_call 32
          refine h2.out.mono ?_
          rintro e w2 ⟨rfl, hb2⟩
          clear h2
          go_wp2_with (first
            | (go_at_call 33; go_must (refine (h3 _).out.mono ?_); rintro e w3 ⟨rfl, hb3⟩)
            | ((with_reducible refine lit_new_id (.tmp 11) (.tmp 30) (unhexOr line) hlx _ ?_ ?_ ?_ ?_); rfl; rfl; rfl; intro W4 hb4 hbl4))
          go_ret2
          exact ⟨GetPost.no_ hno.out rfl, bthen (bthen (bthen (bthen hbel hsz hb1) (by have := hb1.size; omega) hb2) (by have := hb1.size; have := hb2.size; omega) hb3) (by have := hb1.size; have := hb2.size; have := hb3.size; omega) hbl4⟩
        | some p =>
          obtain ⟨hex, name⟩ := p
          have hnl : hex.length + name.length < line.length := by rw [(cutB_some.1 hcc).1, List.length_append, List.length_cons]; omega
          have hc3 := fun (W : World) (hk : MaxK W) => Lib.hid (cut_yes hcc W (by omega) hk)
          cases hx : isHex hex with
          | false =>
            have hno := Lib.hid (getP_no (go_no3 hgo.out hneh.out hn hc hcc hx))
            have h3 := fun (W : World) => Lib.hid (hux hex W (by omega))
            rw [hx] at h3
            have hlx := unhexOr_length hex
            clear hc hcc hgo hux hc2 hx
            go_wp2_with (fail)
            go_at_call 32
            refine h1.out.mono ?_
            rintro e w1 ⟨rfl, hb1⟩
            have h2 := hc3 w1 (hm.below hb1)
            clear hc3 h1
            go_wp2_with (fail)
            go_at_call 32
            refine h2.out.mono ?_
            rintro e w2 ⟨rfl, hb2⟩
            clear h2
            go_wp2_with (first
              | (go_at_call 33; go_must (refine (h3 _).out.mono ?_); rintro e w3 ⟨rfl, hb3⟩)
              | ((with_reducible refine lit_new_id (.tmp 11) (.tmp 30) (unhexOr hex) hlx _ ?_ ?_ ?_ ?_); rfl; rfl; rfl; intro W4 hb4 hbl4))
            go_ret2
            exact ⟨GetPost.no_ hno.out rfl, bthen (bthen (bthen (bthen hbel hsz hb1) (by have := hb1.size; omega) hb2) (by have := hb1.size; have := hb2.size; omega) hb3) (by have := hb1.size; have := hb2.size; have := hb3.size; omega) hbl4⟩
          | true =>
            obtain ⟨n', hn', hgo'⟩ := go_yes hgo.out hneh.out hn hc hcc hx
            have hgo' := Lib.hid hgo'
            have h3 := fun (W : World) => Lib.hid (hux hex W (by omega))
            rw [hx, show unhexOr hex = unhexId hex by rw [unhexOr, hx]; rfl] at h3
            have hlx := unhexId_length hex
            have hrok : RefOk ⟨name, unhexId hex⟩ := ⟨hlx, by show name.length ≤ _; omega⟩
            have k1 : acc.length + 1 ≤ 9223372036854775807 := by omega
            have k2 : (acc.length + 1) * 48 ≤ 140737488355328 := by omega
            clear hc hcc hgo hux hc2 hx
            go_wp2_with (fail)
            go_at_call 32
            refine h1.out.mono ?_
            rintro e w1 ⟨rfl, hb1⟩
            have h2 := hc3 w1 (hm.below hb1)
            clear hc3 h1
            go_wp2_with (fail)
            go_at_call 32
            refine h2.out.mono ?_
            rintro e w2 ⟨rfl, hb2⟩
            clear h2
            go_wp2_with (first
              | (go_at_call 33; go_must (refine (h3 _).out.mono ?_); rintro e w3 ⟨rfl, hb3⟩)
              | ((with_reducible refine lit_new_id (.tmp 11) (.tmp 30) (unhexId hex) hlx _ ?_ ?_ ?_ ?_); rfl; rfl; rfl; intro W4 hb4 hbl4
                 have bel4 := bthen (bthen (bthen (bthen hbel hsz hb1) (by have := hb1.size; omega) hb2) (by have := hb1.size; have := hb2.size; omega) hb3) (by have := hb1.size; have := hb2.size; have := hb3.size; omega) hbl4
                 have own4 := own_below (own_below (own_below (own_below hown hb1) hb2) hb3) hbl4
                 clear hbl4)
              | ((with_reducible refine lit_load_id (.tmp 11) _ 0 (unhexId hex) hlx (range_blk hb4) ?_ ?_); rfl)
              | ((with_reducible refine lit_build_ref (.tmp 43) (.tmp 44) name (unhexId hex) hlx ?_ ?_ ?_); rfl; rfl)
              | ((with_reducible refine lit_slice_ref (.tmp 45) ⟨name, unhexId hex⟩ hrok ?_ ?_); rfl
                 have hownA := World.ownsRow.alloc own4 (.cells (refC ⟨name, unhexId hex⟩).toArray 54)
                 have hnewA := new_of_own own4 54 (refC ⟨name, unhexId hex⟩).toArray
                 have hbelA := bel4.alloc bel4.size (.cells (refC ⟨name, unhexId hex⟩).toArray 54))
              | (at_builtin
                 (with_reducible refine lit_append (.tmp 42) (.tmp 46) 1 _ Try.refTy hownA hnewA (refC_size hrok) (refC_all _) k1 k2 w hbelA hbelA.size ?_ ?_ ?_); rfl; rfl
                 intro v5 w5 hown5' hbel5 hg5
                 have hown5 := own_ref_more hown5'))
            go_roundw
            case rel =>
              first
                | exact ⟨n', rest, _, rfl, hn', by simp; omega, hown5, refsOk_one hoo hrok, hgo', hbel5⟩
                | ((repeat apply Exists.intro); exact ⟨⟨n', rest, _, rfl, hn', by simp; omega, hown5, refsOk_one hoo hrok, hgo', hbel5⟩, rfl⟩)
            case measure => simp [strOf_B]; omega
end Go.Proofs.Ytlpiefopegjgjaa
