/- The walk of layer 10's law: CapsTells. Condition: internal/bytealg.MaxLen holds an int. -/
import Derived.Test.YtakodjmembpdjaaDoorCapL
namespace Go.Proofs.YtakodjmembpdjaaDoor
open Go.RowKit
theorem getW_back {s : Txt} {m : List Txt} (h : getW s = some m) : fineW m = true ∧ joinW m = s := by
  unfold getW at h
  split at h
  · rename_i h0
    injection h with h; subst h; subst h0
    exact ⟨by decide, by decide⟩
  · split at h
    · rename_i h1
      injection h with h; subst h
      exact ⟨h1, join_split s⟩
    · cases h
theorem putC_fine {l : List Txt} (h : fineW l = true) : putC l = .tuple #[.string (B (joinW l)), .int .i64 0] := by unfold putC; rw [h]; rfl
theorem putC_not {l : List Txt} (h : fineW l = false) : putC l = .tuple #[.string (B []), .int .i64 1] := by unfold putC; rw [h]; rfl
set_option maxRecDepth 100000 in
set_option maxHeartbeats 4000000 in
theorem tells_calls (l : List Txt) (v : Value) (s x : Txt) (w : World) (hm : MaxK w) (h1 : Strs w v l) :
    Calls Tryd.prog 4 #[v, .string (B s), .string (B x)] w fun e w' => e = .returned (.bool true) ∧ Below w.heap.size w w' := by
  have f1 := Lib.hid (few_calls l v w h1)
  have kn := fun W hb => Lib.hid (knows_calls W (hm.below (w' := W) hb))
  have p1 := fun W hb => Lib.hid (put_calls l v W (h1.below (w' := W) hb))
  have fi := fun W hb => Lib.hid (fine_calls l v W (h1.below (w' := W) hb))
  have rf := fun (hs : ShortW l) W hb => Lib.hid (refFine_calls l hs v W (h1.below (w' := W) hb))
  have rp := fun (hf : fineW l = true) W hb => Lib.hid (refPut_calls l v W (h1.below (w' := W) hb) hf)
  have hh1 := fun W hb => Lib.hid (has_calls l v x W (h1.below (w' := W) hb))
  have hh2 := fun W hb => Lib.hid (refHas_calls l v x W (h1.below (w' := W) hb))
  generalize hasW l x = H at *
  have hlen := h1.len
  obtain ⟨A1, k1, rfl, _⟩ := h1
  go_enter Tryd.func4, Tryd.ntmps4
  go_wp2_with (fail)
  refine (Calls.mono f1.out ?_)
  rintro e w1 ⟨⟨b1, rfl, hsh⟩, hb1⟩
  clear f1
  cases b1 with
  | false =>
    have kn := kn w1 hb1
    clear p1 fi rf rp hh1 hh2 hsh
    go_wp2_with (first
      | ((with_reducible refine kn.out.mono ?_); rintro e w3 ⟨rfl, hb3⟩))
    go_ret
    exact ⟨rfl, bthen hb1 hb1.size hb3⟩
  | true =>
    have rf := rf (hsh rfl) w1 hb1
    clear hsh
    by_cases i1 : 500 < s.length
    · have i1' : (500 : Int) < (s.length : Int) := by omega
      have kn := kn w1 hb1
      clear p1 fi rf rp hh1 hh2
      go_wp2_with (first
        | ((with_reducible refine kn.out.mono ?_); rintro e w3 ⟨rfl, hb3⟩))
      go_ret
      exact ⟨rfl, bthen hb1 hb1.size hb3⟩
    have i1' : ¬ (500 : Int) < (s.length : Int) := by omega
    by_cases i2 : 100 < x.length
    · have i2' : (100 : Int) < (x.length : Int) := by omega
      have kn := kn w1 hb1
      clear p1 fi rf rp hh1 hh2
      go_wp2_with (first
        | ((with_reducible refine kn.out.mono ?_); rintro e w3 ⟨rfl, hb3⟩))
      go_ret
      exact ⟨rfl, bthen hb1 hb1.size hb3⟩
    have i2' : ¬ (100 : Int) < (x.length : Int) := by omega
    have gg := fun W hb => Lib.hid (get_calls s W (by omega) (hm.below (w' := W) hb))
    have rg := fun W => Lib.hid (refGet_calls s W (by omega))
    have pm := fun m v W hv => Lib.hid (put_calls m v W hv)
    clear hm
    obtain ⟨U, hU⟩ : ∃ U, joinW ((getW s).getD []) = U := ⟨_, rfl⟩
    have pm0 := pm ((getW s).getD [])
    have hfm : fineW ((getW s).getD []) = true := by
      cases hG : getW s with
      | none => decide
      | some m => exact (getW_back hG).1
    rw [putC_fine hfm, hU] at pm0
    have hUs : ∀ m, getW s = some m → U = s := fun m hm => by rw [← hU, hm]; exact (getW_back hm).2
    have hcs : codeG s = if (getW s).isSome then 0 else 2 := rfl
    clear pm hfm hU
    generalize codeG s = c at *
    have sm := fun va vb W ha hb => Lib.hid (same_calls ((getW s).getD []) va vb W ha hb)
    generalize (getW s).getD [] = m at *
    cases hG : getW s with
    | none =>
      have hc : c = 2 := by rw [hcs, hG]; rfl
      subst hc
      rw [hG] at rg
      clear hcs hUs
      replace hG := Lib.hid hG
      cases hF : fineW l with
      | false =>
        rw [hF] at rf fi
        rw [putC_not hF] at p1
        clear rp
        replace hF := Lib.hid hF
        go_wp2_with (first
          | ((with_reducible refine rf.out.mono ?_); rintro e w2 ⟨rfl, g2⟩
             have b2 := bthen hb1 hb1.size g2
             have p1 := p1 w2 b2
             clear rf)
          | ((with_reducible refine p1.out.mono ?_); rintro e w3 ⟨rfl, g3⟩
             have b3 := bthen b2 b2.size g3
             have fi := fi w3 b3
             clear p1)
          | ((with_reducible refine fi.out.mono ?_); rintro e w4 ⟨rfl, g4⟩
             have b4 := bthen b3 b3.size g4
             have gg := gg w4 b4
             clear fi)
          | ((with_reducible refine gg.out.mono ?_); rintro e w5 ⟨v5, rfl, o5, g5⟩
             have b5 := bthen b4 b4.size g5
             obtain ⟨A5, k5, rfl⟩ := own_form' o5
             have s5 := o5.strs
             have rg := rg w5
             clear gg o5)
          | ((with_reducible refine rg.out.mono ?_); rintro e w6 ⟨v6, rfl, o6, g6⟩
             have b6 := bthen b5 b5.size g6
             obtain ⟨A6, k6, rfl⟩ := own_form' o6
             have s6 := s5.below g6
             have sm := sm _ _ w6 s6 o6.strs
             clear rg o6 s5)
          | ((with_reducible refine sm.out.mono ?_); rintro e w7 ⟨rfl, g7⟩
             have b7 := bthen b6 b6.size g7
             have pm1 := pm0 _ w7 (s6.below g7)
             clear sm s6 pm0)
          | ((with_reducible refine pm1.out.mono ?_); rintro e w8 ⟨rfl, g8⟩
             have b8 := bthen b7 b7.size g8
             have kn := kn w8 b8
             clear pm1)
          | ((with_reducible refine kn.out.mono ?_); rintro e w9 ⟨rfl, g9⟩
             have b9 := bthen b8 b8.size g9
             have hh1 := hh1 w9 b9
             clear kn)
          | ((with_reducible refine hh1.out.mono ?_); rintro e w10 ⟨rfl, g10⟩
             have b10 := bthen b9 b9.size g10
             have hh2 := hh2 w10 b10
             clear hh1)
          | ((with_reducible refine hh2.out.mono ?_); rintro e w11 ⟨rfl, g11⟩
             have b11 := bthen b10 b10.size g11
             clear hh2))
        all_goals try (exfalso; omega)
        go_ret
        exact ⟨by cases H <;> rfl, b11⟩
      | true =>
        rw [hF] at rf fi
        rw [putC_fine hF] at p1
        have rp := rp hF
        replace hF := Lib.hid hF
        generalize joinW l = J at *
        go_wp2_with (first
          | ((with_reducible refine rf.out.mono ?_); rintro e w2 ⟨rfl, g2⟩
             have b2 := bthen hb1 hb1.size g2
             have p1 := p1 w2 b2
             clear rf)
          | ((with_reducible refine p1.out.mono ?_); rintro e w3 ⟨rfl, g3⟩
             have b3 := bthen b2 b2.size g3
             have fi := fi w3 b3
             clear p1)
          | ((with_reducible refine fi.out.mono ?_); rintro e w4 ⟨rfl, g4⟩
             have b4 := bthen b3 b3.size g4
             have rp := rp w4 b4
             clear fi)
          | ((with_reducible refine rp.out.mono ?_); rintro e w4' ⟨rfl, g4'⟩
             have b4' := bthen b4 b4.size g4'
             have gg := gg w4' b4'
             clear rp)
          | ((with_reducible refine gg.out.mono ?_); rintro e w5 ⟨v5, rfl, o5, g5⟩
             have b5 := bthen b4' b4'.size g5
             obtain ⟨A5, k5, rfl⟩ := own_form' o5
             have s5 := o5.strs
             have rg := rg w5
             clear gg o5)
          | ((with_reducible refine rg.out.mono ?_); rintro e w6 ⟨v6, rfl, o6, g6⟩
             have b6 := bthen b5 b5.size g6
             obtain ⟨A6, k6, rfl⟩ := own_form' o6
             have s6 := s5.below g6
             have sm := sm _ _ w6 s6 o6.strs
             clear rg o6 s5)
          | ((with_reducible refine sm.out.mono ?_); rintro e w7 ⟨rfl, g7⟩
             have b7 := bthen b6 b6.size g7
             have pm1 := pm0 _ w7 (s6.below g7)
             clear sm s6 pm0)
          | ((with_reducible refine pm1.out.mono ?_); rintro e w8 ⟨rfl, g8⟩
             have b8 := bthen b7 b7.size g8
             have kn := kn w8 b8
             clear pm1)
          | ((with_reducible refine kn.out.mono ?_); rintro e w9 ⟨rfl, g9⟩
             have b9 := bthen b8 b8.size g9
             have hh1 := hh1 w9 b9
             clear kn)
          | ((with_reducible refine hh1.out.mono ?_); rintro e w10 ⟨rfl, g10⟩
             have b10 := bthen b9 b9.size g10
             have hh2 := hh2 w10 b10
             clear hh1)
          | ((with_reducible refine hh2.out.mono ?_); rintro e w11 ⟨rfl, g11⟩
             have b11 := bthen b10 b10.size g11
             clear hh2))
        all_goals try (exfalso; omega)
        go_ret
        exact ⟨by cases H <;> rfl, b11⟩
    | some m' =>
      have hc : c = 0 := by rw [hcs, hG]; rfl
      subst hc
      rw [hUs _ hG] at pm0
      rw [hG] at rg
      clear hcs hUs
      replace hG := Lib.hid hG
      cases hF : fineW l with
      | false =>
        rw [hF] at rf fi
        rw [putC_not hF] at p1
        clear rp
        replace hF := Lib.hid hF
        go_wp2_with (first
          | ((with_reducible refine rf.out.mono ?_); rintro e w2 ⟨rfl, g2⟩
             have b2 := bthen hb1 hb1.size g2
             have p1 := p1 w2 b2
             clear rf)
          | ((with_reducible refine p1.out.mono ?_); rintro e w3 ⟨rfl, g3⟩
             have b3 := bthen b2 b2.size g3
             have fi := fi w3 b3
             clear p1)
          | ((with_reducible refine fi.out.mono ?_); rintro e w4 ⟨rfl, g4⟩
             have b4 := bthen b3 b3.size g4
             have gg := gg w4 b4
             clear fi)
          | ((with_reducible refine gg.out.mono ?_); rintro e w5 ⟨v5, rfl, o5, g5⟩
             have b5 := bthen b4 b4.size g5
             obtain ⟨A5, k5, rfl⟩ := own_form' o5
             have s5 := o5.strs
             have rg := rg w5
             clear gg o5)
          | ((with_reducible refine rg.out.mono ?_); rintro e w6 ⟨v6, rfl, o6, g6⟩
             have b6 := bthen b5 b5.size g6
             obtain ⟨A6, k6, rfl⟩ := own_form' o6
             have s6 := s5.below g6
             have sm := sm _ _ w6 s6 o6.strs
             clear rg o6 s5)
          | ((with_reducible refine sm.out.mono ?_); rintro e w7 ⟨rfl, g7⟩
             have b7 := bthen b6 b6.size g7
             have pm1 := pm0 _ w7 (s6.below g7)
             clear sm s6 pm0)
          | ((with_reducible refine pm1.out.mono ?_); rintro e w8 ⟨rfl, g8⟩
             have b8 := bthen b7 b7.size g8
             have kn := kn w8 b8
             clear pm1)
          | ((with_reducible refine kn.out.mono ?_); rintro e w9 ⟨rfl, g9⟩
             have b9 := bthen b8 b8.size g9
             have hh1 := hh1 w9 b9
             clear kn)
          | ((with_reducible refine hh1.out.mono ?_); rintro e w10 ⟨rfl, g10⟩
             have b10 := bthen b9 b9.size g10
             have hh2 := hh2 w10 b10
             clear hh1)
          | ((with_reducible refine hh2.out.mono ?_); rintro e w11 ⟨rfl, g11⟩
             have b11 := bthen b10 b10.size g11
             clear hh2))
        all_goals try (exfalso; omega)
        go_ret
        exact ⟨by cases H <;> rfl, b11⟩
      | true =>
        rw [hF] at rf fi
        rw [putC_fine hF] at p1
        have rp := rp hF
        replace hF := Lib.hid hF
        generalize joinW l = J at *
        go_wp2_with (first
          | ((with_reducible refine rf.out.mono ?_); rintro e w2 ⟨rfl, g2⟩
             have b2 := bthen hb1 hb1.size g2
             have p1 := p1 w2 b2
             clear rf)
          | ((with_reducible refine p1.out.mono ?_); rintro e w3 ⟨rfl, g3⟩
             have b3 := bthen b2 b2.size g3
             have fi := fi w3 b3
             clear p1)
          | ((with_reducible refine fi.out.mono ?_); rintro e w4 ⟨rfl, g4⟩
             have b4 := bthen b3 b3.size g4
             have rp := rp w4 b4
             clear fi)
          | ((with_reducible refine rp.out.mono ?_); rintro e w4' ⟨rfl, g4'⟩
             have b4' := bthen b4 b4.size g4'
             have gg := gg w4' b4'
             clear rp)
          | ((with_reducible refine gg.out.mono ?_); rintro e w5 ⟨v5, rfl, o5, g5⟩
             have b5 := bthen b4' b4'.size g5
             obtain ⟨A5, k5, rfl⟩ := own_form' o5
             have s5 := o5.strs
             have rg := rg w5
             clear gg o5)
          | ((with_reducible refine rg.out.mono ?_); rintro e w6 ⟨v6, rfl, o6, g6⟩
             have b6 := bthen b5 b5.size g6
             obtain ⟨A6, k6, rfl⟩ := own_form' o6
             have s6 := s5.below g6
             have sm := sm _ _ w6 s6 o6.strs
             clear rg o6 s5)
          | ((with_reducible refine sm.out.mono ?_); rintro e w7 ⟨rfl, g7⟩
             have b7 := bthen b6 b6.size g7
             have pm1 := pm0 _ w7 (s6.below g7)
             clear sm s6 pm0)
          | ((with_reducible refine pm1.out.mono ?_); rintro e w8 ⟨rfl, g8⟩
             have b8 := bthen b7 b7.size g8
             have kn := kn w8 b8
             clear pm1)
          | ((with_reducible refine kn.out.mono ?_); rintro e w9 ⟨rfl, g9⟩
             have b9 := bthen b8 b8.size g9
             have hh1 := hh1 w9 b9
             clear kn)
          | ((with_reducible refine hh1.out.mono ?_); rintro e w10 ⟨rfl, g10⟩
             have b10 := bthen b9 b9.size g10
             have hh2 := hh2 w10 b10
             clear hh1)
          | ((with_reducible refine hh2.out.mono ?_); rintro e w11 ⟨rfl, g11⟩
             have b11 := bthen b10 b10.size g11
             clear hh2))
        all_goals try (exfalso; omega)
        go_ret
        exact ⟨by cases H <;> rfl, b11⟩
end Go.Proofs.YtakodjmembpdjaaDoor
