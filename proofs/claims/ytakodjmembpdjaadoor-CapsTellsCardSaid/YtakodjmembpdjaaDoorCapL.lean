/- The walks of layer 10's law: CapsChooses, CapsTells. Condition: internal/bytealg.MaxLen holds an int. -/
import Derived.Test.YtakodjmembpdjaaDoorCapK
namespace Go.Proofs.YtakodjmembpdjaaDoor
open Go.RowKit
set_option maxRecDepth 100000 in
set_option maxHeartbeats 4000000 in
theorem chooses_calls (o l : List Txt) (v1 v2 : Value) (w : World) (hm : MaxK w) (h1 : Strs w v1 o) (h2 : Strs w v2 l) :
    Calls Tryd.prog 3 #[v1, v2] w fun e w' => e = .returned (.bool true) ∧ Below w.heap.size w w' := by
  have f1 := Lib.hid (few_calls o v1 w h1)
  have f2 := fun W hb => Lib.hid (few_calls l v2 W (h2.below (w' := W) hb))
  have kn := fun W hb => Lib.hid (knows_calls W (hm.below (w' := W) hb))
  have c1 := fun W hb => Lib.hid (choose_calls o l v1 v2 W (h1.below (w' := W) hb) (h2.below hb))
  have r1 := fun W hb => Lib.hid (refChoose_calls o l v1 v2 W (h1.below (w' := W) hb) (h2.below hb))
  have c2 := fun W hb => Lib.hid (choose_calls l o v2 v1 W (h2.below (w' := W) hb) (h1.below hb))
  rw [choose_comm l o] at c2
  have c3 := fun v W hb hv => Lib.hid (choose_calls (chooseW o l) o v v1 W hv (h1.below (w' := W) hb))
  have c4 := fun v W hb hv => Lib.hid (choose_calls l (chooseW o l) v2 v W (h2.below (w' := W) hb) hv)
  rw [choose_again o l] at c3
  have e4 : chooseW l (chooseW o l) = chooseW o l := by rw [choose_comm o l]; exact choose_comm l o ▸ choose_once o l
  rw [e4] at c4
  have ff := fun v W hv => Lib.hid (fine_calls (chooseW o l) v W hv)
  rw [choose_fine o l] at ff
  generalize chooseW o l = R at *
  have sm := fun va vb W ha hb => Lib.hid (same_calls R va vb W ha hb)
  obtain ⟨A1, k1, rfl, _⟩ := h1
  obtain ⟨A2, k2, rfl, _⟩ := h2
  clear e4 hm
  go_enter Tryd.func3, Tryd.ntmps3
  go_wp2_with (fail)
  refine (Calls.mono f1.out ?_)
  rintro e w1 ⟨⟨b1, rfl, _⟩, hb1⟩
  have f2 := f2 w1 hb1
  clear f1
  cases b1 with
  | false =>
    clear c1 r1 c2 c3 c4 ff sm
    go_wp2_with (fail)
    refine (Calls.mono f2.out ?_)
    rintro e w2 ⟨⟨b2, rfl, _⟩, hb2⟩
    have kn := kn w2 (bthen hb1 hb1.size hb2)
    clear f2
    go_wp2_with (first
      | ((with_reducible refine kn.out.mono ?_); rintro e w3 ⟨rfl, hb3⟩))
    go_ret
    exact ⟨rfl, bthen hb1 hb1.size (bthen hb2 hb2.size hb3)⟩
  | true =>
    go_wp2_with (fail)
    refine (Calls.mono f2.out ?_)
    rintro e w2 ⟨⟨b2, rfl, _⟩, hb2⟩
    have b2' := bthen hb1 hb1.size hb2
    clear f2
    cases b2 with
    | false =>
      have kn := kn w2 (bthen hb1 hb1.size hb2)
      clear c1 r1 c2 c3 c4 ff sm
      go_wp2_with (first
        | ((with_reducible refine kn.out.mono ?_); rintro e w3 ⟨rfl, hb3⟩))
      go_ret
      exact ⟨rfl, bthen hb1 hb1.size (bthen hb2 hb2.size hb3)⟩
    | true =>
      have c1 := c1 w2 b2'
      go_wp2_with (first
        | ((with_reducible refine c1.out.mono ?_); rintro e w3 ⟨vL, rfl, ho3, g3⟩
           have b3 := bthen b2' b2'.size g3
           obtain ⟨AL, kL, rfl⟩ := own_form' ho3
           have sL3 := ho3.strs
           have r1 := r1 w3 b3
           clear c1 ho3)
        | ((with_reducible refine r1.out.mono ?_); rintro e w4 ⟨vr, rfl, ho4, g4⟩
           have b4 := bthen b3 b3.size g4
           obtain ⟨AR, kR, rfl⟩ := own_form' ho4
           have sL4 := sL3.below g4
           have s1 := sm _ _ w4 sL4 ho4.strs
           clear r1 sL3 ho4)
        | ((with_reducible refine s1.out.mono ?_); rintro e w5 ⟨rfl, g5⟩
           have b5 := bthen b4 b4.size g5
           have sL5 := sL4.below g5
           have c2 := c2 w5 b5
           clear s1 sL4)
        | ((with_reducible refine c2.out.mono ?_); rintro e w6 ⟨v6, rfl, ho6, g6⟩
           have b6 := bthen b5 b5.size g6
           obtain ⟨A6, k6, rfl⟩ := own_form' ho6
           have sL6 := sL5.below g6
           have s2 := sm _ _ w6 sL6 ho6.strs
           clear c2 sL5 ho6)
        | ((with_reducible refine s2.out.mono ?_); rintro e w7 ⟨rfl, g7⟩
           have b7 := bthen b6 b6.size g7
           have sL7 := sL6.below g7
           have c3 := c3 _ w7 b7 sL7
           clear s2 sL6)
        | ((with_reducible refine c3.out.mono ?_); rintro e w8 ⟨v8, rfl, ho8, g8⟩
           have b8 := bthen b7 b7.size g8
           obtain ⟨A8, k8, rfl⟩ := own_form' ho8
           have sL8 := sL7.below g8
           have s3 := sm _ _ w8 sL8 ho8.strs
           clear c3 sL7 ho8)
        | ((with_reducible refine s3.out.mono ?_); rintro e w9 ⟨rfl, g9⟩
           have b9 := bthen b8 b8.size g9
           have sL9 := sL8.below g9
           have c4 := c4 _ w9 b9 sL9
           clear s3 sL8)
        | ((with_reducible refine c4.out.mono ?_); rintro e w10 ⟨v10, rfl, ho10, g10⟩
           have b10 := bthen b9 b9.size g10
           obtain ⟨A10, k10, rfl⟩ := own_form' ho10
           have sL10 := sL9.below g10
           have s4 := sm _ _ w10 sL10 ho10.strs
           clear c4 sL9 ho10)
        | ((with_reducible refine s4.out.mono ?_); rintro e w11 ⟨rfl, g11⟩
           have b11 := bthen b10 b10.size g11
           have sL11 := sL10.below g11
           have kn := kn w11 b11
           clear s4 sL10 sm)
        | ((with_reducible refine kn.out.mono ?_); rintro e w12 ⟨rfl, g12⟩
           have b12 := bthen b11 b11.size g12
           have sL12 := sL11.below g12
           have ff := ff _ w12 sL12
           clear kn sL11)
        | ((with_reducible refine ff.out.mono ?_); rintro e w13 ⟨rfl, g13⟩
           have b13 := bthen b12 b12.size g13
           clear ff sL12))
      go_ret
      exact ⟨rfl, b13⟩
end Go.Proofs.YtakodjmembpdjaaDoor
