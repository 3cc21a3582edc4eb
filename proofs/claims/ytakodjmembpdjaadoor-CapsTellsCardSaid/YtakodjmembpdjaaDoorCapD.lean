/- The walks of layer 10: knapsackref10.Choose, Put; caps.Put. No condition. -/
import Derived.Test.YtakodjmembpdjaaDoorCapC
namespace Go.Proofs.YtakodjmembpdjaaDoor
open Go.RowKit
theorem filter_step {α : Type} {p : α → Bool} {l : List α} {k : Nat} {x : α} (hx : l[k]? = some x) : (l.take (k + 1)).filter p = (l.take k).filter p ++ (if p x then [x] else []) := by
  rw [List.take_add_one, List.filter_append, hx]
  cases h : p x <;> simp [h]
set_option maxRecDepth 100000 in
set_option maxHeartbeats 2000000 in
theorem refChoose_calls (o l : List Txt) (v1 v2 : Value) (w : World) (h1 : Strs w v1 o) (h2 : Strs w v2 l) :
    Calls Tryd.prog 9 #[v1, v2] w fun e w' => ∃ v', e = .returned v' ∧ OwnStrs w' w.heap.size v' (chooseW o l) ∧ Below w.heap.size w w' := by
  obtain ⟨W0, hW0⟩ : ∃ W0, w.alloc (.cells #[.string (B [97, 116, 111, 109, 105, 99]), .string (B [98, 97, 110, 100]), .string (B [100, 101, 101, 112, 101, 110]), .string (B [111, 102, 115]), .string (B [116, 104, 105, 110])] 9) = W0 := ⟨_, rfl⟩
  have hkn := own_known w (Nat.le_refl _)
  rw [hW0] at hkn
  have hb0 : Below w.heap.size w W0 := by rw [← hW0]; exact (Below.refl _ _).alloc (Nat.le_refl _) _
  have hgt : w.heap.size < W0.heap.size := by rw [← hW0]; simp
  have hat : ∀ k x, knownW[k]? = some x → W0.cell? ⟨w.heap.size, k, none⟩ = some (.string (B x)) := fun k x hx => by
    rcases Row.of_own (strK _) hkn with ⟨h, _⟩ | ⟨g, cap, he, hg, hrow⟩
    · simp [knownW] at h
    · injection he with he _ _
      injection he with he
      injection he with he _ _
      subst he
      exact Row.str_at hrow hx
  have hfl : Hid ((knownW.take 5).filter (fun x => hasW o x && hasW l x) = chooseW o l) := Lib.hid rfl
  have hl5 : knownW.length = 5 := rfl
  have hs0 := hb0.size
  have hh1 := fun W x hb => Lib.hid (refHas_calls o v1 x W (h1.below (bthen hb0 hb0.size hb)))
  have hh2 := fun W x hb => Lib.hid (refHas_calls l v2 x W (h2.below (bthen hb0 hb0.size hb)))
  generalize chooseW o l = R at hfl
  have hown0 : OwnStrs W0 W0.heap.size (.slice none 0 0) [] := World.ownsRow_nil W0 W0.heap.size 9 1
  generalize knownW = K at *
  clear hkn h1 h2
  go_enter Tryd.func9, Tryd.ntmps9
  go_wp2
  go_loopw [6, 7] (fun vo vi wr => ∃ (k : Nat) (o' : List Txt), vi = .int .i64 k ∧ k ≤ 5 ∧ OwnStrs wr W0.heap.size vo o' ∧ o'.length ≤ k ∧ Hid ((K.take k).filter (fun x => hasW o x && hasW l x) = o') ∧ Below W0.heap.size W0 wr) (fun _ vi _ => 5 - (intOf vi).toNat)
  case atStart =>
    subst hW0
    exact ⟨0, [], rfl, by omega, hown0, by simp, Lib.hid (by simp), Below.refl _ _⟩
  case round =>
    obtain ⟨k, o', rfl, hk, hown, hol, hr, hbel⟩ := hrel
    have hsz := hbel.size
    clear hW0
    by_cases hlt : k < 5
    · have hki : (k : Int) < 5 := by omega
      obtain ⟨x, hx⟩ : ∃ x, K[k]? = some x := ⟨_, List.getElem?_eq_getElem (by omega)⟩
      have c0 := (hbel.cell (p := ⟨w.heap.size, k, none⟩) hgt).trans (hat k x hx)
      have hst := Lib.hid (filter_step (p := fun x => hasW o x && hasW l x) hx)
      rw [hr.out] at hst
      have hxo : ∀ u ∈ (#[Value.string (B x)] : Array Value).toList, u.oneCell' = true := strC_one x
      have g1 := hh1 wr x hbel
      have hat0 := hat k x hx
      clear hx hat hh1 hr
      cases ha : hasW o x <;> cases hb : hasW l x
      all_goals
        rw [ha] at g1
        rw [ha, hb] at hst
        simp at hst
        obtain ⟨vA, kA, rfl⟩ := own_form' hown
        go_wp2_with (first
          | (at_builtin
             (with_reducible refine lit_append_new (.tmp 33) (.tmp 38) 1 _ Tryd.strTy hownB #[.string (B x)] rfl hxo (by omega) (by omega) hszB ?_ ?_ ?_); rfl; rfl
             intro v3 wv3 hv3 hbv3 hgv3 hnv3
             have hmv3 := OwnStrs.more hv3
             have hbel3 := hbelB.trans hbv3
             have hlv3 : (o' ++ [x]).length = o'.length + 1 := List.length_append
             clear hgv3 hnv3 hv3 hownB)
          | ((with_reducible refine g1.out.mono ?_); rintro e w1 ⟨rfl, hbl1⟩
             have g2 := hh2 w1 x (bthen hbel hbel.size hbl1)
             rw [hb] at g2
             have hown1 := own_below hown hbl1
             have hbel1 := bthen hbel hbel.size hbl1
             have hsz1 := hbel1.size
             have c1 := (hbel1.cell (p := ⟨w.heap.size, k, none⟩) hgt).trans (hat0)
             clear g1 hh2 hown)
          | ((with_reducible refine g2.out.mono ?_); rintro e w2 ⟨rfl, hbl2⟩
             have hownB := own_below hown1 hbl2
             have hbelB := bthen hbel1 hbel1.size hbl2
             have hszB := hbelB.size
             have c2 := (hbelB.cell (p := ⟨w.heap.size, k, none⟩) hgt).trans (hat0)
             clear g2 hown1))
        go_roundw
        case rel =>
          first
            | exact ⟨k + 1, _, by go_num, by omega, hmv3, by omega, hst, hbel3⟩
            | exact ⟨k + 1, _, by go_num, by omega, hownB, by omega, hst, hbelB⟩
            | exact ⟨k + 1, _, by go_num, by omega, hown1, by omega, hst, hbel1⟩
        case measure => simp [intOf]; omega
    · have hki : ¬ (k : Int) < 5 := by omega
      have hk5 : k = 5 := by omega
      subst hk5
      have he := hr.out.symm.trans hfl.out
      subst he
      clear hh1 hh2 hat hr hfl
      go_wp2
      go_ret
      exact ⟨_, rfl, own_low hown (by omega), hb0.trans (hbel.mono hs0)⟩
end Go.Proofs.YtakodjmembpdjaaDoor
