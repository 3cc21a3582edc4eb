/- The walk of DiskPlays. No condition. -/
import Derived.Test.YtejaeclcgkcklaaDiskF
namespace Go.Proofs.Ytejaeclcgkcklaa
open Go.RowKit
theorem actS_len (s : DiskL) (x : ActL) : (actS s x).l.length ≤ s.l.length + 1 := by
  have h1 := writeS_len s x.name x.data false
  have h2 := writeS_len s x.name [] true
  unfold actS
  (repeat' split) <;> first | exact h1 | exact h2 | exact Nat.le_succ _
theorem Pair.below {w0 w w' : World} {base p q : Nat} {vl vm : Value} {s s' m m' : DiskL} (h : Pair w w' base p q vl vm s' m') (h1 : DiskAt w base p vl s) (h2 : RDiskAt w base q vm m) (hp : base ≤ p) (hq : base ≤ q) (hB : base ≤ w.heap.size) : Below base w w' :=
  h.far.below hB fun k hk => by
    rcases List.mem_cons.1 hk with e | hk
    · injection e with e; omega
    rcases List.mem_cons.1 hk with e | hk
    · exact (World.ownsRow.lt h1.own k e.symm).1
    rcases List.mem_cons.1 hk with e | hk
    · injection e with e; omega
    · rw [List.mem_singleton] at hk
      exact (World.ownsRow.lt h2.own k hk.symm).1
theorem built_rdisk : Try.prog.built 30 [(1, .int .i64 (-1))] = some (diskC (.slice none 0 0) newS) := by kernel_rfl
def ActsOk (l : List ActL) : Prop := ∀ x ∈ l, ActOk x
set_option maxRecDepth 100000 in
set_option maxHeartbeats 2000000 in
theorem diskPlays_calls (l : List ActL) (hok : ActsOk l) (v : Value) (w : World) (hv : Acts w v l) :
    Calls Try.prog 3 #[v] w fun e w' => e = .returned (.bool true) ∧ Below w.heap.size w w' := by
  have hfw := Lib.hid (few_calls l v w hv)
  have hlen := hv.len
  have hkn := fun W => knows_calls W
  have hbd := built_rdisk
  cases hf : fewA l with
  | false =>
    rw [hf] at hfw
    clear hv hf
    go_enter Try.func3, Try.ntmps3
    go_wp2_with (first
      | (go_at_call 5; go_must (refine hfw.out.mono ?_); rintro e w1 ⟨rfl, hb1⟩)
      | (go_at_call 6; go_must (refine (diskNew_calls _).mono ?_); rintro e w2 ⟨rfl, hD2, hb2⟩)
      | (go_at_call 7; go_must (refine (hkn _).mono ?_); rintro e w3 ⟨rfl, hb3⟩))
    go_ret
    exact ⟨rfl, bthen (bthen hb1 hb1.size hb2) (by have := hb1.size; have := hb2.size; omega) hb3⟩
  | true =>
    rw [hf] at hfw
    have h60 := fewA_len hf
    have hda := fewA_data hf
    clear hf
    obtain ⟨A, cap, rfl, hc1, hc2, hat⟩ := hv
    have hat := Lib.hid hat
    go_enter Try.func3, Try.ntmps3
    go_wp2_with (first
      | (go_at_call 5; go_must (refine hfw.out.mono ?_); rintro e w1 ⟨rfl, hb1⟩)
      | (go_at_call 6; go_must (refine (diskNew_calls _).mono ?_); rintro e w2 ⟨rfl, hD2, hb2⟩)
      | ((with_reducible refine lit_build1 hbd ?_ ?_); rfl))
    have z1 := hb1.size
    have z2 := hb2.size
    have hbl : Below w.heap.size w (w2.alloc (.cells (diskC (.slice none 0 0) newS) 30)) := (bthen hb1 z1 hb2).alloc (by omega) _
    have hD3 := hD2.below ((Below.refl _ _).alloc (Nat.le_refl _) (.cells (diskC (.slice none 0 0) newS) 30))
    have hD3 : DiskAt (w2.alloc (.cells (diskC (.slice none 0 0) newS) 30)) w.heap.size w1.heap.size (.slice none 0 0) newS := ⟨hD3.blk, World.ownsRow_nil _ _ _ _, newOk⟩
    have hR3 : RDiskAt (w2.alloc (.cells (diskC (.slice none 0 0) newS) 30)) w.heap.size w2.heap.size (.slice none 0 0) newS := ⟨Blk.new _ _ _, World.ownsRow_nil _ _ _ _, newOk⟩
    obtain ⟨p, hp⟩ : ∃ p, w1.heap.size = p := ⟨_, rfl⟩
    obtain ⟨q, hq⟩ : ∃ q, w2.heap.size = q := ⟨_, rfl⟩
    rw [hp] at hD3 ⊢
    rw [hq] at hR3 ⊢
    have hpB : w.heap.size ≤ p := by omega
    have hqB : w.heap.size ≤ q := by omega
    clear hb1 hb2 hD2 hfw
    generalize w2.alloc (.cells (diskC (.slice none 0 0) newS) 30) = W3 at *
    go_loopw [6] (fun vi wr => ∃ (k : Nat) (s : DiskL) (vl vm : Value), vi = .int .i64 k ∧ k ≤ l.length ∧ s.l.length ≤ k ∧ DiskAt wr w.heap.size p vl s ∧ RDiskAt wr w.heap.size q vm s ∧ Below w.heap.size w wr) (fun vi _ => l.length - (intOf vi).toNat)
    case atStart => exact ⟨0, newS, _, _, rfl, by omega, by simp [newS], hD3, hR3, hbl⟩
    case round =>
      clear hD3 hR3 hbl hp hq z1 z2
      obtain ⟨k, s, vl, vm, rfl, hk, hsl, hD, hR, hbel⟩ := hrel
      by_cases hlt : k < l.length
      · have hki : (k : Int) < (l.length : Int) := by omega
        obtain ⟨y, hy⟩ : ∃ y, l[k]? = some y := ⟨_, List.getElem?_eq_getElem hlt⟩
        have hym := List.mem_of_getElem? hy
        obtain ⟨g, o, rfl, hg, hcell⟩ := hat.out (by omega)
        have hx0 := rangeAt_below (hcell k y hy) hg hbel
        have hsz := hbel.size
        have hac := Lib.hid (act_calls hsz hD hR y (hok y hym) (by have := hda y hym; omega) (by omega))
        have hla := actS_len s y
        have hszA : (Try.prog.info? 33).map (·.size) = some (actC y).length := szAct
        clear hy hcell hym
        go_wp2_with (first
          | ((with_reducible refine lit_load 33 (.tmp 34) g (o + k * 5) (actC y) _ hx0 Try.underlying33 rfl hszA ?_ ?_); rfl)
          | (go_at_call 8; go_must (refine hac.out.mono ?_); rintro e w4 ⟨rfl, hP⟩
             have hbel4 := hbel.trans (hP.below (w0 := w) hD hR hpB hqB hsz)
             obtain ⟨vl4, hD4, _⟩ := hP.ours
             obtain ⟨vm4, hR4, _⟩ := hP.theirs
             have hsm := Lib.hid (same_calls hD4 hR4))
          | (go_at_call 9; go_must (refine hsm.out.mono ?_); rintro e w5 ⟨rfl, hb5⟩))
        go_roundw
        case rel => exact ⟨k + 1, actS s y, _, _, by go_num, by omega, by omega, hD4.below hb5, hR4.below hb5, bthen hbel4 hbel4.size hb5⟩
        case measure => simp [intOf]; omega
      · have hki : ¬ (k : Int) < (l.length : Int) := by omega
        go_wp2_with (first
          | (go_at_call 7; go_must (refine (hkn _).mono ?_); rintro e w3 ⟨rfl, hb3⟩))
        go_ret
        exact ⟨rfl, bthen hbel hbel.size hb3⟩
end Go.Proofs.Ytejaeclcgkcklaa
