/- The walks of layer 4's law: few, knows. No condition. -/
import Derived.Test.YtlanconcbpdneaaLinkS
import Derived.Test.YtlanconcbpdneaaVarint2
import Derived.Test.YtlanconcbpdneaaUnhex0
namespace Go.Proofs.Ytlanconcbpdneaa
open Go.RowKit
def FewO (o : ObjL) (e : Ending) : Prop := ∃ b, e = .returned (.bool b) ∧ (b = true → Small o)
set_option maxRecDepth 100000 in
set_option maxHeartbeats 2000000 in
theorem few_calls (o : ObjL) (A1 A2 : Option Addr) (k1 k2 : Nat) (w : World) (hv : ObjV w (.slice A1 o.ents.length k1) (.slice A2 o.pars.length k2) o) : Calls Try.prog 5 #[.agg (objC o (.slice A1 o.ents.length k1) (.slice A2 o.pars.length k2)).toArray] w fun e w' => FewO o e ∧ Below w.heap.size w w' := by
  have ho := hv.ok
  have hO := boxed (w := w) (ve := .slice A1 o.ents.length k1) (vp := .slice A2 o.pars.length k2) ho
  have b0 : Below w.heap.size w (w.alloc (.cells (objC o (.slice A1 o.ents.length k1) (.slice A2 o.pars.length k2)).toArray 28)) := (Below.refl _ _).alloc (Nat.le_refl _) _
  have hv0 := hv.below b0
  obtain ⟨W0, hW0⟩ : ∃ W0, w.alloc (.cells (objC o (.slice A1 o.ents.length k1) (.slice A2 o.pars.length k2)).toArray 28) = W0 := ⟨_, rfl⟩
  rw [hW0] at hO b0 hv0
  have c1 := hO.data
  have c2 := hO.ents
  have c35 := hO.pars
  have c37 := hO.text
  have c71 := hO.name
  have hat : Hid (0 < o.ents.length → ∃ g os, A1 = some ⟨g, os, none⟩ ∧ g < W0.heap.size ∧ ∀ i x, o.ents[i]? = some x → W0.rangeAt g (os + i * 34) (entC x)) := by
    obtain ⟨A, cap, he, _, _, h⟩ := hv0.ents
    injection he with he _ _
    subst he
    exact h
  clear hv0 hO ho hv
  generalize (objC o (.slice A1 o.ents.length k1) (.slice A2 o.pars.length k2)).toArray = cs at *
  go_enter Try.func5, Try.ntmps5
  by_cases h1 : o.ents.length ≤ 70 ∧ o.pars.length ≤ 20 ∧ o.data.length ≤ 5000 ∧ o.text.length ≤ 5000 ∧ o.name.length ≤ 100
  · obtain ⟨n1, n2, n3, n4, n5⟩ := h1
    have i1 : ¬ (70 : Int) < (o.ents.length : Int) := by omega
    have i2 : ¬ (20 : Int) < (o.pars.length : Int) := by omega
    have i3 : ¬ (5000 : Int) < (o.data.length : Int) := by omega
    have i4 : ¬ (5000 : Int) < (o.text.length : Int) := by omega
    have i5 : ¬ (100 : Int) < (o.name.length : Int) := by omega
    go_wp2
    all_goals try (exfalso; omega)
    go_loop [3] (fun vi => ∃ k : Nat, vi = .int .i64 k ∧ k ≤ o.ents.length ∧ Hid (∀ j y, j < k → o.ents[j]? = some y → y.name.length ≤ 100)) (fun vi => o.ents.length - (intOf vi).toNat)
    case atStart => exact ⟨0, rfl, by omega, Lib.hid (fun j y h => by omega)⟩
    case round =>
      obtain ⟨k, rfl, hk, hall⟩ := hrel
      by_cases hlt : k < o.ents.length
      · have hki : (k : Int) < (o.ents.length : Int) := by omega
        obtain ⟨gs, os, rfl, hgs, hcell⟩ := hat.out (by omega)
        obtain ⟨x, hx⟩ : ∃ x, o.ents[k]? = some x := ⟨_, List.getElem?_eq_getElem hlt⟩
        have cn := (range_ent (hcell k x hx)).1
        by_cases hl : 100 < x.name.length
        · have hli : (100 : Int) < (x.name.length : Int) := by omega
          clear hx hcell hat hall
          go_wp2
          all_goals try (exfalso; omega)
          go_ret
          exact ⟨⟨_, rfl, fun h => by cases h⟩, b0⟩
        · have hli : ¬ (100 : Int) < (x.name.length : Int) := by omega
          have hst : Hid (∀ j y, j < k + 1 → o.ents[j]? = some y → y.name.length ≤ 100) := fun j y hj hy => by
            rcases Nat.lt_succ_iff_lt_or_eq.1 hj with h1 | rfl
            · exact hall.out j y h1 hy
            · rw [hx] at hy; injection hy with hy; subst hy; omega
          clear hx hcell hat hall
          go_wp2
          all_goals try (exfalso; omega)
          go_round
          case rel => exact ⟨k + 1, by go_num, by omega, hst⟩
          case measure => simp [intOf]; omega
      · have hki : ¬ (k : Int) < (o.ents.length : Int) := by omega
        have hsm : Small o := ⟨n1, fun e he => by
          obtain ⟨i, hi, rfl⟩ := List.getElem_of_mem he
          exact hall.out i _ (by omega) (List.getElem?_eq_getElem hi), n2, n3, n4, n5⟩
        clear hat hall
        go_wp2
        go_ret
        exact ⟨⟨_, rfl, fun _ => hsm⟩, b0⟩
  · clear hat
    go_wp2
    all_goals first
      | (go_ret; exact ⟨⟨_, rfl, fun h => by cases h⟩, b0⟩)
      | (exfalso; apply h1; clear h1; omega)
theorem take_bad (s : Txt) (hs : s.length ≤ 4611686018427387904) (hb : ∀ n k, get s = some (n, k) → (s.drop k).length < n) (hg : get s ≠ none) (w : World) : Calls Try.prog 19 #[.string (B s)] w fun e w' => e = .returned (.tuple #[.string (B []), .string (B []), .int .i64 2]) ∧ Below w.heap.size w w' := by
  have hget := get_calls s hs w
  cases h : get s with
  | none => exact absurd h hg
  | some p =>
    obtain ⟨n, k⟩ := p
    have hlt := hb n k h
    rw [h] at hget
    have hget : Calls Try.prog 37 #[.string (B s)] w fun e w' => e = .returned (.tuple #[.int .u64 n, .string (B (s.drop k)), .int .i64 0]) ∧ ∃ n, w' = w.drewN n := hget
    have hget := Lib.hid hget
    have hle : (s.drop k).length ≤ s.length := by rw [List.length_drop]; omega
    generalize s.drop k = R at *
    have hi : (R.length : Int) < (n : Int) := by omega
    clear h hb hg
    go_enter Try.func19, Try.ntmps19
    go_wp2_with (first
      | ((with_reducible refine hget.out.mono ?_); rintro e w1 ⟨rfl, nq, rfl⟩))
    all_goals try (exfalso; omega)
    go_ret3
    exact ⟨rfl, bdrewN (Below.refl _ _) nq⟩
def zObj : Array Value := (objC ⟨0, [], [], noId, [], 0, [], noId, 0, []⟩ (.slice none 0 0) (.slice none 0 0)).toArray
theorem built_zObj : Try.prog.built 28 [] = some zObj := by kernel_rfl
theorem zObj_size : zObj.size = 72 := by kernel_rfl
theorem zObj_one : zObj.all (·.oneCell') = true := by kernel_rfl
def hiObj : ObjL := ⟨1, [104, 105], [], noId, [], 0, [], noId, 0, []⟩
theorem built_hi : Try.prog.built 28 [(0, .int .i64 1), (1, .string ⟨#[104, 105]⟩)] = some (objC hiObj (.slice none 0 0) (.slice none 0 0)).toArray := by kernel_rfl
theorem hiSmall : Small hiObj := ⟨by decide, fun e he => by simp [hiObj] at he, by decide, by decide, by decide, by decide⟩
theorem hiV (w : World) : ObjV w (.slice none 0 0) (.slice none 0 0) hiObj := ⟨⟨by decide, by decide, fun e he => by simp [hiObj] at he, fun e he => by simp [hiObj] at he, by decide, by decide, by decide, by decide, by decide, by decide, by decide, by decide⟩, SliceAt.nil, SliceAt.nil⟩
theorem hiEnc : encC hiObj = .tuple #[.string (B [1, 2, 104, 105]), .int .i64 0] := encC_some (by decide)
end Go.Proofs.Ytlanconcbpdneaa
