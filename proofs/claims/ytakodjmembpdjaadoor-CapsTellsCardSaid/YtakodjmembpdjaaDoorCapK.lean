/- The walks of layer 10's law: few, knows. Condition of knows: internal/bytealg.MaxLen holds an int. -/
import Derived.Test.YtakodjmembpdjaaDoorCapH
namespace Go.Proofs.YtakodjmembpdjaaDoor
open Go.RowKit
def FewW (l : List Txt) (e : Ending) : Prop := ∃ b, e = .returned (.bool b) ∧ (b = true → ShortW l)
theorem short_step {l : List Txt} {k : Nat} {x : Txt} (h : ∀ j y, j < k → l[j]? = some y → y.length ≤ 100) (hx : l[k]? = some x) (hl : x.length ≤ 100) : ∀ j y, j < k + 1 → l[j]? = some y → y.length ≤ 100 := by
  intro j y hj hy
  rcases Nat.lt_succ_iff_lt_or_eq.1 hj with h1 | rfl
  · exact h j y h1 hy
  · rw [hx] at hy; injection hy with hy; subst hy; exact hl
theorem short_end {l : List Txt} {k : Nat} (h : ∀ j y, j < k → l[j]? = some y → y.length ≤ 100) (hk : l.length ≤ k) : ShortW l := by
  intro x hx
  obtain ⟨i, hi, rfl⟩ := List.getElem_of_mem hx
  have := h i _ (by omega) (List.getElem?_eq_getElem hi)
  omega
set_option maxRecDepth 100000 in
set_option maxHeartbeats 1000000 in
theorem few_calls (l : List Txt) (v : Value) (w : World) (hv : Strs w v l) :
    Calls Tryd.prog 5 #[v] w fun e w' => FewW l e ∧ Below w.heap.size w w' := by
  have hlen := hv.len
  obtain ⟨A, cap, rfl, hcap1, hcap2, hat⟩ := hv
  have hat := Lib.hid hat
  go_enter Tryd.func5, Tryd.ntmps5
  go_wp2
  go_loop [3] (fun i => ∃ k : Nat, i = .int .i64 k ∧ k ≤ l.length ∧ Hid (∀ j y, j < k → l[j]? = some y → y.length ≤ 100)) (fun i => l.length - (intOf i).toNat)
  case atStart => exact ⟨0, rfl, by omega, Lib.hid (fun j y h => by omega)⟩
  case round =>
    obtain ⟨k, rfl, hk, hall⟩ := hrel
    by_cases hlt : k < l.length
    · have hki : (k : Int) < (l.length : Int) := by omega
      by_cases h70 : k < 30
      · have h70i : (k : Int) < 30 := by omega
        obtain ⟨gs, os, rfl, hgs, hcell⟩ := hat.out (by omega)
        obtain ⟨x, hx⟩ : ∃ x, l[k]? = some x := ⟨_, List.getElem?_eq_getElem hlt⟩
        have c0 := hcell k x hx 0 _ rfl
        rw [Nat.mul_one, Nat.add_zero] at c0
        by_cases hl : 100 < x.length
        · have hli : (100 : Int) < (x.length : Int) := by omega
          clear hx hcell hat hall
          go_wp2
          go_ret
          exact ⟨⟨_, rfl, fun h => by cases h⟩, Below.refl _ _⟩
        · have hli : ¬ (100 : Int) < (x.length : Int) := by omega
          have hst := Lib.hid (short_step hall.out hx (by omega))
          clear hx hcell hat hall
          go_wp2
          go_round
          case rel => exact ⟨k + 1, by go_num, by omega, hst⟩
          case measure => simp [intOf]; omega
      · have h70i : ¬ (k : Int) < 30 := by omega
        clear hat
        have h30 : ¬ (l.length : Int) ≤ 30 := by omega
        go_wp2
        go_ret
        exact ⟨⟨_, rfl, fun h => by simp at h⟩, Below.refl _ _⟩
    · have hki : ¬ (k : Int) < (l.length : Int) := by omega
      have hst := short_end hall.out (by omega)
      clear hat hall
      go_wp2
      go_ret
      exact ⟨⟨_, rfl, fun _ => hst⟩, Below.refl _ _⟩
theorem getW_known : (getW [98, 97, 110, 100, 32, 116, 104, 105, 110]).getD [] = [[98, 97, 110, 100], [116, 104, 105, 110]] ∧ codeG [98, 97, 110, 100, 32, 116, 104, 105, 110] = 0 := by decide
theorem chooseW_known : chooseW [[98, 97, 110, 100], [110, 101, 119], [116, 104, 105, 110]] [[110, 101, 119], [111, 102, 115], [116, 104, 105, 110]] = [[116, 104, 105, 110]] := by decide
set_option maxRecDepth 100000 in
set_option maxHeartbeats 2000000 in
theorem knows_calls (w : World) (hm : MaxK w) : Calls Tryd.prog 6 #[] w fun e w' => e = .returned (.bool true) ∧ Below w.heap.size w w' := by
  have hg := get_calls [98, 97, 110, 100, 32, 116, 104, 105, 110] w (by decide) hm
  rw [getW_known.1, getW_known.2] at hg
  have hg := Lib.hid hg
  clear hm
  go_enter Tryd.func6, Tryd.ntmps6
  go_wp2_with (fail)
  refine (Calls.mono hg.out ?_)
  rintro e w1 ⟨v1, rfl, hown1, hb1⟩
  obtain ⟨A1, k1, rfl⟩ := own_form' hown1
  clear hg hown1
  obtain ⟨W2, hW2⟩ : ∃ W2, (w1.alloc (.cells #[.string ⟨#[98, 97, 110, 100]⟩, .string ⟨#[110, 101, 119]⟩, .string ⟨#[116, 104, 105, 110]⟩] 9)).alloc (.cells #[.string ⟨#[110, 101, 119]⟩, .string ⟨#[111, 102, 115]⟩, .string ⟨#[116, 104, 105, 110]⟩] 9) = W2 := ⟨_, rfl⟩
  have o1 : OwnStrs (w1.alloc (.cells #[.string ⟨#[98, 97, 110, 100]⟩, .string ⟨#[110, 101, 119]⟩, .string ⟨#[116, 104, 105, 110]⟩] 9)) 0 (.slice (some ⟨w1.heap.size, 0, none⟩) 3 3) [[98, 97, 110, 100], [110, 101, 119], [116, 104, 105, 110]] := World.ownsRow_lit (size := 1) w1 #[.string ⟨#[98, 97, 110, 100]⟩, .string ⟨#[110, 101, 119]⟩, .string ⟨#[116, 104, 105, 110]⟩] 3 (Nat.zero_le _) (by simp [maxLen]) rfl
  have o2 : OwnStrs W2 0 (.slice (some ⟨w1.heap.size + 1, 0, none⟩) 3 3) [[110, 101, 119], [111, 102, 115], [116, 104, 105, 110]] := by
    have := World.ownsRow_lit (size := 1) (e := 9) (w1.alloc (.cells #[.string ⟨#[98, 97, 110, 100]⟩, .string ⟨#[110, 101, 119]⟩, .string ⟨#[116, 104, 105, 110]⟩] 9)) #[.string ⟨#[110, 101, 119]⟩, .string ⟨#[111, 102, 115]⟩, .string ⟨#[116, 104, 105, 110]⟩] 3 (base := 0) (Nat.zero_le _) (by simp [maxLen]) rfl
    rw [hW2, show (w1.alloc (.cells #[.string ⟨#[98, 97, 110, 100]⟩, .string ⟨#[110, 101, 119]⟩, .string ⟨#[116, 104, 105, 110]⟩] 9)).heap.size = w1.heap.size + 1 from by simp] at this
    exact this
  have s1 : Strs W2 (.slice (some ⟨w1.heap.size, 0, none⟩) 3 3) [[98, 97, 110, 100], [110, 101, 119], [116, 104, 105, 110]] := by rw [← hW2]; exact o1.strs.below ((Below.refl _ _).alloc (Nat.le_refl _) _)
  have b2 : Below w1.heap.size w1 W2 := by rw [← hW2]; exact ((Below.refl _ _).alloc (Nat.le_refl _) _).alloc (by simp) _
  have hc := choose_calls _ _ _ _ W2 s1 o2.strs
  rw [chooseW_known] at hc
  have hc := Lib.hid hc
  have hk := fun W => Lib.hid (known_calls W)
  clear o1 o2 s1
  go_wp2_with (first
    | ((with_reducible refine hc.out.mono ?_); rintro e w3 ⟨v3, rfl, hown3, hb3⟩
       rcases Row.of_own (strK _) hown3 with ⟨_, h⟩ | ⟨g3, cap3, rfl, hg3, hrow3⟩
       · cases h
       have hk3 := hk w3
       have bx := bthen hb1 hb1.size (bthen b2 b2.size hb3)
       have hlt3 := hrow3.lt
       clear hc hk hown3 hW2)
    | ((with_reducible refine hk3.out.mono ?_); rintro e w4 ⟨rfl, hown4, hb4⟩
       have c3 : w4.cell? ⟨g3, 0, none⟩ = some (.string ⟨#[116, 104, 105, 110]⟩) := (hb4.cell (p := ⟨g3, 0, none⟩) hlt3).trans (hrow3.str_at (i := 0) rfl)
       rcases Row.of_own (strK _) hown4 with ⟨h, _⟩ | ⟨g4, cap4, he4, hg4, hrow4⟩
       · cases h
       obtain rfl : g4 = w3.heap.size := by
         injection he4 with he4 _ _
         injection he4 with he4
         injection he4 with he4 _ _
         exact he4.symm
       have c4 : w4.cell? ⟨w3.heap.size, 0, none⟩ = some (.string ⟨#[97, 116, 111, 109, 105, 99]⟩) := hrow4.str_at (i := 0) rfl
       have by4 := bthen bx bx.size hb4
       clear hk3 hrow3 hrow4 hown4 he4))
  go_ret
  exact ⟨rfl, by4⟩
end Go.Proofs.YtakodjmembpdjaaDoor
