/- The walk of the reference's Steps (layer 5): some text, not longer than its steps say. Its steps lie in memory that came in. -/
import Derived.Test.YtlmchjiifcnpgaaLzK
import Derived.Deep.RegionHeld3
import Derived.Deep.DrawnRows
namespace Go.Proofs.Ytlmchjiifcnpgaa
open Go.RowKit
attribute [local go_sem ↓] Go.wp_at_zero Go.wp_at_succ

/-- The steps lie one behind the other in one block: three cells each. -/
def StepsAt (w : World) (A : Option Addr) (l : List (Int × Int × List UInt8)) : Prop :=
  l = [] ∨ ∃ b off, A = some ⟨b, off, none⟩ ∧ b < w.heap.size ∧ ∀ (i : Nat) (h : i < l.length), w.cell? ⟨b, off + i * 3, none⟩ = some (.int .i64 (l[i]).1) ∧ w.cell? ⟨b, off + i * 3 + 1, none⟩ = some (.int .i64 (l[i]).2.1) ∧ w.cell? ⟨b, off + i * 3 + 2, none⟩ = some (.string (B (l[i]).2.2))
/-- Steps that the statement lets through. -/
def StepsFit (l : List (Int × Int × List UInt8)) : Prop := ∀ (i : Nat) (h : i < l.length), 0 ≤ (l[i]).1 ∧ (l[i]).1 ≤ 9223372036854775807 ∧ 0 ≤ (l[i]).2.1 ∧ (l[i]).2.1 ≤ 9223372036854775807 ∧ (l[i]).2.2.length ≤ 100
/-- Some text of so many bytes at most. -/
def SomeText (k : Nat) (W w : World) (e : Ending) (w' : World) : Prop := ∃ m : List UInt8, e = .returned (.string (B m)) ∧ m.length ≤ k ∧ Below W.heap.size w w'

theorem fits2 {a b : Nat} (ha : a ≤ 5000) (hb : b ≤ 10) : ¬ 9223372036854775807 < a + b := by omega
theorem fits3 {a b c : Nat} (ha : a ≤ 5000) (hb : b ≤ 10) (hc : c ≤ 100) : ¬ 9223372036854775807 < a + b + c := by omega
theorem fits3' {a b c : Nat} (ha : a ≤ 5000) (hb : b ≤ 10) (hc : c ≤ 10) : ¬ 9223372036854775807 < a + b + c := by omega
theorem refPutI (x : Int) (h0 : 0 ≤ x) (h1 : x ≤ 18446744073709551615) (w : World) :
    Calls Try.prog 13 #[.int .u64 x] w fun e w' => ∃ m, e = .returned (.string (B m)) ∧ m.length ≤ 10 ∧ Below w.heap.size w w' := by
  obtain ⟨n, rfl⟩ := Int.eq_ofNat_of_zero_le h0
  exact (refPut_calls n (by omega) w).mono fun e w' ⟨he, hb⟩ => ⟨_, he, put_length n, hb⟩

set_option maxRecDepth 100000 in
set_option maxHeartbeats 2000000 in
theorem steps_calls (l : List (Int × Int × List UInt8)) (A : Option Addr) (cap : Nat) (w : World) (hl : l.length ≤ 30) (hat : StepsAt w A l) (hfit : StepsFit l) :
    Calls Try.prog 9 #[.slice A l.length cap] w (SomeText 10000 w w) := by
  have hc := fun (wx : World) (x : Int) => Try.str_of_one wx x
  go_enter Try.func9, Try.ntmps9
  go_wp2
  go_loopw [3, 4] (fun s i wr => ∃ (k : Nat) (acc : List UInt8), i = .int .i64 k ∧ s = .string (B acc) ∧ k ≤ l.length ∧ acc.length ≤ 1 + k * 120 ∧ Below w.heap.size w wr) (fun _ i _ => l.length - (intOf i).toNat)
  case atStart => exact ⟨0, _, rfl, rfl, by omega, by simp, (Below.refl _ _).alloc (Nat.le_refl _) _⟩
  case round =>
    obtain ⟨k, acc, rfl, rfl, hk, hacc, hb⟩ := hrel
    have hbs := hb.size
    by_cases hlt : k < l.length
    · rcases hat with rfl | ⟨b, off, rfl, hbw, hcell⟩
      · simp at hlt
      · obtain ⟨f1, f2, f3, f4, f5⟩ := hfit k hlt
        obtain ⟨c1, c2, c3⟩ := hcell k hlt
        rw [← hb.cell (p := ⟨b, off + k * 3, none⟩) hbw] at c1
        rw [← hb.cell (p := ⟨b, off + k * 3 + 1, none⟩) hbw] at c2
        rw [← hb.cell (p := ⟨b, off + k * 3 + 2, none⟩) hbw] at c3
        clear hcell hfit
        generalize l[k] = x at *
        obtain ⟨N, F, T⟩ := x
        simp only at f1 f2 f3 f4 f5 c1 c2 c3
        have hki : (k : Int) < (l.length : Int) := by omega
        by_cases hF : F = 0
        · subst hF
          have hbr : b < wr.heap.size := by omega
          have hw1 : IntKind.i64.wrap (2 * (T.length : Int)) = 2 * (T.length : Int) := IntWalk.i64_in _ (by omega)
          have hw2 : IntKind.u64.wrap (2 * (T.length : Int)) = 2 * (T.length : Int) := IntWalk.u64_in _ (by omega)
          go_wp2
          have p0 : 0 ≤ 2 * (T.length : Int) := by omega
          have p1 : 2 * (T.length : Int) ≤ 18446744073709551615 := by omega
          have pa : acc.length ≤ 5000 := by omega
          go_region_held3 (fun w' => w'.cell? ⟨b, off + k * 3 + 2, none⟩ = some (.string (B T))) (first | assumption | go_keep)
            (first | (go_at_call 13; (with_reducible refine (refPutI (2 * (T.length : Int)) p0 p1 _).mono ?_); rintro e w1 ⟨m, rfl, hm, hb1⟩; have c3' := (hb1.cell (p := ⟨b, off + k * 3 + 2, none⟩) hbr).trans c3; have hs1 := fits2 pa hm; have hs2 := fits3 pa hm f5))
          have hb2 : Below w.heap.size w w1 := bthen (hb.drew) hbs hb1
          go_wp2
          go_roundw
          case rel => exact ⟨k + 1, _, by go_num, rfl, by omega, by simp only [List.length_append]; omega, hb2⟩
          case measure => simp [intOf]; omega
        · have hFi : (F == 0) = false := by simp [hF]
          have hbr : b < wr.heap.size := by omega
          have hN0 : 0 ≤ N % 4096 := by omega
          have hN1 : N % 4096 < 4096 := by omega
          have hF0 : 0 ≤ F % 70000 := by omega
          have hF1 : F % 70000 < 70000 := by omega
          have hNt : N.tmod 4096 = N % 4096 := Int.tmod_eq_emod_of_nonneg f1
          have hFt : F.tmod 70000 = F % 70000 := Int.tmod_eq_emod_of_nonneg f3
          go_wp2
          generalize N % 4096 = N' at *
          generalize F % 70000 = F' at *
          have hw1 : IntKind.i64.wrap (2 * N') = 2 * N' := IntWalk.i64_in _ (by omega)
          have hw2 : IntKind.i64.wrap (2 * N' + 1) = 2 * N' + 1 := IntWalk.i64_in _ (by omega)
          have hw3 : IntKind.u64.wrap (2 * N' + 1) = 2 * N' + 1 := IntWalk.u64_in _ (by omega)
          have hw4 : IntKind.u64.wrap F' = F' := IntWalk.u64_in _ (by omega)
          have p0 : 0 ≤ 2 * N' + 1 := by omega
          have p1 : 2 * N' + 1 ≤ 18446744073709551615 := by omega
          have p2 : F' ≤ 18446744073709551615 := by omega
          have pa : acc.length ≤ 5000 := by omega
          go_region_held3 (fun w' => w'.cell? ⟨b, off + k * 3, none⟩ = some (.int .i64 N) ∧ w'.cell? ⟨b, off + k * 3 + 1, none⟩ = some (.int .i64 F)) (first | (constructor <;> assumption) | go_keep)
            (first
              | (go_at_call 13; (with_reducible refine (refPutI (2 * N' + 1) p0 p1 _).mono ?_); rintro e w1 ⟨m, rfl, hm, hb1⟩; have c1' := (hb1.cell (p := ⟨b, off + k * 3, none⟩) hbr).trans c1; have c2' := (hb1.cell (p := ⟨b, off + k * 3 + 1, none⟩) hbr).trans c2; have hs1 := fits2 pa hm; have hbr1 := Nat.lt_of_lt_of_le hbr hb1.size)
              | (go_at_call 13; (with_reducible refine (refPutI F' hF0 p2 _).mono ?_); rintro e w2 ⟨m2, rfl, hm2, hb2⟩; have c1'' := (hb2.cell (p := ⟨b, off + k * 3, none⟩) hbr1).trans c1'; have c2'' := (hb2.cell (p := ⟨b, off + k * 3 + 1, none⟩) hbr1).trans c2'; have hs2 := fits3' pa hm hm2))
          have hb1' : Below w.heap.size w w1 := bthen hb.drew hbs hb1
          have hb2' : Below w.heap.size w w2 := bthen hb1' hb1'.size hb2
          go_wp2
          go_roundw
          case rel => exact ⟨k + 1, _, by go_num, rfl, by omega, by simp only [List.length_append]; omega, hb2'⟩
          case measure => simp [intOf]; omega
    · go_wp2
      all_goals first | (exfalso; omega) | skip
      go_ret
      exact ⟨acc, rfl, by omega, hb⟩
end Go.Proofs.Ytlmchjiifcnpgaa
