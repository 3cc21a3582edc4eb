/- The walks of layer 5 (lz) and of its reference: read, Unpack. No condition but sizes that every memory has. -/
import Derived.Test.YtlmchjiifcnpgaaVarint2
import Derived.Test.YtlmchjiifcnpgaaLzP
namespace Go.Proofs.Ytlmchjiifcnpgaa
open Go.RowKit

theorem get_some {l : List UInt8} {n k : Nat} (h : get l = some (n, k)) (hl : l.length ≤ 4611686018427387904) (w : World) :
    Calls Try.prog 18 #[.string (B l)] w fun e w' => e = .returned (.tuple #[.int .u64 n, .string (B (l.drop k)), .int .i64 0]) ∧ ∃ n, w' = w.drewN n :=
  (get_calls l hl w).mono fun e w' ⟨he, hw⟩ => ⟨by rw [he, h]; rfl, hw⟩
theorem get_non {l : List UInt8} (h : get l = none) (hl : l.length ≤ 4611686018427387904) (w : World) :
    Calls Try.prog 18 #[.string (B l)] w fun e w' => e = .returned (.tuple #[.int .u64 0, .string (B []), .int .i64 2]) ∧ ∃ n, w' = w.drewN n :=
  (get_calls l hl w).mono fun e w' ⟨he, hw⟩ => ⟨by rw [he, h]; rfl, hw⟩

/-- What read returns. -/
def rdVal : Option (Nat × Nat × List UInt8) → Value
  | some (n, f, r) => .tuple #[.agg #[.int .u64 n, .int .u64 f], .string (B r), .int .i64 0]
  | none => .tuple #[.agg #[.int .u64 0, .int .u64 0], .string (B []), .int .i64 2]

theorem below_two (w : World) (o : Obj) (n : Nat) (u v : Value) : Below w.heap.size w ((((w.alloc o).drewN n).setCell ⟨w.heap.size, 0, none⟩ u).setCell ⟨w.heap.size, 1, none⟩ v) :=
  ((bdrewN ((Below.refl _ _).alloc (Nat.le_refl _) _) _).setCell (Nat.le_refl _) _).setCell (Nat.le_refl _) _

set_option maxRecDepth 100000 in
set_option maxHeartbeats 800000 in
theorem read_calls (l : List UInt8) (hv : Nat) (hl : l.length ≤ 4611686018427387904) (hh : hv ≤ 4611686018427387904) (w : World) :
    Calls Try.prog 11 #[.string (B l), .int .i64 hv] w fun e w' => e = .returned (rdVal (rd l hv)) ∧ Below w.heap.size w w' := by
  rcases hg : get l with _ | ⟨n, k⟩
  · have hG := Lib.hid hg
    have hR := Lib.hid (rd_none (hv := hv) hg)
    clear hg
    go_enter Try.func11, Try.ntmps11
    go_wp2_with (go_at_call 18; go_must (refine (get_non hG.out hl _).mono ?_); rintro e w' ⟨rfl, nq, rfl⟩)
    refine bodyPost_ret (v := .tuple #[.agg #[.int .u64 0, .int .u64 0], .string (B []), .int .i64 2]) (by simp [results, Try.results11, go_sem]; rfl) rfl ⟨by rw [hR.out]; rfl, ?_⟩
    exact below_two _ _ _ _ _
  · obtain ⟨hn, hk0, hkl⟩ := get_bounds hg
    have hG := Lib.hid hg
    clear hg
    have hlr : (l.drop k).length ≤ 4611686018427387904 := by rw [List.length_drop]; omega
    by_cases h2 : n % 2 = 0
    · have h2h := Lib.hid h2
      have h2i : ((n : Int) % 2 == 0) = true := by simp; omega
      clear h2
      by_cases h0 : n = 0
      · have hR := Lib.hid (rd_plain_bad (hv := hv) hG.out h2h.out (.inl h0))
        subst h0
        go_enter Try.func11, Try.ntmps11
        go_wp2_with (go_at_call 18; go_must (refine (get_some hG.out hl _).mono ?_); rintro e w' ⟨rfl, nq, rfl⟩)
        refine bodyPost_ret (v := .tuple #[.agg #[.int .u64 0, .int .u64 0], .string (B []), .int .i64 2]) (by simp [results, Try.results11, go_sem]; rfl) rfl ⟨by rw [hR.out]; rfl, ?_⟩
        exact below_two _ _ _ _ _
      · have h0i : ((n : Int) == 0) = false := by simp; omega
        by_cases h3 : (l.drop k).length < n / 2
        · have hR := Lib.hid (rd_plain_bad (hv := hv) hG.out h2h.out (.inr h3))
          rw [List.length_drop] at h3
          go_enter Try.func11, Try.ntmps11
          go_wp2_with (go_at_call 18; go_must (refine (get_some hG.out hl _).mono ?_); rintro e w' ⟨rfl, nq, rfl⟩)
          all_goals first | (exfalso; omega) | skip
          refine bodyPost_ret (v := .tuple #[.agg #[.int .u64 0, .int .u64 0], .string (B []), .int .i64 2]) (by simp [results, Try.results11, go_sem]; rfl) rfl ⟨by rw [hR.out]; rfl, ?_⟩
          exact below_two _ _ _ _ _
        · have hR := Lib.hid (rd_plain (hv := hv) hG.out h2h.out h0 (by omega))
          rw [List.length_drop] at h3
          go_enter Try.func11, Try.ntmps11
          go_wp2_with (go_at_call 18; go_must (refine (get_some hG.out hl _).mono ?_); rintro e w' ⟨rfl, nq, rfl⟩)
          all_goals first | (exfalso; omega) | skip
          refine bodyPost_ret (v := rdVal (some (n / 2, 0, l.drop k))) (by simp [results, rdVal, Try.results11, go_sem]) rfl ⟨by rw [hR.out], ?_⟩
          exact below_two _ _ _ _ _
    · have h2h : Hid (n % 2 = 1) := by show n % 2 = 1; omega
      have h2i : ((n : Int) % 2 == 0) = false := by simp; omega
      clear h2
      rcases hg2 : get (l.drop k) with _ | ⟨f, m⟩
      · have hG2 := Lib.hid hg2
        have hR := Lib.hid (rd_far_none (hv := hv) hG.out h2h.out hg2)
        clear hg2
        go_enter Try.func11, Try.ntmps11
        go_wp2_with (go_at_call 18; go_must (first | with_reducible refine (get_some hG.out hl _).mono ?_ | with_reducible refine (get_non hG2.out hlr _).mono ?_); rintro e w' ⟨rfl, nq, rfl⟩)
        all_goals first | (exfalso; omega) | skip
        refine bodyPost_ret (v := .tuple #[.agg #[.int .u64 0, .int .u64 0], .string (B []), .int .i64 2]) (by simp [results, Try.results11, go_sem]; rfl) rfl ⟨by rw [hR.out]; rfl, ?_⟩
        exact below_two _ _ _ _ _
      · obtain ⟨hf, hm0, hml⟩ := get_bounds hg2
        have hG2 := Lib.hid hg2
        clear hg2
        by_cases hb : n / 2 < 4 ∨ f < 1 ∨ 65535 < f ∨ hv < f
        · have hR := Lib.hid (rd_far_bad (hv := hv) hG.out h2h.out hG2.out hb)
          have hbh := Lib.hid hb
          clear hb
          go_enter Try.func11, Try.ntmps11
          go_wp2_with (go_at_call 18; go_must (first | with_reducible refine (get_some hG.out hl _).mono ?_ | with_reducible refine (get_some hG2.out hlr _).mono ?_); rintro e w' ⟨rfl, nq, rfl⟩)
          all_goals first
            | (exfalso; have := hbh.out; omega)
            | (refine bodyPost_ret (v := .tuple #[.agg #[.int .u64 0, .int .u64 0], .string (B []), .int .i64 2]) (by simp [results, Try.results11, go_sem]; rfl) rfl ⟨by rw [hR.out]; rfl, ?_⟩
               exact below_two _ _ _ _ _)
        · have hR := Lib.hid (rd_far (hv := hv) hG.out h2h.out hG2.out (by omega) (by omega) (by omega) (by omega))
          have hb1 : 4 ≤ n / 2 := by omega
          have hb2 : 1 ≤ f := by omega
          have hb3 : f ≤ 65535 := by omega
          have hb4 : f ≤ hv := by omega
          clear hb
          go_enter Try.func11, Try.ntmps11
          go_wp2_with (go_at_call 18; go_must (first | with_reducible refine (get_some hG.out hl _).mono ?_ | with_reducible refine (get_some hG2.out hlr _).mono ?_); rintro e w' ⟨rfl, nq, rfl⟩)
          all_goals first | (exfalso; omega) | skip
          refine bodyPost_ret (v := rdVal (some (n / 2, f, (l.drop k).drop m))) (by simp [results, rdVal, Try.results11, go_sem]) rfl ⟨by rw [hR.out], ?_⟩
          exact below_two _ _ _ _ _
end Go.Proofs.Ytlmchjiifcnpgaa
