/- The walks of layer 1 (varint) and of its reference: Put and Get, each once. No condition. -/
import Derived.Test.YtlmchjiifcnpgaaBase
import Derived.Test.YtlmchjiifcnpgaaVarintP
namespace Go.Proofs.Ytlmchjiifcnpgaa
open Go.RowKit

/-- What the reference's Get returns. -/
def getPair : Option (Nat × Nat) → Value
  | some (n, k) => .tuple #[.int .u64 n, .int .i64 k]
  | none => .tuple #[.int .u64 0, .int .i64 0]

/-- What Get returns. -/
def getTriple (l : List UInt8) : Option (Nat × Nat) → Value
  | some (n, k) => .tuple #[.int .u64 n, .string (B (l.drop k)), .int .i64 0]
  | none => .tuple #[.int .u64 0, .string (B []), .int .i64 2]

theorem or128 (k : Nat) : bits .or .u8 ((k : Int) % 256) 128 = 128 + (k : Int) % 128 := by
  have h : ∀ m : Fin 256, bits .or .u8 ((m.val : Nat) : Int) 128 = 128 + ((m.val : Nat) : Int) % 128 := by decide +kernel
  have := h ⟨k % 256, by omega⟩
  simp only at this
  rw [show ((k % 256 : Nat) : Int) = (k : Int) % 256 from by omega] at this
  rw [this]
  omega

set_option maxRecDepth 100000 in
set_option maxHeartbeats 400000 in
theorem refPut_calls (n : Nat) (hn : n ≤ 18446744073709551615) (w : World) :
    Calls Try.prog 13 #[.int .u64 n] w fun e w' => e = .returned (.string (B (put n))) ∧ Below w.heap.size w w' := by
  have hc := fun (wx : World) (x : Int) => Try.str_of_one wx x
  go_enter Try.func13, Try.ntmps13
  go_wp2
  go_loopw [0, 3] (fun m s wr => ∃ (f k : Nat) (acc : List UInt8), m = .int .u64 k ∧ s = .string (B acc) ∧ Hid (acc ++ putF f k = put n) ∧ acc.length ≤ 9 ∧ acc.length + f ≤ 9 ∧ Hid (Fits f k) ∧ Below w.heap.size w wr) (fun m _ _ => (intOf m).toNat)
  case atStart => exact ⟨9, n, [], rfl, rfl, rfl, by simp, by simp, Lib.hid (Fits.of64 hn), Below.refl _ _⟩
  case round =>
    obtain ⟨f, k, acc, rfl, rfl, h1, h3, h4, h2, hb⟩ := hrel
    have hle := h2.out.le (by omega)
    go_wp2
    · have hk : 128 ≤ k := by omega
      obtain ⟨f, rfl⟩ := h2.out.pos hk
      go_roundw
      case rel => exact ⟨f, k / 128, acc ++ [UInt8.ofNat (128 + k % 128)], by go_num, by rw [ofNat_add_u8]; rfl, Lib.hid (by rw [← h1.out, putF_big f k hk]; simp), by simp; omega, by simp; omega, Lib.hid h2.out.next, hb.alloc hb.size _⟩
      case measure => simp [intOf]; omega
    · have hk : k < 128 := by omega
      go_ret
      refine ⟨?_, hb.alloc hb.size _⟩
      rw [← h1.out, putF_small f k hk]
      rfl

set_option maxRecDepth 100000 in
set_option maxHeartbeats 400000 in
theorem put_calls (n : Nat) (hn : n ≤ 18446744073709551615) (w : World) :
    Calls Try.prog 17 #[.int .u64 n] w fun e w' => e = .returned (.string (B (put n))) ∧ Below w.heap.size w w' := by
  go_enter Try.func17, Try.ntmps17
  go_wp2
  go_loopw [0, 3] (fun m v wr => ∃ (f k : Nat) (acc : List UInt8), m = .int .u64 k ∧ OwnB wr w.heap.size 5 v acc ∧ Hid (acc ++ putF f k = put n) ∧ acc.length ≤ 9 ∧ acc.length + f ≤ 9 ∧ Hid (Fits f k) ∧ Below w.heap.size w wr) (fun m _ _ => (intOf m).toNat)
  case atStart => exact ⟨9, n, [], rfl, OwnB.nil _ _ _, rfl, by simp, by simp, Lib.hid (Fits.of64 hn), Below.refl _ _⟩
  case round =>
    obtain ⟨f, k, acc, rfl, hown, h1, h3, h4, h2, hb⟩ := hrel
    have hor := or128 k
    have hle := h2.out.le (by omega)
    go_wp2_with (at_builtin; go_must (refine wpList_append_byte rfl _ _ _ rfl _ Try.bytesTy w.heap.size _ _ rfl (hown.alloc _) wr.heap.size _ rfl (cell_new1 _ _ _) (by omega) (by omega) (by omega) w (hb.alloc hb.size _) (by simp; have := hb.size; omega) ?_); intro v1 w1 hown1 hb1 _; have hcv := Try.str_of_own w1 hown1)
    · have hk : 128 ≤ k := by omega
      obtain ⟨f, rfl⟩ := h2.out.pos hk
      rw [show (128 + (k : Int) % 128).toNat = 128 + k % 128 from by omega] at hown1
      go_roundw
      case rel => exact ⟨f, k / 128, _, by go_num, hown1, Lib.hid (by rw [← h1.out, putF_big f k hk]; simp), by simp; omega, by simp; omega, Lib.hid h2.out.next, hb1⟩
      case measure => simp [intOf]; omega
    · have hk : k < 128 := by omega
      go_ret
      refine ⟨?_, hb1⟩
      rw [← h1.out, putF_small f k hk]
      rfl

set_option maxRecDepth 100000 in
set_option maxHeartbeats 800000 in
theorem refGet_calls (l : List UInt8) (hl : l.length ≤ 4611686018427387904) (w : World) :
    Calls Try.prog 12 #[.string (B l)] w fun e w' => e = .returned (getPair (get l)) ∧ w' = w := by
  go_enter Try.func12, Try.ntmps12
  go_wp2
  go_loop [4] (fun e => ∃ k : Nat, e = .int .i64 k ∧ k ≤ 10 ∧ k ≤ l.length ∧ Hid (k ≤ lead l)) (fun e => 10 - (intOf e).toNat)
  case atStart => exact ⟨0, rfl, by omega, by omega, Nat.zero_le _⟩
  case round =>
    obtain ⟨e, rfl, h1, h2, h3⟩ := hrel
    by_cases ha : e < l.length
    · by_cases hb : e < 10
      · obtain ⟨c, hc⟩ : ∃ c, l[e] = c := ⟨_, rfl⟩
        by_cases hd : 128 ≤ c.toNat
        · have hn : Hid (e + 1 ≤ lead l) := lead_next h3.out ha (by rw [hc]; exact hd)
          go_wp2
          go_round
          case rel => exact ⟨e + 1, by go_num, by omega, by omega, hn⟩
          case measure => simp [intOf]; omega
        · have hle : Hid (lead l = e) := lead_here h3.out ha (by rw [hc]; omega)
          by_cases h9 : e = 9 ∧ 1 < c.toNat
          · obtain ⟨rfl, h9'⟩ := h9
            have hfin : Hid (get l = none) := get_nine ha hle.out (by rw [hc]; exact h9')
            go_wp2
            all_goals first | (exfalso; omega) | (go_ret2; exact ⟨by rw [hfin.out]; rfl, rfl⟩)
          · by_cases h0 : 0 < e ∧ c.toNat = 0
            · obtain ⟨h0', h0c⟩ := h0
              have hfin : Hid (get l = none) := get_zero ha hle.out h0' (by rw [hc]; exact h0c)
              have h0d : ((c.toNat : Int) == 0) = true := by simp [h0c]
              have h9' : ¬ 1 < c.toNat := by omega
              have h0c' := Lib.hid h0c
              clear h9 h0c
              by_cases he9 : e = 9
              · subst he9
                go_wp2
                all_goals first | (exfalso; omega) | (go_ret2; exact ⟨by rw [hfin.out]; rfl, rfl⟩)
              · go_wp2
                all_goals first | (exfalso; omega) | (go_ret2; exact ⟨by rw [hfin.out]; rfl, rfl⟩)
            · obtain ⟨V, hfin0, hV00, hVs0, hVb⟩ := get_seq ha hle.out hb (fun h => by rw [hc]; omega) (fun h => by rw [hc]; omega)
              have hfin := Lib.hid hfin0
              have hV0 := Lib.hid hV00
              have hVs := Lib.hid hVs0
              clear hfin0 hV00 hVs0
              have hVb' := Lib.hid hVb
              clear hVb
              have hcz : 0 < e → ((c.toNat : Int) == 0) = false := by intro h; simp; omega
              by_cases he9 : e = 9
              · subst he9
                have hcz' := hcz (by omega)
                have hc1 : ¬ 1 < c.toNat := by omega
                clear hcz
                go_wp2
                all_goals first | (exfalso; omega) | (exfalso; simp at ha; done) | (exfalso; rename_i hnil _; subst hnil; simp at ha; done) | skip
                all_goals
                  go_loop [5, 6] (fun n i => ∃ j : Nat, j ≤ 9 + 1 ∧ i = .int .i64 ((j : Int) - 1) ∧ n = .int .u64 (V j)) (fun _ i => (intOf i + 1).toNat)
                  case atStart => exact ⟨9 + 1, by omega, by go_num, by rw [hV0.out]; rfl⟩
                  case round =>
                    obtain ⟨j, hj, rfl, rfl⟩ := hrel
                    cases j with
                    | zero =>
                      go_wp2
                      all_goals first | (exfalso; omega) | skip
                      go_ret2
                      exact ⟨by rw [hfin.out]; rfl, rfl⟩
                    | succ m =>
                      have hm : m < l.length := by omega
                      have hs := hVs.out m hm (by omega)
                      have hb1 := hVb'.out m
                      have hji : ((m + 1 : Nat) : Int) - 1 = (m : Int) := by omega
                      have hx : 128 * (V (m + 1) : Int) + ((l[m]).toNat : Int) % 128 ≤ 18446744073709551615 := by omega
                      have hs' : Hid ((V m : Int) = 128 * (V (m + 1) : Int) + ((l[m]).toNat : Int) % 128) := by rw [hs]; show (_ : Int) = _; omega
                      clear hs
                      rw [hji]
                      generalize V (m + 1) = N at *
                      go_wp2
                      all_goals first | (exfalso; omega) | skip
                      go_round
                      case rel => exact ⟨m, by omega, by go_num, by rw [hs'.out]⟩
                      case measure => simp [intOf]
              · by_cases he0 : e = 0
                · subst he0
                  clear hcz
                  go_wp2
                  all_goals first | (exfalso; omega) | (exfalso; simp at ha; done) | (exfalso; rename_i hnil _; subst hnil; simp at ha; done) | skip
                  all_goals
                    go_loop [5, 6] (fun n i => ∃ j : Nat, j ≤ 0 + 1 ∧ i = .int .i64 ((j : Int) - 1) ∧ n = .int .u64 (V j)) (fun _ i => (intOf i + 1).toNat)
                    case atStart => exact ⟨0 + 1, by omega, by go_num, by rw [hV0.out]; rfl⟩
                    case round =>
                      obtain ⟨j, hj, rfl, rfl⟩ := hrel
                      cases j with
                      | zero =>
                        go_wp2
                        all_goals first | (exfalso; omega) | skip
                        go_ret2
                        exact ⟨by rw [hfin.out]; rfl, rfl⟩
                      | succ m =>
                        have hm : m < l.length := by omega
                        have hs := hVs.out m hm (by omega)
                        have hb1 := hVb'.out m
                        have hji : ((m + 1 : Nat) : Int) - 1 = (m : Int) := by omega
                        have hx : 128 * (V (m + 1) : Int) + ((l[m]).toNat : Int) % 128 ≤ 18446744073709551615 := by omega
                        have hs' : Hid ((V m : Int) = 128 * (V (m + 1) : Int) + ((l[m]).toNat : Int) % 128) := by rw [hs]; show (_ : Int) = _; omega
                        clear hs
                        rw [hji]
                        generalize V (m + 1) = N at *
                        go_wp2
                        all_goals first | (exfalso; omega) | skip
                        go_round
                        case rel => exact ⟨m, by omega, by go_num, by rw [hs'.out]⟩
                        case measure => simp [intOf]
                · have hcz' := hcz (by omega)
                  clear hcz
                  go_wp2
                  all_goals first | (exfalso; omega) | (exfalso; simp at ha; done) | (exfalso; rename_i hnil _; subst hnil; simp at ha; done) | skip
                  all_goals
                    go_loop [5, 6] (fun n i => ∃ j : Nat, j ≤ e + 1 ∧ i = .int .i64 ((j : Int) - 1) ∧ n = .int .u64 (V j)) (fun _ i => (intOf i + 1).toNat)
                    case atStart => exact ⟨e + 1, by omega, by go_num, by rw [hV0.out]; rfl⟩
                    case round =>
                      obtain ⟨j, hj, rfl, rfl⟩ := hrel
                      cases j with
                      | zero =>
                        go_wp2
                        all_goals first | (exfalso; omega) | skip
                        go_ret2
                        exact ⟨by rw [hfin.out]; rfl, rfl⟩
                      | succ m =>
                        have hm : m < l.length := by omega
                        have hs := hVs.out m hm (by omega)
                        have hb1 := hVb'.out m
                        have hji : ((m + 1 : Nat) : Int) - 1 = (m : Int) := by omega
                        have hx : 128 * (V (m + 1) : Int) + ((l[m]).toNat : Int) % 128 ≤ 18446744073709551615 := by omega
                        have hs' : Hid ((V m : Int) = 128 * (V (m + 1) : Int) + ((l[m]).toNat : Int) % 128) := by rw [hs]; show (_ : Int) = _; omega
                        clear hs
                        rw [hji]
                        generalize V (m + 1) = N at *
                        go_wp2
                        all_goals first | (exfalso; omega) | skip
                        go_round
                        case rel => exact ⟨m, by omega, by go_num, by rw [hs'.out]⟩
                        case measure => simp [intOf]
      · have hfin : Hid (get l = none) := get_ten (by have := h3.out; omega)
        have hb' : e = 10 := by omega
        subst hb'
        go_wp2
        all_goals first | (exfalso; omega) | (go_ret2; exact ⟨by rw [hfin.out]; rfl, rfl⟩)
    · have hfin : Hid (get l = none) := get_end (by have := h3.out; omega)
      go_wp2
      all_goals first | (exfalso; omega) | (go_ret2; exact ⟨by rw [hfin.out]; rfl, rfl⟩)
end Go.Proofs.Ytlmchjiifcnpgaa
