/- Lemmas and walks of this seat, laid together: Varint, ObjA, ObjB, SortP, ObjE, ObjM, ObjR, Bld, Bld2. -/
import Derived.Test.YtlanconcbpdneaaDoorMb
import Derived.Deep.DeepCutAuto
import Derived.Below
import Derived.Laws.Cover1
import Derived.Lib.Bytealg
import Derived.BigQuiet
import Derived.Lib.Builder
import Derived.Shelf.Strings.Builder1
/- The walks of layer 1 (varint) and of its reference: Put and Get, each once. No condition. -/
namespace Go.Proofs.YtlanconcbpdneaaDoor
open Go.RowKit

/-- What the reference's Get returns. -/
def getPair : Option (Nat × Nat) → Value
  | some (n, k) => .tuple #[.int .u64 n, .int .i64 k]
  | none => .tuple #[.int .u64 0, .int .i64 0]

/-- What Get returns. -/
def getTriple (l : List UInt8) : Option (Nat × Nat) → Value
  | some (n, k) => .tuple #[.int .u64 n, .string (B (l.drop k)), .int .i64 0]
  | none => .tuple #[.int .u64 0, .string (B []), .int .i64 2]

theorem or128 (k : Nat) : bits .or .u8 ((k : Int) % 256) 128 = 128 + (k : Int) % 128 := by
  have h : ∀ m : Fin 256, bits .or .u8 ((m.val : Nat) : Int) 128 = 128 + ((m.val : Nat) : Int) % 128 := by decide +kernel
  have := h ⟨k % 256, by omega⟩
  simp only at this
  rw [show ((k % 256 : Nat) : Int) = (k : Int) % 256 from by omega] at this
  rw [this]
  omega

set_option maxRecDepth 100000 in
set_option maxHeartbeats 400000 in
theorem refPut_calls (n : Nat) (hn : n ≤ 18446744073709551615) (w : World) :
    Calls Tryd.prog 54 #[.int .u64 n] w fun e w' => e = .returned (.string (B (put n))) ∧ Below w.heap.size w w' := by
  have hc := fun (wx : World) (x : Int) => Tryd.str_of_one wx x
  go_enter Tryd.func54, Tryd.ntmps54
  go_wp2
  go_loopw [0, 3] (fun m s wr => ∃ (f k : Nat) (acc : List UInt8), m = .int .u64 k ∧ s = .string (B acc) ∧ Hid (acc ++ putF f k = put n) ∧ acc.length ≤ 9 ∧ acc.length + f ≤ 9 ∧ Hid (Fits f k) ∧ Below w.heap.size w wr) (fun m _ _ => (intOf m).toNat)
  case atStart => exact ⟨9, n, [], rfl, rfl, rfl, by simp, by simp, Lib.hid (Fits.of64 hn), Below.refl _ _⟩
  case round =>
    obtain ⟨f, k, acc, rfl, rfl, h1, h3, h4, h2, hb⟩ := hrel
    have hle := h2.out.le (by omega)
    go_wp2
    · have hk : 128 ≤ k := by omega
      obtain ⟨f, rfl⟩ := h2.out.pos hk
      go_roundw
      case rel => exact ⟨f, k / 128, acc ++ [UInt8.ofNat (128 + k % 128)], by go_num, by rw [ofNat_add_u8]; rfl, Lib.hid (by rw [← h1.out, putF_big f k hk]; simp), by simp; omega, by simp; omega, Lib.hid h2.out.next, hb.alloc hb.size _⟩
      case measure => simp [intOf]; omega
    · have hk : k < 128 := by omega
      go_ret
      refine ⟨?_, hb.alloc hb.size _⟩
      rw [← h1.out, putF_small f k hk]
      rfl

set_option maxRecDepth 100000 in
set_option maxHeartbeats 400000 in
theorem put_calls (n : Nat) (hn : n ≤ 18446744073709551615) (w : World) :
    Calls Tryd.prog 47 #[.int .u64 n] w fun e w' => e = .returned (.string (B (put n))) ∧ Below w.heap.size w w' := by
  go_enter Tryd.func47, Tryd.ntmps47
  go_wp2
  go_loopw [0, 3] (fun m v wr => ∃ (f k : Nat) (acc : List UInt8), m = .int .u64 k ∧ OwnB wr w.heap.size 5 v acc ∧ Hid (acc ++ putF f k = put n) ∧ acc.length ≤ 9 ∧ acc.length + f ≤ 9 ∧ Hid (Fits f k) ∧ Below w.heap.size w wr) (fun m _ _ => (intOf m).toNat)
  case atStart => exact ⟨9, n, [], rfl, OwnB.nil _ _ _, rfl, by simp, by simp, Lib.hid (Fits.of64 hn), Below.refl _ _⟩
  case round =>
    obtain ⟨f, k, acc, rfl, hown, h1, h3, h4, h2, hb⟩ := hrel
    have hor := or128 k
    have hle := h2.out.le (by omega)
    go_wp2_with (at_builtin; go_must (refine wpList_append_byte rfl _ _ _ rfl _ Tryd.bytesTy w.heap.size _ _ rfl (hown.alloc _) wr.heap.size _ rfl (cell_new1 _ _ _) (by omega) (by omega) (by omega) w (hb.alloc hb.size _) (by simp; have := hb.size; omega) ?_); intro v1 w1 hown1 hb1 _; have hcv := Tryd.str_of_own w1 hown1)
    · have hk : 128 ≤ k := by omega
      obtain ⟨f, rfl⟩ := h2.out.pos hk
      rw [show (128 + (k : Int) % 128).toNat = 128 + k % 128 from by omega] at hown1
      go_roundw
      case rel => exact ⟨f, k / 128, _, by go_num, hown1, Lib.hid (by rw [← h1.out, putF_big f k hk]; simp), by simp; omega, by simp; omega, Lib.hid h2.out.next, hb1⟩
      case measure => simp [intOf]; omega
    · have hk : k < 128 := by omega
      go_ret
      refine ⟨?_, hb1⟩
      rw [← h1.out, putF_small f k hk]
      rfl

set_option maxRecDepth 100000 in
set_option maxHeartbeats 800000 in
theorem refGet_calls (l : List UInt8) (hl : l.length ≤ 4611686018427387904) (w : World) :
    Calls Tryd.prog 38 #[.string (B l)] w fun e w' => e = .returned (getPair (get l)) ∧ w' = w := by
  go_enter Tryd.func38, Tryd.ntmps38
  go_wp2
  go_loop [4] (fun e => ∃ k : Nat, e = .int .i64 k ∧ k ≤ 10 ∧ k ≤ l.length ∧ Hid (k ≤ lead l)) (fun e => 10 - (intOf e).toNat)
  case atStart => exact ⟨0, rfl, by omega, by omega, Nat.zero_le _⟩
  case round =>
    obtain ⟨e, rfl, h1, h2, h3⟩ := hrel
    by_cases ha : e < l.length
    · by_cases hb : e < 10
      · obtain ⟨c, hc⟩ : ∃ c, l[e] = c := ⟨_, rfl⟩
        by_cases hd : 128 ≤ c.toNat
        · have hn : Hid (e + 1 ≤ lead l) := lead_next h3.out ha (by rw [hc]; exact hd)
          go_wp2
          go_round
          case rel => exact ⟨e + 1, by go_num, by omega, by omega, hn⟩
          case measure => simp [intOf]; omega
        · have hle : Hid (lead l = e) := lead_here h3.out ha (by rw [hc]; omega)
          by_cases h9 : e = 9 ∧ 1 < c.toNat
          · obtain ⟨rfl, h9'⟩ := h9
            have hfin : Hid (get l = none) := get_nine ha hle.out (by rw [hc]; exact h9')
            go_wp2
            all_goals first | (exfalso; omega) | (go_ret2; exact ⟨by rw [hfin.out]; rfl, rfl⟩)
          · by_cases h0 : 0 < e ∧ c.toNat = 0
            · obtain ⟨h0', h0c⟩ := h0
              have hfin : Hid (get l = none) := get_zero ha hle.out h0' (by rw [hc]; exact h0c)
              have h0d : ((c.toNat : Int) == 0) = true := by simp [h0c]
              have h9' : ¬ 1 < c.toNat := by omega
              have h0c' := Lib.hid h0c
              clear h9 h0c
              by_cases he9 : e = 9
              · subst he9
                go_wp2
                all_goals first | (exfalso; omega) | (go_ret2; exact ⟨by rw [hfin.out]; rfl, rfl⟩)
              · go_wp2
                all_goals first | (exfalso; omega) | (go_ret2; exact ⟨by rw [hfin.out]; rfl, rfl⟩)
            · obtain ⟨V, hfin0, hV00, hVs0, hVb⟩ := get_seq ha hle.out hb (fun h => by rw [hc]; omega) (fun h => by rw [hc]; omega)
              have hfin := Lib.hid hfin0
              have hV0 := Lib.hid hV00
              have hVs := Lib.hid hVs0
              clear hfin0 hV00 hVs0
              have hVb' := Lib.hid hVb
              clear hVb
              have hcz : 0 < e → ((c.toNat : Int) == 0) = false := by intro h; simp; omega
              by_cases he9 : e = 9
              · subst he9
                have hcz' := hcz (by omega)
                have hc1 : ¬ 1 < c.toNat := by omega
                clear hcz
                go_wp2
                all_goals first | (exfalso; omega) | (exfalso; simp at ha; done) | (exfalso; rename_i hnil _; subst hnil; simp at ha; done) | skip
                all_goals
                  go_loop [5, 6] (fun n i => ∃ j : Nat, j ≤ 9 + 1 ∧ i = .int .i64 ((j : Int) - 1) ∧ n = .int .u64 (V j)) (fun _ i => (intOf i + 1).toNat)
                  case atStart => exact ⟨9 + 1, by omega, by go_num, by rw [hV0.out]; rfl⟩
                  case round =>
                    obtain ⟨j, hj, rfl, rfl⟩ := hrel
                    cases j with
                    | zero =>
                      go_wp2
                      all_goals first | (exfalso; omega) | skip
                      go_ret2
                      exact ⟨by rw [hfin.out]; rfl, rfl⟩
                    | succ m =>
                      have hm : m < l.length := by omega
                      have hs := hVs.out m hm (by omega)
                      have hb1 := hVb'.out m
                      have hji : ((m + 1 : Nat) : Int) - 1 = (m : Int) := by omega
                      have hx : 128 * (V (m + 1) : Int) + ((l[m]).toNat : Int) % 128 ≤ 18446744073709551615 := by omega
                      have hs' : Hid ((V m : Int) = 128 * (V (m + 1) : Int) + ((l[m]).toNat : Int) % 128) := by rw [hs]; show (_ : Int) = _; omega
                      clear hs
                      rw [hji]
                      generalize V (m + 1) = N at *
                      go_wp2
                      all_goals first | (exfalso; omega) | skip
                      go_round
                      case rel => exact ⟨m, by omega, by go_num, by rw [hs'.out]⟩
                      case measure => simp [intOf]
              · by_cases he0 : e = 0
                · subst he0
                  clear hcz
                  go_wp2
                  all_goals first | (exfalso; omega) | (exfalso; simp at ha; done) | (exfalso; rename_i hnil _; subst hnil; simp at ha; done) | skip
                  all_goals
                    go_loop [5, 6] (fun n i => ∃ j : Nat, j ≤ 0 + 1 ∧ i = .int .i64 ((j : Int) - 1) ∧ n = .int .u64 (V j)) (fun _ i => (intOf i + 1).toNat)
                    case atStart => exact ⟨0 + 1, by omega, by go_num, by rw [hV0.out]; rfl⟩
                    case round =>
                      obtain ⟨j, hj, rfl, rfl⟩ := hrel
                      cases j with
                      | zero =>
                        go_wp2
                        all_goals first | (exfalso; omega) | skip
                        go_ret2
                        exact ⟨by rw [hfin.out]; rfl, rfl⟩
                      | succ m =>
                        have hm : m < l.length := by omega
                        have hs := hVs.out m hm (by omega)
                        have hb1 := hVb'.out m
                        have hji : ((m + 1 : Nat) : Int) - 1 = (m : Int) := by omega
                        have hx : 128 * (V (m + 1) : Int) + ((l[m]).toNat : Int) % 128 ≤ 18446744073709551615 := by omega
                        have hs' : Hid ((V m : Int) = 128 * (V (m + 1) : Int) + ((l[m]).toNat : Int) % 128) := by rw [hs]; show (_ : Int) = _; omega
                        clear hs
                        rw [hji]
                        generalize V (m + 1) = N at *
                        go_wp2
                        all_goals first | (exfalso; omega) | skip
                        go_round
                        case rel => exact ⟨m, by omega, by go_num, by rw [hs'.out]⟩
                        case measure => simp [intOf]
                · have hcz' := hcz (by omega)
                  clear hcz
                  go_wp2
                  all_goals first | (exfalso; omega) | (exfalso; simp at ha; done) | (exfalso; rename_i hnil _; subst hnil; simp at ha; done) | skip
                  all_goals
                    go_loop [5, 6] (fun n i => ∃ j : Nat, j ≤ e + 1 ∧ i = .int .i64 ((j : Int) - 1) ∧ n = .int .u64 (V j)) (fun _ i => (intOf i + 1).toNat)
                    case atStart => exact ⟨e + 1, by omega, by go_num, by rw [hV0.out]; rfl⟩
                    case round =>
                      obtain ⟨j, hj, rfl, rfl⟩ := hrel
                      cases j with
                      | zero =>
                        go_wp2
                        all_goals first | (exfalso; omega) | skip
                        go_ret2
                        exact ⟨by rw [hfin.out]; rfl, rfl⟩
                      | succ m =>
                        have hm : m < l.length := by omega
                        have hs := hVs.out m hm (by omega)
                        have hb1 := hVb'.out m
                        have hji : ((m + 1 : Nat) : Int) - 1 = (m : Int) := by omega
                        have hx : 128 * (V (m + 1) : Int) + ((l[m]).toNat : Int) % 128 ≤ 18446744073709551615 := by omega
                        have hs' : Hid ((V m : Int) = 128 * (V (m + 1) : Int) + ((l[m]).toNat : Int) % 128) := by rw [hs]; show (_ : Int) = _; omega
                        clear hs
                        rw [hji]
                        generalize V (m + 1) = N at *
                        go_wp2
                        all_goals first | (exfalso; omega) | skip
                        go_round
                        case rel => exact ⟨m, by omega, by go_num, by rw [hs'.out]⟩
                        case measure => simp [intOf]
      · have hfin : Hid (get l = none) := get_ten (by have := h3.out; omega)
        have hb' : e = 10 := by omega
        subst hb'
        go_wp2
        all_goals first | (exfalso; omega) | (go_ret2; exact ⟨by rw [hfin.out]; rfl, rfl⟩)
    · have hfin : Hid (get l = none) := get_end (by have := h3.out; omega)
      go_wp2
      all_goals first | (exfalso; omega) | (go_ret2; exact ⟨by rw [hfin.out]; rfl, rfl⟩)
end Go.Proofs.YtlanconcbpdneaaDoor
/- The walks of layer 4: one, bytes, kind, Text on both sides, alone. No condition. -/
namespace Go.Proofs.YtlanconcbpdneaaDoor
open Go.RowKit
theorem byteK_wrap (n : Int) : UInt8.ofNat (n % 256).toNat = byteK n := rfl
set_option maxRecDepth 100000 in
set_option maxHeartbeats 1000000 in
theorem one_calls (n : Int) (w : World) : Calls Tryd.prog 40 #[.int .i64 n] w fun e w' => e = .returned (.string (B [byteK n])) ∧ Below w.heap.size w w' := by
  have hc := fun (wx : World) (x : Int) => Tryd.str_of_one wx x
  go_enter Tryd.func40, Tryd.ntmps40
  go_wp2
  go_ret
  exact ⟨rfl, (Below.refl _ _).alloc (Nat.le_refl _) _⟩
theorem str_of_blk (w : World) {t : TypeId} {g : Nat} {l : List UInt8} (h : Blk w g t (u8s l)) :
    (convert 56 9 (.slice (some ⟨g, 0, none⟩) l.length l.length)).run Tryd.prog w = .ok (.string (B l)) w := by
  rw [run_convert_bytes_arg w 56 5 Tryd.underlying56 Tryd.underlying5 g 0 l.length l.length (l.map fun c => (c.toNat : Int)) (by simp) (fun i hi => by
    rw [Nat.zero_add, h.cell, u8s_get l i hi]
    simp [List.getD, List.getElem?_map, List.getElem?_eq_getElem hi]) 9 Tryd.underlying9]
  have hl : (l.map fun c => (c.toNat : Int)).map (fun n => UInt8.ofNat n.toNat) = l := by
    rw [List.map_map]
    exact (List.map_congr_left (g := id) (fun c _ => by simp)).trans (List.map_id l)
  rw [strOfNums, hl]
  rfl
set_option maxRecDepth 100000 in
set_option maxHeartbeats 1000000 in
theorem bytes_calls (l : Txt) (hl : l.length = 32) (w : World) : Calls Tryd.prog 55 #[.agg (u8s l)] w fun e w' => e = .returned (.string (B l)) ∧ Below w.heap.size w w' := by
  have hc := str_of_blk (w.alloc (.cells (u8s l) 25)) (Blk.new w _ (u8s l))
  rw [hl] at hc
  go_enter Tryd.func55, Tryd.ntmps55
  go_wp2
  go_ret
  exact ⟨rfl, (Below.refl _ _).alloc (Nat.le_refl _) _⟩
set_option maxRecDepth 100000 in
set_option maxHeartbeats 1000000 in
theorem kind_calls (n : Int) (w : World) : Calls Tryd.prog 34 #[.int .i64 n] w fun e w' => e = .returned (.bool (kindB n)) ∧ w' = w := by
  obtain ⟨b, hb⟩ : ∃ b, Hid (b = kindB n) := ⟨_, Lib.hid rfl⟩
  rw [← hb.out]
  have hb2 := hb.out
  unfold kindB at hb2
  by_cases h1 : 1 ≤ n
  · by_cases h4 : n ≤ 4
    · have hf : Hid (b = true) := by show b = true; rw [hb2]; simp [h1, h4]
      clear hb hb2
      go_enter Tryd.func34, Tryd.ntmps34
      go_wp2
      go_ret
      exact ⟨by rw [hf.out]; simp [h4], rfl⟩
    · have hf : Hid (b = false) := by show b = false; rw [hb2]; simp [h4]
      clear hb hb2
      go_enter Tryd.func34, Tryd.ntmps34
      go_wp2
      go_ret
      exact ⟨by rw [hf.out]; simp [h4], rfl⟩
  · have hf : Hid (b = false) := by show b = false; rw [hb2]; simp [h1]
    clear hb hb2
    go_enter Tryd.func34, Tryd.ntmps34
    go_wp2
    go_ret
    exact ⟨by rw [hf.out]; simp [h1], rfl⟩
set_option maxRecDepth 100000 in
set_option maxHeartbeats 1000000 in
theorem text_calls (s : Txt) (hs : s.length ≤ 1000000000) (w : World) : Calls Tryd.prog 23 #[.string (B s)] w fun e w' => e = .returned (.string (B (textE s))) ∧ Below w.heap.size w w' := by
  have hp := Lib.hid (put_calls s.length (by omega) w)
  have hpl := put_length s.length
  have hte : Hid (textE s = put s.length ++ s) := Lib.hid rfl
  generalize put s.length = P at *
  have hn : ¬ 9223372036854775807 < P.length + s.length := by omega
  go_enter Tryd.func23, Tryd.ntmps23
  go_wp2_with (first
    | ((with_reducible refine hp.out.mono ?_); rintro e w1 ⟨rfl, hb1⟩))
  go_ret
  exact ⟨by rw [hte.out]; rfl, hb1⟩
set_option maxRecDepth 100000 in
set_option maxHeartbeats 1000000 in
theorem refText_calls (s : Txt) (hs : s.length ≤ 1000000000) (w : World) : Calls Tryd.prog 41 #[.string (B s)] w fun e w' => e = .returned (.string (B (textE s))) ∧ Below w.heap.size w w' := by
  have hp := Lib.hid (refPut_calls s.length (by omega) w)
  have hpl := put_length s.length
  have hte : Hid (textE s = put s.length ++ s) := Lib.hid rfl
  generalize put s.length = P at *
  have hn : ¬ 9223372036854775807 < P.length + s.length := by omega
  go_enter Tryd.func41, Tryd.ntmps41
  go_wp2_with (first
    | ((with_reducible refine hp.out.mono ?_); rintro e w1 ⟨rfl, hb1⟩))
  go_ret
  exact ⟨by rw [hte.out]; rfl, hb1⟩
end Go.Proofs.YtlanconcbpdneaaDoor
/- The walk of layer 4: alone. No condition. -/
namespace Go.Proofs.YtlanconcbpdneaaDoor
open Go.RowKit
attribute [local go_sem ↓] ldvI_eq
/-- An object boxed: one block more. -/
theorem boxed {w : World} {ve vp : Value} {o : ObjL} (ho : ObjOk o) : ObjB (w.alloc (.cells (objC o ve vp).toArray 29)) w.heap.size o ve vp := ⟨Blk.new w _ _, ho.tree, ho.target⟩
theorem int_eq0 (n : Nat) : ((n : Int) == 0) = (n == 0) := by
  rw [Bool.eq_iff_iff, beq_iff_eq, beq_iff_eq]; omega
set_option maxRecDepth 100000 in
set_option maxHeartbeats 4000000 in
theorem alone_calls (o : ObjL) (ho : ObjOk o) (A1 A2 : Option Addr) (k1 k2 : Nat) (w : World) : Calls Tryd.prog 32 #[.agg (objC o (.slice A1 o.ents.length k1) (.slice A2 o.pars.length k2)).toArray] w fun e w' => e = .returned (.bool (aloneB o)) ∧ Below w.heap.size w w' := by
  have hO := boxed (w := w) (ve := .slice A1 o.ents.length k1) (vp := .slice A2 o.pars.length k2) ho
  have b0 : Below w.heap.size w (w.alloc (.cells (objC o (.slice A1 o.ents.length k1) (.slice A2 o.pars.length k2)).toArray 29)) := (Below.refl _ _).alloc (Nat.le_refl _) _
  generalize (objC o (.slice A1 o.ents.length k1) (.slice A2 o.pars.length k2)).toArray = cs at *
  obtain ⟨W0, hW0⟩ : ∃ W0, w.alloc (.cells cs 29) = W0 := ⟨_, rfl⟩
  rw [hW0] at hO b0
  have c0 := hO.kind
  have c1 := hO.data
  have c2 := hO.ents
  have c35 := hO.pars
  have c36 := hO.time
  have c37 := hO.text
  have c70 := hO.of_
  have c71 := hO.name
  have q1 := run_ldvI_at hO.tree ho.tree
  have q2 := run_ldvI_at hO.target ho.target
  have z1 := fun W => equalIn_zero o.tree ho.tree W
  have z2 := fun W => equalIn_zero o.target ho.target W
  have e1 : Hid (commitN o = (decide (o.tree = List.replicate 32 0) && decide ((o.pars.length : Int) = 0) && decide ((o.time : Int) = 0) && o.text.isEmpty)) := by
    show commitN o = _
    rw [show decide ((o.pars.length : Int) = 0) = (o.pars.length == 0) from by rw [Bool.eq_iff_iff, decide_eq_true_iff, beq_iff_eq]; omega, show decide ((o.time : Int) = 0) = (o.time == 0) from by rw [Bool.eq_iff_iff, decide_eq_true_iff, beq_iff_eq]; omega]
    rfl
  have e2 : Hid (tagN o = (decide (o.target = List.replicate 32 0) && decide (o.of_ = 0) && o.name.isEmpty)) := by
    show tagN o = _
    rw [show decide (o.of_ = 0) = (o.of_ == 0) from by rw [Bool.eq_iff_iff, decide_eq_true_iff, beq_iff_eq]]
    rfl
  have e3 : List.isEmpty o.data = blobN o := rfl
  have e4 : ((o.ents.length : Int) == 0) = treeN o := by
    unfold treeN
    exact int_eq0 _
  have ht : o.time < 4294967296 := ho.time
  obtain ⟨r, hr⟩ : ∃ r, Hid (r = aloneB o) := ⟨_, Lib.hid rfl⟩
  rw [← hr.out]
  have hr2 := hr.out
  unfold aloneB at hr2
  replace hr2 := Lib.hid hr2
  clear hr hO ho
  generalize decide (o.tree = List.replicate 32 0) = T at *
  generalize decide (o.target = List.replicate 32 0) = G at *
  generalize commitN o = C at *
  generalize tagN o = D at *
  generalize blobN o = X at *
  generalize treeN o = Y at *
  go_enter Tryd.func32, Tryd.ntmps32
  go_upto_region 3 with fail
  go_cut [5] (fun s5 wx => s5 = .bool C ∧ wx = W0)
  case first =>
    go_wp2
    all_goals
      go_meet
      case rel =>
        refine ⟨?_, rfl⟩
        rw [e1.out]
        clear c0 c1 c2 c35 c36 c37 c70 c71 q1 q2 z1 z2 e1 e2 hr2 e3 e4 b0 hW0
        simp_all
  case rest =>
    obtain ⟨rfl, rfl⟩ := hcut
    clear e1 c35 c36 c37 z1 q1
    go_upto_region 4 with fail
    go_cut [6] (fun s6 wx => s6 = .bool D ∧ wx = wc)
    case first =>
      go_wp2
      all_goals
        go_meet
        case rel =>
          refine ⟨?_, rfl⟩
          rw [e2.out]
          clear c0 c1 c2 c70 c71 q2 z2 e2 hr2 e3 e4 b0 hW0
          simp_all
    case rest =>
      obtain ⟨rfl, rfl⟩ := hcut
      clear e2 c70 c71 z2 q2
      clear hW0
      go_wp2
      all_goals
        go_ret
        refine ⟨?_, b0⟩
        rw [hr2.out]
        simp_all
end Go.Proofs.YtlanconcbpdneaaDoor
/- Sorted lists by a key that is a text: where a key stands, what is put, what is dropped. No condition; no program. -/
namespace Go.Proofs.YtlanconcbpdneaaDoor
open Go.RowKit
/-- The order of texts. -/
theorem less_irrefl (a : List UInt8) : Op.bytesLess a a = false := by
  induction a with
  | nil => rfl
  | cons x a ih => rw [Op.bytesLess, ih]; simp
theorem less_asymm : ∀ {a b : List UInt8}, Op.bytesLess a b = true → Op.bytesLess b a = false
  | a, [], h => by cases a <;> simp [Op.bytesLess] at h
  | [], y :: b, _ => rfl
  | x :: a, y :: b, h => by
    rw [Op.bytesLess] at h ⊢
    simp only [Bool.or_eq_true, Bool.and_eq_true, decide_eq_true_eq, beq_iff_eq, UInt8.lt_iff_toNat_lt] at h
    simp only [Bool.or_eq_false_iff, Bool.and_eq_false_iff, decide_eq_false_iff_not, UInt8.lt_iff_toNat_lt]
    rcases h with h | ⟨rfl, h⟩
    · refine ⟨by omega, .inl ?_⟩
      rw [beq_eq_false_iff_ne]
      rintro rfl
      omega
    · exact ⟨by omega, .inr (less_asymm h)⟩
theorem less_total : ∀ {a b : List UInt8}, Op.bytesLess a b = false → a ≠ b → Op.bytesLess b a = true
  | [], [], _, hne => absurd rfl hne
  | x :: a, [], _, _ => rfl
  | [], y :: b, h, _ => by simp [Op.bytesLess] at h
  | x :: a, y :: b, h, hne => by
    rw [Op.bytesLess] at h ⊢
    simp only [Bool.or_eq_false_iff, Bool.and_eq_false_iff, decide_eq_false_iff_not, UInt8.lt_iff_toNat_lt] at h
    simp only [Bool.or_eq_true, Bool.and_eq_true, decide_eq_true_eq, beq_iff_eq, UInt8.lt_iff_toNat_lt]
    by_cases hxy : x = y
    · subst hxy
      refine .inr ⟨rfl, less_total (h.2.resolve_left (by simp)) (fun e => hne (by rw [e]))⟩
    · have : x.toNat ≠ y.toNat := fun e => hxy (UInt8.toNat_inj.1 e)
      exact .inl (by omega)
theorem less_trans : ∀ {a b c : List UInt8}, Op.bytesLess a b = true → Op.bytesLess b c = true → Op.bytesLess a c = true
  | a, b, [], _, h => by cases b <;> simp [Op.bytesLess] at h
  | a, [], z :: c, h, _ => by cases a <;> simp [Op.bytesLess] at h
  | [], y :: b, z :: c, _, _ => rfl
  | x :: a, y :: b, z :: c, h1, h2 => by
    rw [Op.bytesLess] at h1 h2 ⊢
    simp only [Bool.or_eq_true, Bool.and_eq_true, decide_eq_true_eq, beq_iff_eq, UInt8.lt_iff_toNat_lt] at h1 h2 ⊢
    rcases h1 with h1 | ⟨rfl, h1⟩
    · rcases h2 with h2 | ⟨rfl, h2⟩
      · exact .inl (by omega)
      · exact .inl h1
    · rcases h2 with h2 | ⟨rfl, h2⟩
      · exact .inl h2
      · exact .inr ⟨rfl, less_trans h1 h2⟩
/-- 'at most', as the walk has it. -/
theorem leq_not_less (a b : List UInt8) : (Op.bytesLess a b || a == b) = !Op.bytesLess b a := by
  cases h : Op.bytesLess a b
  · by_cases e : a = b
    · subst e; rw [less_irrefl]; simp
    · rw [less_total h e]; simp [e]
  · rw [less_asymm h]; simp
theorem cmp_neg : ∀ (a b : List UInt8), (decide (Lib.compareBytes a b < 0)) = Op.bytesLess a b
  | [], [] => rfl
  | [], _ :: _ => rfl
  | _ :: _, [] => rfl
  | x :: a, y :: b => by
    have ih := cmp_neg a b
    simp only [Lib.compareBytes, Op.bytesLess]
    by_cases h1 : x < y
    · simp [h1]
    · by_cases h2 : x > y
      · have hne : (x == y) = false := by
          rw [beq_eq_false_iff_ne]
          rintro rfl
          exact h1 h2
        simp [h1, h2, hne]
      · have he : x = y := UInt8.toNat_inj.1 (by rw [UInt8.lt_iff_toNat_lt] at h1; rw [gt_iff_lt, UInt8.lt_iff_toNat_lt] at h2; omega)
        subst he
        simp only [h1, if_false, decide_false, Bool.false_or, beq_self_eq_true, Bool.true_and]
        exact ih
theorem cmp_zero : ∀ (a b : List UInt8), (decide (Lib.compareBytes a b = 0)) = (a == b)
  | [], [] => rfl
  | [], _ :: _ => rfl
  | _ :: _, [] => rfl
  | x :: a, y :: b => by
    have ih := cmp_zero a b
    simp only [Lib.compareBytes]
    by_cases h1 : x < y
    · have hne : (x == y) = false := by
        rw [beq_eq_false_iff_ne]
        rintro rfl
        rw [UInt8.lt_iff_toNat_lt] at h1
        omega
      simp [h1, hne]
    · by_cases h2 : x > y
      · have hne : (x == y) = false := by
          rw [beq_eq_false_iff_ne]
          rintro rfl
          exact h1 h2
        simp [h1, h2, hne]
      · have he : x = y := UInt8.toNat_inj.1 (by rw [UInt8.lt_iff_toNat_lt] at h1; rw [gt_iff_lt, UInt8.lt_iff_toNat_lt] at h2; omega)
        subst he
        simp only [h1, h2, if_false]
        rw [ih]
        simp
/-- Whether the one at place p is the one that is looked for. -/
def hitAt {α : Type} (cmp : α → Int) (l : List α) (p : Nat) : Bool := match l[p]? with | some x => decide (cmp x = 0) | none => false
theorem hitAt_some {α : Type} {cmp : α → Int} {l : List α} {p : Nat} {x : α} (h : l[p]? = some x) : hitAt cmp l p = decide (cmp x = 0) := by unfold hitAt; rw [h]
theorem hitAt_none {α : Type} {cmp : α → Int} {l : List α} {p : Nat} (h : l.length ≤ p) : hitAt cmp l p = false := by unfold hitAt; rw [List.getElem?_eq_none h]
section
variable {α : Type} (key : α → List UInt8)
def SortedK (l : List α) : Prop := l.Pairwise (fun a b => Op.bytesLess (key a) (key b) = true)
def posK (l : List α) (n : List UInt8) : Nat := (l.takeWhile (fun r => Op.bytesLess (key r) n)).length
def hasK (l : List α) (n : List UInt8) : Bool := l.any (fun r => key r == n)
def dropK (l : List α) (n : List UInt8) : List α := l.filter (fun r => !(key r == n))
def insK (l : List α) (x : α) : List α := l.take (posK key l (key x)) ++ [x] ++ l.drop (posK key l (key x))
def putK (l : List α) (x : α) : List α := if hasK key l (key x) then l.set (posK key l (key x)) x else insK key l x
/-- As the document lays them: x is put in front of the first one that is not less, the one of its key is left out. -/
def setK (x : α) : Bool → List α → List α
  | d, [] => if d then [] else [x]
  | d, y :: r => (if !d && !Op.bytesLess (key y) (key x) then [x] else []) ++ (if key y == key x then [] else [y]) ++ setK x (d || !Op.bytesLess (key y) (key x)) r
end
section
variable {α : Type} {key : α → List UInt8} {l : List α} {n : List UInt8} {x y : α}
theorem posK_le : posK key l n ≤ l.length := (List.takeWhile_sublist _).length_le
theorem posK_cons_lt (h : Op.bytesLess (key y) n = true) : posK key (y :: l) n = posK key l n + 1 := by simp [posK, List.takeWhile_cons, h]
theorem posK_cons_ge (h : Op.bytesLess (key y) n = false) : posK key (y :: l) n = 0 := by simp [posK, List.takeWhile_cons, h]
/-- The place is the one ahead of which all are less, and that itself is not. -/
theorem posK_of {p : Nat} (hp : p ≤ l.length) (h1 : ∀ (i : Nat) (y : α), l[i]? = some y → i < p → Op.bytesLess (key y) n = true) (h2 : ∀ y, l[p]? = some y → Op.bytesLess (key y) n = false) : posK key l n = p := by
  induction l generalizing p with
  | nil => simp at hp; subst hp; rfl
  | cons z l ih =>
    cases p with
    | zero => exact posK_cons_ge (h2 z rfl)
    | succ p =>
      rw [posK_cons_lt (h1 0 z rfl (by omega)), ih (by simpa using hp) (fun i y hy hi => h1 (i + 1) y (by simpa using hy) (by omega)) (fun y hy => h2 y (by simpa using hy))]
theorem sorted_cons (h : SortedK key (y :: l)) : SortedK key l := (List.pairwise_cons.1 h).2
theorem sorted_head (h : SortedK key (y :: l)) : ∀ z ∈ l, Op.bytesLess (key y) (key z) = true := (List.pairwise_cons.1 h).1
theorem not_less_all (hs : SortedK key (y :: l)) (hy : Op.bytesLess (key y) n = false) : ∀ z ∈ y :: l, Op.bytesLess (key z) n = false := by
  intro z hz
  rcases List.mem_cons.1 hz with rfl | hz
  · exact hy
  · cases h : Op.bytesLess (key z) n with
    | false => rfl
    | true =>
      have := less_trans (sorted_head hs z hz) h
      rw [hy] at this; cases this
theorem sorted_at (hs : SortedK key l) {i : Nat} (hy : l[i]? = some y) : Op.bytesLess (key y) n = decide (i < posK key l n) := by
  induction l generalizing i with
  | nil => simp at hy
  | cons z l ih =>
    cases hz : Op.bytesLess (key z) n with
    | true =>
      rw [posK_cons_lt hz]
      cases i with
      | zero => simp at hy; subst hy; rw [hz]; simp
      | succ i => rw [ih (sorted_cons hs) (by simpa using hy)]; simp
    | false =>
      rw [posK_cons_ge hz]
      have := not_less_all hs hz y (List.mem_of_getElem? hy)
      rw [this]; simp
theorem less_ne {a b : List UInt8} (h : Op.bytesLess a b = true) : (a == b) = false := by
  rw [beq_eq_false_iff_ne]
  rintro rfl
  rw [less_irrefl] at h; cases h
/-- Whether a key is there, by its place. -/
theorem hasK_at (hs : SortedK key l) : hasK key l n = (match l[posK key l n]? with | some y => key y == n | none => false) := by
  induction l with
  | nil => rfl
  | cons z l ih =>
    cases hz : Op.bytesLess (key z) n with
    | true =>
      rw [posK_cons_lt hz]
      have := ih (sorted_cons hs)
      simp only [hasK, List.any_cons, less_ne hz, Bool.false_or] at this ⊢
      rw [this]
      simp
    | false =>
      rw [posK_cons_ge hz]
      simp only [hasK, List.any_cons, List.getElem?_cons_zero]
      cases he : (key z == n) with
      | true => rfl
      | false =>
        rw [Bool.false_or, List.any_eq_false]
        intro y hy hk
        have h1 := sorted_head hs y hy
        have h2 : key y = n := by simpa using hk
        rw [h2] at h1
        rw [hz] at h1; cases h1
theorem hasK_mem (h : hasK key l n = false) : ∀ y ∈ l, (key y == n) = false := by
  intro y hy
  have := List.any_eq_false.1 h y hy
  simpa using this
theorem setK_true : setK key x true l = dropK key l (key x) := by
  induction l with
  | nil => rfl
  | cons y l ih =>
    simp only [setK, dropK, List.filter_cons, Bool.not_true, Bool.false_and, Bool.false_eq_true, if_false, List.nil_append, Bool.true_or]
    rw [ih]
    cases key y == key x <;> simp [dropK]
theorem dropK_none (h : hasK key l n = false) : dropK key l n = l := List.filter_eq_self.2 fun y hy => by rw [hasK_mem h y hy]; rfl
theorem hasK_of_not_less (h : ∀ z ∈ l, Op.bytesLess n (key z) = true) : hasK key l n = false := List.any_eq_false.2 fun z hz => by
  have := less_ne (h z hz)
  rw [beq_eq_false_iff_ne] at this
  simpa using fun e => this e.symm
/-- What is dropped, by its place. -/
theorem dropK_at (hs : SortedK key l) : dropK key l n = if hasK key l n then l.eraseIdx (posK key l n) else l := by
  induction l with
  | nil => rfl
  | cons z l ih =>
    cases hz : Op.bytesLess (key z) n with
    | true =>
      have hne := less_ne hz
      rw [posK_cons_lt hz]
      have h1 : dropK key (z :: l) n = z :: dropK key l n := by simp [dropK, List.filter_cons, hne]
      have h2 : hasK key (z :: l) n = hasK key l n := by simp [hasK, hne]
      rw [h1, h2, ih (sorted_cons hs)]
      cases hasK key l n <;> simp
    | false =>
      rw [posK_cons_ge hz]
      cases he : (key z == n) with
      | true =>
        have hzn : key z = n := by simpa using he
        have h0 : hasK key l n = false := hasK_of_not_less (by rw [← hzn]; exact sorted_head hs)
        have h1 : dropK key (z :: l) n = dropK key l n := by simp [dropK, List.filter_cons, he]
        rw [h1, dropK_none h0]
        simp [hasK, he]
      | false =>
        have h0 : hasK key (z :: l) n = false := by
          rw [hasK_at hs, posK_cons_ge hz]
          simpa using he
        rw [h0, dropK_none h0]
        rfl
/-- The document's way of putting is ours. -/
theorem setK_false (hs : SortedK key l) : setK key x false l = putK key l x := by
  induction l with
  | nil => rfl
  | cons z l ih =>
    cases hz : Op.bytesLess (key z) (key x) with
    | true =>
      have hne := less_ne hz
      have h2 : hasK key (z :: l) (key x) = hasK key l (key x) := by simp [hasK, hne]
      simp only [setK, hz, hne, Bool.not_true, Bool.and_false, Bool.false_eq_true, if_false, List.nil_append, Bool.or_false]
      rw [ih (sorted_cons hs)]
      unfold putK insK
      rw [h2, posK_cons_lt hz]
      cases hasK key l (key x) <;> simp
    | false =>
      simp only [setK, hz, Bool.not_false, Bool.and_self, if_true, Bool.or_true]
      rw [setK_true]
      unfold putK insK
      rw [posK_cons_ge hz]
      cases he : (key z == key x) with
      | true =>
        have hzn : key z = key x := by simpa using he
        have h0 : hasK key l (key x) = false := hasK_of_not_less (by rw [← hzn]; exact sorted_head hs)
        rw [dropK_none h0]
        simp [hasK, he]
      | false =>
        have h0 : hasK key (z :: l) (key x) = false := by
          rw [hasK_at hs, posK_cons_ge hz]
          simpa using he
        have h1 : hasK key l (key x) = false := by
          simp only [hasK, List.any_cons, he, Bool.false_or] at h0 ⊢
          exact h0
        rw [dropK_none h1, h0]
        simp
theorem sorted_drop (hs : SortedK key l) : SortedK key (dropK key l n) := List.Pairwise.filter _ hs
theorem mem_setK {d : Bool} (h : y ∈ setK key x d l) : y ∈ l ∨ y = x := by
  induction l generalizing d with
  | nil => cases d <;> simp [setK] at h; exact .inr h
  | cons z l ih =>
    simp only [setK, List.mem_append] at h
    rcases h with (h1 | h1) | h1
    · split at h1
      · simp at h1; exact .inr h1
      · simp at h1
    · split at h1
      · simp at h1
      · simp at h1; exact .inl (by simp [h1])
    · rcases ih h1 with h2 | h2
      · exact .inl (by simp [h2])
      · exact .inr h2
theorem dropK_mem (h : y ∈ dropK key l n) : y ∈ l ∧ key y ≠ n := by
  simp only [dropK, List.mem_filter] at h
  exact ⟨h.1, by simpa using h.2⟩
theorem sorted_setK (hs : SortedK key l) : SortedK key (setK key x false l) := by
  induction l with
  | nil => exact List.pairwise_singleton _ _
  | cons z l ih =>
    cases hz : Op.bytesLess (key z) (key x) with
    | true =>
      have hne := less_ne hz
      simp only [setK, hz, hne, Bool.not_true, Bool.and_false, Bool.false_eq_true, if_false, List.nil_append, Bool.or_false, List.singleton_append]
      refine List.pairwise_cons.2 ⟨fun y hy => ?_, ih (sorted_cons hs)⟩
      rcases mem_setK hy with h1 | rfl
      · exact sorted_head hs y h1
      · exact hz
    | false =>
      have hall := not_less_all hs hz
      have hd : setK key x false (z :: l) = x :: dropK key (z :: l) (key x) := by
        simp only [setK, hz, Bool.not_false, Bool.and_self, if_true, Bool.or_true]
        rw [setK_true]
        cases hne : (key z == key x) <;> simp [dropK, List.filter_cons, hne]
      rw [hd]
      refine List.pairwise_cons.2 ⟨fun y hy => ?_, sorted_drop hs⟩
      obtain ⟨h1, h2⟩ := dropK_mem hy
      exact less_total (hall y h1) h2
theorem sorted_put (hs : SortedK key l) : SortedK key (putK key l x) := by rw [← setK_false hs]; exact sorted_setK hs
theorem find_at (hs : SortedK key l) : l.find? (fun r => key r == n) = if hasK key l n then l[posK key l n]? else none := by
  induction l with
  | nil => rfl
  | cons z l ih =>
    cases hz : Op.bytesLess (key z) n with
    | true =>
      have hne := less_ne hz
      have h2 : hasK key (z :: l) n = hasK key l n := by simp [hasK, hne]
      rw [h2, posK_cons_lt hz, List.find?_cons, hne]
      simpa using ih (sorted_cons hs)
    | false =>
      cases he : (key z == n) with
      | true => rw [posK_cons_ge hz, List.find?_cons, he]; simp [hasK, he]
      | false =>
        have h0 : hasK key (z :: l) n = false := by
          rw [hasK_at hs, posK_cons_ge hz]
          simpa using he
        rw [h0]
        simp only [Bool.false_eq_true, if_false, List.find?_eq_none]
        intro y hy
        rw [hasK_mem h0 y hy]; simp
theorem hasK_hit (hs : SortedK key l) : hasK key l n = hitAt (fun x => Lib.compareBytes (key x) n) l (posK key l n) := by
  rw [hasK_at hs]
  unfold hitAt
  cases l[posK key l n]? with
  | none => rfl
  | some x => exact (cmp_zero _ _).symm
theorem putK_len : (putK key l x).length ≤ l.length + 1 := by
  unfold putK insK
  split
  · simp
  · simp; omega
theorem dropK_len : (dropK key l n).length ≤ l.length := List.length_filter_le _ _
theorem putK_mem (h : y ∈ putK key l x) : y ∈ l ∨ y = x := by
  unfold putK insK at h
  split at h
  · rcases List.mem_or_eq_of_mem_set h with h | h
    · exact .inl h
    · exact .inr h
  · simp only [List.mem_append, List.mem_singleton] at h
    rcases h with (h | h) | h
    · exact .inl (List.mem_of_mem_take h)
    · exact .inr h
    · exact .inl (List.mem_of_mem_drop h)
end
end Go.Proofs.YtlanconcbpdneaaDoor
/- The walk of layer 4: entries, may. No condition. -/
namespace Go.Proofs.YtlanconcbpdneaaDoor
open Go.RowKit
theorem quiet_same {P : Program} {f : FuncId} {args : Array Value} {w : World} {n : Nat} {v : Value} (h : Calls P f args (w.drewN n) fun e w' => e = .returned v ∧ w' = w.drewN n) : Calls P f args (w.drewN n) fun e w'' => e = .returned v ∧ ∃ m, w'' = w.drewN m := h.mono fun _ _ ⟨he, hw⟩ => ⟨he, n, hw⟩
theorem sizedEnt {e : EntL} (h : EntOk e) : (Tryd.prog.info? 53).map (·.size) = some (entC e).length := by rw [entC_len h]; exact szEnt
theorem entC_one (r : EntL) : ∀ u ∈ entC r, u.oneCell' = true := by
  intro u hu
  simp only [entC, List.mem_cons, u8s, List.toList_toArray, List.mem_map] at hu
  rcases hu with rfl | rfl | ⟨c, _, rfl⟩ <;> rfl
theorem wpList_store_newEnt {W : World} {ops : Array Oper} {rest : List Oper} {o : Oper} {a : Act} {Q : Exit → Act → World → Prop} (hgd : o.guard = none) (x y : Operand) (ho : o.op = .store 53 x y)
    (r : EntL) (hr : EntOk r) (zs : Array Value) (hx : a.eval x = .pointer (some ⟨W.heap.size, 0, none⟩)) (hy : a.eval y = .agg (entC r).toArray) (hz : zs.size = 34)
    (h : ∀ W1, Blk W1 W.heap.size 53 (entC r).toArray → Below W.heap.size W W1 → wpList Tryd.prog ops Q rest (a.put o.dst undef) W1) : wpList Tryd.prog ops Q (o :: rest) a (W.alloc (.cells zs 53)) :=
  wpList_store_new hgd _ x y ho (entC r).toArray zs hx hy (by rw [List.size_toArray]; exact sizedEnt hr) (hz.trans (by simp [entC_len hr])) (Array.all_eq_true_iff_forall_mem.2 fun u hu => entC_one r u (by simpa using hu)) h
theorem ents_bad {l : List EntL} {i : Nat} (hi : i < l.length) (h : entAt l i = false) : entsB l = false := by
  unfold entsB
  rw [Bool.and_eq_false_iff]
  exact .inl (List.all_eq_false.2 ⟨i, by simpa using hi, by rw [h]; simp⟩)
theorem ents_all {l : List EntL} (h : (List.range l.length).all (entAt l) = true) : entsB l = decide (l.length ≤ 64) := by unfold entsB; rw [h, Bool.true_and]
theorem ents_step {p : Nat → Bool} {k : Nat} (h : (List.range k).all p = true) (hk : p k = true) : (List.range (k + 1)).all p = true := by
  rw [List.range_succ, List.all_append, h]; simp [hk]
theorem entAt_no {l : List EntL} {k : Nat} {x : EntL} (hx : l[k]? = some x) (h : entB x = false) : entAt l k = false := by unfold entAt; rw [hx]; simp only [h]; rfl
theorem entAt_zero {l : List EntL} {x : EntL} (hx : l[0]? = some x) (h : entB x = true) : entAt l 0 = true := by unfold entAt; rw [hx]; simp only [h]; rfl
theorem entAt_succ {l : List EntL} {k : Nat} {x p : EntL} (hx : l[k + 1]? = some x) (hp : l[k]? = some p) (h : entB x = true) : entAt l (k + 1) = Op.bytesLess p.name x.name := by unfold entAt; rw [hx]; simp only [h, hp, Bool.true_and]
theorem range_ent {w : World} {g o : Nat} {r : EntL} (h : w.rangeAt g o (entC r)) : w.cell? ⟨g, o, none⟩ = some (.string (B r.name)) ∧ w.cell? ⟨g, o + 1, none⟩ = some (.int .i64 r.kind) := ⟨h 0 _ rfl, h 1 _ rfl⟩
theorem range_blkEnt {w : World} {g : Nat} {r : EntL} (h : Blk w g 53 (entC r).toArray) : w.rangeAt g 0 (entC r) := by
  have := range_blk h
  rwa [List.toList_toArray] at this
theorem range_entId {w : World} {g o : Nat} {r : EntL} (h : w.rangeAt g o (entC r)) : w.rangeAt g (o + 2) (u8s r.id).toList := fun j u hu => by
  have := h (j + 2) u (by simpa [entC] using hu)
  rwa [show o + (j + 2) = o + 2 + j from by omega] at this
/-- How two texts stand. -/
theorem two_ways (p x : Txt) : (Op.bytesLess p x = true ∧ Op.bytesLess x p = false ∧ (p == x) = false ∧ (x == p) = false) ∨ (Op.bytesLess p x = false ∧ Op.bytesLess x p = true ∧ (p == x) = false ∧ (x == p) = false) ∨ (Op.bytesLess p x = false ∧ Op.bytesLess x p = false ∧ (p == x) = true ∧ (x == p) = true) := by
  cases h : Op.bytesLess p x with
  | true =>
    have h1 := less_ne h
    exact .inl ⟨rfl, less_asymm h, h1, by rw [beq_eq_false_iff_ne] at h1 ⊢; exact fun e => h1 e.symm⟩
  | false =>
    by_cases e : p = x
    · subst e
      exact .inr (.inr ⟨rfl, h, by simp, by simp⟩)
    · have h2 := less_total h e
      have h1 := less_ne h2
      exact .inr (.inl ⟨rfl, h2, by rw [beq_eq_false_iff_ne]; exact e, h1⟩)
/-- What lies there while an entry is looked at. -/
structure EntQ (w : World) (g gs os : Nat) (l : List EntL) (r : EntL) (w' : World) : Prop where
  blk : Blk w' g 53 (entC r).toArray
  at_ : ∀ i x, l[i]? = some x → w'.rangeAt gs (os + i * 34) (entC x)
  gs_ : gs < w'.heap.size
  bel : Below w.heap.size w w'
section
variable {w : World} {g gs os : Nat} {l : List EntL} {r : EntL} {w' : World}
theorem EntQ.drew (h : EntQ w g gs os l r w') : EntQ w g gs os l r w'.drew := ⟨h.blk.drew, h.at_, h.gs_, h.bel.drew⟩
theorem EntQ.name_ (h : EntQ w g gs os l r w') : w'.cell? ⟨g, 0, none⟩ = some (.string (B r.name)) := (range_ent (range_blkEnt h.blk)).1
theorem EntQ.kind_ (h : EntQ w g gs os l r w') {n : Int} (hn : r.kind = n) : w'.cell? ⟨g, 1, none⟩ = some (.int .i64 n) := hn ▸ (range_ent (range_blkEnt h.blk)).2
theorem keepE {f : FuncId} {args : Array Value} {v : Value} {w0 : World} (h : Calls Tryd.prog f args w0 fun e w' => e = .returned v ∧ w' = w0) (hS : EntQ w g gs os l r w0) :
    Calls Tryd.prog f args w0 fun e w' => e = .returned v ∧ EntQ w g gs os l r w' :=
  h.mono fun _ _ ⟨he, hw⟩ => ⟨he, hw ▸ hS⟩
end
set_option maxRecDepth 100000 in
set_option maxHeartbeats 4000000 in
theorem entries_calls (l : List EntL) (hok : ∀ e ∈ l, EntOk e) (v : Value) (w : World) (hv : Ents w v l) : Calls Tryd.prog 33 #[v] w fun e w' => e = .returned (.bool (entsB l)) ∧ Below w.heap.size w w' := by
  have hlen := hv.len
  obtain ⟨A, cap, rfl, hcap1, hcap2, hat⟩ := hv
  have hat := Lib.hid hat
  obtain ⟨r, hr⟩ : ∃ r, Hid (r = entsB l) := ⟨_, Lib.hid rfl⟩
  rw [← hr.out]
  go_enter Tryd.func33, Tryd.ntmps33
  go_wp2
  go_loopw [7] (fun i wr => ∃ k : Nat, i = .int .i64 k ∧ k ≤ l.length ∧ Hid ((List.range k).all (entAt l) = true) ∧ Below w.heap.size w wr) (fun i _ => l.length - (intOf i).toNat)
  case atStart => exact ⟨0, rfl, by omega, rfl, Below.refl _ _⟩
  case round =>
    obtain ⟨k, rfl, hk, hall, hbel⟩ := hrel
    by_cases hlt : k < l.length
    · have hki : (k : Int) < (l.length : Int) := by omega
      obtain ⟨gs, os, rfl, hgs, hcell⟩ := hat.out (by omega)
      obtain ⟨x, hx⟩ : ∃ x, l[k]? = some x := ⟨_, List.getElem?_eq_getElem hlt⟩
      have hxok : EntOk x := hok x (List.mem_of_getElem? hx)
      have hx0 := rangeAt_below (hcell k x hx) hgs hbel
      have hxh := Lib.hid hx
      clear hx
      have hsz := hbel.size
      go_wp2_with (first
        | (refine wpList_load_mid rfl 53 (.tmp 10) rfl gs (os + k * 34) rfl (entC x) _ hx0 Tryd.underlying53 rfl (sizedEnt hxok) ?_)
        | (refine wpList_store_newEnt rfl (.tmp 4) (.tmp 11) rfl x hxok _ rfl rfl rfl ?_; intro W1 hb1 hbl1))
      obtain ⟨g, hg⟩ : ∃ g, wr.heap.size = g := ⟨_, rfl⟩
      have hS : EntQ w g gs os l x W1 := by
        have h1 := bthen hbel hsz hbl1
        exact ⟨hg ▸ hb1, fun i y hy => rangeAt_below (hcell i y hy) hgs h1, Nat.lt_of_lt_of_le hgs h1.size, h1⟩
      rw [hg]
      have hnm := fun W => name_calls x.name W
      have hx := hxh
      clear hb1 hbl1 hx0 hg hbel hxh hat hcell
      cases bn : nameB x.name with
      | false =>
        rw [bn] at hnm
        have hf : Hid (r = false) := by show r = false; rw [hr.out]; exact ents_bad hlt (entAt_no hx.out (by unfold entB; rw [bn]; rfl))
        clear hr hall bn
        refine wp_region_class (C := EntQ w g gs os l x) (by kernel_rfl) (by kernel_rfl) hS.drew ?_
        repeat
          first
            | ((with_reducible refine wpQuiet_ex ?_ ?_)
               · (go_simp; done)
               apply Exists.intro
               refine ⟨fun W hW => ?_, ?_⟩
               · first
                   | (have f1 := hW.name_
                      go_simp
                      first
                        | rfl
                        | (go_at_call 11; with_reducible exact keepE (hnm _) hW))
               simp only [Act.put, List.setIfInBounds_toArray, List.set_cons_zero, List.set_cons_succ])
            | ((with_reducible refine wpQuiet_pass ?_ ?_)
               · (first | rfl | (go_simp; done))
               simp only [Act.put, List.setIfInBounds_toArray, List.set_cons_zero, List.set_cons_succ])
        with_reducible refine wpQuiet_nil ?_
        intro w5 hW5
        go_wp2
        go_ret
        exact ⟨by rw [hf.out]; rfl, hW5.bel⟩
      | true =>
        rw [bn] at hnm
        by_cases hk12 : x.kind = 1 ∨ x.kind = 2
        · have heb : entB x = true := by
            unfold entB
            rw [bn]
            rcases hk12 with h | h <;> simp [h]
          clear bn
          rcases Nat.eq_zero_or_pos k with h0 | h0
          · have hk0 : ¬ (0 : Int) < (k : Int) := by omega
            have hk0d : decide ((0 : Int) < (k : Int)) = false := by simpa using h0
            have hk0n : decide (0 < k) = false := by simp [h0]
            have hx00 : l[0]? = some x := by rw [← h0]; exact hx.out
            have hok0 : entAt l k = true := by rw [h0]; exact entAt_zero hx00 heb
            have hst := Lib.hid (ents_step hall.out hok0)
            clear hx00 hok0 h0 heb hr hall
            rcases hk12 with hkx | hkx
            · have hkx := Lib.hid hkx
              refine wp_region_class (C := EntQ w g gs os l x) (by kernel_rfl) (by kernel_rfl) hS.drew ?_
              repeat
                first
                  | ((with_reducible refine wpQuiet_ex ?_ ?_)
                     · (go_simp; done)
                     apply Exists.intro
                     refine ⟨fun W hW => ?_, ?_⟩
                     · first
                         | (have f1 := hW.name_
                            have f3 := hW.kind_ hkx.out
                            go_simp
                            first
                              | rfl
                              | (go_at_call 11; with_reducible exact keepE (hnm _) hW))
                     simp only [Act.put, List.setIfInBounds_toArray, List.set_cons_zero, List.set_cons_succ])
                  | ((with_reducible refine wpQuiet_pass ?_ ?_)
                     · (first | rfl | (go_simp; done))
                     simp only [Act.put, List.setIfInBounds_toArray, List.set_cons_zero, List.set_cons_succ])
              with_reducible refine wpQuiet_nil ?_
              intro w5 hW5
              clear hk0 hk0d hk0n
              go_wp2
              go_roundw
              case rel => exact ⟨k + 1, by go_num, by omega, hst, hW5.bel⟩
              case measure => simp [intOf]; omega
            · have hkx := Lib.hid hkx
              refine wp_region_class (C := EntQ w g gs os l x) (by kernel_rfl) (by kernel_rfl) hS.drew ?_
              repeat
                first
                  | ((with_reducible refine wpQuiet_ex ?_ ?_)
                     · (go_simp; done)
                     apply Exists.intro
                     refine ⟨fun W hW => ?_, ?_⟩
                     · first
                         | (have f1 := hW.name_
                            have f3 := hW.kind_ hkx.out
                            go_simp
                            first
                              | rfl
                              | (go_at_call 11; with_reducible exact keepE (hnm _) hW))
                     simp only [Act.put, List.setIfInBounds_toArray, List.set_cons_zero, List.set_cons_succ])
                  | ((with_reducible refine wpQuiet_pass ?_ ?_)
                     · (first | rfl | (go_simp; done))
                     simp only [Act.put, List.setIfInBounds_toArray, List.set_cons_zero, List.set_cons_succ])
              with_reducible refine wpQuiet_nil ?_
              intro w5 hW5
              clear hk0 hk0d hk0n
              go_wp2
              go_roundw
              case rel => exact ⟨k + 1, by go_num, by omega, hst, hW5.bel⟩
              case measure => simp [intOf]; omega
          · obtain ⟨q, hq⟩ : ∃ q, l[k - 1]? = some q := ⟨_, List.getElem?_eq_getElem (show k - 1 < l.length by omega)⟩
            have hk0 : (0 : Int) < (k : Int) := by omega
            have hat1 : entAt l k = Op.bytesLess q.name x.name := by
              obtain ⟨j, rfl⟩ : ∃ j, k = j + 1 := ⟨k - 1, by omega⟩
              exact entAt_succ hx.out hq heb
            obtain ⟨u, s1, hu⟩ : ∃ u : Nat, IntKind.i64.wrap ((k : Int) - 1) = (u : Int) ∧ u = k - 1 := ⟨k - 1, by rw [IntWalk.i64_in _ (by omega)]; omega, rfl⟩
            have s3 : (u : Int) < (l.length : Int) := by omega
            have s4 : u < l.length := by omega
            have hqu : Hid (l[u]? = some q) := by show _ = _; rw [hu]; exact hq
            clear hu hq heb
            rcases two_ways q.name x.name with ⟨l1, l2, l3, l4⟩ | ⟨l1, l2, l3, l4⟩ | ⟨l1, l2, l3, l4⟩
            all_goals rw [l1] at hat1
            · have hst := Lib.hid (ents_step hall.out hat1)
              clear hat1 hr hall
              rcases hk12 with hkx | hkx
              · have hkx := Lib.hid hkx
                refine wp_region_class (C := EntQ w g gs os l x) (by kernel_rfl) (by kernel_rfl) hS.drew ?_
                repeat
                  first
                    | ((with_reducible refine wpQuiet_ex ?_ ?_)
                       · (go_simp; done)
                       apply Exists.intro
                       refine ⟨fun W hW => ?_, ?_⟩
                       · first
                           | (have f1 := hW.name_
                              have f3 := hW.kind_ hkx.out
                              have f2 : W.cell? ⟨gs, os + u * 34, none⟩ = some (.string (B q.name)) := (range_ent (hW.at_ _ q hqu.out)).1
                              go_simp
                              first
                                | rfl
                                | (go_at_call 11; with_reducible exact keepE (hnm _) hW))
                       simp only [Act.put, List.setIfInBounds_toArray, List.set_cons_zero, List.set_cons_succ])
                    | ((with_reducible refine wpQuiet_pass ?_ ?_)
                       · (first | rfl | (go_simp; done))
                       simp only [Act.put, List.setIfInBounds_toArray, List.set_cons_zero, List.set_cons_succ])
                with_reducible refine wpQuiet_nil ?_
                intro w5 hW5
                clear s1 s3 s4 l1 l2 l3 l4 hk0
                go_wp2
                go_roundw
                case rel => exact ⟨k + 1, by go_num, by omega, hst, hW5.bel⟩
                case measure => simp [intOf]; omega
              · have hkx := Lib.hid hkx
                refine wp_region_class (C := EntQ w g gs os l x) (by kernel_rfl) (by kernel_rfl) hS.drew ?_
                repeat
                  first
                    | ((with_reducible refine wpQuiet_ex ?_ ?_)
                       · (go_simp; done)
                       apply Exists.intro
                       refine ⟨fun W hW => ?_, ?_⟩
                       · first
                           | (have f1 := hW.name_
                              have f3 := hW.kind_ hkx.out
                              have f2 : W.cell? ⟨gs, os + u * 34, none⟩ = some (.string (B q.name)) := (range_ent (hW.at_ _ q hqu.out)).1
                              go_simp
                              first
                                | rfl
                                | (go_at_call 11; with_reducible exact keepE (hnm _) hW))
                       simp only [Act.put, List.setIfInBounds_toArray, List.set_cons_zero, List.set_cons_succ])
                    | ((with_reducible refine wpQuiet_pass ?_ ?_)
                       · (first | rfl | (go_simp; done))
                       simp only [Act.put, List.setIfInBounds_toArray, List.set_cons_zero, List.set_cons_succ])
                with_reducible refine wpQuiet_nil ?_
                intro w5 hW5
                clear s1 s3 s4 l1 l2 l3 l4 hk0
                go_wp2
                go_roundw
                case rel => exact ⟨k + 1, by go_num, by omega, hst, hW5.bel⟩
                case measure => simp [intOf]; omega
            · have hf : Hid (r = false) := by show r = false; rw [hr.out]; exact ents_bad hlt hat1
              clear hat1 hr hall
              rcases hk12 with hkx | hkx
              · have hkx := Lib.hid hkx
                refine wp_region_class (C := EntQ w g gs os l x) (by kernel_rfl) (by kernel_rfl) hS.drew ?_
                repeat
                  first
                    | ((with_reducible refine wpQuiet_ex ?_ ?_)
                       · (go_simp; done)
                       apply Exists.intro
                       refine ⟨fun W hW => ?_, ?_⟩
                       · first
                           | (have f1 := hW.name_
                              have f3 := hW.kind_ hkx.out
                              have f2 : W.cell? ⟨gs, os + u * 34, none⟩ = some (.string (B q.name)) := (range_ent (hW.at_ _ q hqu.out)).1
                              go_simp
                              first
                                | rfl
                                | (go_at_call 11; with_reducible exact keepE (hnm _) hW))
                       simp only [Act.put, List.setIfInBounds_toArray, List.set_cons_zero, List.set_cons_succ])
                    | ((with_reducible refine wpQuiet_pass ?_ ?_)
                       · (first | rfl | (go_simp; done))
                       simp only [Act.put, List.setIfInBounds_toArray, List.set_cons_zero, List.set_cons_succ])
                with_reducible refine wpQuiet_nil ?_
                intro w5 hW5
                go_wp2
                go_ret
                exact ⟨by rw [hf.out]; rfl, hW5.bel⟩
              · have hkx := Lib.hid hkx
                refine wp_region_class (C := EntQ w g gs os l x) (by kernel_rfl) (by kernel_rfl) hS.drew ?_
                repeat
                  first
                    | ((with_reducible refine wpQuiet_ex ?_ ?_)
                       · (go_simp; done)
                       apply Exists.intro
                       refine ⟨fun W hW => ?_, ?_⟩
                       · first
                           | (have f1 := hW.name_
                              have f3 := hW.kind_ hkx.out
                              have f2 : W.cell? ⟨gs, os + u * 34, none⟩ = some (.string (B q.name)) := (range_ent (hW.at_ _ q hqu.out)).1
                              go_simp
                              first
                                | rfl
                                | (go_at_call 11; with_reducible exact keepE (hnm _) hW))
                       simp only [Act.put, List.setIfInBounds_toArray, List.set_cons_zero, List.set_cons_succ])
                    | ((with_reducible refine wpQuiet_pass ?_ ?_)
                       · (first | rfl | (go_simp; done))
                       simp only [Act.put, List.setIfInBounds_toArray, List.set_cons_zero, List.set_cons_succ])
                with_reducible refine wpQuiet_nil ?_
                intro w5 hW5
                go_wp2
                go_ret
                exact ⟨by rw [hf.out]; rfl, hW5.bel⟩
            · have hf : Hid (r = false) := by show r = false; rw [hr.out]; exact ents_bad hlt hat1
              clear hat1 hr hall
              rcases hk12 with hkx | hkx
              · have hkx := Lib.hid hkx
                refine wp_region_class (C := EntQ w g gs os l x) (by kernel_rfl) (by kernel_rfl) hS.drew ?_
                repeat
                  first
                    | ((with_reducible refine wpQuiet_ex ?_ ?_)
                       · (go_simp; done)
                       apply Exists.intro
                       refine ⟨fun W hW => ?_, ?_⟩
                       · first
                           | (have f1 := hW.name_
                              have f3 := hW.kind_ hkx.out
                              have f2 : W.cell? ⟨gs, os + u * 34, none⟩ = some (.string (B q.name)) := (range_ent (hW.at_ _ q hqu.out)).1
                              go_simp
                              first
                                | rfl
                                | (go_at_call 11; with_reducible exact keepE (hnm _) hW))
                       simp only [Act.put, List.setIfInBounds_toArray, List.set_cons_zero, List.set_cons_succ])
                    | ((with_reducible refine wpQuiet_pass ?_ ?_)
                       · (first | rfl | (go_simp; done))
                       simp only [Act.put, List.setIfInBounds_toArray, List.set_cons_zero, List.set_cons_succ])
                with_reducible refine wpQuiet_nil ?_
                intro w5 hW5
                go_wp2
                go_ret
                exact ⟨by rw [hf.out]; rfl, hW5.bel⟩
              · have hkx := Lib.hid hkx
                refine wp_region_class (C := EntQ w g gs os l x) (by kernel_rfl) (by kernel_rfl) hS.drew ?_
                repeat
                  first
                    | ((with_reducible refine wpQuiet_ex ?_ ?_)
                       · (go_simp; done)
                       apply Exists.intro
                       refine ⟨fun W hW => ?_, ?_⟩
                       · first
                           | (have f1 := hW.name_
                              have f3 := hW.kind_ hkx.out
                              have f2 : W.cell? ⟨gs, os + u * 34, none⟩ = some (.string (B q.name)) := (range_ent (hW.at_ _ q hqu.out)).1
                              go_simp
                              first
                                | rfl
                                | (go_at_call 11; with_reducible exact keepE (hnm _) hW))
                       simp only [Act.put, List.setIfInBounds_toArray, List.set_cons_zero, List.set_cons_succ])
                    | ((with_reducible refine wpQuiet_pass ?_ ?_)
                       · (first | rfl | (go_simp; done))
                       simp only [Act.put, List.setIfInBounds_toArray, List.set_cons_zero, List.set_cons_succ])
                with_reducible refine wpQuiet_nil ?_
                intro w5 hW5
                go_wp2
                go_ret
                exact ⟨by rw [hf.out]; rfl, hW5.bel⟩
        · have d1 : (x.kind != 1) = true := by simp only [bne_iff_ne]; exact fun e => hk12 (.inl e)
          have d2 : (x.kind != 2) = true := by simp only [bne_iff_ne]; exact fun e => hk12 (.inr e)
          have d3 : (x.kind == 1) = false := by rw [beq_eq_false_iff_ne]; exact fun e => hk12 (.inl e)
          have d4 : (x.kind == 2) = false := by rw [beq_eq_false_iff_ne]; exact fun e => hk12 (.inr e)
          have heb : entB x = false := by unfold entB; rw [d3, d4]; simp
          have hf : Hid (r = false) := by show r = false; rw [hr.out]; exact ents_bad hlt (entAt_no hx.out heb)
          have d5 : ¬ x.kind = 1 := fun e => hk12 (.inl e)
          have d6 : ¬ x.kind = 2 := fun e => hk12 (.inr e)
          clear hr hall bn hk12 heb
          refine wp_region_class (C := EntQ w g gs os l x) (by kernel_rfl) (by kernel_rfl) hS.drew ?_
          repeat
            first
              | ((with_reducible refine wpQuiet_ex ?_ ?_)
                 · (go_simp; done)
                 apply Exists.intro
                 refine ⟨fun W hW => ?_, ?_⟩
                 · first
                     | (have f1 := hW.name_
                        have f3 := hW.kind_ rfl
                        go_simp
                        first
                          | rfl
                          | (go_at_call 11; with_reducible exact keepE (hnm _) hW))
                 simp only [Act.put, List.setIfInBounds_toArray, List.set_cons_zero, List.set_cons_succ])
              | ((with_reducible refine wpQuiet_pass ?_ ?_)
                 · (first | rfl | (go_simp; done))
                 simp only [Act.put, List.setIfInBounds_toArray, List.set_cons_zero, List.set_cons_succ])
          with_reducible refine wpQuiet_nil ?_
          intro w5 hW5
          go_wp2
          go_ret
          exact ⟨by rw [hf.out]; rfl, hW5.bel⟩
    · have hki : ¬ (k : Int) < (l.length : Int) := by omega
      have hf : Hid (r = decide (l.length ≤ 64)) := by
        show r = _
        rw [hr.out]
        have := hall.out
        rw [show k = l.length from by omega] at this
        exact ents_all this
      clear hall hat hr
      by_cases h64 : l.length ≤ 64
      · have i64 : (l.length : Int) ≤ 64 := by omega
        go_wp2
        go_ret
        exact ⟨by rw [hf.out, decide_eq_true h64]; rfl, hbel⟩
      · have i64 : ¬ (l.length : Int) ≤ 64 := by omega
        go_wp2
        go_ret
        exact ⟨by rw [hf.out, decide_eq_false h64]; rfl, hbel⟩
end Go.Proofs.YtlanconcbpdneaaDoor
/- The walk of layer 4: may. No condition. -/
namespace Go.Proofs.YtlanconcbpdneaaDoor
open Go.RowKit
attribute [local go_sem ↓] ldvO_eq
set_option maxRecDepth 100000 in
set_option maxHeartbeats 4000000 in
theorem may_calls (o : ObjL) (A1 A2 : Option Addr) (k1 k2 : Nat) (w : World) (hv : ObjV w (.slice A1 o.ents.length k1) (.slice A2 o.pars.length k2) o) : Calls Tryd.prog 17 #[.agg (objC o (.slice A1 o.ents.length k1) (.slice A2 o.pars.length k2)).toArray] w fun e w' => e = .returned (.bool (mayB o)) ∧ Below w.heap.size w w' := by
  have ho := hv.ok
  have hO := boxed (w := w) (ve := .slice A1 o.ents.length k1) (vp := .slice A2 o.pars.length k2) ho
  have b0 : Below w.heap.size w (w.alloc (.cells (objC o (.slice A1 o.ents.length k1) (.slice A2 o.pars.length k2)).toArray 29)) := (Below.refl _ _).alloc (Nat.le_refl _) _
  have hv0 := hv.below b0
  have hal := fun W => Lib.hid (alone_calls o ho A1 A2 k1 k2 W)
  have hld := fun W (h : ObjB W w.heap.size o (.slice A1 o.ents.length k1) (.slice A2 o.pars.length k2)) => run_ldvO h ho
  obtain ⟨W0, hW0⟩ : ∃ W0, w.alloc (.cells (objC o (.slice A1 o.ents.length k1) (.slice A2 o.pars.length k2)).toArray 29) = W0 := ⟨_, rfl⟩
  rw [hW0] at hO b0 hv0
  have hen := fun W (hb : Below W0.heap.size W0 W) => Lib.hid (entries_calls o.ents ho.ents _ W (hv0.ents.below hb))
  have hnm := fun W => Lib.hid (name_calls o.name W)
  have hki := fun W => Lib.hid (kind_calls o.of_ W)
  have c0 := hO.kind
  have q0 := hld W0 hO
  obtain ⟨r, hr⟩ : ∃ r, Hid (r = mayB o) := ⟨_, Lib.hid rfl⟩
  rw [← hr.out]
  have hr2 := hr.out
  unfold mayB at hr2
  replace hr2 := Lib.hid hr2
  have d2 := fun W (hb : Below W0.heap.size W0 W) => (hO.below hb).ents
  have d35 := fun W (hb : Below W0.heap.size W0 W) => (hO.below hb).pars
  have d70 := fun W (hb : Below W0.heap.size W0 W) => (hO.below hb).of_
  have d71 := fun W (hb : Below W0.heap.size W0 W) => (hO.below hb).name
  clear hr hO hv hv0 ho hld
  generalize (objC o (.slice A1 o.ents.length k1) (.slice A2 o.pars.length k2)).toArray = cs at *
  generalize aloneB o = A at *
  generalize entsB o.ents = E at *
  generalize nameB o.name = N at *
  generalize kindB o.of_ = K at *
  have s0 := b0.size
  by_cases h2 : o.kind = 2
  · rw [h2] at c0
    have hf : Hid (r = (A && E)) := by show r = _; rw [hr2.out, if_pos h2]
    clear hr2 h2 hnm hki d35 d70 d71
    have hal := hal W0
    cases A with
    | false =>
      clear hen d2
      go_enter Tryd.func17, Tryd.ntmps17
      go_wp2_with (first
        | ((with_reducible refine hal.out.mono ?_); rintro e w1 ⟨rfl, hb1⟩))
      go_ret
      exact ⟨by rw [hf.out]; rfl, bthen b0 s0 hb1⟩
    | true =>
      go_enter Tryd.func17, Tryd.ntmps17
      go_wp2_with (first
        | ((with_reducible refine hal.out.mono ?_); rintro e w1 ⟨rfl, hb1⟩
           have c2 := d2 w1 hb1
           have hen := hen w1 hb1
           clear hal d2)
        | ((with_reducible refine hen.out.mono ?_); rintro e w2 ⟨rfl, hb2⟩))
      go_ret
      exact ⟨by rw [hf.out]; rfl, bthen b0 s0 (bthen hb1 hb1.size hb2)⟩
  have e2 : (o.kind == 2) = false := by rw [beq_eq_false_iff_ne]; exact h2
  by_cases h3 : o.kind = 3
  · rw [h3] at c0
    have hf : Hid (r = (A && decide ((o.pars.length : Int) ≤ 8))) := by
      show r = _; rw [hr2.out, if_neg h2, if_pos h3]
      congr 1
      rw [Bool.eq_iff_iff, decide_eq_true_iff, decide_eq_true_iff]; omega
    clear hr2 h2 h3 e2 hnm hki d2 d70 d71 hen
    have hal := hal W0
    cases A with
    | false =>
      clear d35
      go_enter Tryd.func17, Tryd.ntmps17
      go_wp2_with (first
        | ((with_reducible refine hal.out.mono ?_); rintro e w1 ⟨rfl, hb1⟩))
      go_ret
      exact ⟨by rw [hf.out]; rfl, bthen b0 s0 hb1⟩
    | true =>
      go_enter Tryd.func17, Tryd.ntmps17
      go_wp2_with (first
        | ((with_reducible refine hal.out.mono ?_); rintro e w1 ⟨rfl, hb1⟩
           have c35 := d35 w1 hb1
           clear hal d35))
      go_ret
      exact ⟨by rw [hf.out]; rfl, bthen b0 s0 hb1⟩
  have e3 : (o.kind == 3) = false := by rw [beq_eq_false_iff_ne]; exact h3
  by_cases h4 : o.kind = 4
  · rw [h4] at c0
    have hf : Hid (r = (A && K && N)) := by show r = _; rw [hr2.out, if_neg h2, if_neg h3, if_pos h4]
    clear hr2 h2 h3 h4 e2 e3 hen d2 d35
    have hal := hal W0
    cases A with
    | false =>
      clear hnm hki d70 d71
      go_enter Tryd.func17, Tryd.ntmps17
      go_wp2_with (first
        | ((with_reducible refine hal.out.mono ?_); rintro e w1 ⟨rfl, hb1⟩))
      go_ret
      exact ⟨by rw [hf.out]; rfl, bthen b0 s0 hb1⟩
    | true =>
      cases K with
      | false =>
        clear hnm d71
        go_enter Tryd.func17, Tryd.ntmps17
        go_wp2_with (first
          | ((with_reducible refine hal.out.mono ?_); rintro e w1 ⟨rfl, hb1⟩
             have c70 := d70 w1 hb1
             have hki := hki w1
             clear hal d70)
          | ((with_reducible refine hki.out.mono ?_); rintro e w2 ⟨rfl, rfl⟩))
        go_ret
        exact ⟨by rw [hf.out]; rfl, bthen b0 s0 hb1⟩
      | true =>
        go_enter Tryd.func17, Tryd.ntmps17
        go_wp2_with (first
          | ((with_reducible refine hal.out.mono ?_); rintro e w1 ⟨rfl, hb1⟩
             have c70 := d70 w1 hb1
             have c71 := d71 w1 hb1
             have hki := hki w1
             have hnm := hnm w1
             clear hal d70 d71)
          | ((with_reducible refine hki.out.mono ?_); rintro e w2 ⟨rfl, rfl⟩)
          | ((with_reducible refine hnm.out.mono ?_); rintro e w3 ⟨rfl, rfl⟩))
        go_ret
        exact ⟨by rw [hf.out]; rfl, bthen b0 s0 hb1⟩
  have e4 : (o.kind == 4) = false := by rw [beq_eq_false_iff_ne]; exact h4
  have hf : Hid (r = (o.kind == 1 && A)) := by show r = _; rw [hr2.out, if_neg h2, if_neg h3, if_neg h4]
  have hal := hal W0
  clear hr2 hnm hki d2 d35 d70 d71 hen
  by_cases h1 : o.kind = 1
  · rw [h1] at c0 hf
    clear h1 h2 h3 h4 e2 e3 e4
    go_enter Tryd.func17, Tryd.ntmps17
    go_wp2_with (first
      | ((with_reducible refine hal.out.mono ?_); rintro e w1 ⟨rfl, hb1⟩))
    go_ret
    exact ⟨by rw [hf.out]; rfl, bthen b0 s0 hb1⟩
  · have e1 : (o.kind == 1) = false := by rw [beq_eq_false_iff_ne]; exact h1
    rw [e1] at hf
    clear hal
    go_enter Tryd.func17, Tryd.ntmps17
    go_wp2
    go_ret
    exact ⟨by rw [hf.out]; simp [e1], b0⟩
end Go.Proofs.YtlanconcbpdneaaDoor
/- The walk of layer 4: knapsackref04.May. No condition. -/
namespace Go.Proofs.YtlanconcbpdneaaDoor
open Go.RowKit
attribute [local go_sem ↓] ldvI_eq
theorem commit_eq (o : ObjL) : commitN o = (decide (o.tree = List.replicate 32 0) && decide ((o.pars.length : Int) = 0) && decide ((o.time : Int) = 0) && o.text.isEmpty) := by
  rw [show decide ((o.pars.length : Int) = 0) = (o.pars.length == 0) from by rw [Bool.eq_iff_iff, decide_eq_true_iff, beq_iff_eq]; omega, show decide ((o.time : Int) = 0) = (o.time == 0) from by rw [Bool.eq_iff_iff, decide_eq_true_iff, beq_iff_eq]; omega]
  rfl
theorem tag_eq (o : ObjL) : tagN o = (decide (o.target = List.replicate 32 0) && decide (o.of_ = 0) && o.name.isEmpty) := by
  rw [show decide (o.of_ = 0) = (o.of_ == 0) from by rw [Bool.eq_iff_iff, decide_eq_true_iff, beq_iff_eq]]
  rfl
theorem run_zero {w : World} {g : Nat} (h : Blk w g 25 (u8s (List.replicate 32 0))) : (ldvI ⟨g, 0, none⟩).run Tryd.prog w = .ok (.agg #[.int .u8 0, .int .u8 0, .int .u8 0, .int .u8 0, .int .u8 0, .int .u8 0, .int .u8 0, .int .u8 0, .int .u8 0, .int .u8 0, .int .u8 0, .int .u8 0, .int .u8 0, .int .u8 0, .int .u8 0, .int .u8 0, .int .u8 0, .int .u8 0, .int .u8 0, .int .u8 0, .int .u8 0, .int .u8 0, .int .u8 0, .int .u8 0, .int .u8 0, .int .u8 0, .int .u8 0, .int .u8 0, .int .u8 0, .int .u8 0, .int .u8 0, .int .u8 0]) w := by
  rw [zero_cells]
  exact run_ldvI_at (range_blk h) (by simp)
theorem lit_new_zero {ops : Array Oper} {rest : List Oper} {a : Act} {W : World} {Q : Exit → Act → World → Prop} {d : Option Tmp} {rt : TypeId} {pos : String} {af : Array Edge} (x y : Operand) (zs : Array Value) (hz : zs.size = 32) (hx : a.eval x = .pointer (some ⟨W.heap.size, 0, none⟩)) (hy : a.eval y = .agg #[.int .u8 0, .int .u8 0, .int .u8 0, .int .u8 0, .int .u8 0, .int .u8 0, .int .u8 0, .int .u8 0, .int .u8 0, .int .u8 0, .int .u8 0, .int .u8 0, .int .u8 0, .int .u8 0, .int .u8 0, .int .u8 0, .int .u8 0, .int .u8 0, .int .u8 0, .int .u8 0, .int .u8 0, .int .u8 0, .int .u8 0, .int .u8 0, .int .u8 0, .int .u8 0, .int .u8 0, .int .u8 0, .int .u8 0, .int .u8 0, .int .u8 0, .int .u8 0])
    (h : ∀ W1, Blk W1 W.heap.size 25 (u8s (List.replicate 32 0)) → Below W.heap.size W W1 → wpList Tryd.prog ops Q rest (a.put d undef) W1) :
    wpList Tryd.prog ops Q ({ dst := d, op := .store 25 x y, type := rt, pos := pos, after := af, guard := none } :: rest) a (W.alloc (.cells zs 25)) :=
  wpList_store_newId rfl x y rfl (List.replicate 32 0) (by simp) zs hx (hy.trans (congrArg Value.agg zero_cells)) hz h
theorem lit_load_ent {ops : Array Oper} {rest : List Oper} {a : Act} {w : World} {Q : Exit → Act → World → Prop} {d : Option Tmp} {rt : TypeId} {pos : String} {af : Array Edge} (x : Operand) (b o : Nat) (r : EntL) (hr : EntOk r) (hc : w.rangeAt b o (entC r)) (hx : a.eval x = .pointer (some ⟨b, o, none⟩))
    (h : wpList Tryd.prog ops Q rest (a.put d (.agg (entC r).toArray)) w) : wpList Tryd.prog ops Q ({ dst := d, op := .load 53 x, type := rt, pos := pos, after := af, guard := none } :: rest) a w :=
  wpList_load_mid rfl _ x rfl b o hx _ _ hc Tryd.underlying53 rfl (sizedEnt hr) h
theorem lit_new_ent {ops : Array Oper} {rest : List Oper} {a : Act} {w : World} {Q : Exit → Act → World → Prop} {d : Option Tmp} {rt : TypeId} {pos : String} {af : Array Edge} (x y : Operand) (r : EntL) (hr : EntOk r) (zs : Array Value) (hz : zs.size = 34) (hx : a.eval x = .pointer (some ⟨w.heap.size, 0, none⟩)) (hy : a.eval y = .agg (entC r).toArray)
    (h : ∀ W1, Blk W1 w.heap.size 53 (entC r).toArray → Below w.heap.size w W1 → wpList Tryd.prog ops Q rest (a.put d undef) W1) :
    wpList Tryd.prog ops Q ({ dst := d, op := .store 53 x y, type := rt, pos := pos, after := af, guard := none } :: rest) a (w.alloc (.cells zs 53)) :=
  wpList_store_newEnt rfl x y rfl r hr zs hx hy hz h
theorem treeN_two (o : ObjL) (h : o.kind = 2) : mayB o = (blobN o && commitN o && tagN o && entsB o.ents) := by unfold mayB aloneB; rw [if_pos h, if_neg (by omega), if_pos h]
theorem may_one (o : ObjL) (h : o.kind = 1) : mayB o = (treeN o && commitN o && tagN o) := by unfold mayB aloneB; rw [if_neg (by omega), if_neg (by omega), if_neg (by omega), if_pos h, h]; rfl
theorem may_three (o : ObjL) (h : o.kind = 3) : mayB o = (blobN o && treeN o && tagN o && decide (o.pars.length ≤ 8)) := by unfold mayB aloneB; rw [if_neg (by omega), if_pos h, if_neg (by omega), if_neg (by omega), if_pos h]
theorem may_four (o : ObjL) (h : o.kind = 4) : mayB o = (blobN o && treeN o && commitN o && kindB o.of_ && nameB o.name) := by unfold mayB aloneB; rw [if_neg (by omega), if_neg (by omega), if_pos h, if_neg (by omega), if_neg (by omega), if_neg (by omega)]
theorem may_none (o : ObjL) (h : o.kind < 1 ∨ 4 < o.kind) : mayB o = false := by
  unfold mayB
  rw [if_neg (by omega), if_neg (by omega), if_neg (by omega)]
  have : (o.kind == 1) = false := by rw [beq_eq_false_iff_ne]; omega
  rw [this]; rfl
set_option maxRecDepth 100000 in
set_option maxHeartbeats 4000000 in
theorem refMay_calls2 (o : ObjL) (hk : o.kind = 2) (A1 A2 : Option Addr) (k1 k2 : Nat) (w : World) (hv : ObjV w (.slice A1 o.ents.length k1) (.slice A2 o.pars.length k2) o) : Calls Tryd.prog 39 #[.agg (objC o (.slice A1 o.ents.length k1) (.slice A2 o.pars.length k2)).toArray] w fun e w' => e = .returned (.bool (mayB o)) ∧ Below w.heap.size w w' := by
  have ho := hv.ok
  have hO := boxed (w := w) (ve := .slice A1 o.ents.length k1) (vp := .slice A2 o.pars.length k2) ho
  have b0 : Below w.heap.size w (w.alloc (.cells (objC o (.slice A1 o.ents.length k1) (.slice A2 o.pars.length k2)).toArray 29)) := (Below.refl _ _).alloc (Nat.le_refl _) _
  have hv0 := hv.below b0
  obtain ⟨W0, hW0⟩ : ∃ W0, w.alloc (.cells (objC o (.slice A1 o.ents.length k1) (.slice A2 o.pars.length k2)).toArray 29) = W0 := ⟨_, rfl⟩
  rw [hW0] at hO b0 hv0
  have c0 := hO.kind
  have g1 := fun W => run_ldvI_at (w := W) (g := w.heap.size) (o := 3) (l := o.tree)
  have g2 := fun W => run_ldvI_at (w := W) (g := w.heap.size) (o := 38) (l := o.target)
  have z1 := fun W => equalIn_zero o.tree ho.tree W
  have z2 := fun W => equalIn_zero o.target ho.target W
  have e1 := Lib.hid (commit_eq o)
  have e2 := Lib.hid (tag_eq o)
  have ht : o.time < 4294967296 := ho.time
  obtain ⟨r, hr⟩ : ∃ r, Hid (r = mayB o) := ⟨_, Lib.hid rfl⟩
  rw [← hr.out]
  have hr2 := hr.out
  rw [treeN_two o hk, commit_eq, tag_eq] at hr2
  have hX : blobN o = List.isEmpty o.data := rfl
  rw [hX] at hr2
  replace hr2 := Lib.hid hr2
  rw [hk] at c0
  have htr := Lib.hid ho.tree
  have hta := Lib.hid ho.target
  have hoE := Lib.hid ho.ents
  obtain ⟨E, hE⟩ : ∃ E, Hid (E = entsB o.ents) := ⟨_, Lib.hid rfl⟩
  rw [← hE.out] at hr2
  clear hr ho hX hv e1 e2
  generalize decide (o.tree = List.replicate 32 0) = T at *
  generalize decide (o.target = List.replicate 32 0) = G at *
  obtain ⟨Pz, hPz⟩ : ∃ Pz, decide ((o.pars.length : Int) = 0) = Pz := ⟨_, rfl⟩
  have hP1 : 0 < o.pars.length → Pz = false := fun h => by rw [← hPz]; exact decide_eq_false (by omega)
  have hP2 : ¬ 0 < o.pars.length → Pz = true := fun h => by rw [← hPz]; exact decide_eq_true (by omega)
  replace hP1 := Lib.hid hP1
  replace hP2 := Lib.hid hP2
  have hr3 := hr2.out
  rw [hPz] at hr3
  replace hr2 := Lib.hid hr3
  clear hPz hr3
  generalize hcs : (objC o (.slice A1 o.ents.length k1) (.slice A2 o.pars.length k2)).toArray = cs at *
  clear hcs
  have s0 := b0.size
  go_enter Tryd.func39, Tryd.ntmps39
  go_upto_region 4 with (first
    | ((with_reducible refine lit_new_zero (.tmp 3) (.tmp 16) _ ?_ ?_ ?_ ?_); rfl; rfl; rfl
       intro W1 hb1 hbl1
       have hO1 := hO.below hbl1
       have c1 := hO1.data
       have c2 := hO1.ents
       have c35 := hO1.pars
       have c36 := hO1.time
       have c37 := hO1.text
       have c70 := hO1.of_
       have c71 := hO1.name
       have c0' := hO1.kind
       rw [hk] at c0'
       have q1 := g1 W1 hO1.tree htr.out
       have q2 := g2 W1 hO1.target hta.out
       have q3 := run_zero hb1))
  clear c0 hO hb1 htr hta g1 g2 hW0
  have hE64 : (64 : Int) < (o.ents.length : Int) → E = false := fun h => by
    rw [hE.out]; unfold entsB
    rw [Bool.and_eq_false_iff]
    exact .inr (decide_eq_false (by omega))
  have b1 := b0.trans (hbl1.mono s0)
  have hat : Hid (0 < o.ents.length → ∃ g os, A1 = some ⟨g, os, none⟩ ∧ g < W1.heap.size ∧ ∀ i x, o.ents[i]? = some x → W1.rangeAt g (os + i * 34) (entC x)) := by
    obtain ⟨A, cap, he, _, _, h⟩ := hv0.ents.below hbl1
    injection he with he _ _
    subst he
    exact h
  have sz1 := Nat.le_trans s0 hbl1.size
  clear b0 hbl1 hv0
  go_upto_region 16 with fail
  all_goals try
    (go_ret
     refine ⟨?_, b1⟩
     rw [hr2.out]
     have hP1 := hP1.out
     have hP2 := hP2.out
     clear z1 z2 c1 c2 c35 c36 c37 c70 c71 q1 q2 q3 hO1 c0' hE hr2 hat hoE
     simp_all
     done)
  have hrE : Hid (r = E) := by
    show r = E
    rw [hr2.out]
    have hP1 := hP1.out
    have hP2 := hP2.out
    clear z1 z2 c1 c2 c35 c36 c37 c70 c71 q1 q2 q3 hO1 c0' hE hr2 hat hoE
    simp_all
  have h64 : (o.ents.length : Int) ≤ 64 := by first | assumption | omega
  clear hP1 hP2 hr2 z1 z2 c1 c35 c36 c37 c70 c71 q1 q2 q3 c0' hE64 c2 ht
  go_cut [5] (fun s5 wx => s5 = .int .i64 0 ∧ wx = W1)
  case first =>
    go_wp2
    go_meet
    case rel => exact ⟨rfl, rfl⟩
  obtain ⟨rfl, rfl⟩ := hcut
  go_wp2
  go_loopw [5] (fun vi wr => ∃ k : Nat, vi = .int .i64 k ∧ k ≤ o.ents.length ∧ Hid ((List.range k).all (entAt o.ents) = true) ∧ Below wc.heap.size wc wr) (fun vi _ => o.ents.length - (intOf vi).toNat)
  case atStart => exact ⟨0, rfl, by omega, rfl, Below.refl _ _⟩
  case round =>
    obtain ⟨k, rfl, hk', hall, hbel⟩ := hrel
    have hsz := hbel.size
    have hOr := hO1.below hbel
    have c2 := hOr.ents
    by_cases hlt : k < o.ents.length
    · have hki : (k : Int) < (o.ents.length : Int) := by omega
      obtain ⟨gs, os, rfl, hgs, hcell⟩ := hat.out (by omega)
      obtain ⟨x, hx⟩ : ∃ x, o.ents[k]? = some x := ⟨_, List.getElem?_eq_getElem hlt⟩
      have hxok : EntOk x := hoE.out x (List.mem_of_getElem? hx)
      have hx0 := rangeAt_below (hcell k x hx) hgs hbel
      have hxh := Lib.hid hx
      clear hx hat hoE
      have hnm := fun W => Lib.hid (refName_calls x.name hxok.name W)
      cases bn : nameB x.name with
      | false =>
        have hf : Hid (r = false) := by show r = false; rw [hrE.out, hE.out]; exact ents_bad hlt (entAt_no hxh.out (by unfold entB; rw [bn]; rfl))
        rw [bn] at hnm
        clear hE hrE hall bn
        go_wp2_with (first
          | ((with_reducible refine lit_load_ent (.tmp 113) gs (os + k * 34) x hxok hx0 ?_ ?_); rfl)
          | ((with_reducible refine lit_new_ent (.tmp 6) (.tmp 114) x hxok _ ?_ ?_ ?_ ?_); rfl; rfl; rfl; intro W2 hb2 hbl2
             have cn := (range_ent (range_blkEnt hb2)).1
             have hnm := hnm W2)
          | ((with_reducible refine hnm.out.mono ?_); rintro e w3 ⟨rfl, rfl⟩))
        all_goals try (exfalso; omega)
        go_ret
        exact ⟨by rw [hf.out]; rfl, b1.trans ((bthen hbel hsz hbl2).mono sz1)⟩
      | true =>
        rw [bn] at hnm
        by_cases hk12 : x.kind = 1 ∨ x.kind = 2
        · have heb : entB x = true := by
            unfold entB
            rw [bn]
            rcases hk12 with h | h <;> simp [h]
          have d1 : ¬ x.kind < 1 := by omega
          have d2 : ¬ 2 < x.kind := by omega
          clear bn hk12
          rcases Nat.eq_zero_or_pos k with h0 | h0
          · have hk0 : ¬ (0 : Int) < (k : Int) := by omega
            have hk0d : decide ((0 : Int) < (k : Int)) = false := by simpa using h0
            have hk0n : decide (0 < k) = false := by simp [h0]
            have hx00 : o.ents[0]? = some x := by rw [← h0]; exact hxh.out
            have hok0 : entAt o.ents k = true := by rw [h0]; exact entAt_zero hx00 heb
            have hst := Lib.hid (ents_step hall.out hok0)
            clear hx00 hok0 h0 heb hall hE hrE
            go_wp2_with (first
              | ((with_reducible refine lit_load_ent (.tmp 113) gs (os + k * 34) x hxok hx0 ?_ ?_); rfl)
              | ((with_reducible refine lit_new_ent (.tmp 6) (.tmp 114) x hxok _ ?_ ?_ ?_ ?_); rfl; rfl; rfl; intro W2 hb2 hbl2
                 have cn := (range_ent (range_blkEnt hb2)).1
                 have ck := (range_ent (range_blkEnt hb2)).2
                 have c2' := (hOr.below hbl2).ents
                 have bel2 := b1.trans ((bthen hbel hsz hbl2).mono sz1)
                 have bel1 := bthen hbel hsz hbl2
                 have hnm := hnm W2)
              | ((with_reducible refine hnm.out.mono ?_); rintro e w3 ⟨rfl, rfl⟩))
            all_goals try (exfalso; omega)
            go_quiet (fail)
            clear hk0 hk0d hk0n
            go_wp2
            go_roundw
            case rel => exact ⟨k + 1, by go_num, by omega, hst, bdrewN bel1 nq⟩
            case measure => simp [intOf]; omega
          · obtain ⟨q, hq⟩ : ∃ q, o.ents[k - 1]? = some q := ⟨_, List.getElem?_eq_getElem (show k - 1 < o.ents.length by omega)⟩
            have hk0 : (0 : Int) < (k : Int) := by omega
            have hat1 : entAt o.ents k = Op.bytesLess q.name x.name := by
              obtain ⟨j, rfl⟩ : ∃ j, k = j + 1 := ⟨k - 1, by omega⟩
              exact entAt_succ hxh.out hq heb
            obtain ⟨u, s1, hu⟩ : ∃ u : Nat, IntKind.i64.wrap ((k : Int) - 1) = (u : Int) ∧ u = k - 1 := ⟨k - 1, by rw [IntWalk.i64_in _ (by omega)]; omega, rfl⟩
            have s3 : (u : Int) < (o.ents.length : Int) := by omega
            have s4 : u < o.ents.length := by omega
            have hqu : Hid (o.ents[u]? = some q) := by show _ = _; rw [hu]; exact hq
            clear hu hq heb
            rcases two_ways q.name x.name with ⟨l1, l2, l3, l4⟩ | ⟨l1, l2, l3, l4⟩ | ⟨l1, l2, l3, l4⟩
            all_goals rw [l1] at hat1
            · have hst := Lib.hid (ents_step hall.out hat1)
              clear hat1 hall hE hrE
              go_wp2_with (first
                | ((with_reducible refine lit_load_ent (.tmp 113) gs (os + k * 34) x hxok hx0 ?_ ?_); rfl)
                | ((with_reducible refine lit_new_ent (.tmp 6) (.tmp 114) x hxok _ ?_ ?_ ?_ ?_); rfl; rfl; rfl; intro W2 hb2 hbl2
                   have cn := (range_ent (range_blkEnt hb2)).1
                   have ck := (range_ent (range_blkEnt hb2)).2
                   have c2' := (hOr.below hbl2).ents
                   have bel2 := b1.trans ((bthen hbel hsz hbl2).mono sz1)
                   have bel1 := bthen hbel hsz hbl2
                   have c3 : W2.cell? ⟨gs, os + u * 34, none⟩ = some (.string (B q.name)) := (range_ent (rangeAt_below (hcell u q hqu.out) hgs bel1)).1
                   have hnm := hnm W2)
                | ((with_reducible refine hnm.out.mono ?_); rintro e w3 ⟨rfl, rfl⟩))
              all_goals try (exfalso; omega)
              go_quiet (fail)
              clear s1 s3 s4 l1 l2 l3 l4 hk0
              go_wp2
              go_roundw
              case rel => exact ⟨k + 1, by go_num, by omega, hst, bdrewN bel1 nq⟩
              case measure => simp [intOf]; omega
            · have hf : Hid (r = false) := by show r = false; rw [hrE.out, hE.out]; exact ents_bad hlt hat1
              clear hat1 hall hE hrE
              go_wp2_with (first
                | ((with_reducible refine lit_load_ent (.tmp 113) gs (os + k * 34) x hxok hx0 ?_ ?_); rfl)
                | ((with_reducible refine lit_new_ent (.tmp 6) (.tmp 114) x hxok _ ?_ ?_ ?_ ?_); rfl; rfl; rfl; intro W2 hb2 hbl2
                   have cn := (range_ent (range_blkEnt hb2)).1
                   have ck := (range_ent (range_blkEnt hb2)).2
                   have c2' := (hOr.below hbl2).ents
                   have bel2 := b1.trans ((bthen hbel hsz hbl2).mono sz1)
                   have bel1 := bthen hbel hsz hbl2
                   have c3 : W2.cell? ⟨gs, os + u * 34, none⟩ = some (.string (B q.name)) := (range_ent (rangeAt_below (hcell u q hqu.out) hgs bel1)).1
                   have hnm := hnm W2)
                | ((with_reducible refine hnm.out.mono ?_); rintro e w3 ⟨rfl, rfl⟩))
              all_goals try (exfalso; omega)
              go_quiet (fail)
              go_wp2
              go_ret
              exact ⟨by rw [hf.out]; rfl, bdrewN bel2 nq⟩
            · have hf : Hid (r = false) := by show r = false; rw [hrE.out, hE.out]; exact ents_bad hlt hat1
              clear hat1 hall hE hrE
              go_wp2_with (first
                | ((with_reducible refine lit_load_ent (.tmp 113) gs (os + k * 34) x hxok hx0 ?_ ?_); rfl)
                | ((with_reducible refine lit_new_ent (.tmp 6) (.tmp 114) x hxok _ ?_ ?_ ?_ ?_); rfl; rfl; rfl; intro W2 hb2 hbl2
                   have cn := (range_ent (range_blkEnt hb2)).1
                   have ck := (range_ent (range_blkEnt hb2)).2
                   have c2' := (hOr.below hbl2).ents
                   have bel2 := b1.trans ((bthen hbel hsz hbl2).mono sz1)
                   have bel1 := bthen hbel hsz hbl2
                   have c3 : W2.cell? ⟨gs, os + u * 34, none⟩ = some (.string (B q.name)) := (range_ent (rangeAt_below (hcell u q hqu.out) hgs bel1)).1
                   have hnm := hnm W2)
                | ((with_reducible refine hnm.out.mono ?_); rintro e w3 ⟨rfl, rfl⟩))
              all_goals try (exfalso; omega)
              go_quiet (fail)
              go_wp2
              go_ret
              exact ⟨by rw [hf.out]; rfl, bdrewN bel2 nq⟩
        · have heb : entB x = false := by
            unfold entB
            have e1 : (x.kind == 1) = false := by rw [beq_eq_false_iff_ne]; omega
            have e2 : (x.kind == 2) = false := by rw [beq_eq_false_iff_ne]; omega
            rw [e1, e2]; simp
          have hf : Hid (r = false) := by show r = false; rw [hrE.out, hE.out]; exact ents_bad hlt (entAt_no hxh.out heb)
          clear heb hall hE hrE bn
          by_cases d1 : x.kind < 1
          · clear hk12
            go_wp2_with (first
              | ((with_reducible refine lit_load_ent (.tmp 113) gs (os + k * 34) x hxok hx0 ?_ ?_); rfl)
              | ((with_reducible refine lit_new_ent (.tmp 6) (.tmp 114) x hxok _ ?_ ?_ ?_ ?_); rfl; rfl; rfl; intro W2 hb2 hbl2
                 have cn := (range_ent (range_blkEnt hb2)).1
                 have ck := (range_ent (range_blkEnt hb2)).2
                 have c2' := (hOr.below hbl2).ents
                 have bel2 := b1.trans ((bthen hbel hsz hbl2).mono sz1)
                 have bel1 := bthen hbel hsz hbl2
                 have hnm := hnm W2)
              | ((with_reducible refine hnm.out.mono ?_); rintro e w3 ⟨rfl, rfl⟩))
            all_goals try (exfalso; omega)
            go_ret
            exact ⟨by rw [hf.out]; rfl, bel2⟩
          · have d2 : 2 < x.kind := by omega
            clear hk12
            go_wp2_with (first
              | ((with_reducible refine lit_load_ent (.tmp 113) gs (os + k * 34) x hxok hx0 ?_ ?_); rfl)
              | ((with_reducible refine lit_new_ent (.tmp 6) (.tmp 114) x hxok _ ?_ ?_ ?_ ?_); rfl; rfl; rfl; intro W2 hb2 hbl2
                 have cn := (range_ent (range_blkEnt hb2)).1
                 have ck := (range_ent (range_blkEnt hb2)).2
                 have c2' := (hOr.below hbl2).ents
                 have bel2 := b1.trans ((bthen hbel hsz hbl2).mono sz1)
                 have bel1 := bthen hbel hsz hbl2
                 have hnm := hnm W2)
              | ((with_reducible refine hnm.out.mono ?_); rintro e w3 ⟨rfl, rfl⟩))
            all_goals try (exfalso; omega)
            go_ret
            exact ⟨by rw [hf.out]; rfl, bel2⟩
    · have hki : ¬ (k : Int) < (o.ents.length : Int) := by omega
      have hf : Hid (r = true) := by
        show r = true
        rw [hrE.out, hE.out]
        have := hall.out
        rw [show k = o.ents.length from by omega] at this
        rw [ents_all this]
        exact decide_eq_true (by omega)
      clear hall hat hE hrE
      go_wp2
      go_ret
      exact ⟨by rw [hf.out]; rfl, b1.trans (hbel.mono sz1)⟩
end Go.Proofs.YtlanconcbpdneaaDoor
/- The walks of strings.Builder's WriteString at this program. No condition. -/
namespace Go.Proofs.YtlanconcbpdneaaDoor
open Go.RowKit
theorem bldSize : (Tryd.prog.info? 86).map (·.size) = some 2 := by kernel_rfl
set_option maxRecDepth 100000 in
set_option maxHeartbeats 1000000 in
theorem copyCheck_used (b : Nat) (w : World) (h0 : w.cell? ⟨b, 0, none⟩ = some (.pointer (some ⟨b, 0, none⟩))) :
    Calls Tryd.prog 62 #[.pointer (some ⟨b, 0, none⟩)] w fun e w' => e = .returned (.tuple #[]) ∧ w' = w := by
  obtain ⟨j, hj, _⟩ := Option.map_eq_some_iff.1 bldSize
  go_enter Tryd.func62, Tryd.ntmps62
  go_wp2
  rw [Lib.run_neq_ptr_same w _ Tryd.underlying84 hj]
  go_wp2
  go_end0
  exact ⟨rfl, rfl⟩
theorem bldLies : liesAt Tryd.prog Tryd.prog.depth 86 (2 / Tryd.prog.cellsOf 86) 0 86 1 = true := by kernel_rfl
set_option maxRecDepth 100000 in
set_option maxHeartbeats 1000000 in
theorem copyCheck_fresh (b : Nat) (w : World) (h0 : w.cell? ⟨b, 0, none⟩ = some (.pointer none)) (hsh : w.shape? b = some (86, 2)) (hfz : w.frozen? ⟨b, 0, none⟩ = false) :
    Calls Tryd.prog 62 #[.pointer (some ⟨b, 0, none⟩)] w fun e w' => e = .returned (.tuple #[]) ∧ w' = w.setCell ⟨b, 0, none⟩ (.pointer (some ⟨b, 0, none⟩)) := by
  obtain ⟨j, hj, hjs⟩ := Option.map_eq_some_iff.1 bldSize
  go_enter Tryd.func62, Tryd.ntmps62
  go_wp2
  rw [Lib.run_to_unsafe w ⟨b, 0, none⟩ Tryd.underlying84 Tryd.underlying106 hj (by rw [hjs]; decide) hsh (Nat.zero_lt_succ 1)]
  simp only [Result.andThen]
  rw [Oper.upon_value]
  go_wp2
  rw [run_callFunc_extern Tryd.func68 (by kernel_rfl) (by kernel_rfl) (by kernel_rfl) (e := Extern.AbiNoEscape.same) (by kernel_rfl)]
  rw [Lib.run_noEscape]
  simp only [Result.andThen]
  rw [Oper.upon_value]
  go_wp2
  rw [Lib.run_from_unsafe w ⟨b, 0, none⟩ Tryd.underlying106 Tryd.underlying84 hj hsh bldLies]
  simp only [Result.andThen]
  rw [Oper.upon_value]
  go_wp2
  go_end0
  exact ⟨rfl, rfl⟩
theorem copyCheck_calls (B0 b : Nat) (bs : List Value) (w : World) (h : Lib.IsBuilder 86 5 B0 b bs w) :
    Calls Tryd.prog 62 #[.pointer (some ⟨b, 0, none⟩)] w fun e w' => e = .returned (.tuple #[]) ∧ Lib.BuilderAt 86 5 B0 b (.pointer (some ⟨b, 0, none⟩)) bs w' ∧ Below B0 w w' ∧ ∀ k, k ≠ b → w'.heap[k]? = w.heap[k]? := by
  rcases h with h | h
  · exact (copyCheck_fresh b w h.cell0 h.shape h.frozen0).mono fun e w' ⟨he, hw⟩ => by
      subst hw
      exact ⟨he, h.used _, (Below.refl B0 w).setCell (p := ⟨b, 0, none⟩) h.1 _, fun k hk => Below.heap_setCell w ⟨b, 0, none⟩ _ k hk⟩
  · exact (copyCheck_used b w h.cell0).mono fun e w' ⟨he, hw⟩ => by
      subst hw
      exact ⟨he, h, Below.refl B0 _, fun _ _ => rfl⟩
theorem grown_setCell (w : World) (p : Addr) (v : Value) : w.grownBy (w.setCell p v) (some p.block) :=
  ⟨rfl, rfl, rfl, by simp, fun k _ hk => Below.heap_setCell w p v k (fun e => hk (by rw [e]))⟩
set_option maxRecDepth 100000 in
set_option maxHeartbeats 1000000 in
theorem writeString_calls (B0 b : Nat) (l t : List UInt8) (w : World) (h : Lib.IsBuilder 86 5 B0 b (l.map u8v) w) (hlen : l.length + t.length ≤ 70368744177664) (hBw : B0 ≤ w.heap.size) :
    Calls Tryd.prog 49 #[.pointer (some ⟨b, 0, none⟩), .string (B t)] w fun e w' => e = .returned (.tuple #[.int .i64 t.length, .nilIface]) ∧ Lib.IsBuilder 86 5 B0 b ((l ++ t).map u8v) w' ∧ Below B0 w w' ∧ ∀ k T cs, Blk w k T cs → 5 ≠ T → k ≠ b → Blk w' k T cs := by
  have hcc := Lib.hid (copyCheck_calls B0 b (l.map u8v) w h)
  have hne5 : (5 : TypeId) ≠ 86 := by decide
  clear h
  go_enter Tryd.func49, Tryd.ntmps49
  go_wp2_with (first
    | (go_at_call 62; go_must (refine hcc.out.mono ?_); rintro e w1 ⟨rfl, h1, hb1, hfar1⟩
       obtain ⟨hB, v, hbk', hown', hne⟩ := h1
       have hbk : Blk w1 b 86 #[.pointer (some ⟨b, 0, none⟩), v] := hbk'
       have hown : OwnB w1 B0 5 v l := by unfold OwnB; rw [List.length_map] at hown'; exact hown'
       have c1 : w1.cell? ⟨b, 1, none⟩ = some v := hbk.cell 1
       have hbs1 := Nat.le_trans hBw hb1.size
       have hfar1 : ∀ k T cs, Blk w k T cs → k ≠ b → Blk w1 k T cs := fun k T cs h hk => (hfar1 k hk).trans h
       have hfar1 := Lib.hid hfar1
       clear hbk' hown' hcc)
    | (at_builtin
       refine wpList_append_bytes rfl (.tmp 12) (.tmp 13) _ _ rfl 5 Tryd.bytesTy Tryd.underlying9 B0 v l rfl hown t rfl hlen w hb1 hbs1 ?_
       intro v2 w2 hown2 hb2 hg2
       have hbk2 := hbk.grown hg2 (own_blk_ne hown hbk hne5)
       have c2 : w2.cell? ⟨b, 1, none⟩ = some v := hbk2.cell 1
       have f2 : w2.frozen? ⟨b, 1, none⟩ = false := hbk2.frozen 1
       have hvb := own_blk_ne hown2 hbk2 hne5
       obtain ⟨A2, cap2, hv2⟩ := OwnB.form' hown2
       subst hv2
       have hfar2 : Hid (∀ k T cs, Blk w1 k T cs → 5 ≠ T → Blk w2 k T cs) := fun k T cs h hT => h.grown hg2 (own_blk_ne hown h hT)
       clear hg2 c1))
  go_ret2
  have hbk3 : Blk (w2.setCell ⟨b, 1, none⟩ (.slice A2 (l ++ t).length cap2)) b 86 #[.pointer (some ⟨b, 0, none⟩), .slice A2 (l ++ t).length cap2] := hbk2.set_ 1 _
  have hown3 : OwnB (w2.setCell ⟨b, 1, none⟩ (.slice A2 (l ++ t).length cap2)) B0 5 (.slice A2 (l ++ t).length cap2) (l ++ t) :=
    OwnB.kept hown2 (grown_setCell w2 ⟨b, 1, none⟩ _) (.inr fun e => hvb e.symm)
  have hb3 : Below B0 w (w2.setCell ⟨b, 1, none⟩ (.slice A2 (l ++ t).length cap2)) := hb2.setCell (p := ⟨b, 1, none⟩) hB _
  rw [List.length_append] at hbk3 hown3 hb3 hvb
  refine ⟨rfl, .inr ⟨hB, _, hbk3, ?_, fun e => hvb e.symm⟩, hb3, fun k T cs h hT hk => (hfar2.out k T cs (hfar1.out k T cs h hk) hT).far (p := ⟨b, 1, none⟩) hk _⟩
  rw [List.length_map, List.length_append]
  unfold OwnB at hown3
  rw [List.length_append] at hown3
  exact hown3
theorem byteCells_u8v (l : List UInt8) : Lib.byteCells l = l.map u8v := rfl
/-- A builder just made. -/
theorem bld_new (w : World) : Lib.IsBuilder 86 5 w.heap.size w.heap.size [] (w.alloc (.cells #[.pointer none, .slice none 0 0] 86)) :=
  .inl ⟨Nat.le_refl _, .slice none 0 0, Blk.new w _ _, World.ownsRow_nil _ _ _ _, by simp [Value.ownBlock]⟩
end Go.Proofs.YtlanconcbpdneaaDoor
/- The walks of strings.Builder's WriteByte and Write at this program. No condition. -/
namespace Go.Proofs.YtlanconcbpdneaaDoor
open Go.RowKit
/-- append of bytes that lie anywhere. -/
theorem lit_append_part {P : Program} {ops : Array Oper} {rest : List Oper} {a : Act} {w : World} {Q : Exit → Act → World → Prop} {d : Option Tmp} {rt : TypeId} {pos : String} {af : Array Edge}
    (s x : Operand) (c : Nat) (t : TypeId) {e : TypeId} {z : Value} {size bytes : Nat} (hT : SliceTy P t e z size bytes) {base n : Nat} {v : Value} {xs : List Value} (hown : w.ownsRow base e size v n xs)
    {m : Nat} (ad : Addr) (news : List Value) (hl : news.length = m * size) (hnews : ∀ j u, news[j]? = some u → w.cell? (ad.add j) = some u) (h1 : ∀ u ∈ news, u.oneCell' = true)
    (h63 : n + m ≤ 9223372036854775807) (hbytes : (n + m) * bytes ≤ 140737488355328) (hbase : base ≤ w.heap.size) (hs : a.eval s = v) (hx : a.eval x = .slice (some ad) m c)
    (h : ∀ v' w', w'.ownsRow base e size v' (n + m) (xs ++ news) → w.grownBy w' v.ownBlock → wpList P ops Q rest (a.put d v') w') :
    wpList P ops Q ({ dst := d, op := .call { callee := .builtin .append, args := #[s, x], argTypes := #[t, t] }, type := rt, pos := pos, after := af, guard := none } :: rest) a w := by
  obtain ⟨i, i1, i2, i3, i4⟩ := hT.hi
  refine wpList_append_own_at w rfl s x t rfl base e i z size bytes hT.ht i1 i2 i3 i4 hT.hzs hT.hsz v n xs hs hown ad m c news hx hl hnews h1 (by simp only [maxLen]; omega) hbytes hbase ?_
  intro v' w' hown' hg _ _
  exact h v' w' hown' hg
theorem add_at (b o k : Nat) : (⟨b, o, none⟩ : Addr).add k = ⟨b, o + k, none⟩ := by simp [Addr.add]
theorem cell_of_heap {w w' : World} {p : Addr} (h : w'.heap[p.block]? = w.heap[p.block]?) : w'.cell? p = w.cell? p := by unfold World.cell?; rw [h]
theorem u8s_cells (t : List UInt8) : (u8s t).toList = t.map u8v := by simp [u8s]
set_option maxRecDepth 100000 in
set_option maxHeartbeats 1000000 in
theorem write_calls (B0 b : Nat) (l t : List UInt8) (w : World) (h : Lib.IsBuilder 86 5 B0 b (l.map u8v) w) (g off c : Nat) (hr : w.rangeAt g off (u8s t).toList) (hgb : g ≠ b) (hlen : l.length + t.length ≤ 70368744177664) (hBw : B0 ≤ w.heap.size) :
    Calls Tryd.prog 50 #[.pointer (some ⟨b, 0, none⟩), .slice (some ⟨g, off, none⟩) t.length c] w fun e w' => e = .returned (.tuple #[.int .i64 t.length, .nilIface]) ∧ Lib.IsBuilder 86 5 B0 b ((l ++ t).map u8v) w' ∧ Below B0 w w' ∧ ∀ k T cs, Blk w k T cs → 5 ≠ T → k ≠ b → Blk w' k T cs := by
  have hcc := Lib.hid (copyCheck_calls B0 b (l.map u8v) w h)
  have hne5 : (5 : TypeId) ≠ 86 := by decide
  have h63 : l.length + t.length ≤ 9223372036854775807 := by omega
  have h64 : (l.length + t.length) * 1 ≤ 140737488355328 := by omega
  have hl1 : (u8s t).toList.length = t.length * 1 := by rw [u8s_cells, List.length_map, Nat.mul_one]
  have ho1 : ∀ u ∈ (u8s t).toList, u.oneCell' = true := by
    intro u hu
    rw [u8s_cells, List.mem_map] at hu
    obtain ⟨c, _, rfl⟩ := hu; rfl
  clear h
  go_enter Tryd.func50, Tryd.ntmps50
  go_wp2_with (first
    | (at_builtin
       (with_reducible refine lit_append_part (.tmp 12) (.tmp 13) c _ Tryd.bytesTy hownR (m := t.length) ⟨g, off, none⟩ (u8s t).toList hl1 hn1 ho1 h63 h64 hbs1 ?_ ?_ ?_); rfl; rfl
       intro v2 w2 hown2' hg2
       have hown2 : OwnB w2 B0 5 v2 (l ++ t) := by unfold OwnB; rw [u8s_cells] at hown2'; rw [List.length_append, List.map_append]; exact hown2'
       have hb2 : Below B0 w w2 := hb1.grown hg2 hbs1 (fun k hk => (World.ownsRow.lt hown k hk).1)
       have hbk2 := hbk.grown hg2 (own_blk_ne hown hbk hne5)
       have c2 : w2.cell? ⟨b, 1, none⟩ = some v := hbk2.cell 1
       have f2 : w2.frozen? ⟨b, 1, none⟩ = false := hbk2.frozen 1
       have hvb := own_blk_ne hown2 hbk2 hne5
       obtain ⟨A2, cap2, hv2⟩ := OwnB.form' hown2
       subst hv2
       have hfar2 : Hid (∀ k T cs, Blk w1 k T cs → 5 ≠ T → Blk w2 k T cs) := fun k T cs h hT => h.grown hg2 (own_blk_ne hown h hT)
       clear hg2 c1 hown2')
    | (go_at_call 62; (with_reducible refine hcc.out.mono ?_); rintro e w1 ⟨rfl, h1, hb1, hfar1⟩
       obtain ⟨hB, v, hbk', hown', hne⟩ := h1
       have hbk : Blk w1 b 86 #[.pointer (some ⟨b, 0, none⟩), v] := hbk'
       have hown : OwnB w1 B0 5 v l := by unfold OwnB; rw [List.length_map] at hown'; exact hown'
       have hownR : w1.ownsRow B0 5 1 v l.length (l.map u8v) := hown
       have c1 : w1.cell? ⟨b, 1, none⟩ = some v := hbk.cell 1
       have hbs1 := Nat.le_trans hBw hb1.size
       have hn1 : ∀ j u, (u8s t).toList[j]? = some u → w1.cell? ((⟨g, off, none⟩ : Addr).add j) = some u := fun j u hu => by
         rw [add_at, cell_of_heap (w := w) (p := ⟨g, off + j, none⟩) (hfar1 g hgb)]
         exact hr j u hu
       have hfar1 : ∀ k T cs, Blk w k T cs → k ≠ b → Blk w1 k T cs := fun k T cs h hk => (hfar1 k hk).trans h
       have hfar1 := Lib.hid hfar1
       clear hbk' hown' hcc))
  go_ret2
  have hbk3 : Blk (w2.setCell ⟨b, 1, none⟩ (.slice A2 (l ++ t).length cap2)) b 86 #[.pointer (some ⟨b, 0, none⟩), .slice A2 (l ++ t).length cap2] := hbk2.set_ 1 _
  have hown3 : OwnB (w2.setCell ⟨b, 1, none⟩ (.slice A2 (l ++ t).length cap2)) B0 5 (.slice A2 (l ++ t).length cap2) (l ++ t) :=
    OwnB.kept hown2 (grown_setCell w2 ⟨b, 1, none⟩ _) (.inr fun e => hvb e.symm)
  have hb3 : Below B0 w (w2.setCell ⟨b, 1, none⟩ (.slice A2 (l ++ t).length cap2)) := hb2.setCell (p := ⟨b, 1, none⟩) hB _
  rw [List.length_append] at hbk3 hown3 hb3 hvb
  refine ⟨rfl, .inr ⟨hB, _, hbk3, ?_, fun e => hvb e.symm⟩, hb3, fun k T cs h hT hk => (hfar2.out k T cs (hfar1.out k T cs h hk) hT).far (p := ⟨b, 1, none⟩) hk _⟩
  rw [List.length_map, List.length_append]
  unfold OwnB at hown3
  rw [List.length_append] at hown3
  exact hown3
set_option maxRecDepth 100000 in
set_option maxHeartbeats 1000000 in
theorem writeByte_calls (B0 b : Nat) (l : List UInt8) (n : Int) (w : World) (h : Lib.IsBuilder 86 5 B0 b (l.map u8v) w) (hn0 : 0 ≤ n) (hn1 : n < 256) (hlen : l.length + 1 ≤ 70368744177664) (hBw : B0 ≤ w.heap.size) :
    Calls Tryd.prog 48 #[.pointer (some ⟨b, 0, none⟩), .int .u8 n] w fun e w' => e = .returned .nilIface ∧ Lib.IsBuilder 86 5 B0 b ((l ++ [UInt8.ofNat n.toNat]).map u8v) w' ∧ Below B0 w w' ∧ ∀ k T cs, Blk w k T cs → 5 ≠ T → k ≠ b → Blk w' k T cs := by
  have hcc := Lib.hid (copyCheck_calls B0 b (l.map u8v) w h)
  have hne5 : (5 : TypeId) ≠ 86 := by decide
  have hl70 : l.length ≤ 70368744177664 := by omega
  clear h
  go_enter Tryd.func48, Tryd.ntmps48
  go_wp2_with (first
    | (go_at_call 62; (with_reducible refine hcc.out.mono ?_); rintro e w1 ⟨rfl, h1, hb1, hfar1⟩
       obtain ⟨hB, v, hbk', hown', hne⟩ := h1
       have hbk : Blk w1 b 86 #[.pointer (some ⟨b, 0, none⟩), v] := hbk'
       have hown : OwnB w1 B0 5 v l := by unfold OwnB; rw [List.length_map] at hown'; exact hown'
       have c1 : w1.cell? ⟨b, 1, none⟩ = some v := hbk.cell 1
       have hbs1 := Nat.le_trans hBw hb1.size
       have hfar1 : ∀ k T cs, Blk w k T cs → k ≠ b → Blk w1 k T cs := fun k T cs h hk => (hfar1 k hk).trans h
       have hfar1 := Lib.hid hfar1
       clear hbk' hown' hcc)
    | (at_builtin
       refine wpList_append_byte rfl (.tmp 11) (.tmp 13) _ rfl 5 Tryd.bytesTy B0 v l rfl (hown.alloc (.cells #[.int .u8 n] 5)) w1.heap.size n rfl (cell_new1 _ _ _) hn0 hn1 hl70 w (hb1.alloc (Nat.le_trans hBw hb1.size) (.cells #[.int .u8 n] 5)) (Nat.le_trans hbs1 ((Below.refl w1.heap.size w1).alloc (Nat.le_refl _) (.cells #[.int .u8 n] 5)).size) ?_
       intro v2 w2 hown2 hb2 hg2
       have hbk2 := (hbk.alloc (.cells #[.int .u8 n] 5)).grown hg2 (own_blk_ne (hown.alloc (.cells #[.int .u8 n] 5)) (hbk.alloc (.cells #[.int .u8 n] 5)) hne5)
       have c2 : w2.cell? ⟨b, 1, none⟩ = some v := hbk2.cell 1
       have f2 : w2.frozen? ⟨b, 1, none⟩ = false := hbk2.frozen 1
       have hvb := own_blk_ne hown2 hbk2 hne5
       obtain ⟨A2, cap2, hv2⟩ := OwnB.form' hown2
       subst hv2
       have hfar2 : Hid (∀ k T cs, Blk w1 k T cs → 5 ≠ T → Blk w2 k T cs) := fun k T cs h hT => (h.alloc (.cells #[.int .u8 n] 5)).grown hg2 (own_blk_ne (hown.alloc (.cells #[.int .u8 n] 5)) (h.alloc (.cells #[.int .u8 n] 5)) hT)
       clear hg2 c1))
  go_ret
  have hbk3 : Blk (w2.setCell ⟨b, 1, none⟩ (.slice A2 (l ++ [UInt8.ofNat n.toNat]).length cap2)) b 86 #[.pointer (some ⟨b, 0, none⟩), .slice A2 (l ++ [UInt8.ofNat n.toNat]).length cap2] := hbk2.set_ 1 _
  have hown3 : OwnB (w2.setCell ⟨b, 1, none⟩ (.slice A2 (l ++ [UInt8.ofNat n.toNat]).length cap2)) B0 5 (.slice A2 (l ++ [UInt8.ofNat n.toNat]).length cap2) (l ++ [UInt8.ofNat n.toNat]) :=
    OwnB.kept hown2 (grown_setCell w2 ⟨b, 1, none⟩ _) (.inr fun e => hvb e.symm)
  have hb3 : Below B0 w (w2.setCell ⟨b, 1, none⟩ (.slice A2 (l ++ [UInt8.ofNat n.toNat]).length cap2)) := hb2.setCell (p := ⟨b, 1, none⟩) hB _
  rw [List.length_append] at hbk3 hown3 hb3 hvb
  refine ⟨rfl, .inr ⟨hB, _, hbk3, ?_, fun e => hvb e.symm⟩, hb3, fun k T cs h hT hk => (hfar2.out k T cs (hfar1.out k T cs h hk) hT).far (p := ⟨b, 1, none⟩) hk _⟩
  rw [List.length_map, List.length_append]
  unfold OwnB at hown3
  rw [List.length_append] at hown3
  exact hown3
end Go.Proofs.YtlanconcbpdneaaDoor
