/- Lemmas and walks of this seat, laid together: Varint2, Unhex0, ObjK, ObjKn, RdW, Take, RdX, LzBP, RdL, RdM, RdB, Far2, RdI, Stage, Splice, RdO, RdB1. -/
import Derived.Test.YtnehabcopjgklaaDoorMc
import Derived.Lib.Hide
import Derived.Lib.BufferWrite
import Derived.Deep.MidRow
/- The walk of layer 1's Get. No condition. -/
namespace Go.Proofs.YtnehabcopjgklaaDoor
open Go.RowKit

theorem and127 (c : UInt8) : bits .and .u8 (c.toNat : Int) 127 = ((c.toNat % 128 : Nat) : Int) := by
  have h : ∀ m : Fin 256, bits .and .u8 ((m.val : Nat) : Int) 127 = ((m.val % 128 : Nat) : Int) := by decide +kernel
  exact h ⟨c.toNat, c.toNat_lt⟩
theorem or_shl (N k : Nat) (c : UInt8) (hN : N < 128 ^ k) (hf : N + 128 ^ k * (c.toNat % 128) ≤ 18446744073709551615) :
    bits .or .u64 (N : Int) (IntKind.u64.wrap (IntKind.u64.wrap (bits .and .u8 (c.toNat : Int) 127) * 2 ^ (7 * k))) = ((N + 128 ^ k * (c.toNat % 128) : Nat) : Int) := by
  have hp : (128 : Nat) ^ k = 2 ^ (7 * k) := by rw [Nat.pow_mul]
  rw [hp] at hN hf ⊢
  rw [and127, IntWalk.u64_in ((c.toNat % 128 : Nat) : Int) (by omega)]
  have h1 : ((c.toNat % 128 : Nat) : Int) * 2 ^ (7 * k) = ((2 ^ (7 * k) * (c.toNat % 128) : Nat) : Int) := by
    rw [Int.natCast_mul, Int.mul_comm]; simp
  rw [h1, IntWalk.u64_in _ (by omega)]
  have h2 := u64_or_nat N (2 ^ (7 * k) * (c.toNat % 128)) (by omega) (by omega)
  rw [h2, Nat.or_comm, ← Nat.two_pow_add_eq_or_of_lt hN, Nat.add_comm]

set_option maxRecDepth 100000 in
set_option maxHeartbeats 800000 in
theorem get_calls (l : List UInt8) (hl : l.length ≤ 4611686018427387904) (w : World) :
    Calls Tryd.prog 58 #[.string (B l)] w fun e w' => e = .returned (getTriple l (get l)) ∧ ∃ n, w' = w.drewN n := by
  obtain ⟨M, hmin, hM1, hM2, hM3⟩ : ∃ M : Nat, (if (10 : Int) < (l.length : Int) then (10 : Int) else (l.length : Int)) = (M : Int) ∧ M ≤ 10 ∧ M ≤ l.length ∧ Hid (M = 10 ∨ M = l.length) := by
    refine ⟨min l.length 10, ?_, by omega, by omega, ?_⟩
    · split <;> omega
    · show _ ∨ _; omega
  go_enter Tryd.func58, Tryd.ntmps58
  go_wp2
  go_loop [5, 11] (fun n i => ∃ k : Nat, i = .int .i64 k ∧ k ≤ M ∧ n = .int .u64 (val7 (l.take k)) ∧ Hid (k ≤ lead l)) (fun _ i => 10 - (intOf i).toNat)
  case atStart => exact ⟨0, rfl, by omega, rfl, Nat.zero_le _⟩
  case round =>
    obtain ⟨k, rfl, h1, rfl, h3⟩ := hrel
    by_cases hk : k < M
    · obtain ⟨c, hc⟩ : ∃ c, l[k] = c := ⟨_, rfl⟩
      have hts := val7_take_succ l k (by omega)
      have hN := val7_lt (l.take k)
      rw [List.length_take, Nat.min_eq_left (by omega)] at hN
      rw [hc] at hts
      by_cases h9 : k = 9
      · subst h9
        by_cases hc1 : 1 < c.toNat
        · have hfin : Hid (get l = none) := by
            by_cases hbig : 128 ≤ c.toNat
            · exact get_ten (lead_next h3.out (by omega) (by rw [hc]; exact hbig))
            · exact get_nine (by omega) (lead_here h3.out (by omega) (by rw [hc]; omega)) (by rw [hc]; exact hc1)
          clear hts hN
          go_wp2
          all_goals first | (exfalso; omega) | skip
          go_ret3
          exact ⟨by rw [hfin.out]; rfl, 0, rfl⟩
        · have hle : Hid (lead l = 9) := lead_here h3.out (by omega) (by rw [hc]; omega)
          have hor0 := or_shl (val7 (l.take 9)) 9 c hN (by omega)
          rw [← hts] at hor0
          have hor : bits .or .u64 (val7 (List.take 9 l) : Int) (IntKind.u64.wrap (IntKind.u64.wrap (bits .and .u8 (c.toNat : Int) 127) * 9223372036854775808)) = ((val7 (List.take 10 l) : Nat) : Int) := by
            rw [show (9223372036854775808 : Int) = 2 ^ (7 * 9) from by decide]
            exact hor0
          clear hor0
          clear hts hN
          by_cases h0 : c.toNat = 0
          · have hfin : Hid (get l = none) := get_zero (by omega) hle.out (by omega) (by rw [hc]; exact h0)
            have h0' : ((c.toNat : Int) == 0) = true := by simp [h0]
            have h0h := Lib.hid h0
            clear h0
            go_wp2
            all_goals first | (exfalso; omega) | skip
            go_ret3
            exact ⟨by rw [hfin.out]; rfl, 0, rfl⟩
          · have hfin : Hid (get l = some (val7 (l.take (9 + 1)), 9 + 1)) := get_yes (by omega) hle.out (by omega) (fun _ => by rw [hc]; omega) (fun _ => by rw [hc]; exact h0)
            have h0' : ((c.toNat : Int) == 0) = false := by simp; omega
            go_wp2
            all_goals first | (exfalso; omega) | skip
            go_quiet (fail)
            go_wp2
            go_ret3
            exact ⟨by rw [hfin.out]; rfl, _, rfl⟩
      · by_cases hd : 128 ≤ c.toNat
        · have hn : Hid (k + 1 ≤ lead l) := lead_next h3.out (by omega) (by rw [hc]; exact hd)
          have hor := or_shl (val7 (l.take k)) k c hN (by
            have : 128 ^ k * (c.toNat % 128) ≤ 128 ^ k * 127 := Nat.mul_le_mul_left _ (by omega)
            have : 128 ^ k ≤ 128 ^ 8 := Nat.pow_le_pow_right (by omega) (by omega)
            omega)
          rw [← hts] at hor
          clear hts hN
          go_wp2
          all_goals first | (exfalso; omega) | skip
          go_round
          case rel => exact ⟨k + 1, by go_num, by omega, rfl, hn⟩
          case measure => simp [intOf]; omega
        · have hle : Hid (lead l = k) := lead_here h3.out (by omega) (by rw [hc]; omega)
          have hor := or_shl (val7 (l.take k)) k c hN (by
            have : 128 ^ k * (c.toNat % 128) ≤ 128 ^ k * 127 := Nat.mul_le_mul_left _ (by omega)
            have : 128 ^ k ≤ 128 ^ 8 := Nat.pow_le_pow_right (by omega) (by omega)
            omega)
          rw [← hts] at hor
          clear hts hN
          by_cases h0 : 0 < k ∧ c.toNat = 0
          · obtain ⟨h0k, h0c⟩ := h0
            have hfin : Hid (get l = none) := get_zero (by omega) hle.out h0k (by rw [hc]; exact h0c)
            have h0' : ((c.toNat : Int) == 0) = true := by simp [h0c]
            have h0h := Lib.hid h0c
            clear h0c
            go_wp2
            all_goals first | (exfalso; omega) | skip
            go_ret3
            exact ⟨by rw [hfin.out]; rfl, 0, rfl⟩
          · have hfin : Hid (get l = some (val7 (l.take (k + 1)), k + 1)) := get_yes (by omega) hle.out (by omega) (fun _ => by omega) (fun h => by rw [hc]; omega)
            by_cases h0k : ¬ 0 < k
            · by_cases h0c : c.toNat = 0
              · have h0' : ((c.toNat : Int) == 0) = true := by simp [h0c]
                have h0h := Lib.hid h0c
                clear h0c h0
                go_wp2
                all_goals first | (exfalso; omega) | skip
                go_quiet (fail)
                go_wp2
                go_ret3
                exact ⟨by rw [hfin.out]; rfl, _, rfl⟩
              · have h0' : ((c.toNat : Int) == 0) = false := by simp; omega
                go_wp2
                all_goals first | (exfalso; omega) | skip
                go_quiet (fail)
                go_wp2
                go_ret3
                exact ⟨by rw [hfin.out]; rfl, _, rfl⟩
            · have h0' : ((c.toNat : Int) == 0) = false := by simp; omega
              go_wp2
              all_goals first | (exfalso; omega) | skip
              go_quiet (fail)
              go_wp2
              go_ret3
              exact ⟨by rw [hfin.out]; rfl, _, rfl⟩
    · have hfin : Hid (get l = none) := by
        have h3' := h3.out
        rcases hM3.out with h | h
        · exact get_ten (by omega)
        · exact get_end (by omega)
      go_wp2
      all_goals first | (exfalso; omega) | skip
      go_ret3
      exact ⟨by rw [hfin.out]; rfl, 0, rfl⟩
end Go.Proofs.YtnehabcopjgklaaDoor
/- Small words: two blocks, a result of an id and a bool. No condition. -/
namespace Go.Proofs.YtnehabcopjgklaaDoor
open Go.RowKit
theorem blk_at2 (w : World) (o : Obj) (t : TypeId) (cs : Array Value) : Blk ((w.alloc o).alloc (.cells cs t)) (w.heap.size + 1) t cs := by
  have := Blk.new (w.alloc o) t cs
  rwa [show (w.alloc o).heap.size = w.heap.size + 1 from by simp] at this
theorem results_row_tmp {P : Program} {fn : Func} {p q : Tmp} {ty : TypeId} (h : fn.results = #[.cell p ty, .tmp q]) (tmps : Array Value) (w : World) (g : Nat) (t : TypeId) (cs : Array Value) (fr : Nat × Nat) (d : TypeDesc)
    (hp : tmps.getD p undef = .pointer (some ⟨g, 0, none⟩)) (hg : w.heap[g]? = some (.cells cs t fr))
    (hu : P.underlying ty = some d) (hd : (match d with | .struct _ | .array _ _ => true | _ => false) = true) (hi : (P.info? ty).map (·.size) = some cs.size) :
    (results fn tmps).run P w = .ok (.tuple #[.agg cs, tmps.getD q undef]) w := by
  have hp' : tmps[p]?.getD undef = .pointer (some ⟨g, 0, none⟩) := by simpa using hp
  simp [results, h, hp', asAddr, run_loadVar_row w g t ty cs fr d hg hu hd hi]
theorem sized32 {l : List UInt8} (h : l.length = 32) : (Tryd.prog.info? 24).map (·.size) = some (u8s l).size := by rw [u8s_size, h]; exact sz32
theorem same32 {a b : List UInt8} (ha : a.length = 32) (hb : b.length = 32) : (u8s a).size = (u8s b).size := by rw [u8s_size, u8s_size, ha, hb]
theorem zeros32 : (List.replicate 32 (0 : UInt8)).length = 32 := by simp
end Go.Proofs.YtnehabcopjgklaaDoor
/- The walks of layer 4's law: few, knows. No condition. -/
namespace Go.Proofs.YtnehabcopjgklaaDoor
open Go.RowKit
theorem take_bad (s : Txt) (hs : s.length ≤ 4611686018427387904) (hb : ∀ n k, get s = some (n, k) → (s.drop k).length < n) (hg : get s ≠ none) (w : World) : Calls Tryd.prog 38 #[.string (B s)] w fun e w' => e = .returned (.tuple #[.string (B []), .string (B []), .int .i64 2]) ∧ Below w.heap.size w w' := by
  have hget := get_calls s hs w
  cases h : get s with
  | none => exact absurd h hg
  | some p =>
    obtain ⟨n, k⟩ := p
    have hlt := hb n k h
    rw [h] at hget
    have hget : Calls Tryd.prog 58 #[.string (B s)] w fun e w' => e = .returned (.tuple #[.int .u64 n, .string (B (s.drop k)), .int .i64 0]) ∧ ∃ n, w' = w.drewN n := hget
    have hget := Lib.hid hget
    have hle : (s.drop k).length ≤ s.length := by rw [List.length_drop]; omega
    generalize s.drop k = R at *
    have hi : (R.length : Int) < (n : Int) := by omega
    clear h hb hg
    go_enter Tryd.func38, Tryd.ntmps38
    go_wp2_with (first
      | ((with_reducible refine hget.out.mono ?_); rintro e w1 ⟨rfl, nq, rfl⟩))
    all_goals try (exfalso; omega)
    go_ret3
    exact ⟨rfl, bdrewN (Below.refl _ _) nq⟩
def zObj : Array Value := (objC ⟨0, [], [], noId, [], 0, [], noId, 0, []⟩ (.slice none 0 0) (.slice none 0 0)).toArray
theorem built_zObj : Tryd.prog.built 41 [] = some zObj := by kernel_rfl
theorem zObj_size : zObj.size = 72 := by kernel_rfl
theorem zObj_one : zObj.all (·.oneCell') = true := by kernel_rfl
def hiObj : ObjL := ⟨1, [104, 105], [], noId, [], 0, [], noId, 0, []⟩
theorem built_hi : Tryd.prog.built 41 [(0, .int .i64 1), (1, .string ⟨#[104, 105]⟩)] = some (objC hiObj (.slice none 0 0) (.slice none 0 0)).toArray := by kernel_rfl
theorem hiSmall : Small hiObj := ⟨by decide, fun e he => by simp [hiObj] at he, by decide, by decide, by decide, by decide⟩
theorem hiV (w : World) : ObjV w (.slice none 0 0) (.slice none 0 0) hiObj := ⟨⟨by decide, by decide, fun e he => by simp [hiObj] at he, fun e he => by simp [hiObj] at he, by decide, by decide, by decide, by decide, by decide, by decide, by decide, by decide⟩, SliceAt.nil, SliceAt.nil⟩
theorem hiEnc : encC hiObj = .tuple #[.string (B [1, 2, 104, 105]), .int .i64 0] := encC_some (by decide)
end Go.Proofs.YtnehabcopjgklaaDoor
/- The walk of layer 4's law: knows. No condition. -/
namespace Go.Proofs.YtnehabcopjgklaaDoor
open Go.RowKit
theorem zeroObj (W : World) : (zeroValue 41).run Tryd.prog W = .ok (.agg zObj) W := by
  have h : (Tryd.prog.info? 41).map (·.zero) = some (some (.agg zObj)) := by kernel_rfl
  obtain ⟨i, h1, h2⟩ := Option.map_eq_some_iff.1 h
  simp [zeroValue, typeInfo, h1, h2]
theorem sizedObj : (Tryd.prog.info? 41).map (·.size) = some zObj.size := by rw [zObj_size]; exact szObj
set_option maxRecDepth 100000 in
set_option maxHeartbeats 2000000 in
theorem decode_bad (c : UInt8) (s : Txt) (hs : s.length ≤ 4095) (ht : ∀ W, Calls Tryd.prog 38 #[.string (B s)] W fun e w' => e = .returned (.tuple #[.string (B []), .string (B []), .int .i64 2]) ∧ Below W.heap.size W w') (w : World) :
    Calls Tryd.prog 24 #[.string (B (c :: s))] w fun e w' => e = .returned (.tuple #[.agg zObj, .int .i64 2]) ∧ Below w.heap.size w w' := by
  have hzv := zeroObj
  obtain ⟨W0, hW0⟩ : ∃ W0, w.alloc (.cells zObj 41) = W0 := ⟨_, rfl⟩
  have hz0 : Blk W0 w.heap.size 41 zObj := by rw [← hW0]; exact Blk.new _ _ _
  have b0 : Below w.heap.size w W0 := by rw [← hW0]; exact (Below.refl _ _).alloc (Nat.le_refl _) _
  have hex : (B (c :: s)).extract 1 (s.length + 1) = B s := by
    rw [extract_B]
    simp
  have i1 : ¬ (4096 : Int) < ((s.length : Int) + 1) := by omega
  have ht := Lib.hid (ht W0)
  have hrb := fun W => run_build (P := Tryd.prog) W _ _ _ built_zObj
  have hone := zObj_one
  have hsz := sizedObj
  go_enter Tryd.func24, Tryd.ntmps24
  go_wp2_with (first
    | ((with_reducible refine ht.out.mono ?_); rintro e w1 ⟨rfl, hb1⟩
       have hz1 := hz0.below hb1 hz0.lt)
    | (refine wpList_store_row rfl 41 (.tmp 2) (.tmp 31) rfl w.heap.size zObj rfl rfl _ _ hz1 hsz rfl hone ?_))
  refine bodyPost_ret (results_row_tmp rfl _ _ w.heap.size _ _ _ _ rfl (setRow_heap _ _ _ _ _ _ hz1) Tryd.underlying41 rfl hsz) rfl ⟨rfl, below_setRow (bthen b0 b0.size hb1) (Nat.le_refl _) _⟩
end Go.Proofs.YtnehabcopjgklaaDoor
/- The walks of layer 4's reader: bytes, kind, number, text. No condition. -/
namespace Go.Proofs.YtnehabcopjgklaaDoor
open Go.RowKit
/-- A block holds a reader. -/
def RdB (w : World) (g : Nat) (r : Rd) : Prop := Blk w g 94 #[.string (B r.1), .bool r.2]
theorem RdB.c0 {w : World} {g : Nat} {r : Rd} (h : RdB w g r) : w.cell? ⟨g, 0, none⟩ = some (.string (B r.1)) := by rw [Blk.cell h]; rfl
theorem RdB.c1 {w : World} {g : Nat} {r : Rd} (h : RdB w g r) : w.cell? ⟨g, 1, none⟩ = some (.bool r.2) := by rw [Blk.cell h]; rfl
theorem RdB.f {w : World} {g : Nat} {r : Rd} (h : RdB w g r) (i : Nat) : w.frozen? ⟨g, i, none⟩ = false := Blk.frozen h i
theorem RdB.bad {w : World} {g : Nat} {r : Rd} (h : RdB w g r) : RdB (w.setCell ⟨g, 1, none⟩ (.bool true)) g (r.1, true) := Blk.set_ h 1 _
theorem RdB.rest {w : World} {g : Nat} {r : Rd} (h : RdB w g r) (s : Txt) : RdB (w.setCell ⟨g, 0, none⟩ (.string (B s))) g (s, r.2) := Blk.set_ h 0 _
theorem RdB.drewN {w : World} {g : Nat} {r : Rd} (h : RdB w g r) (n : Nat) : RdB (w.drewN n) g r := Blk.drewN h n
theorem RdB.below {w w' : World} {g : Nat} {r : Rd} (h : RdB w g r) (hb : Below w.heap.size w w') : RdB w' g r := (hb.block g (Blk.lt h)).trans h
theorem rBytes_bad {n : Nat} {r : Rd} (h : r.2 = true ∨ r.1.length < n) : rBytes n r = ([], (r.1, true)) := by unfold rBytes; rw [if_pos h]
theorem rBytes_ok {n : Nat} {r : Rd} (h1 : r.2 = false) (h : n ≤ r.1.length) : rBytes n r = (r.1.take n, (r.1.drop n, false)) := by unfold rBytes; rw [if_neg (by rw [h1]; simp; omega)]
set_option maxRecDepth 100000 in
set_option maxHeartbeats 2000000 in
theorem rb_calls (n : Nat) (r : Rd) (hr : r.1.length ≤ 100000) (hn : n ≤ 100000) (g : Nat) (w : World) (hb : RdB w g r) : Calls Tryd.prog 59 #[.pointer (some ⟨g, 0, none⟩), .int .i64 n] w fun e w' => e = .returned (.string (B (rBytes n r).1)) ∧ RdB w' g (rBytes n r).2 ∧ Far [some g] w w' := by
  obtain ⟨s, b⟩ := r
  have c0 := hb.c0
  have c1 := hb.c1
  have f0 := hb.f 0
  have f1 := hb.f 1
  simp only at c0 c1 hr
  cases b with
  | true =>
    rw [rBytes_bad (.inl rfl)]
    have hb2 := hb.bad
    have hfar : Far [some g] w (w.setCell ⟨g, 1, none⟩ (.bool true)) := (Far.refl _ _).set_ (.inl (by simp)) _
    go_enter Tryd.func59, Tryd.ntmps59
    go_wp2
    go_ret
    exact ⟨rfl, hb2, hfar⟩
  | false =>
    by_cases hlt : s.length < n
    · have hli : (s.length : Int) < (n : Int) := by omega
      rw [rBytes_bad (.inr hlt)]
      have hb2 := hb.bad
      have hfar : Far [some g] w (w.setCell ⟨g, 1, none⟩ (.bool true)) := (Far.refl _ _).set_ (.inl (by simp)) _
      go_enter Tryd.func59, Tryd.ntmps59
      go_wp2
      all_goals try (exfalso; omega)
      go_ret
      exact ⟨rfl, hb2, hfar⟩
    · have hli : ¬ (s.length : Int) < (n : Int) := by omega
      have hle : n ≤ s.length := by omega
      have hlei : (n : Int) ≤ (s.length : Int) := by omega
      rw [rBytes_ok rfl hle]
      have x1 : (B s).extract 0 n = B (s.take n) := extract_B_to s n
      have x2 : (B s).extract n s.length = B (s.drop n) := extract_B_from s n
      have hb2 := hb.rest (s.drop n)
      have hfar : Far [some g] w (w.setCell ⟨g, 0, none⟩ (.string (B (s.drop n)))) := (Far.refl _ _).set_ (.inl (by simp)) _
      go_enter Tryd.func59, Tryd.ntmps59
      go_wp2
      all_goals try (exfalso; omega)
      go_ret
      exact ⟨rfl, hb2, hfar⟩
end Go.Proofs.YtnehabcopjgklaaDoor
/- The walks of layer 1's Take on both sides. No condition. -/
namespace Go.Proofs.YtnehabcopjgklaaDoor
open Go.RowKit
def takeV (s : Txt) : Value := match takeP s with
  | some (t, q) => .tuple #[.string (B t), .string (B q), .int .i64 0]
  | none => .tuple #[.string (B []), .string (B []), .int .i64 2]
theorem takeV_some {s t q : Txt} (h : takeP s = some (t, q)) : takeV s = .tuple #[.string (B t), .string (B q), .int .i64 0] := by unfold takeV; rw [h]
theorem takeV_none {s : Txt} (h : takeP s = none) : takeV s = .tuple #[.string (B []), .string (B []), .int .i64 2] := by unfold takeV; rw [h]
set_option maxRecDepth 100000 in
set_option maxHeartbeats 800000 in
theorem take_calls (s : Txt) (hs : s.length ≤ 4611686018427387904) (w : World) : Calls Tryd.prog 38 #[.string (B s)] w fun e w' => e = .returned (takeV s) ∧ ∃ n, w' = w.drewN n := by
  have hget := get_calls s hs w
  obtain ⟨r, hr⟩ : ∃ r, Hid (takeV s = r) := ⟨_, Lib.hid rfl⟩
  rw [hr.out]
  cases h : get s with
  | none =>
    rw [h] at hget
    have hget : Calls Tryd.prog 58 #[.string (B s)] w fun e w' => e = .returned (.tuple #[.int .u64 0, .string (B []), .int .i64 2]) ∧ ∃ n, w' = w.drewN n := hget
    have hget := Lib.hid hget
    have hrr : Hid (_ = r) := (takeV_none (takeP_none h)).symm.trans hr.out
    clear h hr
    go_enter Tryd.func38, Tryd.ntmps38
    go_wp2_with (first
      | ((with_reducible refine hget.out.mono ?_); rintro e w1 ⟨rfl, nq, rfl⟩))
    go_ret3
    exact ⟨by rw [← hrr.out]; rfl, nq, rfl⟩
  | some p =>
    obtain ⟨n, k⟩ := p
    rw [h] at hget
    have hget : Calls Tryd.prog 58 #[.string (B s)] w fun e w' => e = .returned (.tuple #[.int .u64 n, .string (B (s.drop k)), .int .i64 0]) ∧ ∃ n, w' = w.drewN n := hget
    have hget := Lib.hid hget
    have hle : (s.drop k).length ≤ s.length := by rw [List.length_drop]; omega
    by_cases hlt : (s.drop k).length < n
    · have hrr : Hid (_ = r) := (takeV_none (takeP_short h hlt)).symm.trans hr.out
      generalize s.drop k = R at *
      have hi : (R.length : Int) < (n : Int) := by omega
      clear h hr
      go_enter Tryd.func38, Tryd.ntmps38
      go_wp2_with (first
        | ((with_reducible refine hget.out.mono ?_); rintro e w1 ⟨rfl, nq, rfl⟩))
      all_goals try (exfalso; omega)
      go_ret3
      exact ⟨by rw [← hrr.out]; rfl, nq, rfl⟩
    · have hrr : Hid (_ = r) := (takeV_some (takeP_yes h (by omega))).symm.trans hr.out
      generalize s.drop k = R at *
      have hi : ¬ (R.length : Int) < (n : Int) := by omega
      have hle2 : (n : Int) ≤ (R.length : Int) := by omega
      have hle3 : n ≤ R.length := by omega
      have x1 : (B R).extract 0 n = B (R.take n) := extract_B_to R n
      have x2 : (B R).extract n R.length = B (R.drop n) := extract_B_from R n
      clear h hr
      go_enter Tryd.func38, Tryd.ntmps38
      go_wp2_with (first
        | ((with_reducible refine hget.out.mono ?_); rintro e w1 ⟨rfl, nq, rfl⟩))
      all_goals try (exfalso; omega)
      go_quiet (fail)
      go_wp2
      go_ret3
      exact ⟨by rw [← hrr.out]; rfl, _, World.drewN_drewN _ _ _⟩
def takeNV (s : Txt) : Value := .tuple #[.string (B (takeN s).1), .int .i64 (takeN s).2]
set_option maxRecDepth 100000 in
set_option maxHeartbeats 800000 in
theorem refTake_calls (s : Txt) (hs : s.length ≤ 4611686018427387904) (w : World) : Calls Tryd.prog 73 #[.string (B s)] w fun e w' => e = .returned (takeNV s) ∧ w' = w := by
  have hget := refGet_calls s hs w
  have hgg : getPair (get s) = .tuple #[.int .u64 (getN s).1, .int .i64 (getN s).2] := by
    unfold getN
    cases get s <;> rfl
  rw [hgg] at hget
  have hget := Lib.hid hget
  have hb1 := getN_le s
  have hb2 := getN_num s
  obtain ⟨r, hr⟩ : ∃ r, Hid (takeNV s = r) := ⟨_, Lib.hid rfl⟩
  rw [hr.out]
  have hr0 := @takeN_zero s
  have hr1 := @takeN_short s
  have hr2 := @takeN_yes s
  unfold takeNV at hr
  generalize (getN s).1 = n at *
  generalize (getN s).2 = k at *
  by_cases h0 : k = 0
  · have hrr : Hid (_ = r) := (by rw [← hr.out, hr0 h0]; rfl : Value.tuple #[.string (B []), .int .i64 0] = r)
    have i0 : (k : Int) = 0 := by omega
    clear hr hr0 hr1 hr2 hgg
    subst h0
    go_enter Tryd.func73, Tryd.ntmps73
    go_wp2_with (first
      | ((with_reducible refine hget.out.mono ?_); rintro e w1 ⟨rfl, rfl⟩))
    all_goals try (exfalso; omega)
    go_ret2
    exact ⟨by rw [← hrr.out]; rfl, rfl⟩
  · have i0 : ¬ (k : Int) = 0 := by omega
    have i1 : 1 ≤ k := by omega
    have x0 : IntKind.u64.wrap ((s.length : Int) - (k : Int)) = ((s.length - k : Nat) : Int) := by
      rw [IntWalk.u64_in _ (by omega)]; omega
    by_cases hlt : s.length - k < n
    · have hrr : Hid (_ = r) := (by rw [← hr.out, hr1 h0 hlt]; rfl : Value.tuple #[.string (B []), .int .i64 0] = r)
      have hi : ((s.length - k : Nat) : Int) < (n : Int) := by omega
      have hj : (s.length : Int) - (k : Int) < (n : Int) := by omega
      clear hr hr0 hr1 hr2 hgg h0 hlt x0
      go_enter Tryd.func73, Tryd.ntmps73
      go_wp2_with (first
        | ((with_reducible refine hget.out.mono ?_); rintro e w1 ⟨rfl, rfl⟩))
      all_goals try (exfalso; omega)
      go_ret2
      exact ⟨by rw [← hrr.out]; rfl, rfl⟩
    · have hrr : Hid (_ = r) := (by rw [← hr.out, hr2 h0 (by omega)]; rfl : Value.tuple #[.string (B ((s.drop k).take n)), .int .i64 ((k : Int) + (n : Int))] = r)
      have hi : ¬ ((s.length - k : Nat) : Int) < (n : Int) := by omega
      have hj : ¬ (s.length : Int) - (k : Int) < (n : Int) := by omega
      have y0 : k + n ≤ s.length := by omega
      have x1 : (B s).extract k (k + n) = B ((s.drop k).take n) := by rw [extract_B]; rw [Nat.add_sub_cancel_left]
      clear hr hr0 hr1 hr2 hgg h0 hlt x0
      go_enter Tryd.func73, Tryd.ntmps73
      go_wp2_with (first
        | ((with_reducible refine hget.out.mono ?_); rintro e w1 ⟨rfl, rfl⟩))
      all_goals try (exfalso; omega)
      go_ret2
      refine ⟨?_, rfl⟩
      rw [← hrr.out]
      show Ending.returned (.tuple #[.string (B ((s.drop k).take (k + n - k))), .int .i64 ((k : Int) + (n : Int))]) = _
      rw [Nat.add_sub_cancel_left]
end Go.Proofs.YtnehabcopjgklaaDoor
/- The walks of layer 4's reader: number, text, kind, id. No condition. -/
namespace Go.Proofs.YtnehabcopjgklaaDoor
open Go.RowKit
theorem rNum_bad {r : Rd} (h : r.2 = true ∨ get r.1 = none) : rNum r = (0, (r.1, true)) := by
  unfold rNum
  rcases h with h | h
  · rw [if_pos h]
  · split
    · rfl
    · rw [h]
theorem rNum_ok {r : Rd} {n k : Nat} (h1 : r.2 = false) (h : get r.1 = some (n, k)) : rNum r = (n, (r.1.drop k, false)) := by unfold rNum; rw [if_neg (by rw [h1]; simp), h]
theorem rText_bad {r : Rd} (h : r.2 = true ∨ takeP r.1 = none) : rText r = ([], (r.1, true)) := by
  unfold rText
  rcases h with h | h
  · rw [if_pos h]
  · split
    · rfl
    · rw [h]
theorem rText_ok {r : Rd} {t q : Txt} (h1 : r.2 = false) (h : takeP r.1 = some (t, q)) : rText r = (t, (q, false)) := by unfold rText; rw [if_neg (by rw [h1]; simp), h]
def getE (l : Txt) : Option (Nat × Nat) → Value
  | some (n, k) => .tuple #[.int .u64 n, .string (B (l.drop k)), .int .i64 0]
  | none => .tuple #[.int .u64 0, .string (B []), .int .i64 2]
set_option maxRecDepth 100000 in
set_option maxHeartbeats 2000000 in
theorem rn_calls (r : Rd) (hr : r.1.length ≤ 100000) (g : Nat) (w : World) (hb : RdB w g r) : Calls Tryd.prog 63 #[.pointer (some ⟨g, 0, none⟩)] w fun e w' => e = .returned (.int .u64 (rNum r).1) ∧ RdB w' g (rNum r).2 ∧ Far [some g] w w' := by
  obtain ⟨s, b⟩ := r
  have c0 := hb.c0
  have c1 := hb.c1
  have f0 := hb.f 0
  have f1 := hb.f 1
  simp only at c0 c1 hr
  have hget := get_calls s (by omega) w
  by_cases hbad : b = true ∨ get s = none
  · rw [rNum_bad hbad]
    have hb2 := fun n => (hb.drewN n).bad
    have hfar : ∀ n, Far [some g] w ((w.drewN n).setCell ⟨g, 1, none⟩ (.bool true)) := fun n => ((Far.refl _ _).drewN n).set_ (.inl (by simp)) _
    cases hg : get s with
    | none =>
      rw [hg] at hget
      have hget : Calls Tryd.prog 58 #[.string (B s)] w fun e w' => e = .returned (.tuple #[.int .u64 0, .string (B []), .int .i64 2]) ∧ ∃ n, w' = w.drewN n := hget
      have hget := Lib.hid hget
      clear hbad hg
      cases b
      all_goals
        go_enter Tryd.func63, Tryd.ntmps63
        go_wp2_with (first
          | ((with_reducible refine hget.out.mono ?_); rintro e w1 ⟨rfl, nq, rfl⟩))
        go_ret
        exact ⟨rfl, hb2 nq, hfar nq⟩
    | some p =>
      obtain ⟨n, k⟩ := p
      have hbt : b = true := by
        rcases hbad with h | h
        · exact h
        · rw [hg] at h; cases h
      subst hbt
      rw [hg] at hget
      have hget : Calls Tryd.prog 58 #[.string (B s)] w fun e w' => e = .returned (.tuple #[.int .u64 n, .string (B (s.drop k)), .int .i64 0]) ∧ ∃ n, w' = w.drewN n := hget
      have hget := Lib.hid hget
      clear hbad hg
      go_enter Tryd.func63, Tryd.ntmps63
      go_wp2_with (first
        | ((with_reducible refine hget.out.mono ?_); rintro e w1 ⟨rfl, nq, rfl⟩))
      go_ret
      exact ⟨rfl, hb2 nq, hfar nq⟩
  · cases b with
    | true => exact absurd (.inl rfl) hbad
    | false =>
      cases hg : get s with
      | none => exact absurd (.inr hg) hbad
      | some p =>
        obtain ⟨n, k⟩ := p
        rw [rNum_ok rfl hg]
        rw [hg] at hget
        have hget : Calls Tryd.prog 58 #[.string (B s)] w fun e w' => e = .returned (.tuple #[.int .u64 n, .string (B (s.drop k)), .int .i64 0]) ∧ ∃ n, w' = w.drewN n := hget
        have hget := Lib.hid hget
        have hb2 := fun n => (hb.drewN n).rest (s.drop k)
        have hfar : ∀ n, Far [some g] w ((w.drewN n).setCell ⟨g, 0, none⟩ (.string (B (s.drop k)))) := fun n => ((Far.refl _ _).drewN n).set_ (.inl (by simp)) _
        clear hbad hg
        go_enter Tryd.func63, Tryd.ntmps63
        go_wp2_with (first
          | ((with_reducible refine hget.out.mono ?_); rintro e w1 ⟨rfl, nq, rfl⟩))
        go_ret
        exact ⟨rfl, hb2 nq, hfar nq⟩
set_option maxRecDepth 100000 in
set_option maxHeartbeats 2000000 in
theorem rt_calls (r : Rd) (hr : r.1.length ≤ 100000) (g : Nat) (w : World) (hb : RdB w g r) : Calls Tryd.prog 61 #[.pointer (some ⟨g, 0, none⟩)] w fun e w' => e = .returned (.string (B (rText r).1)) ∧ RdB w' g (rText r).2 ∧ Far [some g] w w' := by
  obtain ⟨s, b⟩ := r
  have c0 := hb.c0
  have c1 := hb.c1
  have f0 := hb.f 0
  have f1 := hb.f 1
  simp only at c0 c1 hr
  have htk := take_calls s (by omega) w
  by_cases hbad : b = true ∨ takeP s = none
  · rw [rText_bad hbad]
    have hb2 := fun n => (hb.drewN n).bad
    have hfar : ∀ n, Far [some g] w ((w.drewN n).setCell ⟨g, 1, none⟩ (.bool true)) := fun n => ((Far.refl _ _).drewN n).set_ (.inl (by simp)) _
    cases hg : takeP s with
    | none =>
      rw [takeV_none hg] at htk
      have htk := Lib.hid htk
      clear hbad hg
      cases b
      all_goals
        go_enter Tryd.func61, Tryd.ntmps61
        go_wp2_with (first
          | ((with_reducible refine htk.out.mono ?_); rintro e w1 ⟨rfl, nq, rfl⟩))
        go_ret
        exact ⟨rfl, hb2 nq, hfar nq⟩
    | some p =>
      obtain ⟨t, q⟩ := p
      have hbt : b = true := by
        rcases hbad with h | h
        · exact h
        · rw [hg] at h; cases h
      subst hbt
      rw [takeV_some hg] at htk
      have htk := Lib.hid htk
      clear hbad hg
      go_enter Tryd.func61, Tryd.ntmps61
      go_wp2_with (first
        | ((with_reducible refine htk.out.mono ?_); rintro e w1 ⟨rfl, nq, rfl⟩))
      go_ret
      exact ⟨rfl, hb2 nq, hfar nq⟩
  · cases b with
    | true => exact absurd (.inl rfl) hbad
    | false =>
      cases hg : takeP s with
      | none => exact absurd (.inr hg) hbad
      | some p =>
        obtain ⟨t, q⟩ := p
        rw [rText_ok rfl hg]
        rw [takeV_some hg] at htk
        have htk := Lib.hid htk
        have hb2 := fun n => (hb.drewN n).rest q
        have hfar : ∀ n, Far [some g] w ((w.drewN n).setCell ⟨g, 0, none⟩ (.string (B q))) := fun n => ((Far.refl _ _).drewN n).set_ (.inl (by simp)) _
        clear hbad hg
        go_enter Tryd.func61, Tryd.ntmps61
        go_wp2_with (first
          | ((with_reducible refine htk.out.mono ?_); rintro e w1 ⟨rfl, nq, rfl⟩))
        go_ret
        exact ⟨rfl, hb2 nq, hfar nq⟩
theorem rKind_bad {r : Rd} (h : r.2 = true ∨ r.1.length < 1) : rKind r = (0, (r.1, true)) := by unfold rKind; rw [rBytes_bad h]; rfl
theorem rKind_ok {c : UInt8} {q : Txt} : rKind (c :: q, false) = (c.toNat, (q, false)) := by unfold rKind; rw [rBytes_ok rfl (by simp)]; rfl
set_option maxRecDepth 100000 in
set_option maxHeartbeats 2000000 in
theorem rk_calls (r : Rd) (hr : r.1.length ≤ 100000) (g : Nat) (w : World) (hb : RdB w g r) : Calls Tryd.prog 60 #[.pointer (some ⟨g, 0, none⟩)] w fun e w' => e = .returned (.int .i64 (rKind r).1) ∧ RdB w' g (rKind r).2 ∧ Far [some g] w w' := by
  have hcall := rb_calls 1 r hr (by omega) g w hb
  by_cases hbad : r.2 = true ∨ r.1.length < 1
  · rw [rKind_bad hbad]
    rw [rBytes_bad hbad] at hcall
    have hcall : Calls Tryd.prog 59 #[.pointer (some ⟨g, 0, none⟩), .int .i64 1] w fun e w' => e = .returned (.string (B [])) ∧ RdB w' g (r.1, true) ∧ Far [some g] w w' := hcall
    have hcall := Lib.hid hcall
    clear hb hbad
    go_enter Tryd.func60, Tryd.ntmps60
    go_wp2_with (first
      | ((with_reducible refine hcall.out.mono ?_); rintro e w1 ⟨rfl, hb1, hf1⟩
         have c1 : w1.cell? ⟨g, 1, none⟩ = some (.bool true) := hb1.c1))
    go_ret
    exact ⟨rfl, hb1, hf1⟩
  · obtain ⟨s, b⟩ := r
    cases b with
    | true => exact absurd (.inl rfl) hbad
    | false =>
      match s, hbad with
      | [], hbad => exact absurd (.inr (by simp)) hbad
      | c :: q, _ =>
        rw [rKind_ok]
        rw [rBytes_ok rfl (by simp)] at hcall
        have hcall : Calls Tryd.prog 59 #[.pointer (some ⟨g, 0, none⟩), .int .i64 1] w fun e w' => e = .returned (.string (B [c])) ∧ RdB w' g (q, false) ∧ Far [some g] w w' := hcall
        have hcall := Lib.hid hcall
        have hc0 : 0 ≤ (c.toNat : Int) := by omega
        have hc1 : (c.toNat : Int) < 256 := by have := c.toNat_lt; omega
        clear hb
        go_enter Tryd.func60, Tryd.ntmps60
        go_wp2_with (first
          | ((with_reducible refine hcall.out.mono ?_); rintro e w1 ⟨rfl, hb1, hf1⟩
             have c1 : w1.cell? ⟨g, 1, none⟩ = some (.bool false) := hb1.c1))
        go_ret
        exact ⟨rfl, hb1, hf1⟩
end Go.Proofs.YtnehabcopjgklaaDoor
/- The plain law of packing (layer 5): numbers are read as they were written; a text of steps is unpacked to what its steps say. No condition; no program. -/
namespace Go.Proofs.YtnehabcopjgklaaDoor
open Go.RowKit

theorem ofNat_toNat (n : Nat) (h : n < 256) : (UInt8.ofNat n).toNat = n := by simp [Nat.mod_eq_of_lt h]
theorem lead_split : ∀ (i : List UInt8) (c : UInt8) (r : List UInt8), (∀ x ∈ i, 128 ≤ x.toNat) → c.toNat < 128 → lead (i ++ c :: r) = i.length
  | [], c, r, _, hc => by rw [List.nil_append, lead, if_neg (by omega)]; rfl
  | x :: i, c, r, hi, hc => by
    rw [List.cons_append, lead, if_pos (hi x (by simp)), lead_split i c r (fun y hy => hi y (by simp [hy])) hc]
    rfl
theorem putF_split (f : Nat) : ∀ n, Fits f n → ∃ (i : List UInt8) (c : UInt8), putF f n = i ++ [c] ∧ (∀ x ∈ i, 128 ≤ x.toNat) ∧ c.toNat < 128 ∧ i.length ≤ f ∧ val7 (putF f n) = n ∧ (i ≠ [] → c.toNat ≠ 0) ∧ (i.length = f → c.toNat < 2) := by
  induction f with
  | zero =>
    intro n h
    have h0 : n < 2 := by unfold Fits at h; omega
    refine ⟨[], UInt8.ofNat n, rfl, by simp, ?_, by simp, ?_, by simp, ?_⟩
    · simp; omega
    · simp [putF, val7]; omega
    · intro _; simp; omega
  | succ f ih =>
    intro n h
    by_cases hn : n < 128
    · rw [putF_small _ _ hn]
      refine ⟨[], UInt8.ofNat n, rfl, by simp, ?_, by simp, ?_, by simp, by simp⟩
      · simp; omega
      · simp [val7]; omega
    · obtain ⟨i, c, h1, h2, h3, h4, h5, h6, h7⟩ := ih (n / 128) h.next
      rw [putF_big f n (by omega)]
      refine ⟨UInt8.ofNat (128 + n % 128) :: i, c, by rw [h1]; rfl, ?_, h3, by simpa using h4, ?_, ?_, ?_⟩
      · intro x hx
        rcases List.mem_cons.1 hx with rfl | hx
        · rw [ofNat_toNat _ (by omega)]; omega
        · exact h2 x hx
      · rw [val7, h5, ofNat_toNat _ (by omega)]; omega
      · intro _
        by_cases hi : i = []
        · subst hi
          intro hc
          rw [h1] at h5
          simp [val7] at h5
          omega
        · exact h6 hi
      · intro hl
        exact h7 (by simpa using hl)
/-- A number is read as it was written, whatever stands behind it. -/
theorem get_put (n : Nat) (h : n ≤ 18446744073709551615) (r : List UInt8) : get (put n ++ r) = some (n, (put n).length) := by
  obtain ⟨i, c, h1, h2, h3, h4, h5, h6, h7⟩ := putF_split 9 n (Fits.of64 h)
  have hp : put n = i ++ [c] := h1
  have hl : lead (put n ++ r) = i.length := by rw [hp, List.append_assoc]; exact lead_split i c r h2 h3
  have hlen : (put n).length = i.length + 1 := by rw [hp]; simp
  have hat : (put n ++ r)[i.length]'(by rw [List.length_append]; omega) = c := by simp [hp]
  have ht : (put n ++ r).take (i.length + 1) = put n := by rw [← hlen, List.take_left]
  rw [get_yes (e := i.length) (by rw [List.length_append]; omega) hl (by omega) (fun h9 => by rw [hat]; have := h7 h9; omega) (fun h0 => by rw [hat]; exact h6 (by intro hi; rw [hi] at h0; simp at h0)), ht, hlen]
  exact congrArg (fun v => some (v, i.length + 1)) h5
theorem put_small (n : Nat) (h : n < 128) : (put n).length = 1 := by unfold put; rw [putF_small _ _ h]; rfl
theorem put_two (n : Nat) (h : n < 16384) : (put n).length ≤ 2 := by
  unfold put
  by_cases h1 : n < 128
  · rw [putF_small _ _ h1]; simp
  · rw [putF_big 8 n (by omega), putF_small _ _ (by omega)]; simp

/-- How a text of steps is unpacked behind some bytes. -/
def un (s out : List UInt8) (most : Nat) : List UInt8 × Nat := unF s.length s out most
theorem unF_fuel : ∀ (fu : Nat) (s out : List UInt8) (most : Nat), s.length ≤ fu → unF fu s out most = un s out most := by
  intro fu
  induction fu using Nat.strongRecOn with
  | _ fu ih =>
    intro s out most hs
    cases s with
    | nil => rw [unF_nil, un, unF_nil]
    | cons c r =>
      obtain ⟨g, rfl⟩ : ∃ g, fu = g + 1 := ⟨fu - 1, by simp at hs; omega⟩
      unfold un
      rw [List.length_cons]
      have hne : c :: r ≠ [] := by simp
      rw [List.length_cons] at hs
      rcases hrd : rd (c :: r) out.length with _ | ⟨n, f, t⟩
      · rw [unF_bad hne hrd, unF_bad hne hrd]
      · obtain ⟨_, q2, _⟩ := rd_bounds hrd
        rw [List.length_cons] at q2
        by_cases hb : most - out.length < n
        · rw [unF_big hne hrd hb, unF_big hne hrd hb]
        · by_cases hf : f = 0
          · subst hf
            have hd : (t.drop n).length ≤ t.length := by rw [List.length_drop]; omega
            rw [unF_plain hne hrd (by omega), unF_plain hne hrd (by omega), ih g (by omega) _ _ _ (by omega)]
            by_cases hg : r.length = g
            · rw [hg, ih g (by omega) _ _ _ (by omega)]
            · rw [ih r.length (by omega) _ _ _ (by omega)]
          · rw [unF_far hne hrd hf (by omega), unF_far hne hrd hf (by omega), ih g (by omega) _ _ _ (by omega)]
            by_cases hg : r.length = g
            · rw [hg, ih g (by omega) _ _ _ (by omega)]
            · rw [ih r.length (by omega) _ _ _ (by omega)]
theorem un_nil (out : List UInt8) (most : Nat) : un [] out most = (out, 0) := unF_nil _ _ _
section
variable {most n f : Nat} {s out r : List UInt8}
theorem un_big (hs : s ≠ []) (h : rd s out.length = some (n, f, r)) (hb : most - out.length < n) : un s out most = ([], 3) := by
  obtain ⟨c, t, rfl⟩ : ∃ c t, s = c :: t := by cases s with
    | nil => exact absurd rfl hs
    | cons c t => exact ⟨c, t, rfl⟩
  exact unF_big hs h hb
theorem un_plain (hs : s ≠ []) (h : rd s out.length = some (n, 0, r)) (hb : n ≤ most - out.length) : un s out most = un (r.drop n) (out ++ r.take n) most := by
  obtain ⟨c, t, rfl⟩ : ∃ c t, s = c :: t := by cases s with
    | nil => exact absurd rfl hs
    | cons c t => exact ⟨c, t, rfl⟩
  obtain ⟨_, q2, _⟩ := rd_bounds h
  rw [List.length_cons] at q2
  unfold un
  rw [List.length_cons, unF_plain hs h hb]
  exact unF_fuel _ _ _ _ (by rw [List.length_drop]; omega)
theorem un_far (hs : s ≠ []) (h : rd s out.length = some (n, f, r)) (hf : f ≠ 0) (hb : n ≤ most - out.length) : un s out most = un r (back n f out) most := by
  obtain ⟨c, t, rfl⟩ : ∃ c t, s = c :: t := by cases s with
    | nil => exact absurd rfl hs
    | cons c t => exact ⟨c, t, rfl⟩
  obtain ⟨_, q2, _⟩ := rd_bounds h
  rw [List.length_cons] at q2
  unfold un
  rw [List.length_cons, unF_far hs h hf hb]
  exact unF_fuel _ _ _ _ (by omega)
end

/-- The text e leads from the bytes o to the bytes t; with fewer bytes let, it is told. -/
def Leads (e o t : List UInt8) : Prop :=
  o.length ≤ t.length ∧ (∀ r most, t.length ≤ most → un (e ++ r) o most = un r t most) ∧ ∀ r most, o.length ≤ most → most < t.length → un (e ++ r) o most = ([], 3)
theorem Leads.refl (o : List UInt8) : Leads [] o o := ⟨Nat.le_refl _, fun r most _ => rfl, fun r most h1 h2 => absurd h2 (by omega)⟩
theorem Leads.trans {e e' o t t' : List UInt8} (h : Leads e o t) (h' : Leads e' t t') : Leads (e ++ e') o t' := by
  refine ⟨Nat.le_trans h.1 h'.1, fun r most hm => ?_, fun r most h1 h2 => ?_⟩
  · rw [List.append_assoc, h.2.1 _ _ (Nat.le_trans h'.1 hm), h'.2.1 _ _ hm]
  · rw [List.append_assoc]
    rcases Nat.lt_or_ge most t.length with hlt | hge
    · exact h.2.2 _ _ h1 hlt
    · rw [h.2.1 _ _ hge, h'.2.2 _ _ hge h2]
theorem put_ne (n : Nat) (r : List UInt8) : put n ++ r ≠ [] := by
  intro h
  have h1 := congrArg List.length h
  have h2 : 0 < (put n).length := putF_pos 9 n
  rw [List.length_append, List.length_nil] at h1
  omega
/-- A step that copies bytes as they stand. -/
theorem Leads.plain (t o : List UInt8) (h0 : t ≠ []) (h1 : 2 * t.length ≤ 18446744073709551615) : Leads (put (2 * t.length) ++ t) o (o ++ t) := by
  have hpos : 0 < t.length := by
    cases t with
    | nil => exact absurd rfl h0
    | cons c r => simp
  have hrd : ∀ r, rd (put (2 * t.length) ++ t ++ r) o.length = some (t.length, 0, t ++ r) := by
    intro r
    have hg := get_put (2 * t.length) h1 (t ++ r)
    rw [← List.append_assoc] at hg
    have hd : (put (2 * t.length) ++ t ++ r).drop (put (2 * t.length)).length = t ++ r := by rw [List.append_assoc, List.drop_left]
    rw [rd_plain hg (by omega) (by omega) (by rw [hd, List.length_append]; omega), hd]
    congr 2
    omega
  have hne : ∀ r, put (2 * t.length) ++ t ++ r ≠ [] := fun r => by rw [List.append_assoc]; exact put_ne _ _
  refine ⟨by rw [List.length_append]; omega, fun r most hm => ?_, fun r most hm h2 => ?_⟩
  · rw [List.length_append] at hm
    rw [un_plain (hne r) (hrd r) (by omega), List.drop_left, List.take_left]
  · rw [List.length_append] at h2
    exact un_big (hne r) (hrd r) (by omega)
/-- A step that copies from back. -/
theorem Leads.far (n f : Nat) (o : List UInt8) (h0 : 4 ≤ n) (h1 : 2 * n + 1 ≤ 18446744073709551615) (h2 : 1 ≤ f) (h3 : f ≤ 65535) (h4 : f ≤ o.length) : Leads (put (2 * n + 1) ++ put f) o (back n f o) := by
  have hrd : ∀ r, rd (put (2 * n + 1) ++ put f ++ r) o.length = some (n, f, r) := by
    intro r
    have hg := get_put (2 * n + 1) h1 (put f ++ r)
    rw [← List.append_assoc] at hg
    have hd : (put (2 * n + 1) ++ put f ++ r).drop (put (2 * n + 1)).length = put f ++ r := by rw [List.append_assoc, List.drop_left]
    have hg2 := get_put f (by omega) r
    rw [rd_far hg (by omega) (by rw [hd]; exact hg2) (by omega) h2 h3 h4, hd, List.drop_left]
    congr 2
    omega
  have hne : ∀ r, put (2 * n + 1) ++ put f ++ r ≠ [] := fun r => by rw [List.append_assoc]; exact put_ne _ _
  have hlen := back_length n f o
  refine ⟨by omega, fun r most hm => ?_, fun r most hm h5 => ?_⟩
  · rw [un_far (hne r) (hrd r) (by omega) (by omega)]
  · exact un_big (hne r) (hrd r) (by omega)
/-- Bytes that are alike at two places are copied from the first. -/
theorem back_alike (s : List UInt8) (a i : Nat) (ha : a < i) : ∀ n, i + n ≤ s.length → (∀ j (h : i + j < s.length), j < n → s[a + j]'(by omega) = s[i + j]) → back n (i - a) (s.take i) = s.take (i + n) := by
  have key : ∀ n k, i + k + n ≤ s.length → (∀ j (h : i + j < s.length), j < k + n → s[a + j]'(by omega) = s[i + j]) → back n (i - a) (s.take (i + k)) = s.take (i + k + n) := by
    intro n
    induction n with
    | zero => intro k _ _; rfl
    | succ n ih =>
      intro k hk hj
      have hl : (s.take (i + k)).length = i + k := by rw [List.length_take]; omega
      have hx : (s.take (i + k)).getD ((s.take (i + k)).length - (i - a)) 0 = s[i + k] := by
        rw [hl, show i + k - (i - a) = a + k from by omega, getD_lt (by omega), List.getElem_take]
        exact hj k (by omega) (by omega)
      rw [back, hx, ← List.take_succ_eq_append_getElem (by omega)]
      have := ih (k + 1) (by omega) (fun j h hjn => hj j h (by omega))
      rw [show i + k + (n + 1) = i + (k + 1) + n from by omega]
      exact this
  intro n hn hj
  have := key n 0 (by omega) (fun j h hjn => hj j h (by omega))
  simpa using this
end Go.Proofs.YtnehabcopjgklaaDoor
/- Layer 4: a reader reads what was written, and only that: the plain law. No condition; no program. -/
namespace Go.Proofs.YtnehabcopjgklaaDoor
open Go.RowKit
theorem val7_pos : ∀ (i : List UInt8) (c : UInt8), c ≠ 0 → c.toNat < 128 → 1 ≤ val7 (i ++ [c])
  | [], c, h, h1 => by
    have : c.toNat ≠ 0 := fun e => h (UInt8.toNat_inj.1 e)
    show 1 ≤ c.toNat % 128 + 128 * val7 []
    have e : val7 [] = 0 := rfl
    omega
  | x :: i, c, h, h1 => by
    have := val7_pos i c h h1
    show 1 ≤ x.toNat % 128 + 128 * val7 (i ++ [c])
    omega
theorem putF_of : ∀ (i : List UInt8) (f : Nat) (c : UInt8), (∀ x ∈ i, 128 ≤ x.toNat) → c.toNat < 128 → (i ≠ [] → c ≠ 0) → i.length ≤ f → putF f (val7 (i ++ [c])) = i ++ [c]
  | [], f, c, _, h2, _, _ => by
    have e : val7 ([] ++ [c]) = c.toNat := by
      show c.toNat % 128 + 128 * val7 [] = _
      have e : val7 [] = 0 := rfl
      omega
    rw [e, putF_small _ _ h2]
    simp
  | x :: i, 0, c, _, _, _, h4 => by simp at h4
  | x :: i, f + 1, c, h1, h2, h3, h4 => by
    have hx := h1 x (by simp)
    have hx2 : x.toNat < 256 := x.toNat_lt
    have hp := val7_pos i c (h3 (by simp)) h2
    have e : val7 (x :: i ++ [c]) = x.toNat % 128 + 128 * val7 (i ++ [c]) := rfl
    have ih := putF_of i f c (fun y hy => h1 y (by simp [hy])) h2 (fun _ => h3 (by simp)) (by simp at h4; omega)
    rw [e, putF_big _ _ (by omega), show (x.toNat % 128 + 128 * val7 (i ++ [c])) / 128 = val7 (i ++ [c]) from by omega, ih, show 128 + (x.toNat % 128 + 128 * val7 (i ++ [c])) % 128 = x.toNat from by omega]
    simp
/-- A number's bytes are those that it is written with. -/
theorem put_get {l : List UInt8} {n k : Nat} (h : get l = some (n, k)) : l.take k = put n ∧ l = put n ++ l.drop k := by
  have key : l.take k = put n := by
    unfold get at h
    split at h
    · rename_i hc
      simp only [Option.some.injEq, Prod.mk.injEq] at h
      obtain ⟨rfl, rfl⟩ := h
      obtain ⟨h1, h2, h3, h4⟩ := hc
      have e : l.take (lead l + 1) = l.take (lead l) ++ [l[lead l]] := by
        rw [List.take_add_one, List.getElem?_eq_getElem h1]; rfl
      rw [e]
      unfold put
      refine (putF_of _ 9 _ ?_ (lead_small l h1) ?_ (by rw [List.length_take]; omega)).symm
      · intro x hx
        obtain ⟨i, hi, rfl⟩ := List.getElem_of_mem hx
        rw [List.length_take] at hi
        rw [List.getElem_take]
        exact lead_big l i (by omega) (by omega)
      · intro hne h0
        apply h4
        refine ⟨?_, ?_⟩
        · rcases Nat.eq_zero_or_pos (lead l) with h | h
          · rw [h] at hne; simp at hne
          · exact h
        · rw [getD_lt h1]; exact h0
    · cases h
  exact ⟨key, by rw [← key]; exact (List.take_append_drop k l).symm⟩
theorem takeP_text (t r : Txt) (ht : t.length ≤ 18446744073709551615) : takeP (textE t ++ r) = some (t, r) := by
  unfold takeP textE
  rw [List.append_assoc, get_put _ ht]
  simp
theorem takeP_back {s t r : Txt} (h : takeP s = some (t, r)) : s = textE t ++ r := by
  unfold takeP at h
  cases hg : get s with
  | none => rw [hg] at h; cases h
  | some p =>
    obtain ⟨n, k⟩ := p
    rw [hg] at h
    simp only at h
    split at h
    · rename_i hn
      injection h with h
      injection h with h1 h2
      have h3 := (put_get hg).2
      subst h1; subst h2
      unfold textE
      rw [List.length_take, Nat.min_eq_left hn, List.append_assoc, List.take_append_drop]
      exact h3
    · cases h
section
variable {r : Rd}
theorem rBytes_stuck (n : Nat) (h : r.2 = true) : (rBytes n r).2.2 = true := by unfold rBytes; rw [if_pos (.inl h)]
theorem rNum_stuck (h : r.2 = true) : (rNum r).2.2 = true := by unfold rNum; rw [if_pos h]
theorem rText_stuck (h : r.2 = true) : (rText r).2.2 = true := by unfold rText; rw [if_pos h]
theorem rId_stuck (h : r.2 = true) : (rId r).2.2 = true := rBytes_stuck 32 h
theorem rKind_stuck (h : r.2 = true) : (rKind r).2.2 = true := rBytes_stuck 1 h
theorem rEnt_stuck (h : r.2 = true) : (rEnt r).2.2 = true := rId_stuck (rText_stuck (rKind_stuck h))
theorem rTree_stuck : ∀ (f : Nat) (acc : List EntL), r.2 = true → rTree f r acc = (acc, r)
  | 0, acc, _ => rfl
  | f + 1, acc, h => by unfold rTree; rw [if_pos (.inl h)]
theorem rPars_stuck : ∀ (f : Nat) (acc : List Txt), r.2 = true → rPars f r acc = (acc, r)
  | 0, acc, _ => rfl
  | f + 1, acc, h => by unfold rPars; rw [if_pos h]
theorem badIf_stuck (b : Bool) (h : r.2 = true) : (badIf b r).2 = true := by unfold badIf; split; rfl; exact h
end
theorem not_stuck {a b : Bool} (h : b = true → a = true) (ha : a = false) : b = false := by cases b <;> simp_all
/-! forth -/
theorem rBytes_app (a b : Txt) (n : Nat) (hn : a.length = n) : rBytes n (a ++ b, false) = (a, (b, false)) := by
  unfold rBytes
  rw [if_neg (by simp; omega)]
  subst hn
  simp
theorem rNum_app (n : Nat) (hn : n ≤ 18446744073709551615) (b : Txt) : rNum (put n ++ b, false) = (n, (b, false)) := by
  unfold rNum
  rw [if_neg (by simp)]
  simp only [get_put n hn b]
  simp
theorem rText_app (t b : Txt) (ht : t.length ≤ 18446744073709551615) : rText (textE t ++ b, false) = (t, (b, false)) := by
  unfold rText
  rw [if_neg (by simp)]
  simp only [takeP_text t b ht]
theorem rId_app (i b : Txt) (hi : i.length = 32) : rId (i ++ b, false) = (i, (b, false)) := by
  unfold rId
  rw [rBytes_app i b 32 hi]
  have : i ≠ [] := by intro e; rw [e] at hi; simp at hi
  simp [idOr, this]
theorem rKind_app (c : UInt8) (b : Txt) : rKind (c :: b, false) = (c.toNat, (b, false)) := by
  unfold rKind
  rw [show (c :: b : Txt) = [c] ++ b from rfl, rBytes_app [c] b 1 rfl]
  rfl
theorem byteK_nat {k : Int} (h1 : 0 ≤ k) (h2 : k < 256) : ((byteK k).toNat : Int) = k := by
  unfold byteK
  rw [ofNat_toNat_u8 _ (by omega)]
  omega
theorem byteK_back (c : UInt8) : byteK (c.toNat : Int) = c := by
  unfold byteK
  have := c.toNat_lt
  rw [show ((c.toNat : Int) % 256).toNat = c.toNat from by omega]
  simp
theorem rEnt_app (e : EntL) (b : Txt) (hk : e.kind = 1 ∨ e.kind = 2) (hi : e.id.length = 32) (hn : e.name.length ≤ 18446744073709551615) : rEnt (entE e ++ b, false) = (e, (b, false)) := by
  unfold rEnt entE
  rw [List.cons_append, List.append_assoc, rKind_app]
  simp only [rText_app e.name (e.id ++ b) hn, rId_app e.id b hi]
  have := byteK_nat (k := e.kind) (by omega) (by omega)
  rw [this]
theorem rTree_app : ∀ (l : List EntL) (f : Nat) (acc : List EntL), (∀ e ∈ l, (e.kind = 1 ∨ e.kind = 2) ∧ e.id.length = 32 ∧ e.name.length ≤ 18446744073709551615) → l.length ≤ f → rTree f (entsE l, false) acc = (acc ++ l, ([], false))
  | [], 0, acc, _, _ => by simp [rTree, entsE]
  | [], f + 1, acc, _, _ => by simp [rTree, entsE]
  | e :: l, 0, acc, _, hf => by simp at hf
  | e :: l, f + 1, acc, h, hf => by
    have h1 := h e (by simp)
    have he : entsE (e :: l) = entE e ++ entsE l := by simp [entsE]
    have hne : entE e ++ entsE l ≠ [] := by unfold entE; simp
    rw [rTree, he, if_neg (by simp [hne]), rEnt_app e _ h1.1 h1.2.1 h1.2.2]
    simp only
    rw [rTree_app l f _ (fun x hx => h x (by simp [hx])) (by simp at hf; omega)]
    simp
theorem rPars_app (b : Txt) : ∀ (l : List Txt) (acc : List Txt), (∀ p ∈ l, p.length = 32) → rPars l.length (l.flatten ++ b, false) acc = (acc ++ l, (b, false))
  | [], acc, _ => by simp [rPars]
  | p :: l, acc, h => by
    rw [List.length_cons, rPars, if_neg (by simp), List.flatten_cons, List.append_assoc, rId_app p _ (h p (by simp))]
    simp only
    rw [rPars_app b l _ (fun x hx => h x (by simp [hx]))]
    simp
end Go.Proofs.YtnehabcopjgklaaDoor
/- Layer 4: what was encoded is decoded as it was, and what is decoded has that encoding: the plain law. No condition; no program. -/
namespace Go.Proofs.YtnehabcopjgklaaDoor
open Go.RowKit
theorem commit_all {o : ObjL} (h : commitN o = true) : o.tree = noId ∧ o.pars = [] ∧ o.time = 0 ∧ o.text = [] := by
  unfold commitN at h; simp at h; exact ⟨h.1.1.1, h.1.1.2, h.1.2, h.2⟩
theorem tag_all {o : ObjL} (h : tagN o = true) : o.target = noId ∧ o.of_ = 0 ∧ o.name = [] := by
  unfold tagN at h; simp at h; exact ⟨h.1.1, h.1.2, h.2⟩
theorem entE_pos (e : EntL) : 1 ≤ (entE e).length := by unfold entE; simp
theorem entsE_count (l : List EntL) : l.length ≤ (entsE l).length := by
  induction l with
  | nil => simp
  | cons e l ih =>
    have : entsE (e :: l) = entE e ++ entsE l := by simp [entsE]
    have h := entE_pos e
    rw [this, List.length_append, List.length_cons]
    omega
theorem read_enc (o : ObjL) (hm : mayB o = true) (htr : o.tree.length = 32) (hta : o.target.length = 32) (he : ∀ e ∈ o.ents, e.id.length = 32) (hp : ∀ p ∈ o.pars, p.length = 32) (htm : o.time < 4294967296) (hl : (bodyO o).length ≤ 4096) :
    readO (byteK o.kind).toNat (bodyO o, false) = (o, ([], false)) := by
  have ha := may_alone hm
  unfold aloneB at ha
  rcases may_kind hm with hk | hk | hk | hk
  · rw [hk] at ha
    simp at ha
    obtain ⟨c1, c2, c3, c4⟩ := commit_all ha.1.2
    obtain ⟨t1, t2, t3⟩ := tag_all ha.2
    have e1 := tree_nil ha.1.1
    have hb : bodyO o = o.data := by unfold bodyO; rw [if_pos hk]
    rw [hb, hk]
    show readO 1 _ = _
    unfold readO rBlob
    rw [if_neg (by omega), if_neg (by omega), if_neg (by omega)]
    have := rBytes_app o.data [] o.data.length rfl
    rw [List.append_nil] at this
    simp only [this]
    obtain ⟨kind, data, ents, tree, pars, time, text, target, of_, name⟩ := o
    simp only at *
    subst hk c1 c2 c3 c4 t1 t2 t3 e1
    rfl
  · have hf : entsB o.ents = true := by
      unfold mayB at hm
      rw [if_pos hk] at hm
      simp at hm
      exact hm.2
    rw [hk] at ha
    simp at ha
    obtain ⟨c1, c2, c3, c4⟩ := commit_all ha.1.2
    obtain ⟨t1, t2, t3⟩ := tag_all ha.2
    have e1 := blob_nil ha.1.1
    have hb : bodyO o = entsE o.ents := by unfold bodyO; rw [if_neg (by omega), if_pos hk]
    rw [hb, hk]
    show readO 2 _ = _
    unfold readO rTr
    rw [if_pos rfl]
    have hfine := (ents_fine hf).2
    have := rTree_app o.ents (entsE o.ents).length [] (fun e hx => ⟨(hfine e hx).2, he e hx, by have := name_len (hfine e hx).1; omega⟩) (entsE_count _)
    simp only [this, List.nil_append]
    obtain ⟨kind, data, ents, tree, pars, time, text, target, of_, name⟩ := o
    simp only at *
    subst hk c1 c2 c3 c4 t1 t2 t3 e1
    rfl
  · have hp8 : o.pars.length ≤ 8 := by
      unfold mayB at hm
      rw [if_neg (by omega), if_pos hk] at hm
      simp at hm
      exact hm.2
    rw [hk] at ha
    simp at ha
    obtain ⟨t1, t2, t3⟩ := tag_all ha.2
    have e1 := blob_nil ha.1.1
    have e2 := tree_nil ha.1.2
    have hb : bodyO o = commitE o := by unfold bodyO; rw [if_neg (by omega), if_neg (by omega), if_pos hk]
    rw [hb] at hl ⊢
    rw [hk]
    show readO 3 _ = _
    unfold readO
    rw [if_neg (by omega), if_pos rfl]
    have htx : o.text.length ≤ 18446744073709551615 := by
      unfold commitE textE at hl
      simp only [List.length_append] at hl
      omega
    have hc : commitE o = o.tree ++ (put o.pars.length ++ (o.pars.flatten ++ (put o.time ++ (textE o.text ++ [])))) := by unfold commitE; simp
    rw [hc]
    unfold rCommit
    have b1 : badIf (decide (8 < o.pars.length)) (o.pars.flatten ++ (put o.time ++ (textE o.text ++ [])), false) = (o.pars.flatten ++ (put o.time ++ (textE o.text ++ [])), false) := by
      unfold badIf; rw [decide_eq_false (by omega)]; rfl
    have b2 : badIf (decide (4294967295 < o.time)) (textE o.text ++ [], false) = (textE o.text ++ [], false) := by
      unfold badIf; rw [decide_eq_false (by omega)]; rfl
    simp only [rId_app o.tree _ htr, rNum_app o.pars.length (by omega), b1, rPars_app _ o.pars [] hp, rNum_app o.time (by omega), b2, rText_app o.text [] htx, List.nil_append]
    rw [Nat.mod_eq_of_lt htm]
    obtain ⟨kind, data, ents, tree, pars, time, text, target, of_, name⟩ := o
    simp only at *
    subst hk t1 t2 t3 e1 e2
    rfl
  · have hfn : kindB o.of_ = true ∧ nameB o.name = true := by
      unfold mayB at hm
      rw [if_neg (by omega), if_neg (by omega), if_pos hk] at hm
      simp at hm
      exact ⟨hm.1.2, hm.2⟩
    rw [hk] at ha
    simp at ha
    obtain ⟨c1, c2, c3, c4⟩ := commit_all ha.2
    have e1 := blob_nil ha.1.1
    have e2 := tree_nil ha.1.2
    have hb : bodyO o = tagE o := by unfold bodyO; rw [if_neg (by omega), if_neg (by omega), if_neg (by omega), if_pos hk]
    rw [hb, hk]
    show readO 4 _ = _
    unfold readO
    rw [if_neg (by omega), if_neg (by omega), if_pos rfl]
    have hnl := name_len hfn.2
    have hof : 1 ≤ o.of_ ∧ o.of_ ≤ 4 := by
      have := hfn.1
      unfold kindB at this
      simp at this
      exact this
    have hc : tagE o = byteK o.of_ :: (o.target ++ (textE o.name ++ [])) := by unfold tagE; simp
    rw [hc]
    unfold rTag
    have hbk := byteK_nat (k := o.of_) (by omega) (by omega)
    simp only [rKind_app, rId_app o.target _ hta, rText_app o.name [] (by omega), hbk]
    obtain ⟨kind, data, ents, tree, pars, time, text, target, of_, name⟩ := o
    simp only at *
    subst hk c1 c2 c3 c4 e1 e2
    rfl
theorem dec_enc {o : ObjL} {t : Txt} (h : encO o = some t) (htr : o.tree.length = 32) (hta : o.target.length = 32) (he : ∀ e ∈ o.ents, e.id.length = 32) (hp : ∀ p ∈ o.pars, p.length = 32) (htm : o.time < 4294967296) : decO t = some o ∧ t.length ≤ 4096 := by
  unfold encO at h
  split at h
  · rename_i hc
    obtain ⟨hm, hl⟩ := hc
    injection h with h
    subst h
    refine ⟨?_, hl⟩
    have hbl : (bodyO o).length ≤ 4096 := by unfold wholeO textE at hl; simp at hl; omega
    unfold wholeO at hl ⊢
    unfold decO
    have ht := takeP_text (bodyO o) [] (by omega)
    rw [List.append_nil] at ht
    have hr := read_enc o hm htr hta he hp htm hbl
    simp only [ht]
    rw [if_neg (by omega)]
    simp only [hr, hm]
    simp
  · cases h
end Go.Proofs.YtnehabcopjgklaaDoor
/- Layer 4: what is decoded has that encoding: the plain law. No condition; no program. -/
namespace Go.Proofs.YtnehabcopjgklaaDoor
open Go.RowKit
section
variable {r : Rd}
theorem rBytes_back {n : Nat} (h : (rBytes n r).2.2 = false) : r.2 = false ∧ r.1 = (rBytes n r).1 ++ (rBytes n r).2.1 ∧ (rBytes n r).1.length = n := by
  unfold rBytes at *
  split at h
  · cases h
  · rename_i hc
    rw [if_neg hc]
    have h1 : ¬ r.2 = true := fun h => hc (.inl h)
    have h2 : ¬ r.1.length < n := fun h => hc (.inr h)
    refine ⟨by simpa using h1, (List.take_append_drop n r.1).symm, ?_⟩
    show (r.1.take n).length = n
    rw [List.length_take]; omega
theorem rNum_back (h : (rNum r).2.2 = false) : r.2 = false ∧ r.1 = put (rNum r).1 ++ (rNum r).2.1 := by
  unfold rNum at *
  split at h
  · cases h
  · rename_i hc
    rw [if_neg hc]
    cases hg : get r.1 with
    | none => rw [hg] at h; cases h
    | some p => exact ⟨by simpa using hc, (put_get hg).2⟩
theorem rText_back (h : (rText r).2.2 = false) : r.2 = false ∧ r.1 = textE (rText r).1 ++ (rText r).2.1 := by
  unfold rText at *
  split at h
  · cases h
  · rename_i hc
    rw [if_neg hc]
    cases hg : takeP r.1 with
    | none => rw [hg] at h; cases h
    | some p => exact ⟨by simpa using hc, takeP_back hg⟩
theorem rId_back (h : (rId r).2.2 = false) : r.2 = false ∧ r.1 = (rId r).1 ++ (rId r).2.1 ∧ (rId r).1.length = 32 := by
  have h1 : (rBytes 32 r).2.2 = false := h
  obtain ⟨a, b, c⟩ := rBytes_back h1
  have e : (rId r).1 = (rBytes 32 r).1 := by
    unfold rId idOr
    rw [if_neg]
    intro e
    rw [e] at c
    simp at c
  exact ⟨a, by rw [e]; exact b, by rw [e]; exact c⟩
theorem rKind_back (h : (rKind r).2.2 = false) : r.2 = false ∧ r.1 = byteK ((rKind r).1 : Int) :: (rKind r).2.1 ∧ (rKind r).1 < 256 := by
  have h1 : (rBytes 1 r).2.2 = false := h
  obtain ⟨a, b, c⟩ := rBytes_back h1
  have e : (rKind r).1 = ((rBytes 1 r).1.headD 0).toNat := by
    unfold rKind
    rw [if_neg (by rw [h1]; simp)]
  have e2 : (rKind r).2.1 = (rBytes 1 r).2.1 := rfl
  rw [e, e2]
  generalize hb : (rBytes 1 r).1 = l at *
  match l, c with
  | [x], _ =>
    refine ⟨a, ?_, x.toNat_lt⟩
    show _ = byteK ((x.toNat : Nat) : Int) :: _
    rw [byteK_back]
    exact b
theorem rEnt_back (h : (rEnt r).2.2 = false) : r.2 = false ∧ r.1 = entE (rEnt r).1 ++ (rEnt r).2.1 ∧ (rEnt r).1.id.length = 32 := by
  have h1 : (rId (rText (rKind r).2).2).2.2 = false := h
  obtain ⟨a1, b1, c1⟩ := rId_back h1
  obtain ⟨a2, b2⟩ := rText_back a1
  obtain ⟨a3, b3, c3⟩ := rKind_back a2
  refine ⟨a3, ?_, c1⟩
  have e : (rEnt r).2.1 = (rId (rText (rKind r).2).2).2.1 := rfl
  rw [e]
  show _ = byteK ((rKind r).1 : Int) :: (textE (rText (rKind r).2).1 ++ (rId (rText (rKind r).2).2).1) ++ _
  rw [List.cons_append, List.append_assoc, ← b1, ← b2, ← b3]
theorem badIf_back {b : Bool} (h : (badIf b r).2 = false) : b = false ∧ r.2 = false ∧ badIf b r = r := by
  cases b with
  | true => cases h
  | false => exact ⟨rfl, h, rfl⟩
end
theorem rTree_back : ∀ (f : Nat) (r : Rd) (acc : List EntL), (rTree f r acc).2.2 = false → (rTree f r acc).2.1 = [] → r.2 = false ∧ ∃ l, (rTree f r acc).1 = acc ++ l ∧ r.1 = entsE l ∧ ∀ e ∈ l, e.id.length = 32
  | 0, r, acc, h1, h2 => ⟨h1, [], by simp [rTree], h2, fun e he => by cases he⟩
  | f + 1, r, acc, h1, h2 => by
    by_cases hc : r.2 = true ∨ r.1 = []
    · have e : rTree (f + 1) r acc = (acc, r) := by rw [rTree, if_pos hc]
      rw [e] at h1 h2 ⊢
      exact ⟨h1, [], by simp, h2, fun e he => by cases he⟩
    · have e : rTree (f + 1) r acc = rTree f (rEnt r).2 (acc ++ [(rEnt r).1]) := by rw [rTree, if_neg hc]
      rw [e] at h1 h2 ⊢
      obtain ⟨a, l, b1, b2, b3⟩ := rTree_back f _ _ h1 h2
      obtain ⟨c1, c2, c3⟩ := rEnt_back a
      refine ⟨c1, (rEnt r).1 :: l, by rw [b1]; simp, ?_, ?_⟩
      · rw [c2, b2]; simp [entsE]
      · intro x hx
        rcases List.mem_cons.1 hx with rfl | hx
        · exact c3
        · exact b3 x hx
theorem rPars_back : ∀ (n : Nat) (r : Rd) (acc : List Txt), (rPars n r acc).2.2 = false → r.2 = false ∧ ∃ l, (rPars n r acc).1 = acc ++ l ∧ r.1 = l.flatten ++ (rPars n r acc).2.1 ∧ l.length = n ∧ ∀ e ∈ l, e.length = 32
  | 0, r, acc, h1 => ⟨h1, [], by simp [rPars], rfl, rfl, fun e he => by cases he⟩
  | n + 1, r, acc, h1 => by
    by_cases hc : r.2 = true
    · have e : rPars (n + 1) r acc = (acc, r) := by rw [rPars, if_pos hc]
      rw [e] at h1
      rw [h1] at hc
      cases hc
    · have e : rPars (n + 1) r acc = rPars n (rId r).2 (acc ++ [(rId r).1]) := by rw [rPars, if_neg hc]
      rw [e] at h1 ⊢
      obtain ⟨a, l, b1, b2, b3, b4⟩ := rPars_back n _ _ h1
      obtain ⟨c1, c2, c3⟩ := rId_back a
      refine ⟨c1, (rId r).1 :: l, by rw [b1]; simp, ?_, by simp [b3], ?_⟩
      · rw [c2, b2]; simp
      · intro x hx
        rcases List.mem_cons.1 hx with rfl | hx
        · exact c3
        · exact b4 x hx
theorem commit_back {r : Rd} {i : Txt × Rd} {n : Nat × Rd} {p : List Txt × Rd} {t : Nat × Rd} {x : Txt × Rd} (hi : i = rId r) (hn : n = rNum i.2) (hp : p = rPars n.1 (badIf (decide (8 < n.1)) n.2) []) (ht : t = rNum p.2) (hx : x = rText (badIf (decide (4294967295 < t.1)) t.2))
    (h1 : x.2.2 = false) (h2 : x.2.1 = []) : r.1 = i.1 ++ put p.1.length ++ p.1.flatten ++ put t.1 ++ textE x.1 ∧ t.1 ≤ 4294967295 := by
  obtain ⟨t1, t2⟩ := rText_back (r := badIf (decide (4294967295 < t.1)) t.2) (by rw [← hx]; exact h1)
  obtain ⟨t3, t4, t5⟩ := badIf_back t1
  have t3 := of_decide_eq_false t3
  rw [← hx, t5, h2, List.append_nil] at t2
  obtain ⟨n1, n2⟩ := rNum_back (r := p.2) (by rw [← ht]; exact t4)
  rw [← ht, t2] at n2
  obtain ⟨p1, l, p2, p3, p4, _⟩ := rPars_back n.1 (badIf (decide (8 < n.1)) n.2) [] (by rw [← hp]; exact n1)
  obtain ⟨q1, q2, q3⟩ := badIf_back p1
  rw [← hp, q3, n2] at p3
  rw [← hp] at p2
  obtain ⟨m1, m2⟩ := rNum_back (r := i.2) (by rw [← hn]; exact q2)
  rw [← hn, p3] at m2
  obtain ⟨i1, i2, i3⟩ := rId_back (r := r) (by rw [← hi]; exact m1)
  rw [← hi, m2] at i2
  refine ⟨?_, by omega⟩
  rw [i2, p2, List.nil_append, p4]
  simp only [List.append_assoc]
theorem readO_kind (k : Nat) (r : Rd) : (readO k r).1.kind = k := by
  unfold readO
  split
  · rfl
  · split
    · rfl
    · split <;> rfl
theorem readO_back (k : Nat) (r : Rd) (h1 : (readO k r).2.2 = false) (h2 : (readO k r).2.1 = []) (hm : mayB (readO k r).1 = true) : r.1 = bodyO (readO k r).1 := by
  have hk := readO_kind k r
  unfold readO at *
  split at h1
  · rename_i h
    subst h
    simp only [if_true] at *
    obtain ⟨_, l, b1, b2, _⟩ := rTree_back _ _ _ h1 h2
    rw [b2]
    have e : (rTr 2 r).1.ents = l := by show (rTree r.1.length r []).1 = l; rw [b1]; rfl
    unfold bodyO
    rw [if_neg (by omega), if_pos (by omega), e]
  · rename_i hn2
    rw [if_neg hn2] at *
    split at h1
    · rename_i h
      subst h
      simp only [if_true] at *
      have hcb := commit_back (r := r) rfl rfl rfl rfl rfl h1 h2
      have e3 : (rCommit 3 r).1.time = (rNum (rPars (rNum (rId r).2).1 (badIf (decide (8 < (rNum (rId r).2).1)) (rNum (rId r).2).2) []).2).1 := Nat.mod_eq_of_lt (by have := hcb.2; omega)
      unfold bodyO
      rw [if_neg (by omega), if_neg (by omega), if_pos (by omega)]
      unfold commitE
      rw [e3]
      exact hcb.1
    · rename_i hn3
      rw [if_neg hn3] at *
      split at h1
      · rename_i h
        subst h
        simp only [if_true] at *
        obtain ⟨t1, t2⟩ := rText_back (r := (rId (rKind r).2).2) h1
        obtain ⟨i1, i2, i3⟩ := rId_back t1
        obtain ⟨k1, k2, k3⟩ := rKind_back i1
        have hfin : (rText (rId (rKind r).2).2).2.1 = [] := h2
        rw [hfin, List.append_nil] at t2
        rw [t2] at i2
        rw [i2] at k2
        unfold bodyO
        rw [if_neg (by omega), if_neg (by omega), if_neg (by omega), if_pos (by omega)]
        exact k2
      · rename_i hn4
        rw [if_neg hn4] at *
        obtain ⟨b1, b2, b3⟩ := rBytes_back (n := r.1.length) (r := r) h1
        have hfin : (rBytes r.1.length r).2.1 = [] := h2
        rw [hfin, List.append_nil] at b2
        have hk1 := may_kind hm
        rw [hk] at hk1
        have hk2 : k = 1 := by omega
        unfold bodyO
        rw [if_pos (by rw [hk, hk2]; rfl)]
        exact b2
theorem rBytes_le (n : Nat) (r : Rd) : (rBytes n r).2.1.length ≤ r.1.length := by
  unfold rBytes
  split
  · exact Nat.le_refl _
  · show (r.1.drop n).length ≤ _
    rw [List.length_drop]; omega
theorem rKind_le (r : Rd) : (rKind r).2.1.length ≤ r.1.length := rBytes_le 1 r
theorem rId_le (r : Rd) : (rId r).2.1.length ≤ r.1.length := rBytes_le 32 r
theorem rNum_le (r : Rd) : (rNum r).2.1.length ≤ r.1.length := by
  unfold rNum
  split
  · exact Nat.le_refl _
  · split
    · exact Nat.le_refl _
    · show (r.1.drop _).length ≤ _
      rw [List.length_drop]; omega
theorem rNum_num (r : Rd) : (rNum r).1 ≤ 18446744073709551615 := by
  unfold rNum
  split
  · simp
  · split
    · simp
    · rename_i n k h
      exact (get_bounds h).1
theorem takeP_le {s t q : Txt} (h : takeP s = some (t, q)) : q.length ≤ s.length := by
  have := takeP_back h
  rw [this]
  simp
theorem rText_le (r : Rd) : (rText r).2.1.length ≤ r.1.length := by
  unfold rText
  split
  · exact Nat.le_refl _
  · split
    · exact Nat.le_refl _
    · exact takeP_le (by assumption)
theorem badIf_le (b : Bool) (r : Rd) : (badIf b r).1 = r.1 := by unfold badIf; split <;> rfl
/-- What was read is in order. -/
structure Sound (o : ObjL) : Prop where
  tree : o.tree.length = 32
  target : o.target.length = 32
  ents : ∀ e ∈ o.ents, e.id.length = 32
  pars : ∀ p ∈ o.pars, p.length = 32
  time : o.time < 4294967296
theorem noId_len : noId.length = 32 := by simp [noId]
theorem idOr_len {n : Nat} {r : Rd} (hn : n = 32) : (idOr (rBytes n r).1).length = 32 := by
  unfold idOr
  split
  · exact noId_len
  · rename_i h
    unfold rBytes at *
    split at h
    · exact absurd rfl h
    · rename_i hc
      rw [if_neg hc]
      have : ¬ r.1.length < n := fun h => hc (.inr h)
      show (r.1.take n).length = 32
      rw [List.length_take]; omega
theorem rId_len (r : Rd) : (rId r).1.length = 32 := idOr_len rfl
theorem rTree_sound : ∀ (f : Nat) (r : Rd) (acc : List EntL), (∀ e ∈ acc, e.id.length = 32) → ∀ e ∈ (rTree f r acc).1, e.id.length = 32
  | 0, r, acc, h => h
  | f + 1, r, acc, h => by
    rw [rTree]
    split
    · exact h
    · refine rTree_sound f _ _ ?_
      intro e he
      rcases List.mem_append.1 he with he | he
      · exact h e he
      · obtain rfl := List.mem_singleton.1 he
        exact rId_len _
theorem rPars_sound : ∀ (n : Nat) (r : Rd) (acc : List Txt), (∀ e ∈ acc, e.length = 32) → ∀ e ∈ (rPars n r acc).1, e.length = 32
  | 0, r, acc, h => h
  | f + 1, r, acc, h => by
    rw [rPars]
    split
    · exact h
    · refine rPars_sound f _ _ ?_
      intro e he
      rcases List.mem_append.1 he with he | he
      · exact h e he
      · obtain rfl := List.mem_singleton.1 he
        exact rId_len _
theorem readO_sound (k : Nat) (r : Rd) : Sound (readO k r).1 := by
  unfold readO
  split
  · exact ⟨noId_len, noId_len, rTree_sound _ _ _ (by simp), (by intro p hp; cases hp), by show 0 < _; omega⟩
  · split
    · exact ⟨rId_len _, noId_len, (by intro p hp; cases hp), rPars_sound _ _ _ (by simp), Nat.mod_lt _ (by omega)⟩
    · split
      · exact ⟨noId_len, rId_len _, (by intro p hp; cases hp), (by intro p hp; cases hp), by show 0 < _; omega⟩
      · exact ⟨noId_len, noId_len, (by intro p hp; cases hp), (by intro p hp; cases hp), by show 0 < _; omega⟩
theorem dec_back {s : Txt} {o : ObjL} (h : decO s = some o) : encO o = some s ∧ Sound o := by
  unfold decO at h
  match s, h with
  | c :: q, h =>
    simp only at h
    split at h
    · cases h
    · rename_i hl
      cases ht : takeP q with
      | none => rw [ht] at h; cases h
      | some p =>
        obtain ⟨t, b⟩ := p
        rw [ht] at h
        simp only at h
        split at h
        · cases h
        · rename_i hb
          have hb : b = [] := by simpa using hb
          subst hb
          split at h
          · cases h
          · rename_i hc
            injection h with h
            subst h
            have h1 : (readO c.toNat (t, false)).2.2 = false := by
              cases hx : (readO c.toNat (t, false)).2.2
              · rfl
              · exact absurd (.inl hx) hc
            have h2 : (readO c.toNat (t, false)).2.1 = [] := by
              by_cases hx : (readO c.toNat (t, false)).2.1 = []
              · exact hx
              · exact absurd (.inr (.inl hx)) hc
            have h3 : mayB (readO c.toNat (t, false)).1 = true := by
              cases hx : mayB (readO c.toNat (t, false)).1
              · exact absurd (.inr (.inr hx)) hc
              · rfl
            have hb := readO_back _ _ h1 h2 h3
            refine ⟨?_, readO_sound _ _⟩
            have hw : wholeO (readO c.toNat (t, false)).1 = c :: q := by
              unfold wholeO
              rw [← hb, readO_kind, byteK_back, takeP_back ht]
              simp
            unfold encO
            rw [hw, if_pos ⟨h3, by omega⟩]
theorem dec_len {s : Txt} {o : ObjL} (h : decO s = some o) : s.length ≤ 4096 ∧ mayB o = true := by
  have h1 := (dec_back h).1
  unfold encO at h1
  split at h1
  · rename_i hc
    injection h1 with h1
    rw [← h1]
    exact ⟨hc.2, hc.1⟩
  · cases h1
end Go.Proofs.YtnehabcopjgklaaDoor
/- What a call leaves as it was: more of it. No condition; no program. -/
namespace Go.Proofs.YtnehabcopjgklaaDoor
open Go.RowKit
section
variable {S T : List (Option Nat)} {w w0 w1 w2 w' : World} {g B : Nat} {t : TypeId} {cs : Array Value}
theorem Far.row (h : Far S w w') (hg : some g ∈ S ∨ w.heap.size ≤ g) (cs : Array Value) : Far S w (w'.setRow g cs) :=
  h.then_ (T := [some g]) ⟨rfl, rfl, rfl, by simp, fun k _ hn => setRow_other _ _ _ _ (fun e => hn (by rw [e]; simp))⟩ fun k hk => by
    simp only [List.mem_singleton, Option.some.injEq] at hk
    exact hk ▸ hg
theorem Far.low (h : Far S w w1) (hb : Below w.heap.size w1 w2) : Far S w w2 :=
  ⟨hb.os.trans h.os, hb.tape.trans h.tape, hb.output.trans h.output, Nat.le_trans h.size hb.size, fun k hk hn => (hb.block k hk).trans (h.block k hk hn)⟩
end
end Go.Proofs.YtnehabcopjgklaaDoor
/- The walk of layer 4's reader: id. No condition. -/
namespace Go.Proofs.YtnehabcopjgklaaDoor
open Go.RowKit
theorem bytes_or {n : Nat} (r : Rd) : (rBytes n r).1 = [] ∨ (rBytes n r).1.length = n := by
  unfold rBytes
  split
  · exact .inl rfl
  · rename_i h
    refine .inr ?_
    have : ¬ r.1.length < n := fun e => h (.inr e)
    show (r.1.take n).length = n
    rw [List.length_take]; omega
theorem byteCells_u8s (l : Txt) : Lib.byteCells l = (u8s l).toList := by simp [Lib.byteCells, u8s, u8v]
theorem idOr_nil : idOr [] = noId := rfl
theorem idOr_some {b : Txt} (h : b.length = 32) : idOr b = b := by unfold idOr; rw [if_neg]; intro e; rw [e] at h; cases h
/-- copy(id[:], b): an id's bytes, or none. -/
theorem copy_id (w : World) {g : Nat} {b : Txt} (hg : Blk w g 24 (u8s noId)) (hb : b = [] ∨ b.length = 32) (ty : TypeId) :
    ∃ v w1, (Builtin.copy_ #[77, 9] ty #[.slice (some ⟨g, 0, none⟩) 32 32, .string (B b)]).run Tryd.prog w = .ok v w1 ∧ Blk w1 g 24 (u8s (idOr b)) ∧ Far [some g] w w1 := by
  have hz : noId.length = 32 := noId_len
  rcases hb with rfl | hb
  · exact ⟨_, _, Lib.run_copy_empty_string (P := Tryd.prog) w 77 9 ty 5 (some ⟨g, 0, none⟩) 32 32 (B []) Tryd.underlying77 (by kernel_rfl) rfl, hg, Far.refl _ _⟩
  · have h := Lib.run_copy_row_string (P := Tryd.prog) w 77 9 ty 5 g 0 32 32 (B b) (u8s noId) 24 Tryd.underlying77 (by kernel_rfl) hg (by rw [size_B, hb]; exact Nat.le_refl _) (by rw [size_B, hb, u8s_size, hz]; exact Nat.le_refl _)
    refine ⟨_, _, h, ?_, ?_⟩
    · have e : ((u8s noId).toList.take 0 ++ Lib.byteCells (B b).data.toList ++ (u8s noId).toList.drop (0 + (B b).size)).toArray = u8s (idOr b) := by
        have hd : (u8s noId).toList.drop (0 + (B b).size) = [] := List.drop_eq_nil_of_le (by rw [u8s_len, size_B, hz, hb]; exact Nat.le_refl _)
        rw [idOr_some hb, hd, byteCells_u8s]
        simp [B]
      rw [e]
      exact setRow_heap _ _ _ _ _ _ hg
    · exact ⟨rfl, rfl, rfl, by simp, fun k _ hn => setRow_other _ _ _ _ (fun e => hn (by rw [e]; simp))⟩
set_option maxRecDepth 100000 in
set_option maxHeartbeats 2000000 in
theorem ri_calls (r : Rd) (hr : r.1.length ≤ 100000) (g : Nat) (w : World) (hb : RdB w g r) : Calls Tryd.prog 62 #[.pointer (some ⟨g, 0, none⟩)] w fun e w' => e = .returned (.agg (u8s (rId r).1)) ∧ RdB w' g (rId r).2 ∧ Far [some g] w w' := by
  have hlt : g < w.heap.size := Blk.lt hb
  have z0 : u8s noId = (#[.int .u8 0, .int .u8 0, .int .u8 0, .int .u8 0, .int .u8 0, .int .u8 0, .int .u8 0, .int .u8 0, .int .u8 0, .int .u8 0, .int .u8 0, .int .u8 0, .int .u8 0, .int .u8 0, .int .u8 0, .int .u8 0, .int .u8 0, .int .u8 0, .int .u8 0, .int .u8 0, .int .u8 0, .int .u8 0, .int .u8 0, .int .u8 0, .int .u8 0, .int .u8 0, .int .u8 0, .int .u8 0, .int .u8 0, .int .u8 0, .int .u8 0, .int .u8 0] : Array Value) := by kernel_rfl
  obtain ⟨Z, hZ⟩ : ∃ Z, u8s noId = Z := ⟨_, rfl⟩
  have hzv : ∀ W : World, (zeroValue 24).run Tryd.prog W = .ok (.agg Z) W := fun W => by
    have h : (Tryd.prog.info? 24).map (·.zero) = some (some (.agg (u8s noId))) := by rw [z0]; kernel_rfl
    obtain ⟨i, h1, h2⟩ := Option.map_eq_some_iff.1 h
    rw [← hZ]
    simp [zeroValue, typeInfo, h1, h2]
  obtain ⟨W1, hW1⟩ : ∃ W1, w.alloc (.cells Z 24) = W1 := ⟨_, rfl⟩
  have hs1 : W1.heap.size = w.heap.size + 1 := by rw [← hW1]; simp
  obtain ⟨W2, hW2⟩ : ∃ W2, W1.alloc (.cells Z 24) = W2 := ⟨_, rfl⟩
  have hx1 : Blk W1 w.heap.size 24 Z := by rw [← hW1]; exact Blk.new _ _ _
  have hx2 : Blk W2 w.heap.size 24 Z := by rw [← hW2]; exact hx1.alloc _
  have hy2 : Blk W2 W1.heap.size 24 Z := by rw [← hW2]; exact Blk.new _ _ _
  have b2 : Below w.heap.size w W2 := by rw [← hW2, ← hW1]; exact ((Below.refl _ _).alloc (Nat.le_refl _) _).alloc (by simp) _
  have hr2 : RdB W2.drew g r := (hb.below b2).drewN 1
  have hcall : Calls Tryd.prog 59 #[.pointer (some ⟨g, 0, none⟩), .int .i64 32] W2.drew fun e w' => e = .returned (.string (B (rBytes 32 r).1)) ∧ RdB w' g (rBytes 32 r).2 ∧ Far [some g] W2.drew w' := rb_calls 32 r hr (by omega) g W2.drew hr2
  have hcall := Lib.hid hcall
  have hbo := bytes_or (n := 32) r
  have hid1 : (rId r).1 = idOr (rBytes 32 r).1 := rfl
  have hid2 : (rId r).2 = (rBytes 32 r).2 := rfl
  rw [hid1, hid2]
  have hil := rId_len r
  rw [hid1] at hil
  clear hid1 hid2 hr2 hb hx1
  obtain ⟨BS, hBS⟩ : ∃ BS, (rBytes 32 r).1 = BS := ⟨_, rfl⟩
  obtain ⟨R2, hR2⟩ : ∃ R2, (rBytes 32 r).2 = R2 := ⟨_, rfl⟩
  rw [hBS] at hcall hbo hil ⊢
  rw [hR2] at hcall ⊢
  clear hBS hR2 z0
  have H1 := Lib.hid hs1
  clear hs1
  go_enter Tryd.func62, Tryd.ntmps62
  go_wp2
  have hyd : Blk W2.drew W1.heap.size 24 (u8s noId) := by rw [hZ]; exact hy2
  have hxd : Blk W2.drew w.heap.size 24 Z := hx2
  have hne : some W1.heap.size ∉ [some g] := by have := H1.out; simp; omega
  have hne2 : some w.heap.size ∉ [some g] := by simp; omega
  have hlA : w.heap.size ≤ W1.heap.size := by have := H1.out; omega
  have hAN : w.heap.size ≠ W1.heap.size := by have := H1.out; omega
  have b2d : Far [some g] w W2.drew := Far.of_below b2.drew
  have hzs : Z.size = 32 := by rw [← hZ, u8s_size, noId_len]
  have hsI := sz32
  clear b2 hy2 hx2 H1 hW1 hW2 hZ hzv
  generalize hA : w.heap.size = A at *
  have HA := Lib.hid hA
  clear hA
  generalize W1.heap.size = N at *
  go_region_with (first
    | ((with_reducible refine hcall.out.mono ?_); rintro e w3 ⟨rfl, hr3, hf3⟩
       obtain ⟨v4, w4, hc4, hy4, hf4⟩ := copy_id w3 (hf3.blk hyd hne) hbo 3
       clear hcall))
  have hx4 : Blk w4 A 24 Z := hf4.blk (hf3.blk hxd hne2) (by simpa using hAN)
  have hr4 : RdB w4 g R2 := hf4.blk hr3 (by simp; omega)
  have hsz4 : (u8s (idOr BS)).size = 32 := by rw [u8s_size, hil]
  have hone := u8s_one (idOr BS)
  have hff : Far [some g] w w4 := (b2d.then_ hf3 (fun k h => .inl h)).then_ hf4 (fun k h => .inr (by have := HA.out; simp at h; omega))
  generalize hcs : u8s (idOr BS) = cs at *
  have HC := Lib.hid hcs
  clear hcs
  clear hc4 hxd hyd hne hne2 hbo hil
  have hsc : (Tryd.prog.info? 24).map (·.size) = some cs.size := by rw [hsz4]; exact hsI
  go_wp2_with (first
    | (refine wpList_load_row rfl 24 (.tmp 3) rfl N rfl _ _ _ _ hy4 Tryd.underlying24 rfl hsc ?_)
    | (refine wpList_store_row rfl 24 (.tmp 2) (.tmp 8) rfl A cs rfl rfl _ _ hx4 hsc (by rw [hzs, hsz4]) hone ?_))
  exact bodyPost_ret (results_cell_row rfl _ _ A _ _ _ _ rfl (setRow_heap _ _ _ _ _ _ hx4) Tryd.underlying24 rfl hsc) rfl ⟨by rw [HC.out], (by unfold RdB Blk; rw [setRow_other _ _ _ _ (by omega)]; exact hr4), hff.row (.inr (by have := HA.out; omega)) cs⟩
end Go.Proofs.YtnehabcopjgklaaDoor
/- Regions that draw their order and end in 'x.F = append(x.F, y)': what lies there at each stage. No condition; no program. -/
namespace Go.Proofs.YtnehabcopjgklaaDoor
open Go.RowKit
/-- Ahead of operation ap; behind it; behind operation st. -/
def Stage (ap st : Nat) (P1 P2 P3 : World → Prop) (listed : Array Bool) (w : World) : Prop :=
  if listed.getD st false = true then P3 w else if listed.getD ap false = true then P2 w else P1 w
section
variable {ap st i n : Nat} {P1 P2 P3 : World → Prop} {listed : Array Bool} {w w' : World}
theorem getD_other {l : Array Bool} {i j : Nat} (h : i ≠ j) : (l.setIfInBounds i true).getD j false = l.getD j false := by
  simp only [Array.getD_eq_getD_getElem?, Array.getElem?_setIfInBounds]
  rw [if_neg h]
theorem getD_here {l : Array Bool} {i : Nat} (h : i < l.size) : (l.setIfInBounds i true).getD i false = true := by
  simp [Array.getD_eq_getD_getElem?, Array.getElem?_setIfInBounds, h]
theorem getD_none (n i : Nat) : (Array.replicate n false).getD i false = false := by
  simp only [Array.getD_eq_getD_getElem?, Array.getElem?_replicate]
  split <;> rfl
theorem Stage.same (h : Stage ap st P1 P2 P3 listed w) (h1 : i ≠ ap) (h2 : i ≠ st) : Stage ap st P1 P2 P3 (listed.setIfInBounds i true) w := by
  unfold Stage at *
  rwa [getD_other h1, getD_other h2]
theorem Stage.start (h : P1 w) : Stage ap st P1 P2 P3 (Array.replicate n false) w := by
  unfold Stage
  rw [getD_none, getD_none, if_neg (by simp), if_neg (by simp)]
  exact h
theorem Stage.one (h : Stage ap st P1 P2 P3 listed w) (ha : listed.getD ap false = false) (hs : listed.getD st false = false) : P1 w := by
  unfold Stage at h
  rwa [ha, hs, if_neg (by simp), if_neg (by simp)] at h
theorem Stage.two (h : Stage ap st P1 P2 P3 listed w) (ha : listed.getD ap false = true) (hs : listed.getD st false = false) : P2 w := by
  unfold Stage at h
  rwa [ha, hs, if_neg (by simp), if_pos rfl] at h
theorem Stage.three (h : Stage ap st P1 P2 P3 listed w) (hs : listed.getD st false = true) : P3 w := by
  unfold Stage at h
  rwa [hs, if_pos rfl] at h
theorem Stage.to1 (h : P1 w) (ha : listed.getD ap false = false) (hs : listed.getD st false = false) (h1 : i ≠ ap) (h2 : i ≠ st) : Stage ap st P1 P2 P3 (listed.setIfInBounds i true) w := by
  unfold Stage
  rw [getD_other h1, getD_other h2, ha, hs, if_neg (by simp), if_neg (by simp)]
  exact h
theorem Stage.to2 (h : P2 w) (hs : listed.getD st false = false) (hi : ap < listed.size) (hne : ap ≠ st) : Stage ap st P1 P2 P3 (listed.setIfInBounds ap true) w := by
  unfold Stage
  rw [getD_other hne, getD_here hi, hs, if_neg (by simp), if_pos rfl]
  exact h
theorem Stage.to3 (h : P3 w) (hi : st < listed.size) : Stage ap st P1 P2 P3 (listed.setIfInBounds st true) w := by
  unfold Stage
  rw [getD_here hi, if_pos rfl]
  exact h
end
/-- What each operation leaves: a slice written out (li), what append gives (ap), else a value. -/
def StR (V : Nat → Value) (li ap : Nat) (L Q : Value → World → Prop) (i : Nat) (v : Value) (w : World) : Prop := if i = li then L v w else if i = ap then Q v w else v = V i
section
variable {V : Nat → Value} {li ap i : Nat} {L Q : Value → World → Prop} {v : Value} {w w' : World}
theorem StR.at_ (h : StR V li ap L Q i v w) (h1 : i ≠ li) (h2 : i ≠ ap) : v = V i := by
  unfold StR at h
  rwa [if_neg h1, if_neg h2] at h
theorem StR.mk (h1 : i ≠ li) (h2 : i ≠ ap) (h : v = V i) : StR V li ap L Q i v w := by
  unfold StR
  rwa [if_neg h1, if_neg h2]
theorem StR.lit (h : StR V li ap L Q li v w) : L v w := by
  unfold StR at h
  rwa [if_pos rfl] at h
theorem StR.mkLit (h : L v w) : StR V li ap L Q li v w := by
  unfold StR
  rwa [if_pos rfl]
theorem StR.app (h : StR V li ap L Q ap v w) (hne : ap ≠ li) : Q v w := by
  unfold StR at h
  rwa [if_neg hne, if_pos rfl] at h
theorem StR.mkApp (h : Q v w) (hne : ap ≠ li) : StR V li ap L Q ap v w := by
  unfold StR
  rwa [if_neg hne, if_pos rfl]
theorem StR.keepL (hL : ∀ v, L v w → L v w') (hne : i ≠ ap) (h : StR V li ap L Q i v w) : StR V li ap L Q i v w' := by
  unfold StR at *
  split
  · rename_i hj; rw [if_pos hj] at h; exact hL v h
  · rename_i hj
    rw [if_neg hj, if_neg hne] at h
    first
      | exact h
      | (rw [if_neg hne]; exact h)
theorem StR.keepN (h1 : i ≠ li) (h2 : i ≠ ap) (h : StR V li ap L Q i v w) : StR V li ap L Q i v w' := by
  unfold StR at *
  rwa [if_neg h1, if_neg h2] at *
theorem StR.keep (hL : ∀ v, L v w → L v w') (hQ : ∀ v, Q v w → Q v w') (j : Nat) (u : Value) (h : StR V li ap L Q j u w) : StR V li ap L Q j u w' := by
  unfold StR at *
  split
  · rename_i hj; rw [if_pos hj] at h; exact hL u h
  · rename_i hj
    rw [if_neg hj] at h
    split
    · rename_i hj2; rw [if_pos hj2] at h; exact hQ u h
    · rename_i hj2; rwa [if_neg hj2] at h
end
theorem wp_skip {P : Program} {o : Oper} {a : Act} {w w' : World} {K : Act → World → Prop} {Q : Exit → Act → World → Prop} (hrun : (execOp a.eval o).run P w = .ok .skip w') (hK : K (a.put o.dst undef) w') : o.wp P a w K Q := by
  unfold Oper.wp
  rw [hrun]
  exact hK
theorem map0 {a : Act} : (#[] : Array Operand).map a.eval = #[] := by simp
theorem map1 {a : Act} {x : Operand} {v : Value} (h : a.eval x = v) : #[x].map a.eval = #[v] := by simp [h]
theorem map2 {a : Act} {x y : Operand} {v u : Value} (h : a.eval x = v) (h2 : a.eval y = u) : #[x, y].map a.eval = #[v, u] := by simp [h, h2]
theorem map3 {a : Act} {x y z : Operand} {v u t : Value} (h : a.eval x = v) (h2 : a.eval y = u) (h3 : a.eval z = t) : #[x, y, z].map a.eval = #[v, u, t] := by simp [h, h2, h3]
/-- A call of a function whose contract is known. -/
theorem call_step {P : Program} {o : Oper} {a : Act} {w : World} {K : Act → World → Prop} {Q : Exit → Act → World → Prop} {f : FuncId} {args : Array Operand} {tys : Array TypeId} (ho : o.op = .call { callee := .value (.func f), args := args, argTypes := tys })
    {vals : Array Value} (hv : args.map a.eval = vals) (hcf : (callFunc f vals).run P w = .ok (.enter f vals) w) {R : Ending → World → Prop} (hc : Calls P f vals w R) (hK : ∀ e w', R e w' → ∃ v, e = .returned v ∧ K (a.put o.dst v) w') : o.wp P a w K Q := by
  subst hv
  unfold Oper.wp execOp
  simp only [ho]
  go_simp
  refine hc.mono ?_
  intro e w' hR
  obtain ⟨v, rfl, hk⟩ := hK e w' hR
  exact hk
/-- A struct is written out. -/
theorem build_step {P : Program} {o : Oper} {a : Act} {w : World} {K : Act → World → Prop} {Q : Exit → Act → World → Prop} {T : TypeId} {fs : Array (Nat × Operand)} (ho : o.op = .build T fs) {vals : List (Nat × Value)} {cs : Array Value} (hb : P.built T vals = some cs)
    (hv : (fs.map fun (i, x) => (i, a.eval x)).toList = vals) (h : K (a.put o.dst (.agg cs)) w) : o.wp P a w K Q :=
  wp_build _ _ ho (by rw [hv, hb]; rfl) (by rw [hv, hb]; exact h)
theorem parts1 {a : Act} {i : Nat} {x : Operand} {v : Value} (h : a.eval x = v) : ((#[(i, x)] : Array (Nat × Operand)).map fun (i, x) => (i, a.eval x)).toList = [(i, v)] := by simp [h]
theorem parts2 {a : Act} {i j : Nat} {x y : Operand} {v u : Value} (h : a.eval x = v) (h2 : a.eval y = u) : ((#[(i, x), (j, y)] : Array (Nat × Operand)).map fun (i, x) => (i, a.eval x)).toList = [(i, v), (j, u)] := by simp [h, h2]
theorem parts3 {a : Act} {i j k : Nat} {x y z : Operand} {v u t : Value} (h : a.eval x = v) (h2 : a.eval y = u) (h3 : a.eval z = t) : ((#[(i, x), (j, y), (k, z)] : Array (Nat × Operand)).map fun (i, x) => (i, a.eval x)).toList = [(i, v), (j, u), (k, t)] := by simp [h, h2, h3]
theorem slot_is {a : Act} {t : Nat} {v : Value} (h : a.tmps[t]?.getD undef = v) : a.eval (.tmp t) = v := (slot_eval a t).symm.trans h
/-- A field's block, the slice that it holds, and what else lies there. -/
structure F1 (B gO : Nat) (TO : TypeId) (cO : Array Value) (e : TypeId) (k : Nat) (ve : Value) (n : Nat) (xs : List Value) (I J : World → Prop) (w : World) : Prop where
  blk : Blk w gO TO cO
  own : w.ownsRow B e k ve n xs
  inv : I w
  pre : J w
  size : B ≤ w.heap.size
structure F2 (B gO : Nat) (TO : TypeId) (cO : Array Value) (I : World → Prop) (w : World) : Prop where
  blk : Blk w gO TO cO
  inv : I w
  size : B ≤ w.heap.size
def F3 (B gO off : Nat) (TO : TypeId) (cO : Array Value) (e : TypeId) (k : Nat) (n : Nat) (xs ys : List Value) (I : World → Prop) (w : World) : Prop :=
  ∃ v', Blk w gO TO (cO.setIfInBounds off v') ∧ w.ownsRow B e k v' (n + 1) (xs ++ ys) ∧ I w ∧ B ≤ w.heap.size
def LitR (B : Nat) (e : TypeId) (ve : Value) (ys : List Value) (v : Value) (w : World) : Prop := ∃ b, v = .slice (some ⟨b, 0, none⟩) 1 1 ∧ Blk w b e ys.toArray ∧ B ≤ b ∧ ve.ownBlock ≠ some b
def AppR (B : Nat) (e : TypeId) (k n : Nat) (xs ys : List Value) (v : Value) (w : World) : Prop := w.ownsRow B e k v (n + 1) (xs ++ ys)
section
variable {B gO off : Nat} {TO e : TypeId} {cO : Array Value} {k : Nat} {ve : Value} {n : Nat} {xs ys : List Value} {I J : World → Prop} {w w' : World}
theorem F1.below (h : F1 B gO TO cO e k ve n xs I J w) (hb : Below w.heap.size w w') (hI : I w') (hJ : J w') : F1 B gO TO cO e k ve n xs I J w' :=
  ⟨h.blk.below hb h.blk.lt, own_below h.own hb, hI, hJ, Nat.le_trans h.size hb.size⟩
theorem F1.far {S : List (Option Nat)} (h : F1 B gO TO cO e k ve n xs I J w) (hf : Far S w w') (hO : some gO ∉ S) (hS : ∀ k, some k ∈ S → k < B) (hI : I w') (hJ : J w') : F1 B gO TO cO e k ve n xs I J w' :=
  ⟨hf.blk h.blk hO, hf.own h.own (fun k hk hm => by have h1 := (World.ownsRow.lt h.own k hk).1; have h2 := hS k hm; omega), hI, hJ, Nat.le_trans h.size hf.size⟩
theorem LitR.below {v : Value} (h : LitR B e ve ys v w) (hb : Below w.heap.size w w') : LitR B e ve ys v w' := by
  obtain ⟨b, h1, h2, h3, h4⟩ := h
  exact ⟨b, h1, h2.below hb h2.lt, h3, h4⟩
theorem AppR.below {v : Value} (h : AppR B e k n xs ys v w) (hb : Below w.heap.size w w') : AppR B e k n xs ys v w' := own_below h hb
/-- Far-reaching: a block that is neither. -/
theorem LitR.set_ {v : Value} {p : Addr} (h : LitR B e ve ys v w) (hp : p.block < B) (u : Value) : LitR B e ve ys v (w.setCell p u) := by
  obtain ⟨b, h1, h2, h3, h4⟩ := h
  exact ⟨b, h1, h2.far (by omega) u, h3, h4⟩
theorem own_set {v : Value} {m : Nat} {zs : List Value} {p : Addr} (h : w.ownsRow B e k v m zs) (hp : p.block < B) (u : Value) : (w.setCell p u).ownsRow B e k v m zs := by
  refine Far.own (S := [some p.block]) ((Far.refl _ w).set_ (.inl (by simp)) u) h ?_
  intro q hq
  have := (World.ownsRow.lt h q hq).1
  simp; omega
variable {P : Program}
/-- The slice is written out. -/
theorem slice_step {a : Act} {o : Oper} {K : Act → World → Prop} {Q : Exit → Act → World → Prop} {x : Operand} {t : TypeId} {z : Value} {size bytes : Nat} (ho : o.op = .buildSlice t 1 #[(0, x)]) (hT : SliceTy P t e z size bytes) (hle : size ≤ 65536) (hy : ys.length = size) (hx : a.eval x = .agg ys.toArray ∨ (size = 1 ∧ ys = [a.eval x] ∧ (a.eval x).cells = #[a.eval x]))
    (h : K (a.put o.dst (.slice (some ⟨w.heap.size, 0, none⟩) 1 1)) (w.alloc (.cells ys.toArray e))) : o.wp P a w K Q := by
  obtain ⟨v, hv, hc⟩ : ∃ v, a.eval x = v ∧ v.cells.toList = ys := by
    rcases hx with hx | ⟨_, h2, h3⟩
    · exact ⟨_, hx, by simp [Value.cells]⟩
    · exact ⟨_, rfl, by rw [h3, h2]⟩
  have e1 : ((#[(0, x)] : Array (Nat × Operand)).map fun (i, x) => (i, a.eval x)) = #[(0, v)] := by simp [hv]
  have hrun : (Instr.buildSlice t 1 #[(0, v)]).run P w = .ok (.slice (some ⟨w.heap.size, 0, none⟩) 1 1) (w.alloc (.cells ys.toArray e)) := by
    obtain ⟨it, hi, hz, hs, hb⟩ := hT.hi
    have h0 := hT.hsz
    refine run_buildSlice w _ _ 1 _ _ it _ hT.ht hi hz (by rw [hs]; omega) (by rw [hs]; omega) ?_
    rw [hs]
    have := Great.fill_whole (s := size) (by omega) [v] ((Array.range (1 * size)).map (z.cells[· % z.cells.size]!)) (by
      intro u hu
      simp at hu
      subst hu
      rw [← Array.length_toList, hc]
      exact hy) (by simp)
    simpa [hc] using this
  unfold Oper.wp execOp
  simp only [ho, Sem.run_bind, e1, hrun, Result.andThen_ok]
  exact h
/-- It is appended. -/
theorem app_step {a : Act} {o : Oper} {K : Act → World → Prop} {Q : Exit → Act → World → Prop} {s x : Operand} {t : TypeId} {z : Value} {bytes : Nat} (ho : o.op = .call { callee := .builtin .append, args := #[s, x], argTypes := #[t, t] }) (hT : SliceTy P t e z k bytes)
    (h : F1 B gO TO cO e k ve n xs I J w) (hgO : gO < B) {v : Value} (hl : LitR B e ve ys v w) (hy : ys.length = k) (h1 : ∀ u ∈ ys, u.oneCell' = true) (h63 : n + 1 ≤ 9223372036854775807) (hbytes : (n + 1) * bytes ≤ 140737488355328)
    (hI : ∀ w', Below B w w' → I w') (hs : a.eval s = ve) (hx : a.eval x = v)
    (hK : ∀ v' w', F2 B gO TO cO I w' → AppR B e k n xs ys v' w' → (∀ u, LitR B e ve ys u w → LitR B e ve ys u w') → Below B w w' → K (a.put o.dst v') w') : o.wp P a w K Q := by
  obtain ⟨b, rfl, hb, hB, hne⟩ := hl
  refine wp_append_blk s x t ho e z k bytes hT B ve n xs hs h.own b 1 1 e ys.toArray hx hb (by simpa using hy) (by simpa using h1) h63 hbytes w (Below.refl _ _) h.size ?_
  intro v' w' hown hbel hgr
  refine hK v' w' ⟨(hbel.block gO hgO).trans h.blk, hI w' hbel, Nat.le_trans h.size hgr.size⟩ (by simpa [AppR] using hown) ?_ hbel
  rintro u ⟨b2, g1, g2, g3, g4⟩
  exact ⟨b2, g1, g2.grown hgr (fun e => g4 e.symm), g3, g4⟩
/-- It is stored. -/
theorem F2.stored (h : F2 B gO TO cO I w) {v : Value} (hv : AppR B e k n xs ys v w) (hgO : gO < B) (hI : I (w.setCell ⟨gO, off, none⟩ v)) : F3 B gO off TO cO e k n xs ys I (w.setCell ⟨gO, off, none⟩ v) :=
  ⟨v, h.blk.set_ off v, own_set hv hgO v, hI, by rw [World.size_setCell]; exact h.size⟩
theorem AppR.set_ {v : Value} {p : Addr} (h : AppR B e k n xs ys v w) (hp : p.block < B) (u : Value) : AppR B e k n xs ys v (w.setCell p u) := own_set h hp u
end
end Go.Proofs.YtnehabcopjgklaaDoor
/- Cells of a block are written, one behind the other. No condition; no program. -/
namespace Go.Proofs.YtnehabcopjgklaaDoor
open Go.RowKit
section
variable {w : World} {g : Nat} {t : TypeId}
theorem Blk.splice : ∀ (vs : List Value) (o : Nat) (w : World) (pre mid post : List Value), Blk w g t (pre ++ (mid ++ post)).toArray → pre.length = o → mid.length = vs.length → Blk (w.setCells g o vs) g t (pre ++ (vs ++ post)).toArray
  | [], o, w, pre, mid, post, h, _, hm => by
    have : mid = [] := List.length_eq_zero_iff.1 (by simpa using hm)
    subst this
    exact h
  | v :: r, o, w, pre, [], post, _, _, hm => by simp at hm
  | v :: r, o, w, pre, m :: mid, post, h, hp, hm => by
    have h1 := h.set_ o v
    have e : (pre ++ (m :: mid ++ post)).toArray.setIfInBounds o v = ((pre ++ [v]) ++ (mid ++ post)).toArray := by
      rw [List.setIfInBounds_toArray]
      congr 1
      rw [List.set_append_right _ _ (by omega), hp, Nat.sub_self]
      simp
    rw [e] at h1
    have h2 := Blk.splice r (o + 1) _ (pre ++ [v]) mid post h1 (by simp [hp]) (by simpa using hm)
    have e2 : (pre ++ [v]) ++ (r ++ post) = pre ++ (v :: r ++ post) := by simp
    rwa [e2] at h2
theorem Blk.there {cs : Array Value} (h : Blk w g t cs) {o n : Nat} (hn : o + n ≤ cs.size) : w.there g o n := fun j hj => by
  refine ⟨?_, h.frozen _⟩
  rw [h.cell, Array.getElem?_eq_getElem (by omega)]
  rfl
end
end Go.Proofs.YtnehabcopjgklaaDoor
/- An object's fields are written, one by one. No condition. -/
namespace Go.Proofs.YtnehabcopjgklaaDoor
open Go.RowKit
section
variable {w : World} {g : Nat} {o : ObjL} {ve vp : Value}
theorem set_app {a b : List Value} {n i : Nat} {u : Value} (ha : a.length = n) (hi : n ≤ i) : (a ++ b).set i u = a ++ b.set (i - n) u := by rw [List.set_append_right _ _ (by omega), ha]
theorem ObjB.of_set (h : ObjB w g o ve vp) (i : Nat) (u : Value) {o' : ObjL} {ve' vp' : Value} (he : (objC o ve vp).set i u = objC o' ve' vp') (h1 : o'.tree.length = 32) (h2 : o'.target.length = 32) : ObjB (w.setCell ⟨g, i, none⟩ u) g o' ve' vp' := by
  refine ⟨?_, h1, h2⟩
  have := h.blk.set_ i u
  rwa [List.setIfInBounds_toArray, he] at this
theorem ObjB.setData (h : ObjB w g o ve vp) (s : Txt) : ObjB (w.setCell ⟨g, 1, none⟩ (.string (B s))) g { o with data := s } ve vp := h.of_set 1 _ rfl h.tr h.ta
theorem ObjB.setEnts (h : ObjB w g o ve vp) (v : Value) (l : List EntL) : ObjB (w.setCell ⟨g, 2, none⟩ v) g { o with ents := l } v vp := h.of_set 2 _ rfl h.tr h.ta
theorem ObjB.setPars (h : ObjB w g o ve vp) (v : Value) (l : List Txt) : ObjB (w.setCell ⟨g, 35, none⟩ v) g { o with pars := l } ve v := h.of_set 35 _ (by
  show _ :: _ :: _ :: ((u8s o.tree).toList ++ _).set 32 _ = _
  rw [set_app (by rw [u8s_len, h.tr]) (Nat.le_refl _)]; rfl) h.tr h.ta
theorem ObjB.setTime (h : ObjB w g o ve vp) (t : Nat) : ObjB (w.setCell ⟨g, 36, none⟩ (.int .u32 t)) g { o with time := t } ve vp := h.of_set 36 _ (by
  show _ :: _ :: _ :: ((u8s o.tree).toList ++ _).set 33 _ = _
  rw [set_app (by rw [u8s_len, h.tr]) (by omega)]; rfl) h.tr h.ta
theorem ObjB.setText (h : ObjB w g o ve vp) (s : Txt) : ObjB (w.setCell ⟨g, 37, none⟩ (.string (B s))) g { o with text := s } ve vp := h.of_set 37 _ (by
  show _ :: _ :: _ :: ((u8s o.tree).toList ++ _).set 34 _ = _
  rw [set_app (by rw [u8s_len, h.tr]) (by omega)]; rfl) h.tr h.ta
theorem ObjB.setOf (h : ObjB w g o ve vp) (n : Int) : ObjB (w.setCell ⟨g, 70, none⟩ (.int .i64 n)) g { o with of_ := n } ve vp := h.of_set 70 _ (by
  show _ :: _ :: _ :: ((u8s o.tree).toList ++ _).set 67 _ = _
  rw [set_app (by rw [u8s_len, h.tr]) (by omega)]
  show _ :: _ :: _ :: (_ ++ _ :: _ :: _ :: ((u8s o.target).toList ++ _).set 32 _) = _
  rw [set_app (by rw [u8s_len, h.ta]) (by omega)]; rfl) h.tr h.ta
theorem ObjB.setName (h : ObjB w g o ve vp) (s : Txt) : ObjB (w.setCell ⟨g, 71, none⟩ (.string (B s))) g { o with name := s } ve vp := h.of_set 71 _ (by
  show _ :: _ :: _ :: ((u8s o.tree).toList ++ _).set 68 _ = _
  rw [set_app (by rw [u8s_len, h.tr]) (by omega)]
  show _ :: _ :: _ :: (_ ++ _ :: _ :: _ :: ((u8s o.target).toList ++ _).set 33 _) = _
  rw [set_app (by rw [u8s_len, h.ta]) (by omega)]; rfl) h.tr h.ta
theorem ObjB.setTree (h : ObjB w g o ve vp) (t : Txt) (ht : t.length = 32) : ObjB (w.setCells g 3 (u8s t).toList) g { o with tree := t } ve vp := by
  refine ⟨?_, ht, h.ta⟩
  have hb : Blk w g 41 ([.int .i64 o.kind, .string (B o.data), ve] ++ ((u8s o.tree).toList ++ (vp :: .int .u32 o.time :: .string (B o.text) :: ((u8s o.target).toList ++ [.int .i64 o.of_, .string (B o.name)])))).toArray := h.blk
  exact Blk.splice (u8s t).toList 3 w _ _ _ hb rfl (by rw [u8s_len, u8s_len, h.tr, ht])
theorem objC_split (o : ObjL) (ve vp : Value) : objC o ve vp = (.int .i64 o.kind :: .string (B o.data) :: ve :: ((u8s o.tree).toList ++ [vp, .int .u32 o.time, .string (B o.text)])) ++ ((u8s o.target).toList ++ [.int .i64 o.of_, .string (B o.name)]) := by
  unfold objC
  simp
theorem ObjB.setTarget (h : ObjB w g o ve vp) (t : Txt) (ht : t.length = 32) : ObjB (w.setCells g 38 (u8s t).toList) g { o with target := t } ve vp := by
  refine ⟨?_, h.tr, ht⟩
  have hb := h.blk
  rw [objC_split] at hb
  have := Blk.splice (u8s t).toList 38 w _ _ _ hb (by simp [u8s_size, h.tr]) (by rw [u8s_len, u8s_len, h.ta, ht])
  rw [objC_split]
  exact this
theorem ObjB.there (h : ObjB w g o ve vp) (i n : Nat) (hn : i + n ≤ 72) : w.there g i n := h.blk.there (by
  rw [List.size_toArray]
  unfold objC
  simp only [List.length_cons, List.length_append, u8s_len, h.tr, h.ta, List.length_nil]
  exact hn)
theorem ObjB.fr (h : ObjB w g o ve vp) (i : Nat) : w.frozen? ⟨g, i, none⟩ = false := h.blk.frozen i
theorem ObjB.far {S : List (Option Nat)} {w' : World} (h : ObjB w g o ve vp) (hf : Far S w w') (hg : some g ∉ S) : ObjB w' g o ve vp := ⟨hf.blk h.blk hg, h.tr, h.ta⟩
end
theorem RdB.far {S : List (Option Nat)} {w w' : World} {g : Nat} {r : Rd} (h : RdB w g r) (hf : Far S w w') (hg : some g ∉ S) : RdB w' g r := hf.blk h hg
theorem RdB.set_ {w : World} {g : Nat} {r : Rd} {p : Addr} (h : RdB w g r) (hp : g ≠ p.block) (u : Value) : RdB (w.setCell p u) g r := Blk.far h hp u
theorem RdB.cells_ {w : World} {g gO : Nat} {r : Rd} (h : RdB w g r) (hp : gO ≠ g) (vs : List Value) (o : Nat) : RdB (w.setCells gO o vs) g r := h.far (S := [some gO]) (Far.cells (g := gO) (.inl (by simp)) vs o _ (Far.refl _ _)) (by simp; omega)
/-- An id is stored into a field. -/
theorem lit_store_id {ops : Array Oper} {rest : List Oper} {a : Act} {w : World} {Q : Exit → Act → World → Prop} {d : Option Tmp} {rt : TypeId} {pos : String} {af : Array Edge} (x y : Operand) (g o : Nat) (u : Txt) (lu : u.length = 32) (ht : w.there g o 32)
    (hx : a.eval x = .pointer (some ⟨g, o, none⟩)) (hy : a.eval y = .agg (u8s u)) (h : wpList Tryd.prog ops Q rest (a.put d undef) (w.setCells g o (u8s u).toList)) : wpList Tryd.prog ops Q ({ dst := d, op := .store 24 x y, type := rt, pos := pos, after := af, guard := none } :: rest) a w :=
  wpList_store_mid rfl _ x y rfl g o (u8s u) hx hy (by rw [u8s_size, lu]; exact ht) (by rw [u8s_size, lu]; exact sz32) (u8s_one u) h
/-- The entries of an object that is read. -/
abbrev OwnEnts (w : World) (base : Nat) (v : Value) (l : List EntL) : Prop := w.ownsRow base 76 34 v l.length (rowsOf entC l)
abbrev OwnIds (w : World) (base : Nat) (v : Value) (l : List Txt) : Prop := w.ownsRow base 24 32 v l.length (rowsOf idC l)
/-- What a reader leaves: the object's block, its slices, the reader. -/
structure Been (w : World) (gO gR base : Nat) (o : ObjL) (r : Rd) (ve vp : Value) (w' : World) : Prop where
  obj : ObjB w' gO o ve vp
  ents : OwnEnts w' base ve o.ents
  pars : OwnIds w' base vp o.pars
  rd : RdB w' gR r
  far : Far [some gO, some gR] w w'
def Did (w : World) (gO gR base : Nat) (x : ObjL × Rd) (w' : World) : Prop := ∃ ve vp, Been w gO gR base x.1 x.2 ve vp w'
end Go.Proofs.YtnehabcopjgklaaDoor
/- The walks of layer 4's reader: blob, tag. No condition. -/
namespace Go.Proofs.YtnehabcopjgklaaDoor
open Go.RowKit
set_option maxRecDepth 100000 in
set_option maxHeartbeats 2000000 in
theorem blob_calls (k : Nat) (r : Rd) (hr : r.1.length ≤ 100000) (gO gR : Nat) (hne : gO ≠ gR) (w : World) (hO : ObjB w gO (nObj k) (.slice none 0 0) (.slice none 0 0)) (hR : RdB w gR r) :
    Calls Tryd.prog 39 #[.pointer (some ⟨gR, 0, none⟩), .pointer (some ⟨gO, 0, none⟩)] w fun e w' => e = .returned (.tuple #[]) ∧ Did w gO gR w.heap.size (rBlob k r) w' := by
  have hcall := Lib.hid (rb_calls r.1.length r hr hr gR w hR)
  have c0 := hR.c0
  obtain ⟨x, hx⟩ : ∃ x, Hid (rBlob k r = x) := ⟨_, Lib.hid rfl⟩
  have hgO : some gO ∉ [some gR] := by simp; omega
  rw [hx.out]
  go_enter Tryd.func39, Tryd.ntmps39
  go_wp2_with (first
    | ((with_reducible refine hcall.out.mono ?_); rintro e w1 ⟨rfl, hr1, hf1⟩
       have hO1 := hO.far hf1 hgO
       have f1 := hO1.fr 1
       have c1 := hO1.data))
  go_end0
  refine ⟨rfl, ?_⟩
  rw [← hx.out]
  exact ⟨_, _, ⟨hO1.setData _, World.ownsRow_nil _ _ _ _, World.ownsRow_nil _ _ _ _, hr1.set_ (fun e => hne e.symm) _, (hf1.mono (by simp)).set_ (.inl (by simp)) _⟩⟩
set_option maxRecDepth 100000 in
set_option maxHeartbeats 2000000 in
theorem tag_calls (k : Nat) (r : Rd) (hr : r.1.length ≤ 100000) (gO gR : Nat) (hne : gO ≠ gR) (w : World) (hO : ObjB w gO (nObj k) (.slice none 0 0) (.slice none 0 0)) (hR : RdB w gR r) :
    Calls Tryd.prog 42 #[.pointer (some ⟨gR, 0, none⟩), .pointer (some ⟨gO, 0, none⟩)] w fun e w' => e = .returned (.tuple #[]) ∧ Did w gO gR w.heap.size (rTag k r) w' := by
  have hl1 := rKind_le r
  have hl2 := rId_le (rKind r).2
  have hkc := Lib.hid (rk_calls r hr gR w hR)
  have hic := fun W hW => Lib.hid (ri_calls (rKind r).2 (by omega) gR W hW)
  have htc := fun W hW => Lib.hid (rt_calls (rId (rKind r).2).2 (by omega) gR W hW)
  obtain ⟨x, hx⟩ : ∃ x, Hid (rTag k r = x) := ⟨_, Lib.hid rfl⟩
  have hgO : some gO ∉ [some gR] := by simp; omega
  have hid32 := rId_len (rKind r).2
  have hsz : (Tryd.prog.info? 24).map (·.size) = some (u8s (rId (rKind r).2).1).size := by rw [u8s_size, hid32]; exact sz32
  have h32 : (u8s (rId (rKind r).2).1).size = 32 := by rw [u8s_size, hid32]
  have hone := u8s_one (rId (rKind r).2).1
  have hxx : Hid (x = ((⟨k, [], [], noId, [], 0, [], (rId (rKind r).2).1, (rKind r).1, (rText (rId (rKind r).2).2).1⟩ : ObjL), (rText (rId (rKind r).2).2).2)) := hx.out.symm
  rw [hx.out]
  clear hx
  generalize rKind r = K at *
  generalize rId K.2 = I at *
  generalize rText I.2 = T at *
  go_enter Tryd.func42, Tryd.ntmps42
  go_wp2_with (first
    | ((with_reducible refine hkc.out.mono ?_); rintro e w1 ⟨rfl, hr1, hf1⟩
       have hO1 := hO.far hf1 hgO
       have f1 := hO1.fr 70
       have c1 := hO1.of_
       have hO1 := hO1.setOf K.1
       have hr1 := hr1.set_ (p := ⟨gO, 70, none⟩) (fun e => hne e.symm) (.int .i64 K.1)
       have hf1 := (hf1.mono (T := [some gO, some gR]) (by simp)).set_ (p := ⟨gO, 70, none⟩) (.inl (by simp)) (.int .i64 K.1)
       clear hkc)
    | ((with_reducible refine (hic _ hr1).out.mono ?_); rintro e w2 ⟨rfl, hr2, hf2⟩
       have hO2 := hO1.far hf2 hgO
       have ht2 := hO2.there 38 32 (by omega)
       have hf2 := hf1.trans (hf2.mono (by simp))
       clear hf1 hr1 hO1 f1 c1 hic)
    | ((with_reducible refine lit_store_id (.tmp 13) (.tmp 11) gO 38 I.1 hid32 ht2 ?_ ?_ ?_); rfl; rfl
       have hO2 := hO2.setTarget I.1 hid32
       have hr2 := hr2.cells_ hne (u8s I.1).toList 38
       have hf2 := Far.cells (S := [some gO, some gR]) (g := gO) (.inl (List.mem_cons_self ..)) (u8s I.1).toList 38 _ hf2)
    | ((with_reducible refine (htc _ hr2).out.mono ?_); rintro e w3 ⟨rfl, hr3, hf3⟩
       have hO3 := hO2.far hf3 hgO
       have f3 := hO3.fr 71
       have c3 := hO3.name
       have hO3 := hO3.setName T.1
       have hr3 := hr3.set_ (p := ⟨gO, 71, none⟩) (fun e => hne e.symm) (.string (B T.1))
       have hf3 := (hf2.trans (hf3.mono (T := [some gO, some gR]) (by simp))).set_ (p := ⟨gO, 71, none⟩) (.inl (by simp)) (.string (B T.1))
       clear hf2 hr2 hO2 htc))
  go_end0
  refine ⟨rfl, ?_⟩
  rw [hxx.out]
  exact ⟨_, _, ⟨hO3, World.ownsRow_nil _ _ _ _, World.ownsRow_nil _ _ _ _, hr3, hf3⟩⟩
end Go.Proofs.YtnehabcopjgklaaDoor
