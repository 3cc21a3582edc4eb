/- Lemmas and walks of this seat, laid together: LzBM, LzB, LzC, Text, PkF, Bld, Bld2, Bldr, BldF, PkG, PkE, PkX, App. -/
import Derived.Test.YtoekdiklbfdpiaaDoorMe
import Derived.Maps.Own
import Derived.Maps.OwnOps
import Derived.Maps.OwnSet
import Derived.Maps.Views
import Derived.Lib.Builder
import Derived.Shelf.Strings.Builder1
import Derived.Lib.FrozenHead2
import Derived.Great.FillDense
/- What layer 5's Pack keeps from round to round: what its map tells, and how long the text of one byte over and over becomes. No condition; no program. -/
namespace Go.Proofs.YtoekdiklbfdpiaaDoor
open Go.RowKit Go.Maps

/-- What four bytes are found by. -/
def key4 (a b c d : UInt8) : Nat := a.toNat + 256 * b.toNat + 65536 * c.toNat + 16777216 * d.toNat
theorem key4_lt (a b c d : UInt8) : key4 a b c d < 4294967296 := by
  have := a.toNat_lt; have := b.toNat_lt; have := c.toNat_lt; have := d.toNat_lt
  unfold key4; omega
theorem key4_inj {a b c d a' b' c' d' : UInt8} (h : key4 a b c d = key4 a' b' c' d') : a = a' ∧ b = b' ∧ c = c' ∧ d = d' := by
  have := a.toNat_lt; have := b.toNat_lt; have := c.toNat_lt; have := d.toNat_lt
  have := a'.toNat_lt; have := b'.toNat_lt; have := c'.toNat_lt; have := d'.toNat_lt
  unfold key4 at h
  exact ⟨UInt8.toNat_inj.1 (by omega), UInt8.toNat_inj.1 (by omega), UInt8.toNat_inj.1 (by omega), UInt8.toNat_inj.1 (by omega)⟩
/-- ... at a place of a text. -/
def keyAt (s : List UInt8) (i : Nat) : Nat := key4 (s.getD i 0) (s.getD (i + 1) 0) (s.getD (i + 2) 0) (s.getD (i + 3) 0)
theorem keyAt_lt (s : List UInt8) (i : Nat) : keyAt s i < 4294967296 := key4_lt _ _ _ _
theorem keyAt_alike {s : List UInt8} {a i : Nat} (h : keyAt s a = keyAt s i) {j : Nat} (hj : j < 4) : s.getD (a + j) 0 = s.getD (i + j) 0 := by
  obtain ⟨h0, h1, h2, h3⟩ := key4_inj h
  match j, hj with
  | 0, _ => exact h0
  | 1, _ => exact h1
  | 2, _ => exact h2
  | 3, _ => exact h3

abbrev kl (k : Nat) : Lit := .int .u32 k
abbrev vl (i : Nat) : DataW Unit := .lit (.int .i64 i)
theorem kl_key (k : Nat) : WideAt.IsKeyLit (kl k) := trivial
theorem kl_ne {a b : Nat} (h : a ≠ b) : kl a ≠ kl b := by
  intro hh
  injection hh with _ hh
  exact h (by omega)
/-- What the map tells of the places ahead of i: each is one whose four bytes are the key's. -/
structure MapOk (s : List UInt8) (i : Nat) (D : DataW Unit) : Prop where
  isMap : IsMap D
  told : ∀ k : Nat, Maps.has D (kl k) = true → ∃ a : Nat, D.atKey (kl k) (.lit (.int .i64 0)) = vl a ∧ a + 4 ≤ s.length ∧ a < i ∧ keyAt s a = k
  first : 0 < i → Maps.has D (kl (keyAt s 0)) = true
theorem MapOk.start (s : List UInt8) : MapOk s 0 (.map []) := ⟨isMap_empty, fun k h => by simp [has_eq] at h, fun h => absurd h (by omega)⟩
theorem MapOk.next {s : List UInt8} {i i' : Nat} {D : DataW Unit} (h : MapOk s i D) (hi : i + 4 ≤ s.length) (hi' : i < i') : MapOk s i' (D.put (kl (keyAt s i)) (vl i)) := by
  refine ⟨h.isMap.put _ _, fun k hk => ?_, fun _ => ?_⟩
  · by_cases he : k = keyAt s i
    · subst he
      exact ⟨i, atKey_put_same h.isMap (kl_key _) _ _, hi, hi', rfl⟩
    · rw [has_put_other (kl_ne he)] at hk
      obtain ⟨a, h1, h2, h3, h4⟩ := h.told k hk
      exact ⟨a, by rw [atKey_put_other (kl_ne he)]; exact h1, h2, by omega, h4⟩
  · by_cases he : keyAt s 0 = keyAt s i
    · rw [he]; exact has_put_same h.isMap (kl_key _) _
    · rw [has_put_other (kl_ne he)]
      refine h.first ?_
      rcases Nat.eq_zero_or_pos i with h0 | h0
      · subst h0; exact absurd rfl he
      · exact h0

/-- Of one byte over and over: nothing is packed yet, or all is, in five bytes. -/
def RunOk (s e : List UInt8) (fr i : Nat) : Prop := ∀ (c : UInt8) (n : Nat), s = List.replicate n c → n ≤ 4096 → (i ≤ 1 ∧ e = [] ∧ fr = 0) ∨ (i = n ∧ fr = n ∧ e.length ≤ 5)
theorem RunOk.start (s : List UInt8) : RunOk s [] 0 0 := fun _ _ _ _ => .inl ⟨by omega, rfl, rfl⟩
theorem getD_rep {n i : Nat} {c : UInt8} (h : i < n) : (List.replicate n c).getD i 0 = c := by
  rw [getD_lt (by simpa using h)]; simp
theorem keyAt_rep {n i : Nat} {c : UInt8} (h : i + 4 ≤ n) : keyAt (List.replicate n c) i = key4 c c c c := by
  unfold keyAt
  rw [getD_rep (by omega), getD_rep (by omega), getD_rep (by omega), getD_rep (by omega)]
/-- No place is told: it is the first one. -/
theorem RunOk.miss {s e : List UInt8} {fr i : Nat} {D : DataW Unit} (h : RunOk s e fr i) (hm : MapOk s i D) (hi : i + 4 ≤ s.length) (hno : Maps.has D (kl (keyAt s i)) = false) : RunOk s e fr (i + 1) := by
  intro c n hs hn
  have hl : s.length = n := by rw [hs]; simp
  rcases h c n hs hn with ⟨h1, h2, h3⟩ | ⟨h1, h2, h3⟩
  · rcases Nat.eq_zero_or_pos i with h0 | h0
    · exact .inl ⟨by omega, h2, h3⟩
    · exfalso
      have := hm.first h0
      rw [hs, keyAt_rep (by omega), ← keyAt_rep (n := n) (i := i) (c := c) (by omega), ← hs, hno] at this
      cases this
  · omega
theorem RunOk.far {s e : List UInt8} {fr i a : Nat} (h : RunOk s e fr i) (hi : i + 4 ≤ s.length) (ha : a < i) (hf : 65535 < i - a) : RunOk s e fr (i + 1) := by
  intro c n hs hn
  have hl : s.length = n := by rw [hs]; simp
  rcases h c n hs hn with ⟨h1, h2, h3⟩ | ⟨h1, h2, h3⟩ <;> omega
/-- A step that copies from back what is alike, as far as it is. -/
theorem RunOk.hit {s e : List UInt8} {fr i a n : Nat} (h : RunOk s e fr i) (hi : i + 4 ≤ s.length) (ha : a < i) (hn : i + n ≤ s.length) (hmax : (h : i + n < s.length) → s[a + n]'(by omega) ≠ s[i + n])
    (p : List UInt8) (hp : fr = 0 → i = 1 → p.length ≤ 2) : RunOk s (e ++ (p ++ (put (2 * n + 1) ++ put (i - a)))) (i + n) (i + n) := by
  intro c m hs hm
  have hl : s.length = m := by rw [hs]; simp
  rcases h c m hs hm with ⟨h1, h2, h3⟩ | ⟨h1, h2, h3⟩
  · have he : i = 1 := by omega
    have hend : i + n = m := by
      rcases Nat.lt_or_ge (i + n) m with hlt | hge
      · exfalso
        refine hmax (by omega) ?_
        simp [hs]
      · omega
    refine .inr ⟨hend, hend, ?_⟩
    have hp' := hp h3 he
    have q1 := put_two (2 * n + 1) (by omega)
    have q2 := put_small (i - a) (by omega)
    simp only [h2, List.nil_append, List.length_append]
    omega
  · omega
/-- What the four bytes at both places say of how far they are alike. -/
theorem alike_four {s : List UInt8} {a i n : Nat} (hi : i + 4 ≤ s.length) (ha : a < i) (hk : keyAt s a = keyAt s i) (hmax : (h : i + n < s.length) → s[a + n]'(by omega) ≠ s[i + n]) : 4 ≤ n := by
  rcases Nat.lt_or_ge n 4 with hlt | hge
  · exfalso
    refine hmax (by omega) ?_
    have := keyAt_alike hk hlt
    rwa [getD_lt (by omega), getD_lt (by omega)] at this
  · exact hge

/-- What is packed: the text as it stands, or steps; how long it is at most. -/
structure PackOk (s p : List UInt8) : Prop where
  most : p.length ≤ s.length + 1
  way : p = 0 :: s ∨ ∃ e, p = 1 :: e ∧ Leads e [] s
  run : ∀ (c : UInt8) (n : Nat), s = List.replicate n c → n ≤ 4096 → p.length ≤ 8
theorem PackOk.just {s p : List UInt8} (h : PackOk s p) : unp p s.length = (s, 0) := by
  rcases h.way with rfl | ⟨e, rfl, he⟩
  · exact unp_stored (by omega) rfl (by omega)
  · rw [unp_steps (by omega) rfl, Int.toNat_natCast]
    have := he.2.1 [] s.length (by omega)
    rw [List.append_nil] at this
    exact this.trans (un_nil _ _)
theorem PackOk.fewer {s p : List UInt8} (h : PackOk s p) (hs : s ≠ []) : unp p ((s.length : Int) - 1) = ([], 3) := by
  have hl : 0 < s.length := by cases s with
    | nil => exact absurd rfl hs
    | cons c r => simp
  rcases h.way with rfl | ⟨e, rfl, he⟩
  · exact unp_stored_big (most := (s.length : Int) - 1) (by omega) rfl (by omega)
  · rw [unp_steps (most := (s.length : Int) - 1) (by omega) rfl, show ((s.length : Int) - 1).toNat = s.length - 1 from by omega]
    have := he.2.2 [] (s.length - 1) (by simp) (by omega)
    rwa [List.append_nil] at this
end Go.Proofs.YtoekdiklbfdpiaaDoor
/- The walks of layer 5's key, alike, plain. No condition but sizes that every memory has. -/
namespace Go.Proofs.YtoekdiklbfdpiaaDoor
open Go.RowKit

open Go.Maps

theorem u32_bits (a b c d : UInt8) : bits .or .u32 (bits .or .u32 (bits .or .u32 ((a.toNat : Int) % 4294967296) ((b.toNat : Int) % 4294967296 * 256 % 4294967296)) ((c.toNat : Int) % 4294967296 * 65536 % 4294967296)) ((d.toNat : Int) % 4294967296 * 16777216 % 4294967296) = ((key4 a b c d : Nat) : Int) := by
  have ha := a.toNat_lt; have hb := b.toNat_lt; have hc := c.toNat_lt; have hd := d.toNat_lt
  have e0 : (a.toNat : Int) % 4294967296 = ((a.toNat : Nat) : Int) := by omega
  have e1 : (b.toNat : Int) % 4294967296 * 256 % 4294967296 = ((2 ^ 8 * b.toNat : Nat) : Int) := by omega
  have e2 : (c.toNat : Int) % 4294967296 * 65536 % 4294967296 = ((2 ^ 16 * c.toNat : Nat) : Int) := by omega
  have e3 : (d.toNat : Int) % 4294967296 * 16777216 % 4294967296 = ((2 ^ 24 * d.toNat : Nat) : Int) := by omega
  rw [e0, e1, e2, e3, u32_or_nat _ _ (by omega) (by omega)]
  rw [Nat.or_comm, ← Nat.two_pow_add_eq_or_of_lt (by omega)]
  rw [u32_or_nat _ _ (by omega) (by omega), Nat.or_comm, ← Nat.two_pow_add_eq_or_of_lt (by omega)]
  rw [u32_or_nat _ _ (by omega) (by omega), Nat.or_comm, ← Nat.two_pow_add_eq_or_of_lt (by omega)]
  congr 1
  unfold key4
  omega

set_option maxRecDepth 100000 in
set_option maxHeartbeats 800000 in
theorem key_calls0 (l : List UInt8) (hl : 4 ≤ l.length) (hr : l.length ≤ 4611686018427387904) (w : World) :
    Calls Tryd.prog 51 #[.string (B l)] w fun e w' => e = .returned (.int .u32 (key4 l[0] l[1] l[2] l[3])) ∧ ∃ n, w' = w.drewN n := by
  have q0 : (0 : Int) < (l.length : Int) := by omega
  have q1 : (1 : Int) < (l.length : Int) := by omega
  have q2 : (2 : Int) < (l.length : Int) := by omega
  have q3 : (3 : Int) < (l.length : Int) := by omega
  generalize ha : l[0] = a
  generalize hb : l[1] = b
  generalize hc : l[2] = c
  generalize hd : l[3] = d
  go_enter Tryd.func51, Tryd.ntmps51
  go_wp2
  go_quiet (fail)
  go_wp2
  go_ret
  exact ⟨congrArg (fun n : Int => Ending.returned (.int .u32 n)) (u32_bits a b c d), _, rfl⟩
theorem key_calls (s : List UInt8) (i : Nat) (hi : i + 4 ≤ s.length) (hr : s.length ≤ 4611686018427387904) (w : World) :
    Calls Tryd.prog 51 #[.string (B (s.drop i))] w fun e w' => e = .returned (.int .u32 (keyAt s i)) ∧ ∃ n, w' = w.drewN n := by
  have hl : (s.drop i).length = s.length - i := List.length_drop
  refine (key_calls0 (s.drop i) (by omega) (by omega) w).mono fun e w' ⟨he, hw⟩ => ⟨?_, hw⟩
  rw [he]
  unfold keyAt
  rw [getD_lt (by omega), getD_lt (by omega), getD_lt (by omega), getD_lt (by omega)]
  simp

/-- What alike tells: so many bytes are the same, and no more. -/
def AlikeIs (s : List UInt8) (a b : Nat) (w : World) (e : Ending) (w' : World) : Prop :=
  ∃ n : Nat, e = .returned (.int .i64 n) ∧ b + n ≤ s.length ∧ (∀ j, j < n → s.getD (a + j) 0 = s.getD (b + j) 0) ∧ (b + n < s.length → s.getD (a + n) 0 ≠ s.getD (b + n) 0) ∧ ∃ q, w' = w.drewN q
set_option maxRecDepth 100000 in
set_option maxHeartbeats 800000 in
theorem alike_calls (s : List UInt8) (a b : Nat) (hab : a < b) (hb : b ≤ s.length) (hs : s.length ≤ 4611686018427387904) (w : World) :
    Calls Tryd.prog 52 #[.string (B s), .int .i64 a, .int .i64 b] w (AlikeIs s a b w) := by
  go_enter Tryd.func52, Tryd.ntmps52
  go_wp2
  go_loopw [7] (fun n wr => ∃ k q : Nat, n = .int .i64 k ∧ b + k ≤ s.length ∧ Hid (∀ j, j < k → s.getD (a + j) 0 = s.getD (b + j) 0) ∧ wr = w.drewN q) (fun n _ => s.length - (intOf n).toNat)
  case atStart => exact ⟨0, 0, rfl, by omega, fun j hj => absurd hj (by omega), rfl⟩
  case round =>
    obtain ⟨k, q, rfl, hk, hal, rfl⟩ := hrel
    have hw1 : IntKind.i64.wrap ((b : Int) + (k : Int)) = (b : Int) + (k : Int) := IntWalk.i64_in _ (by omega)
    have hw2 : IntKind.i64.wrap ((a : Int) + (k : Int)) = (a : Int) + (k : Int) := IntWalk.i64_in _ (by omega)
    have hn0 : (0 : Int) ≤ (b : Int) + (k : Int) := by omega
    have hn1 : (0 : Int) ≤ (a : Int) + (k : Int) := by omega
    have ht1 : ((b : Int) + (k : Int)).toNat = b + k := by omega
    have ht2 : ((a : Int) + (k : Int)).toNat = a + k := by omega
    by_cases hlt : b + k < s.length
    · have hl1 : (b : Int) + (k : Int) < (s.length : Int) := by omega
      have hl2 : (a : Int) + (k : Int) < (s.length : Int) := by omega
      have hx1 : s[b + k] = s.getD (b + k) 0 := (getD_lt hlt).symm
      have hx2 : s[a + k]'(by omega) = s.getD (a + k) 0 := (getD_lt (by omega)).symm
      have hstep : Hid (s.getD (a + k) 0 = s.getD (b + k) 0 → ∀ j, j < k + 1 → s.getD (a + j) 0 = s.getD (b + j) 0) := by
        intro he j hj
        by_cases h : j < k
        · exact hal.out j h
        · obtain rfl : j = k := by omega
          exact he
      generalize hy : s.getD (b + k) 0 = y at *
      generalize hz : s.getD (a + k) 0 = x at *
      have hy' := Lib.hid hy
      have hz' := Lib.hid hz
      clear hy hz
      by_cases he : x = y
      · subst he
        go_wp2
        go_quiet (fail)
        go_wp2
        go_roundw
        case rel => exact ⟨k + 1, q + nq, by go_num, by omega, hstep.out trivial, rfl⟩
        case measure => simp [intOf]; omega
      · have hxy : ((x.toNat : Int) == (y.toNat : Int)) = false := by
          simp only [beq_eq_false_iff_ne, ne_eq]
          intro h
          exact he (UInt8.toNat_inj.1 (by omega))
        go_wp2
        go_quiet (fail)
        go_wp2
        go_ret
        exact ⟨k, rfl, by omega, hal.out, fun _ => by rw [hy'.out, hz'.out]; exact he, q + nq, World.drewN_drewN _ _ _⟩
    · have hl1 : ¬ (b : Int) + (k : Int) < (s.length : Int) := by omega
      have hl2 : decide ((b : Int) + (k : Int) < (s.length : Int)) = false := by simpa using hl1
      go_wp2
      go_quiet (fail)
      go_wp2
      go_ret
      exact ⟨k, rfl, by omega, hal.out, fun h => absurd h hlt, q + nq, World.drewN_drewN _ _ _⟩

/-- The step that copies bytes as they stand, or nothing. -/
def plainOf (s : List UInt8) : List UInt8 := if s = [] then [] else put (2 * s.length) ++ s
theorem put_callsI (x : Int) (h0 : 0 ≤ x) (h1 : x ≤ 18446744073709551615) (w : World) :
    Calls Tryd.prog 27 #[.int .u64 x] w fun e w' => e = .returned (.string (B (put x.toNat))) ∧ Below w.heap.size w w' := by
  obtain ⟨n, rfl⟩ := Int.eq_ofNat_of_zero_le h0
  exact put_calls n (by omega) w
set_option maxRecDepth 100000 in
set_option maxHeartbeats 800000 in
theorem plain_calls (s : List UInt8) (hs : s.length ≤ 70368744177664) (w : World) :
    Calls Tryd.prog 53 #[.string (B s)] w fun e w' => e = .returned (.string (B (plainOf s))) ∧ Below w.heap.size w w' := by
  by_cases h : s = []
  · subst h
    go_enter Tryd.func53, Tryd.ntmps53
    go_wp2
    go_ret
    exact ⟨rfl, Below.refl _ _⟩
  · have he : s.isEmpty = false := by simp [h]
    have hp : Hid (plainOf s = put (2 * s.length) ++ s) := by rw [plainOf, if_neg h]; rfl
    have hl := put_length (2 * s.length)
    have hi : (2 * (s.length : Int)).toNat = 2 * s.length := by omega
    go_enter Tryd.func53, Tryd.ntmps53
    go_wp2_with (go_at_call 27; go_must (refine (put_callsI (2 * (s.length : Int)) (by omega) (by omega) _).mono ?_); rintro e w1 ⟨rfl, hb1⟩; rw [hi])
    all_goals first | (exfalso; omega) | skip
    go_ret
    exact ⟨by rw [hp.out]; rfl, hb1⟩
end Go.Proofs.YtoekdiklbfdpiaaDoor
/- The walk of layer 5's Pack. No condition but sizes that every memory has. -/
namespace Go.Proofs.YtoekdiklbfdpiaaDoor
open Go.RowKit Go.Maps

theorem Tryd.u32key : Keyed Tryd.prog 47 := int_keyed Tryd.underlying47
theorem Tryd.zeroInt (w : World) : (zeroValue 3).run Tryd.prog w = .ok (.int .i64 0) w := by kernel_rfl
/-- What Pack keeps, ahead of place i: all from fr on is still to be packed. -/
structure PackRel (s e : List UInt8) (fr i : Nat) (D : DataW Unit) : Prop where
  fri : fr ≤ i
  leads : Leads e [] (s.take fr)
  map : MapOk s i D
  run : RunOk s e fr i
theorem leads_plainOf {s e : List UInt8} {fr i : Nat} (h : Leads e [] (s.take fr)) (hf : fr ≤ i) (hi : i ≤ s.length) (hs : s.length ≤ 70368744177664) : Leads (e ++ plainOf ((s.drop fr).take (i - fr))) [] (s.take i) := by
  have ht : s.take fr ++ (s.drop fr).take (i - fr) = s.take i := by
    rw [show i = fr + (i - fr) from by omega, List.take_add, show fr + (i - fr) - fr = i - fr from by omega]
  have hl : ((s.drop fr).take (i - fr)).length = i - fr := by rw [List.length_take, List.length_drop]; omega
  unfold plainOf
  split
  · rename_i h0
    rw [h0, List.append_nil] at ht
    rw [List.append_nil, ← ht]
    exact h
  · rename_i h0
    have := h.trans (Leads.plain _ (s.take fr) h0 (by rw [hl]; omega))
    rwa [ht] at this
theorem PackRel.miss {s e : List UInt8} {fr i : Nat} {D : DataW Unit} (h : PackRel s e fr i D) (hi : i + 4 ≤ s.length) (hno : Maps.has D (kl (keyAt s i)) = false) : PackRel s e fr (i + 1) (D.put (kl (keyAt s i)) (vl i)) :=
  ⟨by have := h.fri; omega, h.leads, h.map.next hi (by omega), h.run.miss h.map hi hno⟩
theorem PackRel.far {s e : List UInt8} {fr i a : Nat} {D : DataW Unit} (h : PackRel s e fr i D) (hi : i + 4 ≤ s.length) (ha : a < i) (hf : 65535 < i - a) : PackRel s e fr (i + 1) (D.put (kl (keyAt s i)) (vl i)) :=
  ⟨by have := h.fri; omega, h.leads, h.map.next hi (by omega), h.run.far hi ha hf⟩
theorem plainOf_length (t : List UInt8) : (plainOf t).length ≤ 10 + t.length := by
  unfold plainOf
  split
  · simp
  · have := put_length (2 * t.length)
    rw [List.length_append]; omega
theorem plainOf_one (t : List UInt8) (h : t.length ≤ 1) : (plainOf t).length ≤ 2 := by
  unfold plainOf
  split
  · simp
  · have := put_small (2 * t.length) (by omega)
    rw [List.length_append]; omega
theorem PackRel.hit {s e : List UInt8} {fr i a n : Nat} {D : DataW Unit} (h : PackRel s e fr i D) (hs : s.length ≤ 70368744177664) (hi : i + 4 ≤ s.length) (ha : a < i) (hf : i - a ≤ 65535) (hk : keyAt s a = keyAt s i)
    (hn : i + n ≤ s.length) (hal : ∀ j, j < n → s.getD (a + j) 0 = s.getD (i + j) 0) (hmax : i + n < s.length → s.getD (a + n) 0 ≠ s.getD (i + n) 0) :
    PackRel s (e ++ (plainOf ((s.drop fr).take (i - fr)) ++ (put (2 * n + 1) ++ put (i - a)))) (i + n) (i + n) (D.put (kl (keyAt s i)) (vl i)) := by
  have hmax' : (h : i + n < s.length) → s[a + n]'(by omega) ≠ s[i + n] := fun hlt => by
    have := hmax hlt
    rwa [getD_lt (by omega), getD_lt (by omega)] at this
  have h4 := alike_four hi ha hk hmax'
  have hl : (s.take i).length = i := by rw [List.length_take]; omega
  refine ⟨Nat.le_refl _, ?_, h.map.next hi (by omega), h.run.hit hi ha hn hmax' _ fun h0 h1 => plainOf_one _ (by rw [List.length_take]; omega)⟩
  have := (leads_plainOf h.leads h.fri (by omega) hs).trans (Leads.far n (i - a) (s.take i) h4 (by omega) (by omega) hf (by omega))
  rw [back_alike s a i ha n hn (fun j hj hjn => by
    have := hal j hjn
    rwa [getD_lt (by omega), getD_lt (by omega)] at this)] at this
  rwa [List.append_assoc] at this
/-- All is packed: steps, or the text as it stands. -/
theorem PackRel.done {s e : List UInt8} {fr i : Nat} {D : DataW Unit} (h : PackRel s e fr i D) (hs : s.length ≤ 70368744177664) (hi : s.length < i + 4) (hfr : fr ≤ s.length) :
    ((1 :: (e ++ plainOf (s.drop fr))).length ≤ s.length → PackOk s (1 :: (e ++ plainOf (s.drop fr)))) ∧ (s.length < (1 :: (e ++ plainOf (s.drop fr))).length → PackOk s (0 :: s)) := by
  have hle : Leads (e ++ plainOf (s.drop fr)) [] s := by
    have := leads_plainOf h.leads hfr (Nat.le_refl _) hs
    rwa [List.take_of_length_le (by rw [List.length_drop]; omega), List.take_length] at this
  have hrun : ∀ (c : UInt8) (n : Nat), s = List.replicate n c → n ≤ 4096 → (1 :: (e ++ plainOf (s.drop fr))).length ≤ 8 ∧ (s.length < (1 :: (e ++ plainOf (s.drop fr))).length → s.length + 1 ≤ 8) := by
    intro c n hc hn
    have hl : s.length = n := by rw [hc]; simp
    rcases h.run c n hc hn with ⟨h1, h2, h3⟩ | ⟨h1, h2, h3⟩
    · have hb : (plainOf (s.drop fr)).length ≤ 5 := by
        have hn4 : n ≤ 4 := by omega
        have hd : (s.drop fr).length = n := by rw [List.length_drop]; omega
        unfold plainOf
        split
        · simp
        · have := put_small (2 * (s.drop fr).length) (by omega)
          rw [List.length_append]; omega
      simp only [h2, List.nil_append, List.length_cons]
      omega
    · have hd : s.drop fr = [] := List.drop_of_length_le (by omega)
      have hp : plainOf [] = [] := rfl
      simp only [hd, hp, List.append_nil, List.length_cons]
      omega
  refine ⟨fun hm => ⟨by omega, .inr ⟨_, rfl, hle⟩, fun c n hc hn => (hrun c n hc hn).1⟩, fun hm => ⟨by simp, .inl rfl, fun c n hc hn => ?_⟩⟩
  have := (hrun c n hc hn).2 hm
  simpa using this

theorem wf_u32 (n : Nat) (h : n < 4294967296) : (Lit.int .u32 (n : Int)).wf = true := by
  simp [Lit.wf, IntKind.min, IntKind.max, IntKind.signed, IntKind.bits]; omega
theorem at_eq {c : Int} {a : Nat} (h : (DataW.lit (.int .i64 c) : DataW Unit) = vl a) : c = (a : Int) := by
  injection h with h
  injection h with _ h
theorem own_belowM {P : Program} {k : TypeId} {R : Value → Option (DataW Unit × List MemPlace)} {w w' : World} {b n q : Nat} {D : DataW Unit} (h : w.ownsMap P k R b n D) (hb : Below (w.drewN q).heap.size (w.drewN q) w') : w'.ownsMap P k R b n D :=
  World.ownsMap.kept (row := none) h ⟨hb.os, hb.tape, hb.output, hb.size, fun k hk _ => hb.block k hk⟩ (by simp)
theorem own_belowM' {P : Program} {k : TypeId} {R : Value → Option (DataW Unit × List MemPlace)} {w w' : World} {b n : Nat} {D : DataW Unit} (h : w.ownsMap P k R b n D) (hb : Below w.heap.size w w') : w'.ownsMap P k R b n D :=
  World.ownsMap.kept (row := none) h ⟨hb.os, hb.tape, hb.output, hb.size, fun k hk _ => hb.block k hk⟩ (by simp)
/-- What Pack returns. -/
def PackIs (s : List UInt8) (W : World) (e : Ending) (w' : World) : Prop := ∃ p, e = .returned (.string (B p)) ∧ PackOk s p ∧ Below W.heap.size W w'

set_option maxRecDepth 100000 in
set_option maxHeartbeats 1000000 in
theorem pack_calls (s : List UInt8) (hs : s.length ≤ 1000000) (w : World) :
    Calls Tryd.prog 41 #[.string (B s)] w (PackIs s w) := by
  have hmm := @run_makeMap Tryd.prog
  have hc := fun (wx : World) (k : Nat) (x : Int) (h : k = wx.heap.size) => Tryd.str_of_oneAt wx k x h
  go_enter Tryd.func41, Tryd.ntmps41
  go_wp2
  go_loopw [4, 5, 6] (fun o f x wr => ∃ (i fr cnt : Nat) (e : List UInt8) (D : DataW Unit), x = .int .i64 i ∧ f = .int .i64 fr ∧ o = .string (B (1 :: e)) ∧ i ≤ s.length ∧ fr ≤ i ∧ cnt ≤ i ∧ e.length ≤ 40 * fr ∧ Hid (PackRel s e fr i D) ∧ wr.ownsMap Tryd.prog 47 (plainElem Tryd.prog 3) w.heap.size cnt D ∧ Below w.heap.size w wr) (fun _ _ x _ => s.length - (intOf x).toNat)
  case atStart => exact ⟨0, 0, 0, [], .map [], rfl, rfl, rfl, by omega, by omega, by omega, by simp, ⟨by omega, by simpa using Leads.refl [], MapOk.start s, RunOk.start s⟩, (World.ownsMap_made _ _ _ _).alloc _, ((Below.refl _ _).alloc (Nat.le_refl _) _).alloc (by simp) _⟩
  case round =>
    obtain ⟨i, fr, cnt, e, D, rfl, rfl, rfl, hi, hfr, hcnt, he, hrel, hown, hb⟩ := hrel
    have hbs := hb.size
    by_cases h4 : i + 4 ≤ s.length
    · have hk := keyAt_lt s i
      have wfk := Lib.hid (wf_u32 (keyAt s i) hk)
      have wfi := Lib.hid (WalkArith.wf_i64 (n := (i : Int)) (by omega))
      rcases hh : Maps.has D (kl (keyAt s i)) with _ | _
      · have hnext := Lib.hid (hrel.out.miss h4 hh)
        clear hrel
        go_wp2_with (first
          | (go_at_call 51; go_must (refine (key_calls s i h4 (by omega) _).mono ?_); rintro e1 w1 ⟨rfl, q, rfl⟩)
          | (at_lookup; go_must (refine wpList_lookup_own_ok_int _ rfl _ _ 105 rfl 47 3 .i64 Tryd.u32key Tryd.underlying105 Tryd.underlying3 (Tryd.zeroInt _) w.heap.size cnt D rfl hown _ _ rfl (keyOf_int_mk Tryd.underlying47 wfk.out) ?_); intro c hat hwc; clear hat hwc)
          | (at_mapUpdate; go_must (refine wpList_mapUpdate_own _ rfl _ _ _ 105 rfl 47 3 Tryd.u32key Tryd.underlying105 _ w.heap.size cnt D rfl hown (by unfold maxLen; omega) _ _ _ rfl rfl (keyOf_int_mk Tryd.underlying47 wfk.out) _ [] (plainElem_int Tryd.underlying3 wfi.out) ?_); intro w2 hown2 hgrow2; have hb2 : Below w.heap.size w w2 := (bdrewN hb q).grown hgrow2 hbs (fun j hj => by cases hj; exact Nat.le_refl _); clear hgrow2))
        all_goals first | (exfalso; omega) | skip
        go_roundw
        case rel => exact ⟨i + 1, fr, cnt + 1, e, _, by go_num, rfl, rfl, by omega, by omega, by omega, by omega, hnext, hown2, hb2⟩
        case measure => simp [intOf]; omega
      · obtain ⟨a, ha1, ha2, ha3, ha4⟩ := hrel.out.map.told _ hh
        by_cases hf : 65535 < i - a
        · have hnext := Lib.hid (hrel.out.far h4 ha3 hf)
          clear hrel
          go_wp2_with (first
            | (go_at_call 51; go_must (refine (key_calls s i h4 (by omega) _).mono ?_); rintro e1 w1 ⟨rfl, q, rfl⟩)
            | (at_lookup; go_must (refine wpList_lookup_own_ok_int _ rfl _ _ 105 rfl 47 3 .i64 Tryd.u32key Tryd.underlying105 Tryd.underlying3 (Tryd.zeroInt _) w.heap.size cnt D rfl hown _ _ rfl (keyOf_int_mk Tryd.underlying47 wfk.out) ?_); intro c hat hwc; have hca : c = (a : Int) := at_eq (hat.symm.trans ha1); clear hat hwc)
            | (at_mapUpdate; go_must (refine wpList_mapUpdate_own _ rfl _ _ _ 105 rfl 47 3 Tryd.u32key Tryd.underlying105 _ w.heap.size cnt D rfl hown (by unfold maxLen; omega) _ _ _ rfl rfl (keyOf_int_mk Tryd.underlying47 wfk.out) _ [] (plainElem_int Tryd.underlying3 wfi.out) ?_); intro w2 hown2 hgrow2; have hb2 : Below w.heap.size w w2 := (bdrewN hb q).grown hgrow2 hbs (fun j hj => by cases hj; exact Nat.le_refl _); clear hgrow2))
          all_goals first | (exfalso; omega) | skip
          go_roundw
          case rel => exact ⟨i + 1, fr, cnt + 1, e, _, by go_num, rfl, rfl, by omega, by omega, by omega, by omega, hnext, hown2, hb2⟩
          case measure => simp [intOf]; omega
        · have hf' : i - a ≤ 65535 := by omega
          go_wp2_with (first
            | (go_at_call 51; go_must (refine (key_calls s i h4 (by omega) _).mono ?_); rintro e1 w1 ⟨rfl, q, rfl⟩)
            | (at_lookup; go_must (refine wpList_lookup_own_ok_int _ rfl _ _ 105 rfl 47 3 .i64 Tryd.u32key Tryd.underlying105 Tryd.underlying3 (Tryd.zeroInt _) w.heap.size cnt D rfl hown _ _ rfl (keyOf_int_mk Tryd.underlying47 wfk.out) ?_); intro c hat hwc; have hca : c = (a : Int) := at_eq (hat.symm.trans ha1); clear hat hwc)
            | (at_mapUpdate; go_must (refine wpList_mapUpdate_own _ rfl _ _ _ 105 rfl 47 3 Tryd.u32key Tryd.underlying105 _ w.heap.size cnt D rfl hown (by unfold maxLen; omega) _ _ _ rfl rfl (keyOf_int_mk Tryd.underlying47 wfk.out) _ [] (plainElem_int Tryd.underlying3 wfi.out) ?_); intro w2 hown2 hgrow2; have hb2 : Below w.heap.size w w2 := (bdrewN hb q).grown hgrow2 hbs (fun j hj => by cases hj; exact Nat.le_refl _); clear hgrow2)
            | (go_at_call 52; go_must (refine (alike_calls s a i ha3 hi (by omega) _).mono ?_); rintro e1 w3 ⟨n, rfl, hn1, hn2, hn3, q3, rfl⟩; have hn2' := Lib.hid hn2; have hn3' := Lib.hid hn3; clear hn2 hn3)
            | (go_at_call 53; go_must (refine (plain_calls ((s.drop fr).take (i - fr)) (by rw [List.length_take, List.length_drop]; omega) _).mono ?_); rintro e1 w4 ⟨rfl, hb4⟩; have hb4' : Below w.heap.size w w4 := bthen (bdrewN hb2 q3) hb2.size hb4; have hbs4 := hb4'.size; have hm4 := own_belowM hown2 hb4; have hp4 := plainOf_length ((s.drop fr).take (i - fr)); rw [List.length_take, List.length_drop] at hp4)
            | (go_at_call 27; have _t := hp5; go_must (with_reducible refine (put_callsI ((i : Int) - (a : Int)) (by omega) (by omega) _).mono ?_); rintro e1 w6 ⟨rfl, hb6⟩; have hb6' : Below w.heap.size w w6 := bthen hb5' hbs5 hb6; have hm6 := own_belowM' hm5 hb6; rw [show ((i : Int) - (a : Int)).toNat = i - a from by omega]; have hp6 := put_length (i - a); clear _t)
            | (go_at_call 27; have _t := hp4; go_must (with_reducible refine (put_callsI (2 * (n : Int) + 1) (by omega) (by omega) _).mono ?_); rintro e1 w5 ⟨rfl, hb5⟩; have hb5' : Below w.heap.size w w5 := bthen hb4' hbs4 hb5; have hbs5 := hb5'.size; have hm5 := own_belowM' hm4 hb5; rw [show (2 * (n : Int) + 1).toNat = 2 * n + 1 from by omega]; have hp5 := put_length (2 * n + 1); clear _t)
            )
          all_goals first | (exfalso; omega) | skip
          have hnext := Lib.hid (hrel.out.hit (by omega) h4 ha3 hf' ha4 hn1 hn2'.out hn3'.out)
          have hn4 : 4 ≤ n := alike_four h4 ha3 ha4 (fun hlt => by
            have := hn3'.out hlt
            rwa [getD_lt (by omega), getD_lt (by omega)] at this)
          go_roundw
          case rel => exact ⟨i + n, i + n, cnt + 1, _, _, by go_num, by go_num, rfl, by omega, by omega, by omega, by simp only [List.length_append]; omega, hnext, hm6, hb6'⟩
          case measure => simp [intOf]; omega
    · have hdone := hrel.out.done (by omega) (by omega) (by omega)
      have hd1 := Lib.hid hdone.1
      have hd2 := Lib.hid hdone.2
      clear hdone hrel
      have hpl := plainOf_length (s.drop fr)
      rw [List.length_drop] at hpl
      go_wp2_with (go_at_call 53; go_must (refine (plain_calls (s.drop fr) (by rw [List.length_drop]; omega) _).mono ?_); rintro e1 w4 ⟨rfl, hb4⟩; have hb4' : Below w.heap.size w w4 := bthen hb hbs hb4)
      all_goals first | (exfalso; omega) | skip
      · go_ret
        exact ⟨_, rfl, hd2.out (by simp only [List.length_cons, List.length_append]; omega), hb4'.alloc hb4'.size _⟩
      · go_ret
        exact ⟨_, rfl, hd1.out (by simp only [List.length_cons, List.length_append]; omega), hb4'⟩
end Go.Proofs.YtoekdiklbfdpiaaDoor
/- The walks of Text on both sides. No condition. -/
namespace Go.Proofs.YtoekdiklbfdpiaaDoor
open Go.RowKit
set_option maxRecDepth 100000 in
set_option maxHeartbeats 1000000 in
theorem text_calls (s : Txt) (hs : s.length ≤ 1000000000) (w : World) : Calls Tryd.prog 40 #[.string (B s)] w fun e w' => e = .returned (.string (B (textE s))) ∧ Below w.heap.size w w' := by
  have hp := Lib.hid (put_calls s.length (by omega) w)
  have hpl := put_length s.length
  have hte : Hid (textE s = put s.length ++ s) := Lib.hid rfl
  generalize put s.length = P at *
  have hn : ¬ 9223372036854775807 < P.length + s.length := by omega
  go_enter Tryd.func40, Tryd.ntmps40
  go_wp2_with (first
    | ((with_reducible refine hp.out.mono ?_); rintro e w1 ⟨rfl, hb1⟩))
  go_ret
  exact ⟨by rw [hte.out]; rfl, hb1⟩
set_option maxRecDepth 100000 in
set_option maxHeartbeats 1000000 in
theorem refText_calls (s : Txt) (hs : s.length ≤ 1000000000) (w : World) : Calls Tryd.prog 19 #[.string (B s)] w fun e w' => e = .returned (.string (B (textE s))) ∧ Below w.heap.size w w' := by
  have hp := Lib.hid (refPut_calls s.length (by omega) w)
  have hpl := put_length s.length
  have hte : Hid (textE s = put s.length ++ s) := Lib.hid rfl
  generalize put s.length = P at *
  have hn : ¬ 9223372036854775807 < P.length + s.length := by omega
  go_enter Tryd.func19, Tryd.ntmps19
  go_wp2_with (first
    | ((with_reducible refine hp.out.mono ?_); rintro e w1 ⟨rfl, hb1⟩))
  go_ret
  exact ⟨by rw [hte.out]; rfl, hb1⟩
end Go.Proofs.YtoekdiklbfdpiaaDoor
/- The walks of layer 15: fine, bytes. No condition. -/
namespace Go.Proofs.YtoekdiklbfdpiaaDoor
open Go.RowKit
attribute [local go_sem ↓] ldvI_eq
/-- May an item be, behind so many? -/
def itFine (x : PItL) (i : Nat) : Bool := decide (x.data.length ≤ 4096) && (decide (x.kind = 0) && decide (x.base = noId') && decide (x.back = 0) || decide (x.kind = 1) && decide (x.base = noId') && decide (1 ≤ x.back) && decide (x.back ≤ (i : Int)) || decide (x.kind = 2) && decide (x.back = 0))
theorem zid15 : u8s noId' = #[.int .u8 0, .int .u8 0, .int .u8 0, .int .u8 0, .int .u8 0, .int .u8 0, .int .u8 0, .int .u8 0, .int .u8 0, .int .u8 0, .int .u8 0, .int .u8 0, .int .u8 0, .int .u8 0, .int .u8 0, .int .u8 0, .int .u8 0, .int .u8 0, .int .u8 0, .int .u8 0, .int .u8 0, .int .u8 0, .int .u8 0, .int .u8 0, .int .u8 0, .int .u8 0, .int .u8 0, .int .u8 0, .int .u8 0, .int .u8 0, .int .u8 0, .int .u8 0] := by rfl
theorem run_equalIn_zid (W : World) (l : Txt) (hl : l.length = 32) : (Op.equalIn 10000 36 (.agg (u8s l)) (.agg #[.int .u8 0, .int .u8 0, .int .u8 0, .int .u8 0, .int .u8 0, .int .u8 0, .int .u8 0, .int .u8 0, .int .u8 0, .int .u8 0, .int .u8 0, .int .u8 0, .int .u8 0, .int .u8 0, .int .u8 0, .int .u8 0, .int .u8 0, .int .u8 0, .int .u8 0, .int .u8 0, .int .u8 0, .int .u8 0, .int .u8 0, .int .u8 0, .int .u8 0, .int .u8 0, .int .u8 0, .int .u8 0, .int .u8 0, .int .u8 0, .int .u8 0, .int .u8 0])).run Tryd.prog W = .ok (decide (l = noId')) W := by
  have h := run_equalIn_bytes W 9998 Tryd.underlying36 (by kernel_rfl) Tryd.underlying5 (by kernel_rfl) (Option.isSome_iff_exists.1 (by kernel_rfl)) l noId' hl noId_len'
  rw [zid15] at h
  exact h
set_option maxRecDepth 100000 in
set_option maxHeartbeats 4000000 in
theorem fine_calls15 (x : PItL) (hx : x.base.length = 32) (i : Nat) (w : World) : Calls Tryd.prog 28 #[.agg (pitC x).toArray, .int .i64 i] w fun e w' => e = .returned (.bool (itFine x i)) ∧ Below w.heap.size w w' := by
  obtain ⟨F, hF⟩ : ∃ F, Hid (itFine x i = F) := ⟨_, Lib.hid rfl⟩
  rw [hF.out]
  have hf := hF.out
  unfold itFine at hf
  clear hF
  have heq := fun W => run_equalIn_zid W x.base hx
  obtain ⟨W1, hW1⟩ : ∃ W1, w.alloc (.cells (pitC x).toArray 54) = W1 := ⟨_, rfl⟩
  have hx1 : PitB W1 w.heap.size x := ⟨by rw [← hW1]; exact Blk.new _ _ _, hx⟩
  have b1 : Below w.heap.size w W1 := by rw [← hW1]; exact (Below.refl _ _).alloc (Nat.le_refl _) _
  have c0 := hx1.kind
  have c1 := hx1.back
  have c3 := hx1.data
  have c2 := run_ldvI15 hx1.baseR hx
  obtain ⟨cx, hcx⟩ : ∃ cx, (pitC x).toArray = cx := ⟨_, rfl⟩
  rw [hcx] at hW1 ⊢
  generalize u8s x.base = BX at *
  clear hx1 hcx
  obtain ⟨xk, xb, xi, xd⟩ := x
  simp only at hf c0 c1 c2 c3 heq hx
  clear hx
  by_cases hd : xd.length ≤ 4096
  · have d1 : ¬ (4096 : Int) < (xd.length : Int) := by omega
    by_cases hb : xi = noId'
    · rw [decide_eq_true hb] at heq
      rw [decide_eq_true hb, decide_eq_true hd] at hf
      by_cases k0 : xk = 0
      · have e0 : (xk == 0) = true := by simp [k0]
        have hff : Hid (F = (xb == 0)) := by show _ = _; rw [← hf, k0]; simp; rfl
        clear hf hb hd k0
        go_enter Tryd.func28, Tryd.ntmps28
        go_wp2
        all_goals try (exfalso; omega)
        go_ret
        exact ⟨by rw [hff.out]; rfl, b1⟩
      · have e0 : (xk == 0) = false := by simp [k0]
        by_cases k1 : xk = 1
        · have e1 : (xk == 1) = true := by simp [k1]
          by_cases hb1 : 1 ≤ xb
          · have hff : Hid (F = decide (xb ≤ (i : Int))) := by show _ = _; rw [← hf, k1]; simp [hb1]
            have m1 : (1 : Int) ≤ xb := hb1
            clear hf hb hd k0 k1
            go_enter Tryd.func28, Tryd.ntmps28
            go_wp2
            all_goals try (exfalso; omega)
            go_ret
            exact ⟨by rw [hff.out]; rfl, b1⟩
          · have hff : Hid (F = false) := by show _ = _; rw [← hf, k1]; simp [hb1]
            clear hf hb hd k0 k1
            go_enter Tryd.func28, Tryd.ntmps28
            go_wp2
            all_goals try (exfalso; omega)
            go_ret
            exact ⟨by rw [hff.out]; rfl, b1⟩
        · have e1 : (xk == 1) = false := by simp [k1]
          by_cases k2 : xk = 2
          · have e2 : (xk == 2) = true := by simp [k2]
            have hff : Hid (F = (xb == 0)) := by show _ = _; rw [← hf, k2]; simp; rfl
            clear hf hb hd k0 k1 k2
            go_enter Tryd.func28, Tryd.ntmps28
            go_wp2
            all_goals try (exfalso; omega)
            go_ret
            exact ⟨by rw [hff.out]; rfl, b1⟩
          · have e2 : (xk == 2) = false := by simp [k2]
            have hff : Hid (F = false) := by show _ = _; rw [← hf]; simp [k0, k1, k2]
            clear hf hb hd k0 k1 k2
            go_enter Tryd.func28, Tryd.ntmps28
            go_wp2
            all_goals try (exfalso; omega)
            go_ret
            exact ⟨by rw [hff.out]; rfl, b1⟩
    · rw [decide_eq_false hb] at heq
      rw [decide_eq_false hb, decide_eq_true hd] at hf
      by_cases k0 : xk = 0
      · have e0 : (xk == 0) = true := by simp [k0]
        have hff : Hid (F = false) := by show _ = _; rw [← hf, k0]; simp
        clear hf hb hd k0
        go_enter Tryd.func28, Tryd.ntmps28
        go_wp2
        all_goals try (exfalso; omega)
        go_ret
        exact ⟨by rw [hff.out]; rfl, b1⟩
      · have e0 : (xk == 0) = false := by simp [k0]
        by_cases k1 : xk = 1
        · have e1 : (xk == 1) = true := by simp [k1]
          have hff : Hid (F = false) := by show _ = _; rw [← hf, k1]; simp
          clear hf hb hd k0 k1
          go_enter Tryd.func28, Tryd.ntmps28
          go_wp2
          all_goals try (exfalso; omega)
          go_ret
          exact ⟨by rw [hff.out]; rfl, b1⟩
        · have e1 : (xk == 1) = false := by simp [k1]
          by_cases k2 : xk = 2
          · have e2 : (xk == 2) = true := by simp [k2]
            have hff : Hid (F = (xb == 0)) := by show _ = _; rw [← hf, k2]; simp; rfl
            clear hf hb hd k0 k1 k2
            go_enter Tryd.func28, Tryd.ntmps28
            go_wp2
            all_goals try (exfalso; omega)
            go_ret
            exact ⟨by rw [hff.out]; rfl, b1⟩
          · have e2 : (xk == 2) = false := by simp [k2]
            have hff : Hid (F = false) := by show _ = _; rw [← hf]; simp [k0, k1, k2]
            clear hf hb hd k0 k1 k2
            go_enter Tryd.func28, Tryd.ntmps28
            go_wp2
            all_goals try (exfalso; omega)
            go_ret
            exact ⟨by rw [hff.out]; rfl, b1⟩
  · have d1 : (4096 : Int) < (xd.length : Int) := by omega
    have hff : Hid (F = false) := by show _ = _; rw [← hf]; simp [hd]
    obtain ⟨bo, hbo⟩ : ∃ bo, decide (xi = noId') = bo := ⟨_, rfl⟩
    rw [hbo] at heq
    clear hf hd hbo
    go_enter Tryd.func28, Tryd.ntmps28
    go_wp2
    all_goals try (exfalso; omega)
    go_ret
    exact ⟨by rw [hff.out]; rfl, b1⟩
/-- string(x[a:b]) where ids lie amid other things. -/
theorem str_of_range (w : World) {g o : Nat} {l : List UInt8} {c : Nat} (h : w.rangeAt g o (u8s l).toList) (hc : l.length = c) :
    (convert 38 9 (.slice (some ⟨g, o, none⟩) c c)).run Tryd.prog w = .ok (.string (B l)) w := by
  subst hc
  rw [run_convert_bytes_arg w 38 5 Tryd.underlying38 Tryd.underlying5 g o l.length l.length (l.map fun c => (c.toNat : Int)) (by simp) (fun i hi => by
    rw [h i (.int .u8 ((l.getD i 0).toNat : Nat)) (by rw [Array.getElem?_toList]; exact u8s_get l i hi)]
    simp [List.getD, List.getElem?_map, List.getElem?_eq_getElem hi]) 9 Tryd.underlying9]
  have hl : (l.map fun c => (c.toNat : Int)).map (fun n => UInt8.ofNat n.toNat) = l := by
    rw [List.map_map]
    exact (List.map_congr_left (g := id) (fun c _ => by simp)).trans (List.map_id l)
  rw [strOfNums, hl]
  rfl
/-- What an item's bytes begin with. -/
def headB (x : PItL) : Txt := UInt8.ofNat x.kind.toNat :: (if x.kind = 1 then put x.back.toNat else if x.kind = 2 then x.base else [])
/-- An item's bytes, its text packed in whatever way. -/
def BytesIs (x : PItL) (l : Txt) : Prop := ∃ p, PackOk x.data p ∧ l = headB x ++ textE p
theorem put_calls15 (x : Int) (h0 : 0 ≤ x) (h1 : x ≤ 18446744073709551615) (w : World) :
    Calls Tryd.prog 27 #[.int .u64 x] w fun e w' => e = .returned (.string (B (put x.toNat))) ∧ Below w.heap.size w w' := by
  obtain ⟨n, rfl⟩ := Int.eq_ofNat_of_zero_le h0
  rw [Int.toNat_natCast]
  exact put_calls n (by omega) w
set_option maxRecDepth 100000 in
set_option maxHeartbeats 4000000 in
theorem bytes_calls15 (x : PItL) (hx : x.base.length = 32) (i : Nat) (hi : i ≤ 1000000) (hf : itFine x i = true) (w : World) : Calls Tryd.prog 29 #[.agg (pitC x).toArray] w fun e w' => ∃ l, e = .returned (.string (B l)) ∧ BytesIs x l ∧ Below w.heap.size w w' := by
  obtain ⟨xk, xb, xi, xd⟩ := x
  unfold itFine at hf
  simp only [Bool.and_eq_true, Bool.or_eq_true, decide_eq_true_eq] at hf hx
  obtain ⟨hd, hf⟩ := hf
  have hpk := fun W => pack_calls xd (by omega) W
  have htx := fun p (h : PackOk xd p) W => text_calls p (by have := h.most; omega) W
  have hpl := fun p (h : PackOk xd p) => (show (textE p).length ≤ 5000 by
    have h1 := h.most
    have h2 := put_length p.length
    unfold textE
    rw [List.length_append]
    omega)
  obtain ⟨W1, hW1⟩ : ∃ W1, w.alloc (.cells (pitC ⟨xk, xb, xi, xd⟩).toArray 54) = W1 := ⟨_, rfl⟩
  have hx1 : PitB W1 w.heap.size ⟨xk, xb, xi, xd⟩ := ⟨by rw [← hW1]; exact Blk.new _ _ _, hx⟩
  have b1 : Below w.heap.size w W1 := by rw [← hW1]; exact (Below.refl _ _).alloc (Nat.le_refl _) _
  have k1 := hx1.kind
  obtain ⟨W2, hW2⟩ : ∃ W2, W1.alloc (.cells #[.int .u8 xk] 5) = W2 := ⟨_, rfl⟩
  have bb2 : Below W1.heap.size W1 W2 := by rw [← hW2]; exact (Below.refl _ _).alloc (Nat.le_refl _) _
  have hx2 := hx1.below bb2
  have b2 := bthen b1 b1.size bb2
  have hcv := Tryd.str_of_one W1 xk
  rw [hW2] at hcv
  have k2 := hx2.kind
  have c2 := hx2.back
  have d2 := hx2.data
  have s2 := str_of_range W2 hx2.baseR hx
  simp only at k1 k2 c2 d2
  obtain ⟨cx, hcx⟩ : ∃ cx, (pitC ⟨xk, xb, xi, xd⟩).toArray = cx := ⟨_, rfl⟩
  rw [hcx] at hW1 ⊢
  clear hx1 hcx b1 bb2
  rcases hf with (⟨⟨h0, _⟩, _⟩ | ⟨⟨⟨h1, _⟩, hb1⟩, hb2⟩) | ⟨h2, _⟩
  · subst h0
    have hh : Hid (headB ⟨0, xb, xi, xd⟩ = [0]) := by show _ = _; unfold headB; rfl
    go_enter Tryd.func29, Tryd.ntmps29
    go_wp2_with (first
      | ((with_reducible refine (hpk W2).mono ?_); rintro e w3 ⟨p, rfl, hp, hb3⟩
         have b3 := bthen b2 b2.size hb3
         have hpl := hpl p hp)
      | ((with_reducible refine (htx p hp _).mono ?_); rintro e w4 ⟨rfl, hb4⟩
         have b4 := bthen b3 b3.size hb4))
    all_goals try (exfalso; omega)
    go_ret
    exact ⟨_, rfl, ⟨p, hp, by rw [hh.out]; rfl⟩, b4⟩
  · subst h1
    have hh : Hid (headB ⟨1, xb, xi, xd⟩ = 1 :: put xb.toNat) := by show _ = _; unfold headB; rfl
    have hpu := Lib.hid (put_calls15 xb (by omega) (by omega) W2)
    have hpul := put_length xb.toNat
    have w64 : IntKind.u64.wrap xb = xb := IntWalk.u64_in _ (by omega)
    generalize put xb.toNat = PX at *
    go_enter Tryd.func29, Tryd.ntmps29
    go_wp2_with (first
      | ((with_reducible refine hpu.out.mono ?_); rintro e w25 ⟨rfl, hb25⟩
         have b25 := bthen b2 b2.size hb25
         have d25 := (hx2.below hb25).data
         simp only at d25)
      | ((with_reducible refine (hpk w25).mono ?_); rintro e w3 ⟨p, rfl, hp, hb3⟩
         have b3 := bthen b25 b25.size hb3
         have hpl := hpl p hp)
      | ((with_reducible refine (htx p hp _).mono ?_); rintro e w4 ⟨rfl, hb4⟩
         have b4 := bthen b3 b3.size hb4))
    all_goals try (exfalso; simp at *; omega)
    go_ret
    exact ⟨_, rfl, ⟨p, hp, by rw [hh.out]; rfl⟩, b4⟩
  · subst h2
    have hh : Hid (headB ⟨2, xb, xi, xd⟩ = 2 :: xi) := by show _ = _; unfold headB; rfl
    go_enter Tryd.func29, Tryd.ntmps29
    go_wp2_with (first
      | ((with_reducible refine (hpk W2).mono ?_); rintro e w3 ⟨p, rfl, hp, hb3⟩
         have b3 := bthen b2 b2.size hb3
         have hpl := hpl p hp)
      | ((with_reducible refine (htx p hp _).mono ?_); rintro e w4 ⟨rfl, hb4⟩
         have b4 := bthen b3 b3.size hb4))
    all_goals try (exfalso; simp at *; omega)
    go_ret
    exact ⟨_, rfl, ⟨p, hp, by rw [hh.out]; rfl⟩, b4⟩
end Go.Proofs.YtoekdiklbfdpiaaDoor
/- The walks of strings.Builder's WriteString at this program. No condition. -/
namespace Go.Proofs.YtoekdiklbfdpiaaDoor
open Go.RowKit
theorem bldSize : (Tryd.prog.info? 71).map (·.size) = some 2 := by kernel_rfl
set_option maxRecDepth 100000 in
set_option maxHeartbeats 1000000 in
theorem copyCheck_used (b : Nat) (w : World) (h0 : w.cell? ⟨b, 0, none⟩ = some (.pointer (some ⟨b, 0, none⟩))) :
    Calls Tryd.prog 39 #[.pointer (some ⟨b, 0, none⟩)] w fun e w' => e = .returned (.tuple #[]) ∧ w' = w := by
  obtain ⟨j, hj, _⟩ := Option.map_eq_some_iff.1 bldSize
  go_enter Tryd.func39, Tryd.ntmps39
  go_wp2
  rw [Lib.run_neq_ptr_same w _ Tryd.underlying69 hj]
  go_wp2
  go_end0
  exact ⟨rfl, rfl⟩
theorem bldLies : liesAt Tryd.prog Tryd.prog.depth 71 (2 / Tryd.prog.cellsOf 71) 0 71 1 = true := by kernel_rfl
set_option maxRecDepth 100000 in
set_option maxHeartbeats 1000000 in
theorem copyCheck_fresh (b : Nat) (w : World) (h0 : w.cell? ⟨b, 0, none⟩ = some (.pointer none)) (hsh : w.shape? b = some (71, 2)) (hfz : w.frozen? ⟨b, 0, none⟩ = false) :
    Calls Tryd.prog 39 #[.pointer (some ⟨b, 0, none⟩)] w fun e w' => e = .returned (.tuple #[]) ∧ w' = w.setCell ⟨b, 0, none⟩ (.pointer (some ⟨b, 0, none⟩)) := by
  obtain ⟨j, hj, hjs⟩ := Option.map_eq_some_iff.1 bldSize
  go_enter Tryd.func39, Tryd.ntmps39
  go_wp2
  rw [Lib.run_to_unsafe w ⟨b, 0, none⟩ Tryd.underlying69 Tryd.underlying103 hj (by rw [hjs]; decide) hsh (Nat.zero_lt_succ 1)]
  simp only [Result.andThen]
  rw [Oper.upon_value]
  go_wp2
  rw [run_callFunc_extern Tryd.func50 (by kernel_rfl) (by kernel_rfl) (by kernel_rfl) (e := Extern.AbiNoEscape.same) (by kernel_rfl)]
  rw [Lib.run_noEscape]
  simp only [Result.andThen]
  rw [Oper.upon_value]
  go_wp2
  rw [Lib.run_from_unsafe w ⟨b, 0, none⟩ Tryd.underlying103 Tryd.underlying69 hj hsh bldLies]
  simp only [Result.andThen]
  rw [Oper.upon_value]
  go_wp2
  go_end0
  exact ⟨rfl, rfl⟩
theorem copyCheck_calls (B0 b : Nat) (bs : List Value) (w : World) (h : Lib.IsBuilder 71 5 B0 b bs w) :
    Calls Tryd.prog 39 #[.pointer (some ⟨b, 0, none⟩)] w fun e w' => e = .returned (.tuple #[]) ∧ Lib.BuilderAt 71 5 B0 b (.pointer (some ⟨b, 0, none⟩)) bs w' ∧ Below B0 w w' ∧ ∀ k, k ≠ b → w'.heap[k]? = w.heap[k]? := by
  rcases h with h | h
  · exact (copyCheck_fresh b w h.cell0 h.shape h.frozen0).mono fun e w' ⟨he, hw⟩ => by
      subst hw
      exact ⟨he, h.used _, (Below.refl B0 w).setCell (p := ⟨b, 0, none⟩) h.1 _, fun k hk => Below.heap_setCell w ⟨b, 0, none⟩ _ k hk⟩
  · exact (copyCheck_used b w h.cell0).mono fun e w' ⟨he, hw⟩ => by
      subst hw
      exact ⟨he, h, Below.refl B0 _, fun _ _ => rfl⟩
theorem grown_setCell (w : World) (p : Addr) (v : Value) : w.grownBy (w.setCell p v) (some p.block) :=
  ⟨rfl, rfl, rfl, by simp, fun k _ hk => Below.heap_setCell w p v k (fun e => hk (by rw [e]))⟩
set_option maxRecDepth 100000 in
set_option maxHeartbeats 1000000 in
theorem writeString_calls (B0 b : Nat) (l t : List UInt8) (w : World) (h : Lib.IsBuilder 71 5 B0 b (l.map u8v) w) (hlen : l.length + t.length ≤ 70368744177664) (hBw : B0 ≤ w.heap.size) :
    Calls Tryd.prog 26 #[.pointer (some ⟨b, 0, none⟩), .string (B t)] w fun e w' => e = .returned (.tuple #[.int .i64 t.length, .nilIface]) ∧ Lib.IsBuilder 71 5 B0 b ((l ++ t).map u8v) w' ∧ Below B0 w w' ∧ ∀ k T cs, Blk w k T cs → 5 ≠ T → k ≠ b → Blk w' k T cs := by
  have hcc := Lib.hid (copyCheck_calls B0 b (l.map u8v) w h)
  have hne5 : (5 : TypeId) ≠ 71 := by decide
  clear h
  go_enter Tryd.func26, Tryd.ntmps26
  go_wp2_with (first
    | (go_at_call 39; go_must (refine hcc.out.mono ?_); rintro e w1 ⟨rfl, h1, hb1, hfar1⟩
       obtain ⟨hB, v, hbk', hown', hne⟩ := h1
       have hbk : Blk w1 b 71 #[.pointer (some ⟨b, 0, none⟩), v] := hbk'
       have hown : OwnB w1 B0 5 v l := by unfold OwnB; rw [List.length_map] at hown'; exact hown'
       have c1 : w1.cell? ⟨b, 1, none⟩ = some v := hbk.cell 1
       have hbs1 := Nat.le_trans hBw hb1.size
       have hfar1 : ∀ k T cs, Blk w k T cs → k ≠ b → Blk w1 k T cs := fun k T cs h hk => (hfar1 k hk).trans h
       have hfar1 := Lib.hid hfar1
       clear hbk' hown' hcc)
    | (at_builtin
       refine wpList_append_bytes rfl (.tmp 12) (.tmp 13) _ _ rfl 5 Tryd.bytesTy Tryd.underlying9 B0 v l rfl hown t rfl hlen w hb1 hbs1 ?_
       intro v2 w2 hown2 hb2 hg2
       have hbk2 := hbk.grown hg2 (own_blk_ne hown hbk hne5)
       have c2 : w2.cell? ⟨b, 1, none⟩ = some v := hbk2.cell 1
       have f2 : w2.frozen? ⟨b, 1, none⟩ = false := hbk2.frozen 1
       have hvb := own_blk_ne hown2 hbk2 hne5
       obtain ⟨A2, cap2, hv2⟩ := OwnB.form' hown2
       subst hv2
       have hfar2 : Hid (∀ k T cs, Blk w1 k T cs → 5 ≠ T → Blk w2 k T cs) := fun k T cs h hT => h.grown hg2 (own_blk_ne hown h hT)
       clear hg2 c1))
  go_ret2
  have hbk3 : Blk (w2.setCell ⟨b, 1, none⟩ (.slice A2 (l ++ t).length cap2)) b 71 #[.pointer (some ⟨b, 0, none⟩), .slice A2 (l ++ t).length cap2] := hbk2.set_ 1 _
  have hown3 : OwnB (w2.setCell ⟨b, 1, none⟩ (.slice A2 (l ++ t).length cap2)) B0 5 (.slice A2 (l ++ t).length cap2) (l ++ t) :=
    OwnB.kept hown2 (grown_setCell w2 ⟨b, 1, none⟩ _) (.inr fun e => hvb e.symm)
  have hb3 : Below B0 w (w2.setCell ⟨b, 1, none⟩ (.slice A2 (l ++ t).length cap2)) := hb2.setCell (p := ⟨b, 1, none⟩) hB _
  rw [List.length_append] at hbk3 hown3 hb3 hvb
  refine ⟨rfl, .inr ⟨hB, _, hbk3, ?_, fun e => hvb e.symm⟩, hb3, fun k T cs h hT hk => (hfar2.out k T cs (hfar1.out k T cs h hk) hT).far (p := ⟨b, 1, none⟩) hk _⟩
  rw [List.length_map, List.length_append]
  unfold OwnB at hown3
  rw [List.length_append] at hown3
  exact hown3
theorem byteCells_u8v (l : List UInt8) : Lib.byteCells l = l.map u8v := rfl
/-- A builder just made. -/
theorem bld_new (w : World) : Lib.IsBuilder 71 5 w.heap.size w.heap.size [] (w.alloc (.cells #[.pointer none, .slice none 0 0] 71)) :=
  .inl ⟨Nat.le_refl _, .slice none 0 0, Blk.new w _ _, World.ownsRow_nil _ _ _ _, by simp [Value.ownBlock]⟩
end Go.Proofs.YtoekdiklbfdpiaaDoor
/- The walks of strings.Builder's WriteByte and Write at this program. No condition. -/
namespace Go.Proofs.YtoekdiklbfdpiaaDoor
open Go.RowKit
/-- append of bytes that lie anywhere. -/
theorem lit_append_part {P : Program} {ops : Array Oper} {rest : List Oper} {a : Act} {w : World} {Q : Exit → Act → World → Prop} {d : Option Tmp} {rt : TypeId} {pos : String} {af : Array Edge}
    (s x : Operand) (c : Nat) (t : TypeId) {e : TypeId} {z : Value} {size bytes : Nat} (hT : SliceTy P t e z size bytes) {base n : Nat} {v : Value} {xs : List Value} (hown : w.ownsRow base e size v n xs)
    {m : Nat} (ad : Addr) (news : List Value) (hl : news.length = m * size) (hnews : ∀ j u, news[j]? = some u → w.cell? (ad.add j) = some u) (h1 : ∀ u ∈ news, u.oneCell' = true)
    (h63 : n + m ≤ 9223372036854775807) (hbytes : (n + m) * bytes ≤ 140737488355328) (hbase : base ≤ w.heap.size) (hs : a.eval s = v) (hx : a.eval x = .slice (some ad) m c)
    (h : ∀ v' w', w'.ownsRow base e size v' (n + m) (xs ++ news) → w.grownBy w' v.ownBlock → wpList P ops Q rest (a.put d v') w') :
    wpList P ops Q ({ dst := d, op := .call { callee := .builtin .append, args := #[s, x], argTypes := #[t, t] }, type := rt, pos := pos, after := af, guard := none } :: rest) a w := by
  obtain ⟨i, i1, i2, i3, i4⟩ := hT.hi
  refine wpList_append_own_at w rfl s x t rfl base e i z size bytes hT.ht i1 i2 i3 i4 hT.hzs hT.hsz v n xs hs hown ad m c news hx hl hnews h1 (by simp only [maxLen]; omega) hbytes hbase ?_
  intro v' w' hown' hg _ _
  exact h v' w' hown' hg
theorem add_at (b o k : Nat) : (⟨b, o, none⟩ : Addr).add k = ⟨b, o + k, none⟩ := by simp [Addr.add]
theorem cell_of_heap {w w' : World} {p : Addr} (h : w'.heap[p.block]? = w.heap[p.block]?) : w'.cell? p = w.cell? p := by unfold World.cell?; rw [h]
theorem u8s_cells (t : List UInt8) : (u8s t).toList = t.map u8v := by simp [u8s]
set_option maxRecDepth 100000 in
set_option maxHeartbeats 1000000 in
theorem write_calls (B0 b : Nat) (l t : List UInt8) (w : World) (h : Lib.IsBuilder 71 5 B0 b (l.map u8v) w) (g off c : Nat) (hr : w.rangeAt g off (u8s t).toList) (hgb : g ≠ b) (hlen : l.length + t.length ≤ 70368744177664) (hBw : B0 ≤ w.heap.size) :
    Calls Tryd.prog 32 #[.pointer (some ⟨b, 0, none⟩), .slice (some ⟨g, off, none⟩) t.length c] w fun e w' => e = .returned (.tuple #[.int .i64 t.length, .nilIface]) ∧ Lib.IsBuilder 71 5 B0 b ((l ++ t).map u8v) w' ∧ Below B0 w w' ∧ ∀ k T cs, Blk w k T cs → 5 ≠ T → k ≠ b → Blk w' k T cs := by
  have hcc := Lib.hid (copyCheck_calls B0 b (l.map u8v) w h)
  have hne5 : (5 : TypeId) ≠ 71 := by decide
  have h63 : l.length + t.length ≤ 9223372036854775807 := by omega
  have h64 : (l.length + t.length) * 1 ≤ 140737488355328 := by omega
  have hl1 : (u8s t).toList.length = t.length * 1 := by rw [u8s_cells, List.length_map, Nat.mul_one]
  have ho1 : ∀ u ∈ (u8s t).toList, u.oneCell' = true := by
    intro u hu
    rw [u8s_cells, List.mem_map] at hu
    obtain ⟨c, _, rfl⟩ := hu; rfl
  clear h
  go_enter Tryd.func32, Tryd.ntmps32
  go_wp2_with (first
    | (at_builtin
       (with_reducible refine lit_append_part (.tmp 12) (.tmp 13) c _ Tryd.bytesTy hownR (m := t.length) ⟨g, off, none⟩ (u8s t).toList hl1 hn1 ho1 h63 h64 hbs1 ?_ ?_ ?_); rfl; rfl
       intro v2 w2 hown2' hg2
       have hown2 : OwnB w2 B0 5 v2 (l ++ t) := by unfold OwnB; rw [u8s_cells] at hown2'; rw [List.length_append, List.map_append]; exact hown2'
       have hb2 : Below B0 w w2 := hb1.grown hg2 hbs1 (fun k hk => (World.ownsRow.lt hown k hk).1)
       have hbk2 := hbk.grown hg2 (own_blk_ne hown hbk hne5)
       have c2 : w2.cell? ⟨b, 1, none⟩ = some v := hbk2.cell 1
       have f2 : w2.frozen? ⟨b, 1, none⟩ = false := hbk2.frozen 1
       have hvb := own_blk_ne hown2 hbk2 hne5
       obtain ⟨A2, cap2, hv2⟩ := OwnB.form' hown2
       subst hv2
       have hfar2 : Hid (∀ k T cs, Blk w1 k T cs → 5 ≠ T → Blk w2 k T cs) := fun k T cs h hT => h.grown hg2 (own_blk_ne hown h hT)
       clear hg2 c1 hown2')
    | (go_at_call 39; (with_reducible refine hcc.out.mono ?_); rintro e w1 ⟨rfl, h1, hb1, hfar1⟩
       obtain ⟨hB, v, hbk', hown', hne⟩ := h1
       have hbk : Blk w1 b 71 #[.pointer (some ⟨b, 0, none⟩), v] := hbk'
       have hown : OwnB w1 B0 5 v l := by unfold OwnB; rw [List.length_map] at hown'; exact hown'
       have hownR : w1.ownsRow B0 5 1 v l.length (l.map u8v) := hown
       have c1 : w1.cell? ⟨b, 1, none⟩ = some v := hbk.cell 1
       have hbs1 := Nat.le_trans hBw hb1.size
       have hn1 : ∀ j u, (u8s t).toList[j]? = some u → w1.cell? ((⟨g, off, none⟩ : Addr).add j) = some u := fun j u hu => by
         rw [add_at, cell_of_heap (w := w) (p := ⟨g, off + j, none⟩) (hfar1 g hgb)]
         exact hr j u hu
       have hfar1 : ∀ k T cs, Blk w k T cs → k ≠ b → Blk w1 k T cs := fun k T cs h hk => (hfar1 k hk).trans h
       have hfar1 := Lib.hid hfar1
       clear hbk' hown' hcc))
  go_ret2
  have hbk3 : Blk (w2.setCell ⟨b, 1, none⟩ (.slice A2 (l ++ t).length cap2)) b 71 #[.pointer (some ⟨b, 0, none⟩), .slice A2 (l ++ t).length cap2] := hbk2.set_ 1 _
  have hown3 : OwnB (w2.setCell ⟨b, 1, none⟩ (.slice A2 (l ++ t).length cap2)) B0 5 (.slice A2 (l ++ t).length cap2) (l ++ t) :=
    OwnB.kept hown2 (grown_setCell w2 ⟨b, 1, none⟩ _) (.inr fun e => hvb e.symm)
  have hb3 : Below B0 w (w2.setCell ⟨b, 1, none⟩ (.slice A2 (l ++ t).length cap2)) := hb2.setCell (p := ⟨b, 1, none⟩) hB _
  rw [List.length_append] at hbk3 hown3 hb3 hvb
  refine ⟨rfl, .inr ⟨hB, _, hbk3, ?_, fun e => hvb e.symm⟩, hb3, fun k T cs h hT hk => (hfar2.out k T cs (hfar1.out k T cs h hk) hT).far (p := ⟨b, 1, none⟩) hk _⟩
  rw [List.length_map, List.length_append]
  unfold OwnB at hown3
  rw [List.length_append] at hown3
  exact hown3
end Go.Proofs.YtoekdiklbfdpiaaDoor
/- A strings.Builder: its text; what its methods do to it. No condition. -/
namespace Go.Proofs.YtoekdiklbfdpiaaDoor
open Go.RowKit
abbrev Bld (w : World) (b : Nat) (l : Txt) : Prop := Lib.IsBuilder 71 5 b b (l.map u8v) w
theorem ib_below {T e : TypeId} {B0 b : Nat} {bs : List Value} {w w' : World} (h : Lib.IsBuilder T e B0 b bs w) (hb : Below w.heap.size w w') : Lib.IsBuilder T e B0 b bs w' := by
  have key : ∀ p, Lib.BuilderAt T e B0 b p bs w → Lib.BuilderAt T e B0 b p bs w' := by
    rintro p ⟨hB, v, hh, ho, hne⟩
    have hlt : b < w.heap.size := (show Blk w b T #[p, v] from hh).lt
    exact ⟨hB, v, (hb.block b hlt).trans hh, own_below ho hb, hne⟩
  exact h.imp (key _) (key _)
theorem ib_lt {T e : TypeId} {B0 b : Nat} {bs : List Value} {w : World} (h : Lib.IsBuilder T e B0 b bs w) : b < w.heap.size := by
  rcases h with ⟨_, v, hh, _⟩ | ⟨_, v, hh, _⟩
  · exact (show Blk w b T #[_, v] from hh).lt
  · exact (show Blk w b T #[_, v] from hh).lt
theorem Bld.below {w w' : World} {b : Nat} {l : Txt} (h : Bld w b l) (hb : Below w.heap.size w w') : Bld w' b l := ib_below h hb
theorem Bld.lt {w : World} {b : Nat} {l : Txt} (h : Bld w b l) : b < w.heap.size := ib_lt h
theorem ws_calls {w : World} {b : Nat} {l : Txt} (h : Bld w b l) (t : Txt) (hl : l.length + t.length ≤ 70368744177664) : Calls Tryd.prog 26 #[.pointer (some ⟨b, 0, none⟩), .string (B t)] w fun e w' => e = .returned (.tuple #[.int .i64 t.length, .nilIface]) ∧ Bld w' b (l ++ t) ∧ Below b w w' ∧ ∀ k T cs, Blk w k T cs → 5 ≠ T → k ≠ b → Blk w' k T cs :=
  writeString_calls b b l t w h hl (Nat.le_of_lt h.lt)
theorem wr_calls {w : World} {b : Nat} {l : Txt} (h : Bld w b l) (g off : Nat) (t : Txt) (ht : t.length = 32) (hr : w.rangeAt g off (u8s t).toList) (hgb : g ≠ b) (hl : l.length ≤ 10000000) : Calls Tryd.prog 32 #[.pointer (some ⟨b, 0, none⟩), .slice (some ⟨g, off, none⟩) 32 32] w fun e w' => e = .returned (.tuple #[.int .i64 32, .nilIface]) ∧ Bld w' b (l ++ t) ∧ Below b w w' ∧ ∀ k T cs, Blk w k T cs → 5 ≠ T → k ≠ b → Blk w' k T cs := by
  have := write_calls b b l t w h g off 32 hr hgb (by omega) (Nat.le_of_lt h.lt)
  rw [ht] at this
  exact this
theorem str_calls {w : World} {b : Nat} {l : Txt} (h : Bld w b l) : Calls Tryd.prog 31 #[.pointer (some ⟨b, 0, none⟩)] w fun e w' => e = .returned (.string (B l)) ∧ Below b w w' := Tryd.Builder_String_any b b l w h (Nat.le_of_lt h.lt)
theorem len_calls {w : World} {b : Nat} {l : Txt} (h : Bld w b l) : Calls Tryd.prog 33 #[.pointer (some ⟨b, 0, none⟩)] w fun e w' => e = .returned (.int .i64 l.length) ∧ w' = w := by
  have := Tryd.Builder_Len b b (l.map u8v) w h
  rwa [List.length_map] at this
end Go.Proofs.YtoekdiklbfdpiaaDoor
/- A strings.Builder that String has read, written on. No condition. -/
namespace Go.Proofs.YtoekdiklbfdpiaaDoor
open Go.RowKit
/-- A builder's text; its buffer's head may be frozen. -/
abbrev BldF (w : World) (b : Nat) (l : Txt) : Prop := Lib.IsBuilderF 71 5 b b (l.map u8v) w
theorem Bld.toF {w : World} {b : Nat} {l : Txt} (h : Bld w b l) : BldF w b l := Lib.IsBuilderF.of h
theorem BldF.lt {w : World} {b : Nat} {l : Txt} (h : BldF w b l) : b < w.heap.size := by
  rcases h with h | h
  · exact h.lt
  · exact h.lt
theorem own_belowF {w w' : World} {base n size : Nat} {e : TypeId} {v : Value} {xs : List Value} (h : w.ownsRowF base e size v n xs) (hb : Below w.heap.size w w') : w'.ownsRowF base e size v n xs := by
  refine ⟨h.1, ?_⟩
  rcases h.2 with hn | ⟨g, cap, cur, fz, hv, hbg, hg, rest⟩
  · exact .inl hn
  · have hlt : g < w.heap.size := (Array.getElem?_eq_some_iff.1 hg).1
    exact .inr ⟨g, cap, cur, fz, hv, hbg, (hb.block g hlt).trans hg, rest⟩
theorem BldF.below {w w' : World} {b : Nat} {l : Txt} (h : BldF w b l) (hb : Below w.heap.size w w') : BldF w' b l := by
  have key : ∀ p, Lib.BuilderAtF 71 5 b b p (l.map u8v) w → Lib.BuilderAtF 71 5 b b p (l.map u8v) w' := by
    intro p hp
    have hlt := hp.lt
    obtain ⟨hB, v, hh, ho, hne⟩ := hp
    exact ⟨hB, v, (hb.block b hlt).trans hh, own_belowF ho hb, hne⟩
  exact h.imp (key _) (key _)
theorem strF_calls {w : World} {b : Nat} {l : Txt} (h : BldF w b l) : Calls Tryd.prog 31 #[.pointer (some ⟨b, 0, none⟩)] w fun e w' => e = .returned (.string (B l)) ∧ BldF w' b l ∧ Below b w w' := Tryd.Builder_String_any_f b b l w h (Nat.le_of_lt h.lt)
theorem lenF_calls {w : World} {b : Nat} {l : Txt} (h : BldF w b l) : Calls Tryd.prog 33 #[.pointer (some ⟨b, 0, none⟩)] w fun e w' => e = .returned (.int .i64 l.length) ∧ w' = w := by
  have := Tryd.Builder_Len_f b b (l.map u8v) w h
  rwa [List.length_map] at this
theorem copyCheckF_calls {w : World} {b : Nat} {l : Txt} (h : BldF w b l) :
    Calls Tryd.prog 39 #[.pointer (some ⟨b, 0, none⟩)] w fun e w' => e = .returned (.tuple #[]) ∧ Lib.BuilderAtF 71 5 b b (.pointer (some ⟨b, 0, none⟩)) (l.map u8v) w' ∧ Below b w w' ∧ ∀ k, k ≠ b → w'.heap[k]? = w.heap[k]? := by
  rcases h with h | h
  · exact (copyCheck_fresh b w h.cell0 h.shape h.frozen0).mono fun e w' ⟨he, hw⟩ => by
      subst hw
      exact ⟨he, h.used _, (Below.refl b w).setCell (p := ⟨b, 0, none⟩) h.1 _, fun k hk => Below.heap_setCell w ⟨b, 0, none⟩ _ k hk⟩
  · exact (copyCheck_used b w h.cell0).mono fun e w' ⟨he, hw⟩ => by
      subst hw
      exact ⟨he, h, Below.refl b _, fun _ _ => rfl⟩
set_option maxRecDepth 100000 in
set_option maxHeartbeats 1000000 in
theorem wrF_calls {w : World} {b : Nat} {l : Txt} (h : BldF w b l) (g off : Nat) (t : Txt) (n : Nat) (ht : t.length = n) (hr : w.rangeAt g off (u8s t).toList) (hgb : g ≠ b) (hl : l.length + n ≤ 70368744177664) :
    Calls Tryd.prog 32 #[.pointer (some ⟨b, 0, none⟩), .slice (some ⟨g, off, none⟩) n n] w fun e w' => e = .returned (.tuple #[.int .i64 n, .nilIface]) ∧ BldF w' b (l ++ t) ∧ Below b w w' := by
  have hcc := Lib.hid (copyCheckF_calls h)
  have hblt := h.lt
  have hneT : (71 : TypeId) ≠ 5 := by decide
  have hl1 : (u8s t).toList.length = n * 1 := by rw [u8s_cells, List.length_map, Nat.mul_one, ht]
  have ho1 : ∀ u ∈ (u8s t).toList, u.oneCell' = true := by
    intro u hu
    rw [u8s_cells, List.mem_map] at hu
    obtain ⟨c, _, rfl⟩ := hu; rfl
  have h63 : (l.map u8v).length + n ≤ maxLen := by unfold maxLen; rw [List.length_map]; omega
  have h64 : ((l.map u8v).length + n) * 1 ≤ 140737488355328 := by rw [List.length_map]; omega
  obtain ⟨i, i1, i2, i3, i4⟩ := Tryd.bytesTy.hi
  have iT := Tryd.bytesTy
  clear h
  go_enter Tryd.func32, Tryd.ntmps32
  go_wp2_with (first
    | (at_builtin
       refine wpList_append_ownF _ rfl (.tmp 12) (.tmp 13) _ rfl b 5 i _ 1 1 iT.ht i1 i2 i3 i4 iT.hzs iT.hsz v _ _ rfl hown ⟨g, off, none⟩ n n (u8s t).toList rfl hl1 hn1 ho1 h63 h64 hbs1 ?_
       intro v2 w2 hown2 hg2 hnil
       have hb2 : Below b w w2 := hb1.grown hg2 hbs1 (fun k hk => (World.ownsRowF.lt hown k hk).1)
       have hbk2 := hbk.grown hg2 (fun e => hne e.symm)
       have c2 : w2.cell? ⟨b, 1, none⟩ = some v := hbk2.cell 1
       have f2 : w2.frozen? ⟨b, 1, none⟩ = false := hbk2.frozen 1
       have hlen2 : (l.map u8v).length + n = ((l ++ t).map u8v).length := by rw [List.map_append, List.length_append, List.length_map, List.length_map, ht]
       rw [hlen2, u8s_cells, ← List.map_append] at hown2
       have hput := Lib.BuilderAtF.put (p := .pointer (some ⟨b, 0, none⟩)) hB hbk2 hown2 hneT
       have hb3 : Below b w (w2.setCell ⟨b, 1, none⟩ v2) := hb2.setCell (p := ⟨b, 1, none⟩) hB _
       obtain ⟨A2, N2, cap2, hv2⟩ : ∃ A N cap, v2 = .slice A N cap := by
         rcases hown2.2 with ⟨hv, _⟩ | ⟨_, _, _, _, hv, _⟩
         · exact ⟨_, _, _, hv⟩
         · exact ⟨_, _, _, hv⟩
       subst hv2
       clear hg2 c1 hown2 hnil)
    | (go_at_call 39; (with_reducible refine hcc.out.mono ?_); rintro e w1 ⟨rfl, h1, hb1, hfar1⟩
       obtain ⟨hB, v, hbk', hown, hne⟩ := h1
       have hbk : Blk w1 b 71 #[.pointer (some ⟨b, 0, none⟩), v] := hbk'
       have c1 : w1.cell? ⟨b, 1, none⟩ = some v := hbk.cell 1
       have hbs1 : b ≤ w1.heap.size := Nat.le_trans (Nat.le_of_lt hblt) hb1.size
       have hn1 : ∀ j u, (u8s t).toList[j]? = some u → w1.cell? ((⟨g, off, none⟩ : Addr).add j) = some u := fun j u hu => by
         rw [add_at, cell_of_heap (w := w) (p := ⟨g, off + j, none⟩) (hfar1 g hgb)]
         exact hr j u hu
       clear hbk' hcc hfar1))
  go_ret2
  exact ⟨rfl, .inr hput, hb3⟩
end Go.Proofs.YtoekdiklbfdpiaaDoor
/- The walk of layer 15: Encode. Condition: the table of constants is as the program lays it. -/
namespace Go.Proofs.YtoekdiklbfdpiaaDoor
open Go.RowKit
attribute [local go_sem ↓] ldvP_eq
/-- Items that may be, the first behind so many. -/
def fineFrom : Nat → List PItL → Bool
  | _, [] => true
  | i, x :: l => itFine x i && fineFrom (i + 1) l
def fineP (l : List PItL) : Bool := decide (l.length ≤ 400) && fineFrom 0 l
theorem fineFrom_append : ∀ (i : Nat) (l m : List PItL), fineFrom i (l ++ m) = (fineFrom i l && fineFrom (i + l.length) m)
  | i, [], m => by simp [fineFrom]
  | i, x :: l, m => by
    rw [List.cons_append, fineFrom, fineFrom, fineFrom_append (i + 1) l m, Bool.and_assoc, List.length_cons, show i + 1 + l.length = i + (l.length + 1) from by omega]
theorem fineFrom_at {i : Nat} {l : List PItL} (h : fineFrom i l = true) {k : Nat} {x : PItL} (hx : l[k]? = some x) : itFine x (i + k) = true := by
  induction l generalizing i k with
  | nil => simp at hx
  | cons y l ih =>
    rw [fineFrom, Bool.and_eq_true] at h
    cases k with
    | zero =>
      injection hx with hx
      subst hx
      exact h.1
    | succ k =>
      have := ih h.2 hx
      rwa [show i + 1 + k = i + (k + 1) from by omega] at this
/-- The items' bytes. -/
def BodyIs : List PItL → Txt → Prop
  | [], t => t = []
  | x :: l, t => ∃ b r, BytesIs x b ∧ t = b ++ r ∧ BodyIs l r
theorem BodyIs.snoc : ∀ {l : List PItL} {t b : Txt} {x : PItL}, BodyIs l t → BytesIs x b → BodyIs (l ++ [x]) (t ++ b)
  | [], t, b, x, h, hb => by
    obtain rfl : t = [] := h
    exact ⟨b, [], hb, by simp, rfl⟩
  | y :: l, t, b, x, h, hb => by
    obtain ⟨b1, r, h1, rfl, h2⟩ := h
    exact ⟨b1, r ++ b, h1, by simp, BodyIs.snoc h2 hb⟩
theorem itFine_data {x : PItL} {i : Nat} (h : itFine x i = true) : x.data.length ≤ 4096 := by
  unfold itFine at h
  simp only [Bool.and_eq_true, decide_eq_true_eq] at h
  exact h.1
theorem BytesIs.len {x : PItL} {b : Txt} {i : Nat} (h : BytesIs x b) (hx : x.base.length = 32) (hf : itFine x i = true) : b.length ≤ 5000 := by
  obtain ⟨p, hp, rfl⟩ := h
  have h1 := hp.most
  have h2 := put_length p.length
  have h3 := itFine_data hf
  have h4 := put_length x.back.toNat
  unfold headB textE
  rw [List.length_append, List.length_append, List.length_cons]
  split
  · omega
  · split
    · omega
    · simp only [List.length_nil]; omega
theorem BodyIs.len : ∀ {l : List PItL} {t : Txt} {i : Nat}, BodyIs l t → PitsOk l → fineFrom i l = true → t.length ≤ 5000 * l.length
  | [], t, i, h, _, _ => by
    obtain rfl : t = [] := h
    simp
  | y :: l, t, i, h, hok, hf => by
    obtain ⟨b1, r, h1, rfl, h2⟩ := h
    rw [fineFrom, Bool.and_eq_true] at hf
    have e1 := h1.len (hok y (by simp)) hf.1
    have e2 := h2.len (fun z hz => hok z (by simp [hz])) hf.2
    rw [List.length_append, List.length_cons]
    omega
/-- What is encoded, behind the magic: the number and the items; and its sum. -/
def EncIs (l : List PItL) (s : Txt) : Prop := ∃ t, BodyIs l t ∧ s = (pk5 ++ put l.length ++ t) ++ shaOf (pk5 ++ put l.length ++ t)
/-- What Encode returns. -/
def EncR (l : List PItL) (e : Ending) : Prop :=
  if fineP l = true then ∃ s, EncIs l s ∧ e = .returned (if 262144 < s.length then .tuple #[.string (B []), .int .i64 3] else .tuple #[.string (B s), .int .i64 0])
  else e = .returned (.tuple #[.string (B []), .int .i64 1])
set_option maxRecDepth 100000 in
set_option maxHeartbeats 8000000 in
theorem encode_calls15 (l : List PItL) (hok : PitsOk l) (va : Value) (w : World) (hK : TabK w) (ha : Pits w va l) :
    Calls Tryd.prog 15 #[va] w fun e w' => EncR l e ∧ Below w.heap.size w w' := by
  have hla := ha.len
  obtain ⟨A, capa, rfl, ha1, ha2, hata⟩ := ha
  by_cases h400 : l.length ≤ 400
  · have i1 : ¬ (400 : Int) < (l.length : Int) := by omega
    have hpu := Lib.hid (put_calls l.length (by omega) (w.alloc (.cells #[.pointer none, .slice none 0 0] 71)))
    have hpl := put_length l.length
    have hb0 : Bld (w.alloc (.cells #[.pointer none, .slice none 0 0] 71)) w.heap.size [] := bld_new w
    have bb0 : Below w.heap.size w (w.alloc (.cells #[.pointer none, .slice none 0 0] 71)) := (Below.refl _ _).alloc (Nat.le_refl _) _
    obtain ⟨PL, hPL⟩ : ∃ PL, put l.length = PL := ⟨_, rfl⟩
    rw [hPL] at hpu hpl
    have hzl : (pitC zPit).toArray.size = 35 := pitC_size noId_len'
    have hzv := zeroPit
    obtain ⟨W0, hW0⟩ : ∃ W0, w.alloc (.cells #[.pointer none, .slice none 0 0] 71) = W0 := ⟨_, rfl⟩
    rw [hW0] at hpu hb0 bb0
    obtain ⟨HD, hHD⟩ : ∃ HD, pk5 ++ PL = HD := ⟨_, rfl⟩
    have hw5 : (75 :: 78 :: 65 :: 80 :: 1 :: PL : List UInt8) = HD := hHD
    have hHl : HD.length ≤ 15 := by
      rw [← hw5]
      simp only [List.length_cons]
      omega
    have hst := fun W (h : Bld W w.heap.size []) => ws_calls h HD (by simp only [List.length_nil]; omega)
    rw [List.nil_append] at hst
    go_enter Tryd.func15, Tryd.ntmps15
    go_wp2_with (first
      | ((with_reducible refine hpu.out.mono ?_); rintro e w1 ⟨rfl, b1⟩
         have h1 := hb0.below b1
         have bb1 := bthen bb0 bb0.size b1)
      | ((with_reducible refine (hst _ h1).mono ?_); rintro e w2 ⟨rfl, h2, b2, hk2⟩
         have bb2 := bb1.trans b2))
    all_goals try (exfalso; simp at *; omega)
    clear hst hpu hb0 bb0 hW0 h1 bb1 hk2 b1 b2
    go_loopw [19] (fun vi wr => ∃ (k : Nat) (t : Txt), vi = .int .i64 k ∧ k ≤ l.length ∧ Hid (fineFrom 0 (l.take k) = true) ∧ BodyIs (l.take k) t ∧ t.length ≤ 5000 * k ∧ Bld wr w.heap.size (HD ++ t) ∧ Below w.heap.size w wr) (fun vi _ => l.length - (intOf vi).toNat)
    case atStart => exact ⟨0, [], rfl, by omega, by show _ = _; rw [List.take_zero]; rfl, rfl, by simp, by rw [List.append_nil]; exact h2, bb2⟩
    case round =>
      obtain ⟨k, t, rfl, hk, hfk, hbk, htl, hBk, hbel⟩ := hrel
      clear h2 bb2
      by_cases hlt : k < l.length
      · have hki : (k : Int) < (l.length : Int) := by omega
        obtain ⟨ga, oa, rfl, hga, hca⟩ := hata (by omega)
        obtain ⟨x, hx⟩ : ∃ x, l[k]? = some x := ⟨_, List.getElem?_eq_getElem hlt⟩
        have hx32 : x.base.length = 32 := hok x (List.mem_of_getElem? hx)
        have hca := rangeAt_below (hca k x hx) hga hbel
        have ldx := run_ldvP hca hx32
        have hfi := fun W => fine_calls15 x hx32 k W
        have hc35 : (pitC x).toArray.size = 35 := pitC_size hx32
        have hcone := pitC_all x
        have hldn : ∀ W g, Blk W g 54 (pitC x).toArray → (ldvP ⟨g, 0, none⟩).run Tryd.prog W = .ok (.agg (pitC x).toArray) W := fun W g h => PitB.load ⟨h, hx32⟩
        by_cases hfx : itFine x k = true
        · have hby := fun W => bytes_calls15 x hx32 k (by omega) hfx W
          have hfk2 : Hid (fineFrom 0 (l.take (k + 1)) = true) := by
            show _ = _
            rw [List.take_add_one, hx, fineFrom_append, hfk.out, List.length_take, Nat.min_eq_left (by omega)]
            simp [fineFrom, hfx]
          have hsn : ∀ b, BytesIs x b → BodyIs (l.take (k + 1)) (t ++ b) ∧ b.length ≤ 5000 := fun b hb => by
            refine ⟨?_, hb.len hx32 hfx⟩
            rw [List.take_add_one, hx]
            exact hbk.snoc hb
          have hws := fun W (h : Bld W w.heap.size (HD ++ t)) b (hb : b.length ≤ 5000) => ws_calls h b (by rw [List.length_append]; omega)
          rw [hfx] at hfi
          obtain ⟨CS, hCS⟩ : ∃ CS, (pitC x).toArray = CS := ⟨_, rfl⟩
          rw [hCS] at ldx hfi hc35 hcone hldn hby
          clear hCS hfk hfx hca hata
          go_wp2_with (first
            | ((with_reducible refine lit_new 54 (.tmp 6) (.tmp 23) CS 35 szPit hc35 hcone _ ?_ ?_ ?_ ?_)
               · first | exact hzl | rfl
               · rfl
               · rfl
               intro W3 hb3 hbl3
               have b3 := bthen hbel hbel.size hbl3
               have h3 := hBk.below hbl3
               have ld3 := hldn _ _ hb3)
            | ((with_reducible refine (hfi _).mono ?_); rintro e w4 ⟨rfl, bb4⟩
               have b4 := bthen b3 b3.size bb4
               have h4 := h3.below bb4
               have hb4 := hb3.below bb4 hb3.lt
               have ld4 := hldn _ _ hb4)
            | ((with_reducible refine (hby _).mono ?_); rintro e w5 ⟨b, rfl, hbs, bb5⟩
               have b5 := bthen b4 b4.size bb5
               have h5 := h4.below bb5
               have hs5 := hsn b hbs)
            | ((with_reducible refine (hws _ h5 b hs5.2).mono ?_); rintro e w6 ⟨rfl, h6, bb6, hk6⟩
               have b6 := b5.trans bb6))
          all_goals try (exfalso; omega)
          rw [List.append_assoc] at h6
          have hs6 : (t ++ b).length ≤ 5000 * (k + 1) := by rw [List.length_append]; have := hs5.2; omega
          go_roundw
          case rel => exact ⟨k + 1, t ++ b, by go_num, by omega, hfk2, hs5.1, hs6, h6, b6⟩
          case measure => simp [intOf]; omega
        · have hno : Hid (fineP l = false) := by
            show _ = _
            rw [Bool.eq_false_iff]
            intro h
            unfold fineP at h
            rw [Bool.and_eq_true] at h
            have := fineFrom_at h.2 hx
            rw [Nat.zero_add] at this
            exact hfx this
          rw [Bool.not_eq_true] at hfx
          rw [hfx] at hfi
          obtain ⟨CS, hCS⟩ : ∃ CS, (pitC x).toArray = CS := ⟨_, rfl⟩
          rw [hCS] at ldx hfi hc35 hcone hldn
          clear hCS hfk hfx hca hata
          go_wp2_with (first
            | ((with_reducible refine lit_new 54 (.tmp 6) (.tmp 23) CS 35 szPit hc35 hcone _ ?_ ?_ ?_ ?_)
               · first | exact hzl | rfl
               · rfl
               · rfl
               intro W3 hb3 hbl3
               have b3 := bthen hbel hbel.size hbl3
               have ld3 := hldn _ _ hb3)
            | ((with_reducible refine (hfi _).mono ?_); rintro e w4 ⟨rfl, bb4⟩
               have b4 := bthen b3 b3.size bb4))
          all_goals try (exfalso; omega)
          go_ret2
          refine ⟨?_, b4⟩
          unfold EncR
          rw [hno.out]
          rfl
      · have hki : ¬ (k : Int) < (l.length : Int) := by omega
        obtain rfl : k = l.length := by omega
        rw [List.take_length] at hfk hbk
        obtain ⟨Z, hZ⟩ : ∃ Z, HD ++ t = Z := ⟨_, rfl⟩
        have hZl : Z.length ≤ 2000015 := by rw [← hZ, List.length_append]; omega
        have hyes : Hid (fineP l = true) := by
          show _ = _
          unfold fineP
          rw [hfk.out, decide_eq_true h400]
          rfl
        have hEnc : EncIs l (Z ++ shaOf Z) := ⟨t, hbk, by rw [hPL, hHD, hZ]⟩
        rw [hZ] at hBk
        have hs1 := Lib.hid (strF_calls hBk.toF)
        have hsum : ∀ W, Below w.heap.size w W → Calls Tryd.prog 30 #[.slice (some ⟨W.heap.size, 0, none⟩) 1 1] (W.alloc (.cells #[.string (B Z)] 9)) fun e w' => e = .returned (.agg (u8s (shaOf Z))) ∧ Below (W.alloc (.cells #[.string (B Z)] 9)).heap.size (W.alloc (.cells #[.string (B Z)] 9)) w' := fun W hb => by
          have hy2 : Blk (W.alloc (.cells #[.string (B Z)] 9)) W.heap.size 9 #[.string (B Z)] := Blk.new _ _ _
          have hst : Strs (W.alloc (.cells #[.string (B Z)] 9)) (.slice (some ⟨W.heap.size, 0, none⟩) 1 1) [Z] := .inr ⟨W.heap.size, 0, 1, rfl, fun j l hj => by
            match j, hj with
            | 0, hj =>
              injection hj with hj
              subst hj
              rw [hy2.cell]; rfl
            | j + 1, hj => simp at hj, hy2.lt, by simp, by simp⟩
          have hsum := sum_calls [Z] _ _ (hK.below (hb.alloc hb.size _)) hst (by simp; omega)
          have hfl : [Z].flatten = Z := by simp
          rw [hfl] at hsum
          exact hsum
        have hsum := Lib.hid hsum
        have hl32 := shaOf_length Z
        have hsI := sz32
        have hD32 : (u8s (shaOf Z)).size = 32 := by rw [u8s_size, hl32]
        have hDone := u8s_one (shaOf Z)
        have hrow : ∀ W g, Blk W g 36 (u8s (shaOf Z)) → W.rangeAt g 0 (u8s (shaOf Z)).toList := fun W g h => range_blk h
        have hEl : (Z ++ shaOf Z).length = Z.length + 32 := by rw [List.length_append, hl32]
        have hzI : ∀ W : World, (zeroValue 36).run Tryd.prog W = .ok (.agg (u8s noId')) W := fun W => by
          have h : (Tryd.prog.info? 36).map (·.zero) = some (some (.agg (u8s noId'))) := by kernel_rfl
          obtain ⟨i, h1, h2⟩ := Option.map_eq_some_iff.1 h
          simp [zeroValue, typeInfo, h1, h2]
        have hzl2 : (u8s noId').size = 32 := by rw [u8s_size, noId_len']
        have hEncR : ∀ e : Ending, (e = if 262144 < (Z ++ shaOf Z).length then .returned (.tuple #[.string (B []), .int .i64 3]) else .returned (.tuple #[.string (B (Z ++ shaOf Z)), .int .i64 0])) → EncR l e := fun e he => by
          unfold EncR
          rw [if_pos hyes.out]
          exact ⟨_, hEnc, by rw [he]; split <;> rfl⟩
        have hwr := fun W (h : BldF W w.heap.size Z) g (hr : W.rangeAt g 0 (u8s (shaOf Z)).toList) (hg : g ≠ w.heap.size) => wrF_calls h g 0 (shaOf Z) 32 hl32 hr hg (by omega)
        clear hEnc hyes hZ hw5 hHD hPL hfk hbk htl hzl hzv hata hok h400 hpl hHl
        generalize shaOf Z = SH at *
        generalize u8s noId' = ZI at *
        obtain ⟨ZS, hZS⟩ : ∃ ZS, Z ++ SH = ZS := ⟨_, rfl⟩
        rw [hZS] at hEl hEncR hwr
        by_cases hbig : 262144 < ZS.length
        · rw [if_pos hbig] at hEncR
          have m1 : (262144 : Int) < (ZS.length : Int) := by omega
          clear hEl
          go_wp2_with (first
            | ((with_reducible refine hs1.out.mono ?_); rintro e w3 ⟨rfl, f3, b3⟩
               have bb3 := hbel.trans b3
               have hlt3 := f3.lt
               have f4 := f3.below ((Below.refl _ _).alloc (Nat.le_refl _) (.cells #[.string (B Z)] 9)))
            | ((with_reducible refine (hsum.out w3 bb3).mono ?_); rintro e w5 ⟨rfl, b5⟩
               have bb5 := bthen (bb3.alloc bb3.size (.cells #[.string (B Z)] 9)) (bb3.alloc bb3.size (.cells #[.string (B Z)] 9)).size b5
               have f5 := f4.below b5)
            | ((with_reducible refine lit_new 36 (.tmp 7) (.tmp 34) (u8s SH) 32 hsI hD32 hDone _ ?_ ?_ ?_ ?_)
               · first | exact hzl2 | rfl
               · rfl
               · rfl
               intro W6 hb6 hbl6
               have bb6 := bthen bb5 bb5.size hbl6
               have f6 := f5.below hbl6
               have hne6 : w5.heap.size ≠ w.heap.size := by have := f5.lt; omega
               have hr6 := hrow _ _ hb6)
            | ((with_reducible refine (hwr _ f6 _ hr6 hne6).mono ?_); rintro e w7 ⟨rfl, f7, b7⟩
               have bb7 := bb6.trans b7)
            | ((with_reducible refine (lenF_calls f7).mono ?_); rintro e w8 ⟨rfl, rfl⟩))
          all_goals try (exfalso; omega)
          go_ret2
          exact ⟨hEncR _ rfl, bb7⟩
        · rw [if_neg hbig] at hEncR
          have m1 : ¬ (262144 : Int) < (ZS.length : Int) := by omega
          clear hEl
          go_wp2_with (first
            | ((with_reducible refine hs1.out.mono ?_); rintro e w3 ⟨rfl, f3, b3⟩
               have bb3 := hbel.trans b3
               have hlt3 := f3.lt
               have f4 := f3.below ((Below.refl _ _).alloc (Nat.le_refl _) (.cells #[.string (B Z)] 9)))
            | ((with_reducible refine (hsum.out w3 bb3).mono ?_); rintro e w5 ⟨rfl, b5⟩
               have bb5 := bthen (bb3.alloc bb3.size (.cells #[.string (B Z)] 9)) (bb3.alloc bb3.size (.cells #[.string (B Z)] 9)).size b5
               have f5 := f4.below b5)
            | ((with_reducible refine lit_new 36 (.tmp 7) (.tmp 34) (u8s SH) 32 hsI hD32 hDone _ ?_ ?_ ?_ ?_)
               · first | exact hzl2 | rfl
               · rfl
               · rfl
               intro W6 hb6 hbl6
               have bb6 := bthen bb5 bb5.size hbl6
               have f6 := f5.below hbl6
               have hne6 : w5.heap.size ≠ w.heap.size := by have := f5.lt; omega
               have hr6 := hrow _ _ hb6)
            | ((with_reducible refine (hwr _ f6 _ hr6 hne6).mono ?_); rintro e w7 ⟨rfl, f7, b7⟩
               have bb7 := bb6.trans b7)
            | ((with_reducible refine (lenF_calls f7).mono ?_); rintro e w8 ⟨rfl, rfl⟩)
            | ((with_reducible refine (strF_calls f7).mono ?_); rintro e w9 ⟨rfl, f9, b9⟩
               have bb9 := bb7.trans b9))
          all_goals try (exfalso; omega)
          go_ret2
          exact ⟨hEncR _ rfl, bb9⟩
  · have i1 : (400 : Int) < (l.length : Int) := by omega
    have hno : Hid (fineP l = false) := by
      show _ = _
      unfold fineP
      rw [decide_eq_false h400]
      rfl
    go_enter Tryd.func15, Tryd.ntmps15
    go_wp2
    all_goals try (exfalso; omega)
    go_ret2
    refine ⟨?_, Below.refl _ _⟩
    unfold EncR
    rw [hno.out]
    rfl
end Go.Proofs.YtoekdiklbfdpiaaDoor
/- The walk of layer 15: Decode, Places. Condition: the table of constants is as the program lays it. -/
namespace Go.Proofs.YtoekdiklbfdpiaaDoor
open Go.RowKit
theorem packDecode_calls (s : Txt) (hs : s.length ≤ 9223372036854775807) (w : World) (hK : TabK w) : Calls Tryd.prog 10 #[.string (B s)] w fun e w' => ∃ v, e = .returned (.tuple #[v, .int .i64 (decP s).2]) ∧ OwnPits w' w.heap.size v (decP s).1 ∧ Below w.heap.size w w' := by
  have hr := Lib.hid (read_calls15 s hs w hK)
  generalize decP s = X at *
  go_enter Tryd.func10, Tryd.ntmps10
  go_wp2_with (first
    | ((with_reducible refine hr.out.mono ?_); rintro e w1 ⟨vl, va, rfl, h1, h2, hb1⟩))
  go_ret2
  exact ⟨_, rfl, h1, hb1⟩
theorem packPlaces_calls (s : Txt) (hs : s.length ≤ 9223372036854775807) (w : World) (hK : TabK w) : Calls Tryd.prog 14 #[.string (B s)] w fun e w' => ∃ v, e = .returned (.tuple #[v, .int .i64 (decP s).2]) ∧ OwnPls w' w.heap.size v (decP s).1 ∧ Below w.heap.size w w' := by
  have hr := Lib.hid (read_calls15 s hs w hK)
  generalize decP s = X at *
  go_enter Tryd.func14, Tryd.ntmps14
  go_wp2_with (first
    | ((with_reducible refine hr.out.mono ?_); rintro e w1 ⟨vl, va, rfl, h1, h2, hb1⟩))
  go_ret2
  exact ⟨_, rfl, h2, hb1⟩
end Go.Proofs.YtoekdiklbfdpiaaDoor
/- The walk of layer 15's document: Same at equal items; an item written out. No condition. -/
namespace Go.Proofs.YtoekdiklbfdpiaaDoor
open Go.RowKit
theorem fold_at15 (q : Nat) (c0 : Array Value) (pre l post : List Value) (hq : pre.length = q) (hsz : c0.size = q + l.length + post.length) (hp : ∀ i, i < q → c0[i]? = pre[i]?) (ht : ∀ i, c0[q + l.length + i]? = post[i]?) :
    (l.zipIdx 0).foldl (fun cs (x : Value × Nat) => cs.setIfInBounds (q + x.2) x.1) c0 = (pre ++ (l ++ post)).toArray := by
  obtain ⟨h1, h2⟩ := Great.foldl_set q l 0 c0
  apply Array.ext_getElem?
  intro k
  rw [h2 k]
  by_cases hk : k < q
  · rw [if_neg (by omega), hp k hk]
    simp [List.getElem?_append_left (show k < pre.length by omega)]
  · by_cases hk2 : k < q + l.length
    · rw [if_pos ⟨by omega, by omega, by omega⟩]
      simp [List.getElem?_append_right (show pre.length ≤ k by omega), hq, List.getElem?_append_left (show k - q < l.length by omega)]
    · rw [if_neg (by omega)]
      have := ht (k - (q + l.length))
      rw [show q + l.length + (k - (q + l.length)) = k from by omega] at this
      rw [this]
      simp [List.getElem?_append_right (show pre.length ≤ k by omega), hq, List.getElem?_append_right (show l.length ≤ k - q by omega), show k - q - l.length = k - (q + l.length) from by omega]
set_option maxRecDepth 100000 in
theorem built_rit (x : PItL) (hid : x.base.length = 32) : Tryd.prog.built 45 [(0, .int .i64 x.kind), (1, .int .i64 x.back), (2, .agg (u8s x.base)), (3, .string (B x.data))] = some (ritC (x, 0, 0)).toArray := by
  obtain ⟨it, hi, hz, hs, hb⟩ := Tryd.ritTy.hi
  have hpl : (match Tryd.prog.underlying 45 with | some (.struct fields) => fields.toList.mapM (fun f => (Tryd.prog.info? f.type).map fun i => (f.offset, i.size)) | _ => none) = some [(0, 1), (1, 1), (2, 32), (34, 1), (35, 1), (36, 1)] := by kernel_rfl
  have hu := Tryd.underlying45
  rw [hu] at hpl
  unfold Program.built
  rw [hi, hu]
  simp only [hz]
  simp only at hpl
  rw [hpl]
  have e0 : (Value.int .i64 x.kind).cells = #[.int .i64 x.kind] := rfl
  have e1 : (Value.int .i64 x.back).cells = #[.int .i64 x.back] := rfl
  have e2 : (Value.agg (u8s x.base)).cells = u8s x.base := rfl
  have e3 : (Value.string (B x.data)).cells = #[.string (B x.data)] := rfl
  have f0 : ∀ c : Array Value, Array.foldl (fun cs (x : Value × Nat) => cs.setIfInBounds (0 + x.snd) x.fst) c (#[.int .i64 x.kind] : Array Value).zipIdx = c.setIfInBounds 0 (.int .i64 x.kind) := fun c => rfl
  have f1 : ∀ c : Array Value, Array.foldl (fun cs (x : Value × Nat) => cs.setIfInBounds (1 + x.snd) x.fst) c (#[.int .i64 x.back] : Array Value).zipIdx = c.setIfInBounds 1 (.int .i64 x.back) := fun c => rfl
  have f3 : ∀ c : Array Value, Array.foldl (fun cs (x : Value × Nat) => cs.setIfInBounds (34 + x.snd) x.fst) c (#[.string (B x.data)] : Array Value).zipIdx = c.setIfInBounds 34 (.string (B x.data)) := fun c => rfl
  have f2 : ∀ c : Array Value, Array.foldl (fun cs (x : Value × Nat) => cs.setIfInBounds (2 + x.snd) x.fst) c (u8s x.base).zipIdx = (x.base.map u8v).zipIdx.foldl (fun cs (x : Value × Nat) => cs.setIfInBounds (2 + x.snd) x.fst) c := fun c => by
    rw [← Array.foldl_toList, Array.toList_zipIdx]
    rfl
  have g0 : (#[(0, 1), (1, 1), (2, 32), (34, 1), (35, 1), (36, 1)] : Array (Nat × Nat))[0]? = some (0, 1) := rfl
  have g1 : (#[(0, 1), (1, 1), (2, 32), (34, 1), (35, 1), (36, 1)] : Array (Nat × Nat))[1]? = some (1, 1) := rfl
  have g2 : (#[(0, 1), (1, 1), (2, 32), (34, 1), (35, 1), (36, 1)] : Array (Nat × Nat))[2]? = some (2, 32) := rfl
  have g3 : (#[(0, 1), (1, 1), (2, 32), (34, 1), (35, 1), (36, 1)] : Array (Nat × Nat))[3]? = some (34, 1) := rfl
  obtain ⟨Z, hZ⟩ : ∃ Z, Z = (ritC zRit).toArray := ⟨_, rfl⟩
  have hZl : Z.size = 37 := by rw [hZ]; exact ritC_size noId_len'
  have hZ34 : Z[34]? = some (.string (B [])) := by rw [hZ]; rfl
  have hZ35 : Z[35]? = some (.int .i64 0) := by rw [hZ]; rfl
  have hZ36 : Z[36]? = some (.int .i64 0) := by rw [hZ]; rfl
  have hfin : (x.base.map u8v).zipIdx.foldl (fun cs (x : Value × Nat) => cs.setIfInBounds (2 + x.snd) x.fst) ((Z.setIfInBounds 0 (.int .i64 x.kind)).setIfInBounds 1 (.int .i64 x.back)) = ([Value.int .i64 x.kind, .int .i64 x.back] ++ (x.base.map u8v ++ [Value.string (B []), .int .i64 0, .int .i64 0])).toArray := by
    refine fold_at15 2 _ [.int .i64 x.kind, .int .i64 x.back] (x.base.map u8v) [Value.string (B []), .int .i64 0, .int .i64 0] rfl (by rw [Array.size_setIfInBounds, Array.size_setIfInBounds, hZl, List.length_map, hid]; rfl) (fun i hi => ?_) (fun i => ?_)
    · rw [Array.getElem?_setIfInBounds, Array.getElem?_setIfInBounds]
      match i, hi with
      | 0, _ => simp [hZl]
      | 1, _ => simp [hZl]
    · rw [List.length_map, hid, Array.getElem?_setIfInBounds, if_neg (by omega), Array.getElem?_setIfInBounds, if_neg (by omega)]
      match i with
      | 0 => exact hZ34
      | 1 => exact hZ35
      | 2 => exact hZ36
      | n + 3 => rw [Array.getElem?_eq_none (by omega)]; rfl
  simp only [Instr.fill, g0, g1, g2, g3, e0, e1, e2, e3]
  show _ = _
  have hc : (Value.agg (ritC zRit).toArray).cells = Z := by rw [hZ]; rfl
  rw [hc, f0, if_neg (by simp [hZl]), f1, if_neg (by simp [hZl]), f2, if_neg (by simp [u8s_size, hid, hZl]), hfin, f3, if_neg (by simp [hid])]
  congr 1
  unfold ritC
  rw [show (u8s x.base).toList = x.base.map u8v from by simp [u8s]]
  simp only [List.setIfInBounds_toArray, List.cons_append, List.nil_append]
  rw [show 34 = (32 + 1) + 1 from rfl, List.set_cons_succ, List.set_cons_succ, List.set_append_right _ _ (by rw [List.length_map, hid]; omega), List.length_map, hid]
  rfl
/-- What lies there while two lists of items are looked at. -/
structure PsC (w : World) (ga oa gb ob : Nat) (x y : Pl) (w' : World) : Prop where
  a_ : w'.rangeAt ga oa (ritC x)
  b_ : w'.rangeAt gb ob (ritC y)
  bel : Below w.heap.size w w'
theorem PsC.drew {w : World} {ga oa gb ob : Nat} {x y : Pl} {w' : World} (h : PsC w ga oa gb ob x y w') : PsC w ga oa gb ob x y w'.drew := ⟨h.a_, h.b_, h.bel.drew⟩
set_option maxRecDepth 100000 in
set_option maxHeartbeats 4000000 in
theorem same_calls15 (a b : List Pl) (hab : a.map (·.1) = b.map (·.1)) (hok : ∀ p ∈ a, p.1.base.length = 32) (va vb : Value) (w : World) (ha : Rits w va a) (hb : Rits w vb b) :
    Calls Tryd.prog 12 #[va, vb] w fun e w' => e = .returned (.bool true) ∧ Below w.heap.size w w' := by
  have hl : a.length = b.length := by have := congrArg List.length hab; simpa using this
  have hla := ha.len
  have hlb := hb.len
  obtain ⟨A, capa, rfl, ha1, ha2, hata⟩ := ha
  obtain ⟨B', capb, rfl, hb1, hb2, hatb⟩ := hb
  have hli : (a.length : Int) = (b.length : Int) := by omega
  go_enter Tryd.func12, Tryd.ntmps12
  go_wp2
  go_loopw [5] (fun i wr => ∃ k : Nat, i = .int .i64 k ∧ k ≤ a.length ∧ Below w.heap.size w wr) (fun i _ => a.length - (intOf i).toNat)
  case atStart => exact ⟨0, rfl, by omega, Below.refl _ _⟩
  case round =>
    obtain ⟨k, rfl, hk, hbel⟩ := hrel
    by_cases hlt : k < a.length
    · have hki : (k : Int) < (a.length : Int) := by omega
      have hkb : (k : Int) < (b.length : Int) := by omega
      obtain ⟨ga, oa, rfl, hga, hca⟩ := hata (by omega)
      obtain ⟨gb, ob, rfl, hgb, hcb⟩ := hatb (by omega)
      obtain ⟨⟨x1, xa, xl⟩, hx⟩ : ∃ x, a[k]? = some x := ⟨_, List.getElem?_eq_getElem hlt⟩
      obtain ⟨⟨y1, ya, yl⟩, hy⟩ : ∃ y, b[k]? = some y := ⟨_, List.getElem?_eq_getElem (by omega)⟩
      have hxy : x1 = y1 := by
        have h1 := congrArg (fun l => l[k]?) hab
        simp only [List.getElem?_map, hx, hy, Option.map_some, Option.some.injEq] at h1
        exact h1
      have hx32 : x1.base.length = 32 := hok _ (List.mem_of_getElem? hx)
      have hca := hca k _ hx
      have hcb := hcb k _ hy
      subst hxy
      have hS : PsC w ga (oa + k * 37) gb (ob + k * 37) (x1, xa, xl) (x1, ya, yl) wr := ⟨rangeAt_below hca hga hbel, rangeAt_below hcb hgb hbel, hbel⟩
      clear hx hy hata hatb hca hcb hbel hli hab hok
      go_wp2
      refine wp_region_class (C := PsC w ga (oa + k * 37) gb (ob + k * 37) (x1, xa, xl) (x1, ya, yl)) (by kernel_rfl) (by kernel_rfl) hS.drew ?_
      repeat
        first
          | ((with_reducible refine wpQuiet_ex ?_ ?_)
             · (go_simp; done)
             apply Exists.intro
             refine ⟨fun W hW => ?_, ?_⟩
             · first
                 | exact quiet_load_mid _ _ rfl ga (oa + k * 37 + 2) rfl (u8s x1.base).toList _ (rit_base hW.a_) Tryd.underlying36 rfl (by rw [u8s_len', hx32]; exact sz32) rfl
                 | exact quiet_load_mid _ _ rfl gb (ob + k * 37 + 2) rfl (u8s x1.base).toList _ (rit_base hW.b_) Tryd.underlying36 rfl (by rw [u8s_len', hx32]; exact sz32) rfl
                 | ((with_reducible refine quiet_neq_id15 x1.base hx32 ?_ ?_) <;> rfl)
                 | (have q0 := rit_kind hW.a_
                    have q1 := rit_back hW.a_
                    have q3 := rit_data (x := (x1, xa, xl)) hx32 hW.a_
                    have r0 := rit_kind hW.b_
                    have r1 := rit_back hW.b_
                    have r3 := rit_data (x := (x1, ya, yl)) hx32 hW.b_
                    simp only at q0 q1 q3 r0 r1 r3
                    go_simp
                    first
                      | rfl)
             simp only [Act.put, List.setIfInBounds_toArray, List.set_cons_zero, List.set_cons_succ])
          | ((with_reducible refine wpQuiet_pass ?_ ?_)
             · (first | rfl | (go_simp; done))
             simp only [Act.put, List.setIfInBounds_toArray, List.set_cons_zero, List.set_cons_succ])
      with_reducible refine wpQuiet_nil ?_
      intro w5 hW5
      go_wp2
      go_roundw
      case rel => exact ⟨k + 1, by go_num, by omega, hW5.bel⟩
      case measure => simp [intOf]; omega
    · have hki : ¬ (k : Int) < (a.length : Int) := by omega
      go_wp2
      go_ret
      exact ⟨rfl, hbel⟩
end Go.Proofs.YtoekdiklbfdpiaaDoor
/- A region that draws its order and ends in 'out = append(out, y)', out a variable of the frame: words. No condition; no program. -/
namespace Go.Proofs.YtoekdiklbfdpiaaDoor
open Go.RowKit
/-- What the operations leave: V's values ahead of ls; a literal slice at ls; the slice that grew behind it. -/
def ApR (V : Nat → Value) (ls B : Nat) (e : TypeId) (k : Nat) (vo : Value) (n : Nat) (xs ys : List Value) (i : Nat) (v : Value) (w : World) : Prop :=
  if i < ls then v = V i else if i = ls then (∃ b, v = .slice (some ⟨b, 0, none⟩) 1 1 ∧ Blk w b e ys.toArray ∧ some b ≠ vo.ownBlock) else w.ownsRow B e k v (n + 1) (xs ++ ys)
/-- What lies there. -/
structure ApC (w0 : World) (ap : Nat) (e : TypeId) (k : Nat) (vo : Value) (n : Nat) (xs : List Value) (listed : Array Bool) (w : World) : Prop where
  bel : Below w0.heap.size w0 w
  own : listed.getD ap false = false → w.ownsRow w0.heap.size e k vo n xs
section
variable {V : Nat → Value} {ls B : Nat} {e : TypeId} {k : Nat} {vo : Value} {n : Nat} {xs ys : List Value} {i : Nat} {v : Value} {w w' w0 : World} {ap : Nat} {listed : Array Bool}
theorem ApR.at_ (h : ApR V ls B e k vo n xs ys i v w) (hi : i < ls) : v = V i := by unfold ApR at h; rwa [if_pos hi] at h
theorem ApR.mk (hi : i < ls) (h : v = V i) : ApR V ls B e k vo n xs ys i v w := by unfold ApR; rwa [if_pos hi]
theorem ApR.lit {b : Nat} (h : Blk w b e ys.toArray) (hne : some b ≠ vo.ownBlock) : ApR V ls B e k vo n xs ys ls (.slice (some ⟨b, 0, none⟩) 1 1) w := by
  unfold ApR; rw [if_neg (by omega), if_pos rfl]; exact ⟨b, rfl, h, hne⟩
theorem ApR.litAt (h : ApR V ls B e k vo n xs ys ls v w) : ∃ b, v = .slice (some ⟨b, 0, none⟩) 1 1 ∧ Blk w b e ys.toArray ∧ some b ≠ vo.ownBlock := by
  unfold ApR at h; rwa [if_neg (by omega), if_pos rfl] at h
theorem ApR.own (hi : ls < i) (h : w.ownsRow B e k v (n + 1) (xs ++ ys)) : ApR V ls B e k vo n xs ys i v w := by unfold ApR; rwa [if_neg (by omega), if_neg (by omega)]
theorem ApR.ownAt (hi : ls < i) (h : ApR V ls B e k vo n xs ys i v w) : w.ownsRow B e k v (n + 1) (xs ++ ys) := by unfold ApR at h; rwa [if_neg (by omega), if_neg (by omega)] at h
theorem ApR.alloc (h : ApR V ls B e k vo n xs ys i v w) (o : Obj) : ApR V ls B e k vo n xs ys i v (w.alloc o) := by
  by_cases h5 : i < ls
  · exact .mk h5 (h.at_ h5)
  · by_cases h6 : i = ls
    · subst h6
      obtain ⟨b, rfl, h1, h2⟩ := h.litAt
      exact .lit (h1.alloc o) h2
    · exact .own (by omega) (World.ownsRow.alloc (h.ownAt (by omega)) o)
theorem ApR.append (hi : ¬ ls < i) (h : ApR V ls B e k vo n xs ys i v w) (hg : w.grownBy w' vo.ownBlock) : ApR V ls B e k vo n xs ys i v w' := by
  by_cases h5 : i < ls
  · exact .mk h5 (h.at_ h5)
  · obtain rfl : i = ls := by omega
    obtain ⟨b, rfl, h1, h2⟩ := h.litAt
    exact .lit (h1.grown hg h2) h2
theorem ApC.same (h : ApC w0 ap e k vo n xs listed w) (hi : i < listed.size) (hne : i ≠ ap) : ApC w0 ap e k vo n xs (listed.setIfInBounds i true) w :=
  ⟨h.bel, fun hl => h.own (by rwa [getD_set hi, if_neg (fun e => hne e.symm)] at hl)⟩
theorem ApC.alloc (h : ApC w0 ap e k vo n xs listed w) (o : Obj) : ApC w0 ap e k vo n xs listed (w.alloc o) := ⟨h.bel.alloc h.bel.size o, fun hl => World.ownsRow.alloc (h.own hl) o⟩
theorem ApC.drew (h : ApC w0 ap e k vo n xs listed w) : ApC w0 ap e k vo n xs listed w.drew := ⟨h.bel.drew, h.own⟩
theorem ApC.fresh (h : ApC w0 ap e k vo n xs listed w) (hl : listed.getD ap false = false) : some w.heap.size ≠ vo.ownBlock := fun e => by
  have := (World.ownsRow.lt (h.own hl) _ e.symm).2
  omega
theorem ApC.grown (h : ApC w0 ap e k vo n xs listed w) (hi : ap < listed.size) (hb : Below w0.heap.size w0 w') : ApC w0 ap e k vo n xs (listed.setIfInBounds ap true) w' :=
  ⟨hb, fun hl' => by rw [getD_set hi, if_pos rfl] at hl'; cases hl'⟩
end
end Go.Proofs.YtoekdiklbfdpiaaDoor
