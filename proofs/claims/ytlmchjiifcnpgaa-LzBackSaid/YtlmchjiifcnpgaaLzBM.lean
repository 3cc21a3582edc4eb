/- What layer 5's Pack keeps from round to round: what its map tells, and how long the text of one byte over and over becomes. No condition; no program. -/
import Derived.Test.YtlmchjiifcnpgaaLzBP
import Derived.Maps.Own
import Derived.Maps.OwnOps
import Derived.Maps.OwnSet
import Derived.Maps.Views
namespace Go.Proofs.Ytlmchjiifcnpgaa
open Go.RowKit Go.Maps

/-- What four bytes are found by. -/
def key4 (a b c d : UInt8) : Nat := a.toNat + 256 * b.toNat + 65536 * c.toNat + 16777216 * d.toNat
theorem key4_lt (a b c d : UInt8) : key4 a b c d < 4294967296 := by
  have := a.toNat_lt; have := b.toNat_lt; have := c.toNat_lt; have := d.toNat_lt
  unfold key4; omega
theorem key4_inj {a b c d a' b' c' d' : UInt8} (h : key4 a b c d = key4 a' b' c' d') : a = a' ∧ b = b' ∧ c = c' ∧ d = d' := by
  have := a.toNat_lt; have := b.toNat_lt; have := c.toNat_lt; have := d.toNat_lt
  have := a'.toNat_lt; have := b'.toNat_lt; have := c'.toNat_lt; have := d'.toNat_lt
  unfold key4 at h
  exact ⟨UInt8.toNat_inj.1 (by omega), UInt8.toNat_inj.1 (by omega), UInt8.toNat_inj.1 (by omega), UInt8.toNat_inj.1 (by omega)⟩
/-- ... at a place of a text. -/
def keyAt (s : List UInt8) (i : Nat) : Nat := key4 (s.getD i 0) (s.getD (i + 1) 0) (s.getD (i + 2) 0) (s.getD (i + 3) 0)
theorem keyAt_lt (s : List UInt8) (i : Nat) : keyAt s i < 4294967296 := key4_lt _ _ _ _
theorem keyAt_alike {s : List UInt8} {a i : Nat} (h : keyAt s a = keyAt s i) {j : Nat} (hj : j < 4) : s.getD (a + j) 0 = s.getD (i + j) 0 := by
  obtain ⟨h0, h1, h2, h3⟩ := key4_inj h
  match j, hj with
  | 0, _ => exact h0
  | 1, _ => exact h1
  | 2, _ => exact h2
  | 3, _ => exact h3

abbrev kl (k : Nat) : Lit := .int .u32 k
abbrev vl (i : Nat) : DataW Unit := .lit (.int .i64 i)
theorem kl_key (k : Nat) : WideAt.IsKeyLit (kl k) := trivial
theorem kl_ne {a b : Nat} (h : a ≠ b) : kl a ≠ kl b := by
  intro hh
  injection hh with _ hh
  exact h (by omega)
/-- What the map tells of the places ahead of i: each is one whose four bytes are the key's. -/
structure MapOk (s : List UInt8) (i : Nat) (D : DataW Unit) : Prop where
  isMap : IsMap D
  told : ∀ k : Nat, Maps.has D (kl k) = true → ∃ a : Nat, D.atKey (kl k) (.lit (.int .i64 0)) = vl a ∧ a + 4 ≤ s.length ∧ a < i ∧ keyAt s a = k
  first : 0 < i → Maps.has D (kl (keyAt s 0)) = true
theorem MapOk.start (s : List UInt8) : MapOk s 0 (.map []) := ⟨isMap_empty, fun k h => by simp [has_eq] at h, fun h => absurd h (by omega)⟩
theorem MapOk.next {s : List UInt8} {i i' : Nat} {D : DataW Unit} (h : MapOk s i D) (hi : i + 4 ≤ s.length) (hi' : i < i') : MapOk s i' (D.put (kl (keyAt s i)) (vl i)) := by
  refine ⟨h.isMap.put _ _, fun k hk => ?_, fun _ => ?_⟩
  · by_cases he : k = keyAt s i
    · subst he
      exact ⟨i, atKey_put_same h.isMap (kl_key _) _ _, hi, hi', rfl⟩
    · rw [has_put_other (kl_ne he)] at hk
      obtain ⟨a, h1, h2, h3, h4⟩ := h.told k hk
      exact ⟨a, by rw [atKey_put_other (kl_ne he)]; exact h1, h2, by omega, h4⟩
  · by_cases he : keyAt s 0 = keyAt s i
    · rw [he]; exact has_put_same h.isMap (kl_key _) _
    · rw [has_put_other (kl_ne he)]
      refine h.first ?_
      rcases Nat.eq_zero_or_pos i with h0 | h0
      · subst h0; exact absurd rfl he
      · exact h0

/-- Of one byte over and over: nothing is packed yet, or all is, in five bytes. -/
def RunOk (s e : List UInt8) (fr i : Nat) : Prop := ∀ (c : UInt8) (n : Nat), s = List.replicate n c → n ≤ 4096 → (i ≤ 1 ∧ e = [] ∧ fr = 0) ∨ (i = n ∧ fr = n ∧ e.length ≤ 5)
theorem RunOk.start (s : List UInt8) : RunOk s [] 0 0 := fun _ _ _ _ => .inl ⟨by omega, rfl, rfl⟩
theorem getD_rep {n i : Nat} {c : UInt8} (h : i < n) : (List.replicate n c).getD i 0 = c := by
  rw [getD_lt (by simpa using h)]; simp
theorem keyAt_rep {n i : Nat} {c : UInt8} (h : i + 4 ≤ n) : keyAt (List.replicate n c) i = key4 c c c c := by
  unfold keyAt
  rw [getD_rep (by omega), getD_rep (by omega), getD_rep (by omega), getD_rep (by omega)]
/-- No place is told: it is the first one. -/
theorem RunOk.miss {s e : List UInt8} {fr i : Nat} {D : DataW Unit} (h : RunOk s e fr i) (hm : MapOk s i D) (hi : i + 4 ≤ s.length) (hno : Maps.has D (kl (keyAt s i)) = false) : RunOk s e fr (i + 1) := by
  intro c n hs hn
  have hl : s.length = n := by rw [hs]; simp
  rcases h c n hs hn with ⟨h1, h2, h3⟩ | ⟨h1, h2, h3⟩
  · rcases Nat.eq_zero_or_pos i with h0 | h0
    · exact .inl ⟨by omega, h2, h3⟩
    · exfalso
      have := hm.first h0
      rw [hs, keyAt_rep (by omega), ← keyAt_rep (n := n) (i := i) (c := c) (by omega), ← hs, hno] at this
      cases this
  · omega
theorem RunOk.far {s e : List UInt8} {fr i a : Nat} (h : RunOk s e fr i) (hi : i + 4 ≤ s.length) (ha : a < i) (hf : 65535 < i - a) : RunOk s e fr (i + 1) := by
  intro c n hs hn
  have hl : s.length = n := by rw [hs]; simp
  rcases h c n hs hn with ⟨h1, h2, h3⟩ | ⟨h1, h2, h3⟩ <;> omega
/-- A step that copies from back what is alike, as far as it is. -/
theorem RunOk.hit {s e : List UInt8} {fr i a n : Nat} (h : RunOk s e fr i) (hi : i + 4 ≤ s.length) (ha : a < i) (hn : i + n ≤ s.length) (hmax : (h : i + n < s.length) → s[a + n]'(by omega) ≠ s[i + n])
    (p : List UInt8) (hp : fr = 0 → i = 1 → p.length ≤ 2) : RunOk s (e ++ (p ++ (put (2 * n + 1) ++ put (i - a)))) (i + n) (i + n) := by
  intro c m hs hm
  have hl : s.length = m := by rw [hs]; simp
  rcases h c m hs hm with ⟨h1, h2, h3⟩ | ⟨h1, h2, h3⟩
  · have he : i = 1 := by omega
    have hend : i + n = m := by
      rcases Nat.lt_or_ge (i + n) m with hlt | hge
      · exfalso
        refine hmax (by omega) ?_
        simp [hs]
      · omega
    refine .inr ⟨hend, hend, ?_⟩
    have hp' := hp h3 he
    have q1 := put_two (2 * n + 1) (by omega)
    have q2 := put_small (i - a) (by omega)
    simp only [h2, List.nil_append, List.length_append]
    omega
  · omega
/-- What the four bytes at both places say of how far they are alike. -/
theorem alike_four {s : List UInt8} {a i n : Nat} (hi : i + 4 ≤ s.length) (ha : a < i) (hk : keyAt s a = keyAt s i) (hmax : (h : i + n < s.length) → s[a + n]'(by omega) ≠ s[i + n]) : 4 ≤ n := by
  rcases Nat.lt_or_ge n 4 with hlt | hge
  · exfalso
    refine hmax (by omega) ?_
    have := keyAt_alike hk hlt
    rwa [getD_lt (by omega), getD_lt (by omega)] at this
  · exact hge

/-- What is packed: the text as it stands, or steps; how long it is at most. -/
structure PackOk (s p : List UInt8) : Prop where
  most : p.length ≤ s.length + 1
  way : p = 0 :: s ∨ ∃ e, p = 1 :: e ∧ Leads e [] s
  run : ∀ (c : UInt8) (n : Nat), s = List.replicate n c → n ≤ 4096 → p.length ≤ 8
theorem PackOk.just {s p : List UInt8} (h : PackOk s p) : unp p s.length = (s, 0) := by
  rcases h.way with rfl | ⟨e, rfl, he⟩
  · exact unp_stored (by omega) rfl (by omega)
  · rw [unp_steps (by omega) rfl, Int.toNat_natCast]
    have := he.2.1 [] s.length (by omega)
    rw [List.append_nil] at this
    exact this.trans (un_nil _ _)
theorem PackOk.fewer {s p : List UInt8} (h : PackOk s p) (hs : s ≠ []) : unp p ((s.length : Int) - 1) = ([], 3) := by
  have hl : 0 < s.length := by cases s with
    | nil => exact absurd rfl hs
    | cons c r => simp
  rcases h.way with rfl | ⟨e, rfl, he⟩
  · exact unp_stored_big (most := (s.length : Int) - 1) (by omega) rfl (by omega)
  · rw [unp_steps (most := (s.length : Int) - 1) (by omega) rfl, show ((s.length : Int) - 1).toNat = s.length - 1 from by omega]
    have := he.2.2 [] (s.length - 1) (by simp) (by omega)
    rwa [List.append_nil] at this
end Go.Proofs.Ytlmchjiifcnpgaa
