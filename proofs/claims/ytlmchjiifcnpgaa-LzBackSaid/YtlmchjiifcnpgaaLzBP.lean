/- The plain law of packing (layer 5): numbers are read as they were written; a text of steps is unpacked to what its steps say. No condition; no program. -/
import Derived.Test.YtlmchjiifcnpgaaLzP
namespace Go.Proofs.Ytlmchjiifcnpgaa
open Go.RowKit

theorem ofNat_toNat (n : Nat) (h : n < 256) : (UInt8.ofNat n).toNat = n := by simp [Nat.mod_eq_of_lt h]
theorem lead_split : ∀ (i : List UInt8) (c : UInt8) (r : List UInt8), (∀ x ∈ i, 128 ≤ x.toNat) → c.toNat < 128 → lead (i ++ c :: r) = i.length
  | [], c, r, _, hc => by rw [List.nil_append, lead, if_neg (by omega)]; rfl
  | x :: i, c, r, hi, hc => by
    rw [List.cons_append, lead, if_pos (hi x (by simp)), lead_split i c r (fun y hy => hi y (by simp [hy])) hc]
    rfl
theorem putF_split (f : Nat) : ∀ n, Fits f n → ∃ (i : List UInt8) (c : UInt8), putF f n = i ++ [c] ∧ (∀ x ∈ i, 128 ≤ x.toNat) ∧ c.toNat < 128 ∧ i.length ≤ f ∧ val7 (putF f n) = n ∧ (i ≠ [] → c.toNat ≠ 0) ∧ (i.length = f → c.toNat < 2) := by
  induction f with
  | zero =>
    intro n h
    have h0 : n < 2 := by unfold Fits at h; omega
    refine ⟨[], UInt8.ofNat n, rfl, by simp, ?_, by simp, ?_, by simp, ?_⟩
    · simp; omega
    · simp [putF, val7]; omega
    · intro _; simp; omega
  | succ f ih =>
    intro n h
    by_cases hn : n < 128
    · rw [putF_small _ _ hn]
      refine ⟨[], UInt8.ofNat n, rfl, by simp, ?_, by simp, ?_, by simp, by simp⟩
      · simp; omega
      · simp [val7]; omega
    · obtain ⟨i, c, h1, h2, h3, h4, h5, h6, h7⟩ := ih (n / 128) h.next
      rw [putF_big f n (by omega)]
      refine ⟨UInt8.ofNat (128 + n % 128) :: i, c, by rw [h1]; rfl, ?_, h3, by simpa using h4, ?_, ?_, ?_⟩
      · intro x hx
        rcases List.mem_cons.1 hx with rfl | hx
        · rw [ofNat_toNat _ (by omega)]; omega
        · exact h2 x hx
      · rw [val7, h5, ofNat_toNat _ (by omega)]; omega
      · intro _
        by_cases hi : i = []
        · subst hi
          intro hc
          rw [h1] at h5
          simp [val7] at h5
          omega
        · exact h6 hi
      · intro hl
        exact h7 (by simpa using hl)
/-- A number is read as it was written, whatever stands behind it. -/
theorem get_put (n : Nat) (h : n ≤ 18446744073709551615) (r : List UInt8) : get (put n ++ r) = some (n, (put n).length) := by
  obtain ⟨i, c, h1, h2, h3, h4, h5, h6, h7⟩ := putF_split 9 n (Fits.of64 h)
  have hp : put n = i ++ [c] := h1
  have hl : lead (put n ++ r) = i.length := by rw [hp, List.append_assoc]; exact lead_split i c r h2 h3
  have hlen : (put n).length = i.length + 1 := by rw [hp]; simp
  have hat : (put n ++ r)[i.length]'(by rw [List.length_append]; omega) = c := by simp [hp]
  have ht : (put n ++ r).take (i.length + 1) = put n := by rw [← hlen, List.take_left]
  rw [get_yes (e := i.length) (by rw [List.length_append]; omega) hl (by omega) (fun h9 => by rw [hat]; have := h7 h9; omega) (fun h0 => by rw [hat]; exact h6 (by intro hi; rw [hi] at h0; simp at h0)), ht, hlen]
  exact congrArg (fun v => some (v, i.length + 1)) h5
theorem put_small (n : Nat) (h : n < 128) : (put n).length = 1 := by unfold put; rw [putF_small _ _ h]; rfl
theorem put_two (n : Nat) (h : n < 16384) : (put n).length ≤ 2 := by
  unfold put
  by_cases h1 : n < 128
  · rw [putF_small _ _ h1]; simp
  · rw [putF_big 8 n (by omega), putF_small _ _ (by omega)]; simp

/-- How a text of steps is unpacked behind some bytes. -/
def un (s out : List UInt8) (most : Nat) : List UInt8 × Nat := unF s.length s out most
theorem unF_fuel : ∀ (fu : Nat) (s out : List UInt8) (most : Nat), s.length ≤ fu → unF fu s out most = un s out most := by
  intro fu
  induction fu using Nat.strongRecOn with
  | _ fu ih =>
    intro s out most hs
    cases s with
    | nil => rw [unF_nil, un, unF_nil]
    | cons c r =>
      obtain ⟨g, rfl⟩ : ∃ g, fu = g + 1 := ⟨fu - 1, by simp at hs; omega⟩
      unfold un
      rw [List.length_cons]
      have hne : c :: r ≠ [] := by simp
      rw [List.length_cons] at hs
      rcases hrd : rd (c :: r) out.length with _ | ⟨n, f, t⟩
      · rw [unF_bad hne hrd, unF_bad hne hrd]
      · obtain ⟨_, q2, _⟩ := rd_bounds hrd
        rw [List.length_cons] at q2
        by_cases hb : most - out.length < n
        · rw [unF_big hne hrd hb, unF_big hne hrd hb]
        · by_cases hf : f = 0
          · subst hf
            have hd : (t.drop n).length ≤ t.length := by rw [List.length_drop]; omega
            rw [unF_plain hne hrd (by omega), unF_plain hne hrd (by omega), ih g (by omega) _ _ _ (by omega)]
            by_cases hg : r.length = g
            · rw [hg, ih g (by omega) _ _ _ (by omega)]
            · rw [ih r.length (by omega) _ _ _ (by omega)]
          · rw [unF_far hne hrd hf (by omega), unF_far hne hrd hf (by omega), ih g (by omega) _ _ _ (by omega)]
            by_cases hg : r.length = g
            · rw [hg, ih g (by omega) _ _ _ (by omega)]
            · rw [ih r.length (by omega) _ _ _ (by omega)]
theorem un_nil (out : List UInt8) (most : Nat) : un [] out most = (out, 0) := unF_nil _ _ _
section
variable {most n f : Nat} {s out r : List UInt8}
theorem un_big (hs : s ≠ []) (h : rd s out.length = some (n, f, r)) (hb : most - out.length < n) : un s out most = ([], 3) := by
  obtain ⟨c, t, rfl⟩ : ∃ c t, s = c :: t := by cases s with
    | nil => exact absurd rfl hs
    | cons c t => exact ⟨c, t, rfl⟩
  exact unF_big hs h hb
theorem un_plain (hs : s ≠ []) (h : rd s out.length = some (n, 0, r)) (hb : n ≤ most - out.length) : un s out most = un (r.drop n) (out ++ r.take n) most := by
  obtain ⟨c, t, rfl⟩ : ∃ c t, s = c :: t := by cases s with
    | nil => exact absurd rfl hs
    | cons c t => exact ⟨c, t, rfl⟩
  obtain ⟨_, q2, _⟩ := rd_bounds h
  rw [List.length_cons] at q2
  unfold un
  rw [List.length_cons, unF_plain hs h hb]
  exact unF_fuel _ _ _ _ (by rw [List.length_drop]; omega)
theorem un_far (hs : s ≠ []) (h : rd s out.length = some (n, f, r)) (hf : f ≠ 0) (hb : n ≤ most - out.length) : un s out most = un r (back n f out) most := by
  obtain ⟨c, t, rfl⟩ : ∃ c t, s = c :: t := by cases s with
    | nil => exact absurd rfl hs
    | cons c t => exact ⟨c, t, rfl⟩
  obtain ⟨_, q2, _⟩ := rd_bounds h
  rw [List.length_cons] at q2
  unfold un
  rw [List.length_cons, unF_far hs h hf hb]
  exact unF_fuel _ _ _ _ (by omega)
end

/-- The text e leads from the bytes o to the bytes t; with fewer bytes let, it is told. -/
def Leads (e o t : List UInt8) : Prop :=
  o.length ≤ t.length ∧ (∀ r most, t.length ≤ most → un (e ++ r) o most = un r t most) ∧ ∀ r most, o.length ≤ most → most < t.length → un (e ++ r) o most = ([], 3)
theorem Leads.refl (o : List UInt8) : Leads [] o o := ⟨Nat.le_refl _, fun r most _ => rfl, fun r most h1 h2 => absurd h2 (by omega)⟩
theorem Leads.trans {e e' o t t' : List UInt8} (h : Leads e o t) (h' : Leads e' t t') : Leads (e ++ e') o t' := by
  refine ⟨Nat.le_trans h.1 h'.1, fun r most hm => ?_, fun r most h1 h2 => ?_⟩
  · rw [List.append_assoc, h.2.1 _ _ (Nat.le_trans h'.1 hm), h'.2.1 _ _ hm]
  · rw [List.append_assoc]
    rcases Nat.lt_or_ge most t.length with hlt | hge
    · exact h.2.2 _ _ h1 hlt
    · rw [h.2.1 _ _ hge, h'.2.2 _ _ hge h2]
theorem put_ne (n : Nat) (r : List UInt8) : put n ++ r ≠ [] := by
  intro h
  have h1 := congrArg List.length h
  have h2 : 0 < (put n).length := putF_pos 9 n
  rw [List.length_append, List.length_nil] at h1
  omega
/-- A step that copies bytes as they stand. -/
theorem Leads.plain (t o : List UInt8) (h0 : t ≠ []) (h1 : 2 * t.length ≤ 18446744073709551615) : Leads (put (2 * t.length) ++ t) o (o ++ t) := by
  have hpos : 0 < t.length := by
    cases t with
    | nil => exact absurd rfl h0
    | cons c r => simp
  have hrd : ∀ r, rd (put (2 * t.length) ++ t ++ r) o.length = some (t.length, 0, t ++ r) := by
    intro r
    have hg := get_put (2 * t.length) h1 (t ++ r)
    rw [← List.append_assoc] at hg
    have hd : (put (2 * t.length) ++ t ++ r).drop (put (2 * t.length)).length = t ++ r := by rw [List.append_assoc, List.drop_left]
    rw [rd_plain hg (by omega) (by omega) (by rw [hd, List.length_append]; omega), hd]
    congr 2
    omega
  have hne : ∀ r, put (2 * t.length) ++ t ++ r ≠ [] := fun r => by rw [List.append_assoc]; exact put_ne _ _
  refine ⟨by rw [List.length_append]; omega, fun r most hm => ?_, fun r most hm h2 => ?_⟩
  · rw [List.length_append] at hm
    rw [un_plain (hne r) (hrd r) (by omega), List.drop_left, List.take_left]
  · rw [List.length_append] at h2
    exact un_big (hne r) (hrd r) (by omega)
/-- A step that copies from back. -/
theorem Leads.far (n f : Nat) (o : List UInt8) (h0 : 4 ≤ n) (h1 : 2 * n + 1 ≤ 18446744073709551615) (h2 : 1 ≤ f) (h3 : f ≤ 65535) (h4 : f ≤ o.length) : Leads (put (2 * n + 1) ++ put f) o (back n f o) := by
  have hrd : ∀ r, rd (put (2 * n + 1) ++ put f ++ r) o.length = some (n, f, r) := by
    intro r
    have hg := get_put (2 * n + 1) h1 (put f ++ r)
    rw [← List.append_assoc] at hg
    have hd : (put (2 * n + 1) ++ put f ++ r).drop (put (2 * n + 1)).length = put f ++ r := by rw [List.append_assoc, List.drop_left]
    have hg2 := get_put f (by omega) r
    rw [rd_far hg (by omega) (by rw [hd]; exact hg2) (by omega) h2 h3 h4, hd, List.drop_left]
    congr 2
    omega
  have hne : ∀ r, put (2 * n + 1) ++ put f ++ r ≠ [] := fun r => by rw [List.append_assoc]; exact put_ne _ _
  have hlen := back_length n f o
  refine ⟨by omega, fun r most hm => ?_, fun r most hm h5 => ?_⟩
  · rw [un_far (hne r) (hrd r) (by omega) (by omega)]
  · exact un_big (hne r) (hrd r) (by omega)
/-- Bytes that are alike at two places are copied from the first. -/
theorem back_alike (s : List UInt8) (a i : Nat) (ha : a < i) : ∀ n, i + n ≤ s.length → (∀ j (h : i + j < s.length), j < n → s[a + j]'(by omega) = s[i + j]) → back n (i - a) (s.take i) = s.take (i + n) := by
  have key : ∀ n k, i + k + n ≤ s.length → (∀ j (h : i + j < s.length), j < k + n → s[a + j]'(by omega) = s[i + j]) → back n (i - a) (s.take (i + k)) = s.take (i + k + n) := by
    intro n
    induction n with
    | zero => intro k _ _; rfl
    | succ n ih =>
      intro k hk hj
      have hl : (s.take (i + k)).length = i + k := by rw [List.length_take]; omega
      have hx : (s.take (i + k)).getD ((s.take (i + k)).length - (i - a)) 0 = s[i + k] := by
        rw [hl, show i + k - (i - a) = a + k from by omega, getD_lt (by omega), List.getElem_take]
        exact hj k (by omega) (by omega)
      rw [back, hx, ← List.take_succ_eq_append_getElem (by omega)]
      have := ih (k + 1) (by omega) (fun j h hjn => hj j h (by omega))
      rw [show i + k + (n + 1) = i + (k + 1) + n from by omega]
      exact this
  intro n hn hj
  have := key n 0 (by omega) (fun j h hjn => hj j h (by omega))
  simpa using this
end Go.Proofs.Ytlmchjiifcnpgaa
