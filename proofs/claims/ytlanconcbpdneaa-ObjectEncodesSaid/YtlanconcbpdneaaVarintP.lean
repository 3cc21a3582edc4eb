/- The plain law of numbers as bytes (layer 1): what Put writes and what Get reads. No condition; no program. -/
import Derived.Below
namespace Go.Proofs.Ytlanconcbpdneaa
open Go.RowKit

/-- The bytes of a number, with so many steps at most. -/
def putF : Nat → Nat → List UInt8
  | 0, n => [UInt8.ofNat n]
  | f + 1, n => if n < 128 then [UInt8.ofNat n] else UInt8.ofNat (128 + n % 128) :: putF f (n / 128)
/-- The bytes of a number of 64 bits. -/
def put (n : Nat) : List UInt8 := putF 9 n

theorem putF_small (f n : Nat) (h : n < 128) : putF f n = [UInt8.ofNat n] := by cases f <;> simp [putF, h]
theorem putF_big (f n : Nat) (h : 128 ≤ n) : putF (f + 1) n = UInt8.ofNat (128 + n % 128) :: putF f (n / 128) := by rw [putF, if_neg (by omega)]
theorem putF_length (f n : Nat) : (putF f n).length ≤ f + 1 := by
  induction f generalizing n with
  | zero => simp [putF]
  | succ f ih =>
    rw [putF]
    split
    · simp
    · simp only [List.length_cons]; have := ih (n / 128); omega
theorem put_length (n : Nat) : (put n).length ≤ 10 := putF_length 9 n
theorem putF_pos (f n : Nat) : 0 < (putF f n).length := by
  cases f with
  | zero => simp [putF]
  | succ f => rw [putF]; split <;> simp

/-- What a round of Put keeps: so many steps may still be wanted. -/
def Fits (f k : Nat) : Prop := k < 2 ^ (7 * f + 1)
theorem Fits.of64 {n : Nat} (h : n ≤ 18446744073709551615) : Fits 9 n := by unfold Fits; omega
theorem Fits.le {f n : Nat} (h : Fits f n) (hf : f ≤ 9) : n ≤ 18446744073709551615 := by
  have h1 : n < 2 ^ (7 * f + 1) := h
  have h2 : 2 ^ (7 * f + 1) ≤ 2 ^ 64 := Nat.pow_le_pow_right (by omega) (by omega)
  omega
theorem Fits.zero {k : Nat} (h : Fits 0 k) : k < 128 := by unfold Fits at h; omega
theorem Fits.next {f k : Nat} (h : Fits (f + 1) k) : Fits f (k / 128) := by
  unfold Fits at h ⊢
  rw [show 7 * (f + 1) + 1 = (7 * f + 1) + 7 from by omega, Nat.pow_add] at h
  exact Nat.div_lt_of_lt_mul (by rw [Nat.mul_comm]; exact h)
theorem Fits.pos {f k : Nat} (h : Fits f k) (hk : 128 ≤ k) : ∃ g, f = g + 1 := by
  cases f with
  | zero => have := h.zero; omega
  | succ g => exact ⟨g, rfl⟩

/-- How many bytes of 128 and more a text begins with. -/
def lead : List UInt8 → Nat
  | [] => 0
  | c :: r => if 128 ≤ c.toNat then lead r + 1 else 0
/-- The number whose bytes these are, seven bits each, the least first. -/
def val7 : List UInt8 → Nat
  | [] => 0
  | c :: r => c.toNat % 128 + 128 * val7 r
/-- The number that a text begins with, and how many bytes it has. -/
def get (l : List UInt8) : Option (Nat × Nat) :=
  if lead l < l.length ∧ lead l < 10 ∧ ¬ (lead l = 9 ∧ 1 < (l.getD 9 0).toNat) ∧ ¬ (0 < lead l ∧ l.getD (lead l) 0 = 0) then some (val7 (l.take (lead l + 1)), lead l + 1) else none

theorem lead_le : ∀ l : List UInt8, lead l ≤ l.length
  | [] => Nat.le_refl _
  | c :: r => by
    rw [lead]
    split
    · have := lead_le r; simp only [List.length_cons]; omega
    · omega
theorem lead_big : ∀ (l : List UInt8) (i : Nat) (h : i < l.length), i < lead l → 128 ≤ (l[i]).toNat
  | [], i, h, _ => by simp at h
  | c :: r, 0, _, hi => by
    rw [lead] at hi
    split at hi
    · simpa
    · omega
  | c :: r, i + 1, h, hi => by
    rw [lead] at hi
    split at hi
    · have := lead_big r i (by simpa using h) (by omega)
      simpa
    · omega
theorem lead_small : ∀ (l : List UInt8) (h : lead l < l.length), (l[lead l]).toNat < 128
  | [], h => by simp at h
  | c :: r, h => by
    by_cases hc : 128 ≤ c.toNat
    · have e : lead (c :: r) = lead r + 1 := by rw [lead, if_pos hc]
      have := lead_small r (by rw [e] at h; simpa using h)
      simp only [e, List.getElem_cons_succ]
      exact this
    · have e : lead (c :: r) = 0 := by rw [lead, if_neg hc]
      simp only [e, List.getElem_cons_zero]
      omega
theorem lead_next {l : List UInt8} {e : Nat} (he : e ≤ lead l) (h : e < l.length) (hc : 128 ≤ (l[e]).toNat) : e + 1 ≤ lead l := by
  rcases Nat.lt_or_ge e (lead l) with hlt | hge
  · exact hlt
  · have : e = lead l := by omega
    subst this
    have := lead_small l h
    omega
theorem lead_here {l : List UInt8} {e : Nat} (he : e ≤ lead l) (h : e < l.length) (hc : (l[e]).toNat < 128) : lead l = e := by
  rcases Nat.lt_or_ge e (lead l) with hlt | hge
  · have := lead_big l e h hlt
    omega
  · omega

theorem val7_append (a b : List UInt8) : val7 (a ++ b) = val7 a + 128 ^ a.length * val7 b := by
  induction a with
  | nil => simp [val7]
  | cons c r ih =>
    simp only [List.cons_append, val7, ih, List.length_cons, Nat.pow_succ]
    rw [Nat.mul_add, Nat.mul_comm (128 ^ r.length) 128, Nat.mul_assoc]
    omega
theorem val7_take_succ (l : List UInt8) (i : Nat) (h : i < l.length) : val7 (l.take (i + 1)) = val7 (l.take i) + 128 ^ i * ((l[i]).toNat % 128) := by
  rw [List.take_succ_eq_append_getElem h, val7_append, List.length_take, Nat.min_eq_left (by omega)]
  simp [val7]
theorem val7_drop (l : List UInt8) (i : Nat) (h : i < l.length) : val7 (l.drop i) = (l[i]).toNat % 128 + 128 * val7 (l.drop (i + 1)) := by
  rw [List.drop_eq_getElem_cons h, val7]
theorem val7_lt (l : List UInt8) : val7 l < 128 ^ l.length := by
  induction l with
  | nil => simp [val7]
  | cons c r ih =>
    simp only [val7, List.length_cons, Nat.pow_succ]
    omega

theorem val7_drop_le (l : List UInt8) (i : Nat) : val7 (l.drop i) ≤ val7 l := by
  induction i generalizing l with
  | zero => simp
  | succ i ih =>
    cases l with
    | nil => simp
    | cons c r =>
      simp only [List.drop_succ_cons, val7]
      have := ih r
      omega

theorem getD_lt {l : List UInt8} {i : Nat} (h : i < l.length) : l.getD i 0 = l[i] := by simp [List.getD, List.getElem?_eq_getElem h]
theorem get_end {l : List UInt8} (h : l.length ≤ lead l) : get l = none := by
  rw [get, if_neg]; omega
theorem get_ten {l : List UInt8} (h : 10 ≤ lead l) : get l = none := by
  rw [get, if_neg]; omega
theorem get_nine {l : List UInt8} (h9 : 9 < l.length) (h : lead l = 9) (hc : 1 < (l[9]).toNat) : get l = none := by
  rw [get, if_neg]
  intro hh
  refine hh.2.2.1 ⟨h, ?_⟩
  rw [getD_lt h9]
  exact hc
theorem get_zero {l : List UInt8} {e : Nat} (he : e < l.length) (h : lead l = e) (h0 : 0 < e) (hc : (l[e]).toNat = 0) : get l = none := by
  rw [get, if_neg]
  subst h
  intro hh
  refine hh.2.2.2 ⟨h0, ?_⟩
  rw [getD_lt he]
  exact UInt8.toNat_inj.1 (by simpa using hc)
theorem get_yes {l : List UInt8} {e : Nat} (he : e < l.length) (h : lead l = e) (ht : e < 10) (h9 : e = 9 → (l[e]).toNat ≤ 1) (h0 : 0 < e → (l[e]).toNat ≠ 0) : get l = some (val7 (l.take (e + 1)), e + 1) := by
  subst h
  rw [get, if_pos]
  refine ⟨he, ht, ?_, ?_⟩
  · rintro ⟨h1, h2⟩
    rw [getD_lt (by omega)] at h2
    have := h9 h1
    simp only [h1] at this
    omega
  · rintro ⟨h1, h2⟩
    rw [getD_lt he] at h2
    exact h0 h1 (by rw [h2]; rfl)
theorem get_fits {l : List UInt8} {e : Nat} (he : e < l.length) (h : lead l = e) (ht : e < 10) (h9 : e = 9 → (l[e]).toNat ≤ 1) : val7 (l.take (e + 1)) ≤ 18446744073709551615 := by
  rcases Nat.lt_or_ge e 9 with h8 | h8
  · have h1 := val7_lt (l.take (e + 1))
    have h2 : 128 ^ (l.take (e + 1)).length ≤ 128 ^ 9 := Nat.pow_le_pow_right (by omega) (by rw [List.length_take]; omega)
    omega
  · obtain rfl : e = 9 := by omega
    rw [val7_take_succ l 9 he]
    have h1 := val7_lt (l.take 9)
    have h2 : 128 ^ (l.take 9).length ≤ 128 ^ 9 := Nat.pow_le_pow_right (by omega) (by rw [List.length_take]; omega)
    have h3 := h9 rfl
    have h4 : (l[9]).toNat % 128 ≤ 1 := by omega
    have h5 : 128 ^ 9 * ((l[9]).toNat % 128) ≤ 128 ^ 9 * 1 := Nat.mul_le_mul_left _ h4
    omega
/-- What the reference's second loop reckons, step by step. -/
theorem get_seq {l : List UInt8} {e : Nat} (he : e < l.length) (h : lead l = e) (ht : e < 10) (h9 : e = 9 → (l[e]).toNat ≤ 1) (h0 : 0 < e → (l[e]).toNat ≠ 0) :
    ∃ V : Nat → Nat, get l = some (V 0, e + 1) ∧ V (e + 1) = 0 ∧ (∀ m (hm : m < l.length), m ≤ e → V m = (l[m]).toNat % 128 + 128 * V (m + 1)) ∧ ∀ m, V m ≤ 18446744073709551615 := by
  have hlt : (l.take (e + 1)).length = e + 1 := by rw [List.length_take]; omega
  refine ⟨fun m => val7 ((l.take (e + 1)).drop m), by simpa using get_yes he h ht h9 h0, ?_, ?_, ?_⟩
  · simp only
    rw [List.drop_of_length_le (by omega)]
    rfl
  · intro m hm hme
    simp only
    rw [val7_drop _ m (by omega)]
    simp
  · intro m
    exact Nat.le_trans (val7_drop_le _ m) (get_fits he h ht h9)
end Go.Proofs.Ytlanconcbpdneaa
