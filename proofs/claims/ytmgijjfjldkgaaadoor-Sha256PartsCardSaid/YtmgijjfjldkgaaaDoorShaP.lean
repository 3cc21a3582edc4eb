/- The plain law of layer 2 (sha256): words, schedule, rounds, the sum of a text. No condition; no program. -/
import Derived.Below
namespace Go.Proofs.YtmgijjfjldkgaaaDoor
open Go.RowKit

/-- A word turned right. -/
def rotr (x n : Nat) : Nat := x / 2 ^ n + x * 2 ^ (32 - n) % 4294967296
theorem rotr_lt {x n : Nat} (hx : x < 4294967296) (h0 : 1 ≤ n) (h1 : n ≤ 31) : rotr x n < 4294967296 := by
  have hp : (2 : Nat) ^ (32 - n) * 2 ^ n = 4294967296 := by rw [← Nat.pow_add, show 32 - n + n = 32 from by omega]
  have hd : x / 2 ^ n < 2 ^ (32 - n) := Nat.div_lt_of_lt_mul (by rw [Nat.mul_comm, hp]; exact hx)
  have hm : x * 2 ^ (32 - n) % 4294967296 = 2 ^ (32 - n) * (x % 2 ^ n) := by
    rw [← hp, Nat.mul_comm x, Nat.mul_mod_mul_left]
  have hr : x % 2 ^ n + 1 ≤ 2 ^ n := Nat.mod_lt _ (Nat.two_pow_pos n)
  have h2 := Nat.mul_le_mul_left (2 ^ (32 - n)) hr
  rw [hp, Nat.mul_add, Nat.mul_one] at h2
  rw [rotr, hm]
  omega
def sig0 (x : Nat) : Nat := rotr x 7 ^^^ rotr x 18 ^^^ x / 8
def sig1 (x : Nat) : Nat := rotr x 17 ^^^ rotr x 19 ^^^ x / 1024
def sum0 (a : Nat) : Nat := rotr a 2 ^^^ rotr a 13 ^^^ rotr a 22
def sum1 (e : Nat) : Nat := rotr e 6 ^^^ rotr e 11 ^^^ rotr e 25
theorem xor_lt {a b : Nat} (ha : a < 4294967296) (hb : b < 4294967296) : a ^^^ b < 4294967296 := Nat.xor_lt_two_pow (n := 32) ha hb
theorem and_lt {a b : Nat} (hb : b < 4294967296) : a &&& b < 4294967296 := Nat.and_lt_two_pow (n := 32) a hb
theorem sig0_lt {x : Nat} (hx : x < 4294967296) : sig0 x < 4294967296 := xor_lt (xor_lt (rotr_lt hx (by omega) (by omega)) (rotr_lt hx (by omega) (by omega))) (by omega)
theorem sig1_lt {x : Nat} (hx : x < 4294967296) : sig1 x < 4294967296 := xor_lt (xor_lt (rotr_lt hx (by omega) (by omega)) (rotr_lt hx (by omega) (by omega))) (by omega)
theorem sum0_lt {x : Nat} (hx : x < 4294967296) : sum0 x < 4294967296 := xor_lt (xor_lt (rotr_lt hx (by omega) (by omega)) (rotr_lt hx (by omega) (by omega))) (rotr_lt hx (by omega) (by omega))
theorem sum1_lt {x : Nat} (hx : x < 4294967296) : sum1 x < 4294967296 := xor_lt (xor_lt (rotr_lt hx (by omega) (by omega)) (rotr_lt hx (by omega) (by omega))) (rotr_lt hx (by omega) (by omega))

/-- The byte at a place of a text. -/
def byteAt (b : List UInt8) (i : Nat) : Nat := (b.getD i 0).toNat
theorem byteAt_lt (b : List UInt8) (i : Nat) : byteAt b i < 256 := (b.getD i 0).toNat_lt
/-- A word of a block. -/
def be4 (b : List UInt8) (j : Nat) : Nat := byteAt b (4 * j) * 16777216 + byteAt b (4 * j + 1) * 65536 + byteAt b (4 * j + 2) * 256 + byteAt b (4 * j + 3)
theorem be4_lt (b : List UInt8) (j : Nat) : be4 b j < 4294967296 := by
  have := byteAt_lt b (4 * j); have := byteAt_lt b (4 * j + 1); have := byteAt_lt b (4 * j + 2); have := byteAt_lt b (4 * j + 3)
  unfold be4; omega
/-- ... behind i bytes of the block. -/
def part4 (b : List UInt8) (i j : Nat) : Nat :=
  if i ≤ 4 * j then 0 else if i = 4 * j + 1 then byteAt b (4 * j) else if i = 4 * j + 2 then byteAt b (4 * j) * 256 + byteAt b (4 * j + 1)
  else if i = 4 * j + 3 then byteAt b (4 * j) * 65536 + byteAt b (4 * j + 1) * 256 + byteAt b (4 * j + 2) else be4 b j
theorem part4_here (b : List UInt8) (i : Nat) : part4 b (i + 1) (i / 4) = part4 b i (i / 4) * 256 + byteAt b i ∧ part4 b i (i / 4) < 16777216 := by
  obtain ⟨j, r, hr, rfl⟩ : ∃ j r, r < 4 ∧ i = 4 * j + r := ⟨i / 4, i % 4, by omega, by omega⟩
  have hj : (4 * j + r) / 4 = j := by omega
  rw [hj]
  have := byteAt_lt b (4 * j); have := byteAt_lt b (4 * j + 1); have := byteAt_lt b (4 * j + 2); have := byteAt_lt b (4 * j + 3)
  match r, hr with
  | 0, _ =>
    unfold part4
    rw [if_neg (by omega), if_pos (by omega), if_pos (by omega)]
    simp
  | 1, _ =>
    unfold part4
    rw [if_neg (by omega), if_neg (by omega), if_pos (by omega), if_neg (by omega), if_pos (by omega)]
    omega
  | 2, _ =>
    unfold part4
    rw [if_neg (by omega), if_neg (by omega), if_neg (by omega), if_pos (by omega), if_neg (by omega), if_neg (by omega), if_pos (by omega)]
    omega
  | 3, _ =>
    unfold part4
    rw [if_neg (by omega), if_neg (by omega), if_neg (by omega), if_neg (by omega), if_neg (by omega), if_neg (by omega), if_neg (by omega), if_pos (by omega)]
    unfold be4
    omega
theorem part4_else (b : List UInt8) (i j : Nat) (h : j ≠ i / 4) : part4 b (i + 1) j = part4 b i j := by
  unfold part4
  rcases Nat.lt_or_ge i (4 * j) with hlt | hge
  · rw [if_pos (by omega), if_pos (by omega)]
  · rw [if_neg (by omega), if_neg (by omega), if_neg (by omega), if_neg (by omega), if_neg (by omega), if_neg (by omega), if_neg (by omega), if_neg (by omega)]
/-- All words behind i bytes. -/
def parts (b : List UInt8) (i : Nat) : List Nat := (List.range 64).map (part4 b i)
theorem parts_length (b : List UInt8) (i : Nat) : (parts b i).length = 64 := by simp [parts]
theorem parts_get (b : List UInt8) (i j : Nat) (h : j < 64) : (parts b i).getD j 0 = part4 b i j := by
  simp [parts, List.getD, h]
theorem parts_zero (b : List UInt8) : parts b 0 = List.replicate 64 0 := by
  apply List.ext_getElem
  · simp [parts]
  · intro j h1 h2
    rw [List.getElem_replicate]
    simp [parts, part4]
theorem parts_step (b : List UInt8) (i : Nat) : (parts b i).set (i / 4) ((parts b i).getD (i / 4) 0 * 256 % 4294967296 + byteAt b i) = parts b (i + 1) := by
  apply List.ext_getElem
  · simp [parts]
  · intro j h1 h2
    have hj : j < 64 := by simpa [parts] using h2
    rw [List.getElem_set]
    split
    · rename_i he
      subst he
      have := part4_here b i
      rw [parts_get b i _ hj, Nat.mod_eq_of_lt (by omega)]
      simp [parts, this.1]
    · rename_i hne
      simp [parts, part4_else b i j (fun h => hne h.symm)]
/-- The first words of a block. -/
def first (b : List UInt8) (k : Nat) : List Nat := (List.range k).map (be4 b)
theorem first_length (b : List UInt8) (k : Nat) : (first b k).length = k := by simp [first]
theorem parts_all (b : List UInt8) : parts b 64 = first b 16 ++ List.replicate 48 0 := by
  apply List.ext_getElem
  · simp [parts, first]
  · intro j h1 h2
    have hj : j < 64 := by simpa [parts] using h1
    rw [List.getElem_append]
    split
    · rename_i h
      have h16 : j < 16 := by simpa [first] using h
      simp only [parts, first, List.getElem_map, List.getElem_range]
      unfold part4
      rw [if_neg (by omega), if_neg (by omega), if_neg (by omega)]
      split
      · omega
      · rfl
    · rename_i h
      have h16 : ¬ j < 16 := by simpa [first] using h
      simp only [parts, List.getElem_map, List.getElem_range, List.getElem_replicate]
      unfold part4
      rw [if_pos (by omega)]

/-- The word behind these ones. -/
def nextW (l : List Nat) : Nat := (l.getD (l.length - 16) 0 + l.getD (l.length - 7) 0 + sig0 (l.getD (l.length - 15) 0) + sig1 (l.getD (l.length - 2) 0)) % 4294967296
def sched : Nat → List Nat → List Nat
  | 0, l => l
  | n + 1, l => sched n (l ++ [nextW l])
/-- All words of a block. -/
def wordsOf (b : List UInt8) : List Nat := sched 48 (first b 16)
def Fit32 (l : List Nat) : Prop := ∀ i, l.getD i 0 < 4294967296
theorem Fit32.append {l : List Nat} (h : Fit32 l) {x : Nat} (hx : x < 4294967296) : Fit32 (l ++ [x]) := by
  intro i
  rcases Nat.lt_or_ge i l.length with hl | hl
  · have := h i
    simpa [List.getD, List.getElem?_append_left hl] using this
  · rcases Nat.eq_or_lt_of_le hl with he | hg
    · subst he; simpa [List.getD] using hx
    · simp [List.getD, List.getElem?_eq_none (show (l ++ [x]).length ≤ i by simp; omega)]
theorem nextW_lt (l : List Nat) : nextW l < 4294967296 := Nat.mod_lt _ (by omega)
theorem first_fit (b : List UInt8) (k : Nat) : Fit32 (first b k) := by
  intro i
  rcases Nat.lt_or_ge i k with h | h
  · simp [first, List.getD, h, be4_lt]
  · simp [first, List.getD, List.getElem?_eq_none (show ((List.range k).map (be4 b)).length ≤ i by simpa using h)]
theorem getD_left {l r : List Nat} {i : Nat} (h : i < l.length) : (l ++ r).getD i 0 = l.getD i 0 := by simp [List.getD, List.getElem?_append_left h]
theorem set_behind (l : List Nat) (k x : Nat) (hk : 0 < k) : (l ++ List.replicate k 0).set l.length x = (l ++ [x]) ++ List.replicate (k - 1) 0 := by
  obtain ⟨m, rfl⟩ : ∃ m, k = m + 1 := ⟨k - 1, by omega⟩
  rw [List.set_append_right _ _ (Nat.le_refl _), Nat.sub_self, List.replicate_succ, List.set_cons_zero, List.append_assoc]
  rfl
theorem sched_length (n : Nat) (l : List Nat) : (sched n l).length = l.length + n := by
  induction n generalizing l with
  | zero => rfl
  | succ n ih => rw [sched, ih, List.length_append, List.length_singleton]; omega
theorem sched_fit (n : Nat) (l : List Nat) (h : Fit32 l) : Fit32 (sched n l) := by
  induction n generalizing l with
  | zero => exact h
  | succ n ih => exact ih _ (h.append (nextW_lt l))
theorem wordsOf_length (b : List UInt8) : (wordsOf b).length = 64 := by rw [wordsOf, sched_length, first_length]
theorem wordsOf_fit (b : List UInt8) : Fit32 (wordsOf b) := sched_fit _ _ (first_fit b 16)
end Go.Proofs.YtmgijjfjldkgaaaDoor
