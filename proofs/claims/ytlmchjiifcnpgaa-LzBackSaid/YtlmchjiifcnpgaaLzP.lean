/- The plain law of layer 5 (lz): what a packed text is unpacked to, step by step. No condition; no program. -/
import Derived.Test.YtlmchjiifcnpgaaVarintP
namespace Go.Proofs.Ytlmchjiifcnpgaa
open Go.RowKit

theorem get_bounds {l : List UInt8} {n k : Nat} (h : get l = some (n, k)) : n ≤ 18446744073709551615 ∧ 0 < k ∧ k ≤ l.length := by
  unfold get at h
  split at h
  · rename_i hc
    simp only [Option.some.injEq, Prod.mk.injEq] at h
    obtain ⟨rfl, rfl⟩ := h
    refine ⟨get_fits hc.1 rfl hc.2.1 ?_, by omega, by omega⟩
    intro h9
    have := hc.2.2.1
    have h1 : ¬ 1 < (l.getD 9 0).toNat := fun hh => this ⟨h9, hh⟩
    rw [← h9, getD_lt hc.1] at h1
    omega
  · cases h

/-- One step: how many bytes, from how far back (0: as they stand), and what stands behind its numbers. -/
def rd (l : List UInt8) (hv : Nat) : Option (Nat × Nat × List UInt8) :=
  match get l with
  | none => none
  | some (n, k) =>
    if n % 2 = 0 then (if n = 0 ∨ (l.drop k).length < n / 2 then none else some (n / 2, 0, l.drop k))
    else match get (l.drop k) with
      | none => none
      | some (f, m) => if n / 2 < 4 ∨ f < 1 ∨ 65535 < f ∨ hv < f then none else some (n / 2, f, (l.drop k).drop m)

section
variable {l : List UInt8} {hv n k f m : Nat}
theorem rd_none (h : get l = none) : rd l hv = none := by simp [rd, h]
theorem rd_plain_bad (h : get l = some (n, k)) (h2 : n % 2 = 0) (h3 : n = 0 ∨ (l.drop k).length < n / 2) : rd l hv = none := by
  simp only [rd, h]; rw [if_pos h2, if_pos h3]
theorem rd_plain (h : get l = some (n, k)) (h2 : n % 2 = 0) (h3 : n ≠ 0) (h4 : n / 2 ≤ (l.drop k).length) : rd l hv = some (n / 2, 0, l.drop k) := by
  simp only [rd, h]; rw [if_pos h2, if_neg (by omega)]
theorem rd_far_none (h : get l = some (n, k)) (h2 : n % 2 = 1) (h3 : get (l.drop k) = none) : rd l hv = none := by
  simp only [rd, h, h3]; rw [if_neg (by omega)]
theorem rd_far_bad (h : get l = some (n, k)) (h2 : n % 2 = 1) (h3 : get (l.drop k) = some (f, m)) (h4 : n / 2 < 4 ∨ f < 1 ∨ 65535 < f ∨ hv < f) : rd l hv = none := by
  simp only [rd, h, h3]; rw [if_neg (by omega), if_pos h4]
theorem rd_far (h : get l = some (n, k)) (h2 : n % 2 = 1) (h3 : get (l.drop k) = some (f, m)) (h4 : 4 ≤ n / 2) (h5 : 1 ≤ f) (h6 : f ≤ 65535) (h7 : f ≤ hv) : rd l hv = some (n / 2, f, (l.drop k).drop m) := by
  simp only [rd, h, h3]; rw [if_neg (by omega), if_neg (by omega)]
end

theorem take_drop_succ {l : List UInt8} {a j : Nat} (h : a + j < l.length) : (l.drop a).take (j + 1) = (l.drop a).take j ++ [l[a + j]] := by
  rw [List.take_succ_eq_append_getElem (by rw [List.length_drop]; omega), List.getElem_drop]
/-- So many bytes, each the one so far back. -/
def back : Nat → Nat → List UInt8 → List UInt8
  | 0, _, out => out
  | n + 1, f, out => back n f (out ++ [out.getD (out.length - f) 0])
theorem back_length (n f : Nat) (out : List UInt8) : (back n f out).length = out.length + n := by
  induction n generalizing out with
  | zero => rfl
  | succ n ih => rw [back, ih, List.length_append, List.length_singleton]; omega

theorem back_step {j n f : Nat} {o : List UInt8} {x : UInt8} (h : j < n) (hi : o.length - f < o.length) (hx : o[o.length - f] = x) : back (n - j) f o = back (n - (j + 1)) f (o ++ [x]) := by
  rw [show n - j = (n - (j + 1)) + 1 from by omega, back, getD_lt hi, hx]

/-- The steps, behind what is unpacked already. -/
def unF : Nat → List UInt8 → List UInt8 → Nat → List UInt8 × Nat
  | 0, _, out, _ => (out, 0)
  | fu + 1, s, out, most =>
    if s = [] then (out, 0) else
    match rd s out.length with
    | none => ([], 2)
    | some (n, f, r) => if most - out.length < n then ([], 3) else if f = 0 then unF fu (r.drop n) (out ++ r.take n) most else unF fu r (back n f out) most
/-- What a text is unpacked to, and the error's number. -/
def unp (l : List UInt8) (most : Int) : List UInt8 × Nat :=
  if most < 0 then ([], 1) else
  match l with
  | [] => ([], 2)
  | c :: r => if 1 < c.toNat then ([], 2) else if c.toNat = 0 then (if most < r.length then ([], 3) else (r, 0)) else unF r.length r [] most.toNat

theorem unF_nil (fu : Nat) (out : List UInt8) (most : Nat) : unF fu [] out most = (out, 0) := by cases fu <;> simp [unF]
section
variable {fu most n f : Nat} {s out r : List UInt8}
theorem unF_bad (hs : s ≠ []) (h : rd s out.length = none) : unF (fu + 1) s out most = ([], 2) := by
  rw [unF, if_neg hs]; simp only [h]
theorem unF_big (hs : s ≠ []) (h : rd s out.length = some (n, f, r)) (hb : most - out.length < n) : unF (fu + 1) s out most = ([], 3) := by
  rw [unF, if_neg hs]; simp only [h]; rw [if_pos hb]
theorem unF_plain (hs : s ≠ []) (h : rd s out.length = some (n, 0, r)) (hb : n ≤ most - out.length) : unF (fu + 1) s out most = unF fu (r.drop n) (out ++ r.take n) most := by
  rw [unF, if_neg hs]; simp only [h]; rw [if_neg (by omega), if_pos trivial]
theorem unF_far (hs : s ≠ []) (h : rd s out.length = some (n, f, r)) (hf : f ≠ 0) (hb : n ≤ most - out.length) : unF (fu + 1) s out most = unF fu r (back n f out) most := by
  rw [unF, if_neg hs]; simp only [h]; rw [if_neg (by omega), if_neg hf]
end
/-- What a step has. -/
theorem rd_bounds {l : List UInt8} {hv n f : Nat} {r : List UInt8} (h : rd l hv = some (n, f, r)) : n ≤ 9223372036854775807 ∧ r.length < l.length ∧ 0 < n ∧ f ≤ 65535 ∧ (f = 0 → n ≤ r.length) ∧ (f ≠ 0 → f ≤ hv) := by
  unfold rd at h
  split at h
  · cases h
  · rename_i n0 k hg
    obtain ⟨h1, h2, h3⟩ := get_bounds hg
    have hd : (l.drop k).length = l.length - k := List.length_drop
    split at h
    · split at h
      · cases h
      · simp only [Option.some.injEq, Prod.mk.injEq] at h
        obtain ⟨rfl, rfl, rfl⟩ := h
        exact ⟨by omega, by omega, by omega, by omega, fun _ => by omega, fun h => by omega⟩
    · split at h
      · cases h
      · rename_i f0 m hg2
        obtain ⟨h4, h5, h6⟩ := get_bounds hg2
        have hd2 : ((l.drop k).drop m).length = (l.drop k).length - m := List.length_drop
        split at h
        · cases h
        · simp only [Option.some.injEq, Prod.mk.injEq] at h
          obtain ⟨rfl, rfl, rfl⟩ := h
          exact ⟨by omega, by omega, by omega, by omega, fun h => by omega, fun _ => by omega⟩
theorem unp_neg {l : List UInt8} {most : Int} (h : most < 0) : unp l most = ([], 1) := by rw [unp.eq_def, if_pos h]
theorem unp_nil {most : Int} (h : 0 ≤ most) : unp [] most = ([], 2) := by rw [unp.eq_def, if_neg (by omega)]
section
variable {c : UInt8} {r : List UInt8} {most : Int}
theorem unp_way (h : 0 ≤ most) (hc : 1 < c.toNat) : unp (c :: r) most = ([], 2) := by rw [unp.eq_def, if_neg (by omega)]; simp only; rw [if_pos hc]
theorem unp_stored_big (h : 0 ≤ most) (hc : c.toNat = 0) (hb : most < r.length) : unp (c :: r) most = ([], 3) := by rw [unp.eq_def, if_neg (by omega)]; simp only; rw [if_neg (by omega), if_pos hc, if_pos hb]
theorem unp_stored (h : 0 ≤ most) (hc : c.toNat = 0) (hb : (r.length : Int) ≤ most) : unp (c :: r) most = (r, 0) := by rw [unp.eq_def, if_neg (by omega)]; simp only; rw [if_neg (by omega), if_pos hc, if_neg (by omega)]
theorem unp_steps (h : 0 ≤ most) (hc : c.toNat = 1) : unp (c :: r) most = unF r.length r [] most.toNat := by rw [unp.eq_def, if_neg (by omega)]; simp only; rw [if_neg (by omega), if_neg (by omega)]
end
end Go.Proofs.Ytlmchjiifcnpgaa
