/- The plain law of figures: the text of an id, the id of a text. No condition; no program. -/
import Derived.Lib.Bytealg
namespace Go.Proofs.Ytlpiefopegjgjaa

/-- A figure's number; 16: it is none. -/
def figN (c : UInt8) : Nat := if 48 ≤ c.toNat ∧ c.toNat ≤ 57 then c.toNat - 48 else if 97 ≤ c.toNat ∧ c.toNat ≤ 102 then c.toNat - 87 else 16
def figC (n : Nat) : UInt8 := if n < 10 then (48 + n).toUInt8 else (87 + n).toUInt8
def figures : List UInt8 := [48, 49, 50, 51, 52, 53, 54, 55, 56, 57, 97, 98, 99, 100, 101, 102]
theorem u8_all {p : UInt8 → Prop} (h : ∀ n : Fin 256, p (UInt8.ofNat n.val)) (c : UInt8) : p c := by
  have := h ⟨c.toNat, c.toNat_lt⟩
  simpa using this
theorem figN_C (n : Nat) (h : n < 16) : figN (figC n) = n := by
  have : ∀ m : Fin 16, figN (figC m.val) = m.val := by decide +kernel
  exact this ⟨n, h⟩
theorem figC_N (c : UInt8) : figN c < 16 → figC (figN c) = c := by
  refine u8_all (p := fun c => figN c < 16 → figC (figN c) = c) ?_ c
  decide +kernel
theorem figN_le (c : UInt8) : figN c ≤ 16 := by
  refine u8_all (p := fun c => figN c ≤ 16) ?_ c
  decide +kernel
theorem index_fig (c : UInt8) : Lib.indexByte figures c = if figN c < 16 then (figN c : Int) else -1 := by
  refine u8_all (p := fun c => Lib.indexByte figures c = if figN c < 16 then (figN c : Int) else -1) ?_ c
  decide +kernel
theorem figC_get (n : Nat) (h : n < 16) : figures.getD n 0 = figC n := by
  have : ∀ m : Fin 16, figures.getD m.val 0 = figC m.val := by decide +kernel
  exact this ⟨n, h⟩
theorem figC_inj {m n : Nat} (hm : m < 16) (hn : n < 16) (h : figC m = figC n) : m = n := by
  rw [← figN_C m hm, h, figN_C n hn]
theorem figC_eq (c : UInt8) (d : Nat) (h : d < 16) : (c = figC d) ↔ figN c = d :=
  ⟨fun e => by rw [e, figN_C d h], fun e => by subst e; exact (figC_N c h).symm⟩
theorem getD_at (l : List UInt8) (i : Nat) (h : i < l.length) : l.getD i 0 = l[i] := by simp [List.getD, List.getElem?_eq_getElem h]
/-- The text of an id. -/
def hexOf (l : List UInt8) : List UInt8 := l.flatMap fun c => [figC (c.toNat / 16), figC (c.toNat % 16)]
theorem hexOf_append (a b : List UInt8) : hexOf (a ++ b) = hexOf a ++ hexOf b := by simp [hexOf]
theorem hexOf_length (l : List UInt8) : (hexOf l).length = 2 * l.length := by
  induction l with
  | nil => rfl
  | cons c l ih => simp [hexOf] at *; omega
theorem hexOf_take (l : List UInt8) (k : Nat) (h : k < l.length) : hexOf (l.take (k + 1)) = hexOf (l.take k) ++ [figC ((l.getD k 0).toNat / 16), figC ((l.getD k 0).toNat % 16)] := by
  rw [List.take_add_one, hexOf_append, List.getElem?_eq_getElem h]
  simp [hexOf, List.getD, List.getElem?_eq_getElem h]
/-- Is it a text of an id? -/
def fg (s : List UInt8) (i : Nat) : Nat := figN (s.getD i 0)
def isHex (s : List UInt8) : Bool := s.length == 64 && s.all (fun c => decide (figN c < 16))
/-- The id behind i figures. -/
def partH (s : List UInt8) (i j : Nat) : Nat := if i ≤ 2 * j then 0 else if i = 2 * j + 1 then fg s (2 * j) else 16 * fg s (2 * j) + fg s (2 * j + 1)
def partsH (s : List UInt8) (i : Nat) : List UInt8 := (List.range 32).map fun j => (partH s i j).toUInt8
def unhexId (s : List UInt8) : List UInt8 := (List.range 32).map fun j => (16 * fg s (2 * j) + fg s (2 * j + 1)).toUInt8
def unhexOr (s : List UInt8) : List UInt8 := if isHex s then unhexId s else List.replicate 32 0
theorem unhexId_length (s : List UInt8) : (unhexId s).length = 32 := by simp [unhexId]
theorem unhexOr_length (s : List UInt8) : (unhexOr s).length = 32 := by
  unfold unhexOr; split
  · exact unhexId_length s
  · simp
theorem partsH_length (s : List UInt8) (i : Nat) : (partsH s i).length = 32 := by simp [partsH]
theorem partsH_zero (s : List UInt8) : partsH s 0 = List.replicate 32 0 := by
  apply List.ext_getElem
  · simp [partsH]
  · intro j h1 h2
    rw [List.getElem_replicate]
    simp [partsH, partH]
theorem partsH_all (s : List UInt8) : partsH s 64 = unhexId s := by
  apply List.ext_getElem
  · simp [partsH, unhexId]
  · intro j h1 h2
    have hj : j < 32 := by simpa [partsH] using h1
    simp only [partsH, unhexId, List.getElem_map, List.getElem_range, partH]
    rw [if_neg (by omega)]
    split
    · omega
    · rfl
def Figs (s : List UInt8) (i : Nat) : Prop := ∀ j, j < i → fg s j < 16
theorem Figs.step {s : List UInt8} {i : Nat} (h : Figs s i) (hi : fg s i < 16) : Figs s (i + 1) := fun j hj => by
  rcases Nat.lt_or_ge j i with h1 | h1
  · exact h j h1
  · rw [show j = i from by omega]; exact hi
theorem isHex_of_figs {s : List UInt8} (hl : s.length = 64) (h : Figs s 64) : isHex s = true := by
  simp only [isHex, hl, beq_self_eq_true, Bool.true_and, List.all_eq_true, decide_eq_true_eq]
  intro c hc
  obtain ⟨j, hj, rfl⟩ := List.getElem_of_mem hc
  have := h j (by omega)
  simpa [fg, List.getD, List.getElem?_eq_getElem hj] using this
theorem isHex_false {s : List UInt8} {i : Nat} (hi : i < s.length) (h : ¬ fg s i < 16) : isHex s = false := by
  rw [Bool.eq_false_iff]
  intro hc
  simp only [isHex, Bool.and_eq_true, List.all_eq_true, decide_eq_true_eq] at hc
  have := hc.2 (s[i]) (List.getElem_mem hi)
  simp [fg, List.getD, List.getElem?_eq_getElem hi] at h
  omega
theorem isHex_len {s : List UInt8} (h : s.length ≠ 64) : isHex s = false := by
  simp [isHex, h]
theorem figs_of_isHex {s : List UInt8} (h : isHex s = true) : s.length = 64 ∧ Figs s 64 := by
  simp only [isHex, Bool.and_eq_true, beq_iff_eq, List.all_eq_true, decide_eq_true_eq] at h
  refine ⟨h.1, fun j hj => ?_⟩
  have hl : j < s.length := by omega
  have := h.2 (s[j]) (List.getElem_mem hl)
  simpa [fg, List.getD, List.getElem?_eq_getElem hl] using this
theorem partH_lt {s : List UInt8} {i j : Nat} (h : Figs s i) : partH s i j < 256 := by
  unfold partH
  split
  · omega
  · split
    · have := h (2 * j) (by omega); omega
    · have := h (2 * j) (by omega)
      have := h (2 * j + 1) (by omega)
      omega
theorem partH_here {s : List UInt8} {i : Nat} (h : Figs s i) : partH s i (i / 2) < 16 ∧ partH s (i + 1) (i / 2) = 16 * partH s i (i / 2) + fg s i := by
  obtain ⟨j, r, hr, rfl⟩ : ∃ j r, r < 2 ∧ i = 2 * j + r := ⟨i / 2, i % 2, by omega, by omega⟩
  have hj : (2 * j + r) / 2 = j := by omega
  rw [hj]
  match r, hr with
  | 0, _ =>
    unfold partH
    rw [if_pos (by omega), if_neg (by omega), if_pos (by omega)]
    exact ⟨by omega, by simp⟩
  | 1, _ =>
    have := h (2 * j) (by omega)
    unfold partH
    rw [if_neg (by omega), if_pos (by omega), if_neg (by omega), if_neg (by omega)]
    exact ⟨this, rfl⟩
theorem partH_else (s : List UInt8) (i j : Nat) (h : j ≠ i / 2) : partH s (i + 1) j = partH s i j := by
  unfold partH
  rcases Nat.lt_or_ge i (2 * j) with hlt | hge
  · rw [if_pos (by omega), if_pos (by omega)]
  · rw [if_neg (by omega), if_neg (by omega), if_neg (by omega), if_neg (by omega)]
theorem partsH_get {s : List UInt8} {i j : Nat} (h : Figs s i) (hj : j < 32) : ((partsH s i).getD j 0).toNat = partH s i j := by
  have : j < (partsH s i).length := by rw [partsH_length]; exact hj
  rw [List.getD, List.getElem?_eq_getElem this]
  simp only [partsH, List.getElem_map, List.getElem_range, Option.getD_some]
  exact Nat.mod_eq_of_lt (partH_lt h)
theorem partsH_step {s : List UInt8} {i : Nat} (h : Figs s i) : (partsH s i).set (i / 2) (16 * partH s i (i / 2) + fg s i).toUInt8 = partsH s (i + 1) := by
  apply List.ext_getElem
  · simp [partsH]
  · intro j h1 h2
    rw [List.getElem_set]
    split
    · rename_i he
      subst he
      simp [partsH, (partH_here h).2]
    · rename_i hne
      simp [partsH, partH_else s i j (fun e => hne e.symm)]
/-- What was written is read. -/
theorem hexOf_get (l : List UInt8) (j : Nat) (h : j < l.length) : (hexOf l).getD (2 * j) 0 = figC ((l.getD j 0).toNat / 16) ∧ (hexOf l).getD (2 * j + 1) 0 = figC ((l.getD j 0).toNat % 16) := by
  induction l generalizing j with
  | nil => simp at h
  | cons c l ih =>
    cases j with
    | zero => exact ⟨rfl, rfl⟩
    | succ j =>
      have := ih j (by simpa using h)
      have e : hexOf (c :: l) = figC (c.toNat / 16) :: figC (c.toNat % 16) :: hexOf l := rfl
      rw [e, show 2 * (j + 1) = 2 * j + 1 + 1 from by omega]
      exact this
theorem unhex_hex (l : List UInt8) (hl : l.length = 32) : isHex (hexOf l) = true ∧ unhexId (hexOf l) = l := by
  have hlen : (hexOf l).length = 64 := by rw [hexOf_length, hl]
  have hd (j : Nat) (hj : j < 32) : fg (hexOf l) (2 * j) = (l.getD j 0).toNat / 16 ∧ fg (hexOf l) (2 * j + 1) = (l.getD j 0).toNat % 16 := by
    have h := hexOf_get l j (by omega)
    have hc := (l.getD j 0).toNat_lt
    exact ⟨by rw [fg, h.1, figN_C _ (by omega)], by rw [fg, h.2, figN_C _ (by omega)]⟩
  refine ⟨isHex_of_figs hlen (fun i hi => ?_), ?_⟩
  · have hc := (l.getD (i / 2) 0).toNat_lt
    rcases Nat.mod_two_eq_zero_or_one i with h | h
    · have := (hd (i / 2) (by omega)).1
      rw [show 2 * (i / 2) = i from by omega] at this
      omega
    · have := (hd (i / 2) (by omega)).2
      rw [show 2 * (i / 2) + 1 = i from by omega] at this
      omega
  · apply List.ext_getElem
    · rw [unhexId_length, hl]
    · intro j h1 h2
      have hj : j < 32 := by rw [unhexId_length] at h1; exact h1
      simp only [unhexId, List.getElem_map, List.getElem_range, (hd j hj).1, (hd j hj).2]
      rw [show 16 * ((l.getD j 0).toNat / 16) + (l.getD j 0).toNat % 16 = (l.getD j 0).toNat from by omega]
      simp [List.getD, List.getElem?_eq_getElem h2]
theorem hex_unhex (s : List UInt8) (h : isHex s = true) : hexOf (unhexId s) = s := by
  obtain ⟨hl, hf⟩ := figs_of_isHex h
  apply List.ext_getElem
  · rw [hexOf_length, unhexId_length, hl]
  · intro i h1 h2
    have hi : i < 64 := by omega
    have hu := hexOf_get (unhexId s) (i / 2) (by rw [unhexId_length]; omega)
    have hb : ((unhexId s).getD (i / 2) 0).toNat = 16 * fg s (2 * (i / 2)) + fg s (2 * (i / 2) + 1) := by
      have h3 : i / 2 < (unhexId s).length := by rw [unhexId_length]; omega
      have f1 := hf (2 * (i / 2)) (by omega)
      have f2 := hf (2 * (i / 2) + 1) (by omega)
      rw [List.getD, List.getElem?_eq_getElem h3]
      simp only [unhexId, List.getElem_map, List.getElem_range, Option.getD_some]
      exact Nat.mod_eq_of_lt (by omega)
    have f1 := hf (2 * (i / 2)) (by omega)
    have f2 := hf (2 * (i / 2) + 1) (by omega)
    rw [hb] at hu
    rw [← getD_at _ i h1, ← getD_at _ i h2]
    rcases Nat.mod_two_eq_zero_or_one i with hm | hm
    · have := hu.1
      rw [show 2 * (i / 2) = i from by omega] at *
      rw [this, show (16 * fg s i + fg s (i + 1)) / 16 = fg s i from by omega]
      exact figC_N _ f1
    · have := hu.2
      rw [show 2 * (i / 2) + 1 = i from by omega] at *
      rw [this, show (16 * fg s (2 * (i / 2)) + fg s i) % 16 = fg s i from by omega]
      exact figC_N _ f2
end Go.Proofs.Ytlpiefopegjgjaa
