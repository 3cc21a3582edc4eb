/- The plain law of refs' text (layer 9): what is put, what is got. No condition; no program. -/
import Derived.Test.YtlpiefopegjgjaaRefL
import Derived.Test.YtlpiefopegjgjaaHexP
namespace Go.Proofs.Ytlpiefopegjgjaa
open Go.RowKit
def lineT (r : RefL) : List UInt8 := hexOf r.id ++ 32 :: (r.name ++ [10])
def putT (l : List RefL) : List UInt8 := l.flatMap lineT
theorem putT_cons (r : RefL) (l : List RefL) : putT (r :: l) = lineT r ++ putT l := by simp [putT]
theorem putT_append (a b : List RefL) : putT (a ++ b) = putT a ++ putT b := by simp [putT]
theorem putT_one (r : RefL) : putT [r] = lineT r := by simp [putT]
/-- A text cut at its first c. -/
def cutB (c : UInt8) : List UInt8 → Option (List UInt8 × List UInt8)
  | [] => none
  | x :: r => if x = c then some ([], r) else (cutB c r).map (fun p => (x :: p.1, p.2))
theorem cutB_some {c : UInt8} : ∀ {s a b : List UInt8}, cutB c s = some (a, b) ↔ s = a ++ c :: b ∧ c ∉ a
  | [], a, b => by simp [cutB]
  | x :: r, a, b => by
    unfold cutB
    by_cases hx : x = c
    · subst hx
      rw [if_pos rfl]
      constructor
      · intro h
        injection h with h
        injection h with h1 h2
        subst h1 h2
        simp
      · rintro ⟨h1, h2⟩
        cases a with
        | nil => simp at h1; rw [h1]
        | cons y a => simp at h1 h2; exact absurd h1.1 h2.1
    · rw [if_neg hx]
      constructor
      · intro h
        obtain ⟨p, hp, he⟩ := Option.map_eq_some_iff.1 h
        injection he with e1 e2
        subst e1 e2
        obtain ⟨h1, h2⟩ := (cutB_some (a := p.1) (b := p.2)).1 hp
        refine ⟨by rw [h1]; rfl, ?_⟩
        simp only [List.mem_cons, not_or]
        exact ⟨fun e => hx e.symm, h2⟩
      · rintro ⟨h1, h2⟩
        cases a with
        | nil => simp at h1; exact absurd h1.1 hx
        | cons y a =>
          simp only [List.cons_append, List.cons.injEq] at h1
          simp only [List.mem_cons, not_or] at h2
          obtain ⟨rfl, h1⟩ := h1
          rw [(cutB_some (a := a) (b := b)).2 ⟨h1, h2.2⟩]
          rfl
theorem cutB_none {c : UInt8} {s : List UInt8} : cutB c s = none ↔ c ∉ s := by
  induction s with
  | nil => simp [cutB]
  | cons x r ih =>
    unfold cutB
    by_cases hx : x = c
    · subst hx; simp
    · rw [if_neg hx, Option.map_eq_none_iff, ih]
      simp only [List.mem_cons, not_or]
      exact ⟨fun h => ⟨fun e => hx e.symm, h⟩, fun h => h.2⟩
theorem cutB_len {c : UInt8} {s a b : List UInt8} (h : cutB c s = some (a, b)) : b.length < s.length := by
  rw [(cutB_some.1 h).1]; simp; omega
theorem fig_range (n : Nat) (h : n < 16) : figC n ≠ 10 ∧ figC n ≠ 32 := by
  have : ∀ n : Fin 16, figC n.val ≠ 10 ∧ figC n.val ≠ 32 := by decide
  exact this ⟨n, h⟩
theorem hexOf_clean (l : List UInt8) : (10 : UInt8) ∉ hexOf l ∧ (32 : UInt8) ∉ hexOf l := by
  have key : ∀ c ∈ hexOf l, c ≠ 10 ∧ c ≠ 32 := by
    intro c hc
    simp only [hexOf, List.mem_flatMap] at hc
    obtain ⟨x, _, hx⟩ := hc
    have h1 : x.toNat / 16 < 16 := by have := x.toNat_lt; omega
    have h2 : x.toNat % 16 < 16 := by omega
    simp at hx
    rcases hx with rfl | rfl
    · exact fig_range _ h1
    · exact fig_range _ h2
  exact ⟨fun h => (key _ h).1 rfl, fun h => (key _ h).2 rfl⟩
/-- What our side reads: lines, cut at the first space. -/
def getGo : Nat → List UInt8 → List RefL → Option (List RefL)
  | 0, s, acc => if s = [] then some acc else none
  | n + 1, s, acc => if s = [] then some acc else
    match cutB 10 s with
    | none => none
    | some (line, rest) => match cutB 32 line with
      | none => none
      | some (hex, name) => if isHex hex then getGo n rest (acc ++ [⟨name, unhexId hex⟩]) else none
def LineOk (r : RefL) : Prop := r.id.length = 32 ∧ (10 : UInt8) ∉ r.name
theorem lineT_ne (r : RefL) : lineT r ≠ [] := by simp [lineT]
theorem getGo_iff : ∀ (n : Nat) (s : List UInt8) (acc out : List RefL), s.length ≤ n → (getGo n s acc = some out ↔ ∃ l, out = acc ++ l ∧ s = putT l ∧ ∀ r ∈ l, LineOk r)
  | 0, s, acc, out, hn => by
    have hs : s = [] := List.eq_nil_of_length_eq_zero (by omega)
    subst hs
    simp only [getGo, if_true]
    constructor
    · intro h
      injection h with h
      exact ⟨[], by simp [h], rfl, fun r hr => by simp at hr⟩
    · rintro ⟨l, rfl, h, _⟩
      cases l with
      | nil => simp
      | cons r l => rw [putT_cons] at h; have := congrArg List.length h; simp [lineT] at this
  | n + 1, s, acc, out, hn => by
    unfold getGo
    by_cases hs : s = []
    · subst hs
      rw [if_pos rfl]
      constructor
      · intro h
        injection h with h
        exact ⟨[], by simp [h], rfl, fun r hr => by simp at hr⟩
      · rintro ⟨l, rfl, h, _⟩
        cases l with
        | nil => simp
        | cons r l => rw [putT_cons] at h; have := congrArg List.length h; simp [lineT] at this
    · rw [if_neg hs]
      constructor
      · intro h
        split at h
        · cases h
        · rename_i line rest hc
          split at h
          · cases h
          · rename_i hex name hc2
            split at h
            · rename_i hh
              have hlt := cutB_len hc
              obtain ⟨l, h1, h2, h3⟩ := (getGo_iff n rest _ out (by omega)).1 h
              obtain ⟨e1, m1⟩ := cutB_some.1 hc
              obtain ⟨e2, m2⟩ := cutB_some.1 hc2
              refine ⟨⟨name, unhexId hex⟩ :: l, by rw [h1]; simp, ?_, ?_⟩
              · rw [putT_cons, lineT, hex_unhex hex hh, e1, e2, h2]
                simp
              · intro r hr
                rcases List.mem_cons.1 hr with rfl | hr
                · refine ⟨unhexId_length hex, ?_⟩
                  rw [e2] at m1
                  intro hm
                  exact m1 (by simp [hm])
                · exact h3 r hr
            · cases h
      · rintro ⟨l, rfl, rfl, h3⟩
        cases l with
        | nil => exact absurd rfl hs
        | cons r l =>
          obtain ⟨hid, hnm⟩ := h3 r (by simp)
          have e1 : cutB 10 (putT (r :: l)) = some (hexOf r.id ++ 32 :: r.name, putT l) := by
            rw [cutB_some]
            refine ⟨by rw [putT_cons, lineT]; simp, ?_⟩
            simp only [List.mem_append, List.mem_cons, not_or]
            exact ⟨(hexOf_clean _).1, by decide, hnm⟩
          have e2 : cutB 32 (hexOf r.id ++ 32 :: r.name) = some (hexOf r.id, r.name) := cutB_some.2 ⟨rfl, (hexOf_clean _).2⟩
          obtain ⟨h1, h2⟩ := unhex_hex r.id hid
          rw [e1]
          simp only [e2, h1, h2, if_true]
          have hlt := cutB_len e1
          refine (getGo_iff n (putT l) _ _ (by omega)).2 ⟨l, by simp, rfl, fun q hq => h3 q (by simp [hq])⟩
theorem name_clean {s : List UInt8} (h : nameOk s = true) : (10 : UInt8) ∉ s := by
  intro hm
  simp only [nameOk, Bool.and_eq_true] at h
  have := List.all_eq_true.1 h.2 10 hm
  simp [nameC] at this
theorem fine_each' {l : List RefL} (h : fineL l = true) : ∀ r ∈ l, nameOk r.name = true := by
  intro r hr
  obtain ⟨i, hi, rfl⟩ := List.getElem_of_mem hr
  exact (fineAt_parts hi (fineAt_all h hi)).1
/-- What our side tells of a text. -/
def getP (s : List UInt8) : Option (List RefL) := match getGo s.length s [] with
  | none => none
  | some l => if fineL l then some l else none
theorem getP_iff (s : List UInt8) (l : List RefL) : getP s = some l ↔ fineL l = true ∧ s = putT l ∧ ∀ r ∈ l, r.id.length = 32 := by
  unfold getP
  constructor
  · intro h
    split at h
    · cases h
    · rename_i q hq
      split at h
      · rename_i hf
        injection h with h
        subst h
        obtain ⟨l', h1, h2, h3⟩ := (getGo_iff _ s [] q (Nat.le_refl _)).1 hq
        rw [List.nil_append] at h1
        subst h1
        exact ⟨hf, h2, fun r hr => (h3 r hr).1⟩
      · cases h
  · rintro ⟨h1, h2, h3⟩
    have : getGo s.length s [] = some l := (getGo_iff _ s [] l (Nat.le_refl _)).2 ⟨l, by simp, h2, fun r hr => ⟨h3 r hr, name_clean (fine_each' h1 r hr)⟩⟩
    rw [this]
    simp [h1]
/-- What the document's side reads. -/
def refGo : Nat → List UInt8 → List RefL → Option (List RefL)
  | 0, _, acc => some acc
  | n + 1, s, acc => match cutB 10 s with
    | none => some acc
    | some (line, rest) => if line.length < 65 then none else if isHex (line.take 64) then refGo n rest (acc ++ [⟨line.drop 65, unhexId (line.take 64)⟩]) else none
theorem refGo_put : ∀ (n : Nat) (l acc : List RefL), (putT l).length ≤ n → (∀ r ∈ l, LineOk r) → refGo n (putT l) acc = some (acc ++ l)
  | 0, l, acc, hn, _ => by
    cases l with
    | nil => simp [refGo]
    | cons r l => rw [putT_cons] at hn; simp [lineT] at hn
  | n + 1, l, acc, hn, h => by
    cases l with
    | nil => simp [refGo, putT, cutB]
    | cons r l =>
      obtain ⟨hid, hnm⟩ := h r (by simp)
      have hlen := hexOf_length r.id
      rw [hid] at hlen
      have e1 : cutB 10 (putT (r :: l)) = some (hexOf r.id ++ 32 :: r.name, putT l) := by
        rw [cutB_some]
        refine ⟨by rw [putT_cons, lineT]; simp, ?_⟩
        simp only [List.mem_append, List.mem_cons, not_or]
        exact ⟨(hexOf_clean _).1, by decide, hnm⟩
      have e2 : (hexOf r.id ++ 32 :: r.name).take 64 = hexOf r.id := by rw [List.take_append_of_le_length (by omega), List.take_of_length_le (by omega)]
      have e3 : (hexOf r.id ++ 32 :: r.name).drop 65 = r.name := by
        rw [List.drop_append, hlen, List.drop_of_length_le (by omega)]
        rfl
      obtain ⟨h1, h2⟩ := unhex_hex r.id hid
      unfold refGo
      rw [e1]
      have hlt := cutB_len e1
      simp only [e2, e3, h1, h2, if_true]
      rw [if_neg (by simp; omega), refGo_put n l _ (by omega) (fun q hq => h q (by simp [hq]))]
      simp
theorem refGo_ids : ∀ (n : Nat) (s : List UInt8) (acc out : List RefL), refGo n s acc = some out → (∀ r ∈ acc, r.id.length = 32) → ∀ r ∈ out, r.id.length = 32
  | 0, s, acc, out, h, ha => by
    simp only [refGo] at h
    injection h with h
    subst h
    exact ha
  | n + 1, s, acc, out, h, ha => by
    unfold refGo at h
    split at h
    · injection h with h
      subst h
      exact ha
    · rename_i line rest hc
      split at h
      · cases h
      · split at h
        · refine refGo_ids n rest _ out h fun r hr => ?_
          rw [List.mem_append] at hr
          rcases hr with hr | hr
          · exact ha r hr
          · simp at hr; subst hr; exact unhexId_length _
        · cases h
/-- What the document's side tells of a text. -/
def getR (s : List UInt8) : Option (List RefL) := match refGo s.length s [] with
  | none => none
  | some l => if fineL l && decide (putT l = s) then some l else none
theorem getR_iff (s : List UInt8) (l : List RefL) : getR s = some l ↔ fineL l = true ∧ s = putT l ∧ ∀ r ∈ l, r.id.length = 32 := by
  unfold getR
  constructor
  · intro h
    split at h
    · cases h
    · rename_i q hq
      split at h
      · rename_i hf
        injection h with h
        subst h
        rw [Bool.and_eq_true, decide_eq_true_eq] at hf
        exact ⟨hf.1, hf.2.symm, refGo_ids _ s [] q hq (fun r hr => by simp at hr)⟩
      · cases h
  · rintro ⟨h1, rfl, h3⟩
    rw [refGo_put _ l [] (Nat.le_refl _) fun r hr => ⟨h3 r hr, name_clean (fine_each' h1 r hr)⟩]
    simp [h1]
theorem getR_eq (s : List UInt8) : getR s = getP s := by
  apply Option.ext
  intro l
  rw [getR_iff, getP_iff]
end Go.Proofs.Ytlpiefopegjgjaa
