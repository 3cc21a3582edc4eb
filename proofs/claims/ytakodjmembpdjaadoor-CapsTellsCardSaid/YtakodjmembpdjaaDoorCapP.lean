/- Words, plain: whether they may be; a text's words; what is chosen. No condition; no program. -/
import Derived.Test.YtakodjmembpdjaaDoorStrW
import Derived.Test.YtakodjmembpdjaaDoorSortP
import Derived.Lib.IndexMore
import Derived.Lib.IndexBytes
import Derived.Lib.SplitLaws
import Derived.Lib.Join
import Derived.Laws.RangeAny
import Derived.Shelf.GgClosure.StringsIndexFunc
namespace Go.Proofs.YtakodjmembpdjaaDoor
def goodB (c : UInt8) : Bool := c == 45 || (decide (48 ≤ c) && decide (c ≤ 57)) || (decide (97 ≤ c) && decide (c ≤ 122))
def strangeN (n : Nat) : Bool := !(n == 45) && (decide (n < 48) || decide (57 < n)) && (decide (n < 97) || decide (122 < n))
theorem strange_good (c : UInt8) : strangeN c.toNat = !goodB c := by
  unfold strangeN goodB
  have h45 : (c == 45) = (c.toNat == 45) := by
    rw [Bool.eq_iff_iff, beq_iff_eq, beq_iff_eq]
    exact ⟨fun h => by rw [h]; rfl, fun h => UInt8.toNat_inj.1 h⟩
  rw [h45]
  simp only [UInt8.le_iff_toNat_le]
  have e1 : (48 : UInt8).toNat = 48 := rfl
  have e2 : (57 : UInt8).toNat = 57 := rfl
  have e3 : (97 : UInt8).toNat = 97 := rfl
  have e4 : (122 : UInt8).toNat = 122 := rfl
  rw [e1, e2, e3, e4]
  generalize c.toNat = n
  rw [Bool.eq_iff_iff]
  simp
  try omega
theorem strange_high {n : Nat} (h : 128 ≤ n) : strangeN n = true := by
  unfold strangeN
  simp
  omega
theorem idx_words (s : ByteArray) : ∀ (f pos : Nat), s.size - pos ≤ f → (Lib.idxFuncFrom strangeN true s f pos = -1 ↔ (s.data.toList.drop pos).all goodB = true)
  | 0, pos, h => by
    have : s.data.toList.length = s.size := rfl
    rw [List.drop_of_length_le (by omega)]
    simp [Lib.idxFuncFrom]
  | f + 1, pos, h => by
    have hsz : s.data.toList.length = s.size := rfl
    unfold Lib.idxFuncFrom
    by_cases hp : pos < s.size
    · rw [if_pos hp]
      have hget : s.data.toList[pos]'(by omega) = s[pos] := by simp [ByteArray.getElem_eq_getElem_data]
      rw [List.drop_eq_getElem_cons (by omega), hget, List.all_cons]
      by_cases ha : (s[pos]'hp).toNat < 128
      · rw [decode_ascii s pos hp ha]
        simp only
        rw [strange_good]
        cases hg : goodB s[pos]
        · simp
          try omega
        · simp only [Bool.not_true, Bool.false_eq_true, if_false, Bool.true_and]
          exact idx_words s f (pos + 1) (by omega)
      · have hd := decode_high s pos hp (by omega)
        rw [strange_high hd.1]
        have hg : goodB s[pos] = false := by
          have h1 := strange_good s[pos]
          rw [strange_high (by omega)] at h1
          cases hq : goodB s[pos]
          · rfl
          · rw [hq] at h1; cases h1
        simp [hg]
        try omega
    · rw [if_neg hp, List.drop_of_length_le (by omega)]
      simp
def wordB (s : Txt) : Bool := decide (1 ≤ s.length) && decide (s.length ≤ 20) && s.all goodB
def fineAtW (l : List Txt) (i : Nat) : Bool := match l[i]? with | none => true | some s => wordB s && (match i with | 0 => true | k + 1 => match l[k]? with | none => true | some p => Op.bytesLess p s)
def fineW (l : List Txt) : Bool := (List.range l.length).all (fineAtW l) && decide (l.length ≤ 20)
/-- A text's pieces, between blanks. -/
def splitW : Txt → List Txt
  | [] => [[]]
  | c :: r => if c = 32 then [] :: splitW r else match splitW r with | [] => [[c]] | a :: q => (c :: a) :: q
theorem splitW_ne : ∀ s, splitW s ≠ []
  | [] => by simp [splitW]
  | c :: r => by
    unfold splitW
    split
    · simp
    · split <;> simp
theorem splitW_app {b : Txt} : ∀ {a : Txt}, (32 : UInt8) ∉ a → splitW (a ++ 32 :: b) = a :: splitW b
  | [], _ => by simp [splitW]
  | c :: a, h => by
    have hc : ¬ c = 32 := fun e => h (by simp [e])
    rw [List.cons_append, splitW, if_neg hc, splitW_app (fun h' => h (by simp [h']))]
theorem splitW_none : ∀ {a : Txt}, (32 : UInt8) ∉ a → splitW a = [a]
  | [], _ => rfl
  | c :: a, h => by
    have hc : ¬ c = 32 := fun e => h (by simp [e])
    rw [splitW, if_neg hc, splitW_none (fun h' => h (by simp [h']))]
theorem splitW_snoc : ∀ a : Txt, ∃ init last, splitW a = init ++ [last] ∧ splitW (a ++ [32]) = init ++ [last] ++ [[]] ∧ ∀ c : UInt8, c ≠ 32 → splitW (a ++ [c]) = init ++ [last ++ [c]]
  | [] => ⟨[], [], rfl, rfl, fun c hc => by simp [splitW, hc]⟩
  | x :: a => by
    obtain ⟨init, last, h1, h2, h3⟩ := splitW_snoc a
    by_cases hx : x = 32
    · refine ⟨[] :: init, last, ?_, ?_, fun c hc => ?_⟩
      · rw [splitW, if_pos hx, h1]; rfl
      · rw [List.cons_append, splitW, if_pos hx, h2]; rfl
      · rw [List.cons_append, splitW, if_pos hx, h3 c hc]; rfl
    · cases init with
      | nil =>
        refine ⟨[], x :: last, ?_, ?_, fun c hc => ?_⟩
        · rw [splitW, if_neg hx, h1]; rfl
        · rw [List.cons_append, splitW, if_neg hx, h2]; rfl
        · rw [List.cons_append, splitW, if_neg hx, h3 c hc]; rfl
      | cons i0 init =>
        refine ⟨(x :: i0) :: init, last, ?_, ?_, fun c hc => ?_⟩
        · rw [splitW, if_neg hx, h1]; rfl
        · rw [List.cons_append, splitW, if_neg hx, h2]; rfl
        · rw [List.cons_append, splitW, if_neg hx, h3 c hc]; rfl
def joinW (l : List Txt) : Txt := Lib.join l [32]
theorem joinW_cons (x : Txt) (l : List Txt) (h : l ≠ []) : joinW (x :: l) = x ++ 32 :: joinW l := by
  cases l with
  | nil => exact absurd rfl h
  | cons y l =>
    unfold joinW
    rw [Lib.join_cons, Lib.join_cons]
    simp [Lib.joinTail]
theorem join_split : ∀ s : Txt, joinW (splitW s) = s
  | [] => by simp [splitW, joinW, Lib.join_one]
  | c :: r => by
    have ih := join_split r
    unfold splitW
    split
    · rename_i hc
      rw [joinW_cons _ _ (splitW_ne r), ih, hc]; rfl
    · cases h : splitW r with
      | nil => exact absurd h (splitW_ne r)
      | cons a q =>
        rw [h] at ih
        simp only
        cases q with
        | nil =>
          unfold joinW at ih ⊢
          rw [Lib.join_one] at ih ⊢
          rw [ih]
        | cons b q =>
          rw [joinW_cons _ _ (by simp)] at ih ⊢
          rw [← ih]; rfl
theorem find_blank : ∀ s : Txt, ((32 : UInt8) ∉ s ∧ Lib.indexByte s 32 = -1) ∨ ∃ a b, s = a ++ 32 :: b ∧ (32 : UInt8) ∉ a ∧ Lib.indexByte s 32 = (a.length : Int)
  | [] => .inl ⟨by simp, rfl⟩
  | x :: r => by
    by_cases hx : x = 32
    · subst hx
      exact .inr ⟨[], r, rfl, by simp, by simp [Lib.indexByte]⟩
    · have hb : (x == 32) = false := by simpa using hx
      rcases find_blank r with ⟨h1, h2⟩ | ⟨a, b, h1, h2, h3⟩
      · exact .inl ⟨by simp [h1]; exact fun e => hx e.symm, by simp [Lib.indexByte, hb, h2]⟩
      · refine .inr ⟨x :: a, b, by simp [h1], by simp [h2]; exact fun e => hx e.symm, ?_⟩
        have hne : ((a.length : Int) == -1) = false := by
          rw [beq_eq_false_iff_ne]; omega
        simp [Lib.indexByte, hb, h3, hne]
theorem split_count : ∀ (n : Nat) (s : Txt), s.length ≤ n → Lib.splitK [32] 0 (Lib.count s [32]) s = splitW s ∧ (splitW s).length = Lib.count s [32] + 1
  | n, s, hn => by
    rcases find_blank s with ⟨h1, h2⟩ | ⟨a, b, h1, h2, h3⟩
    · have hi : Lib.index s [32] = -1 := by rw [Lib.index_one, h2]
      rw [Lib.count_miss hi, splitW_none h1]
      exact ⟨rfl, rfl⟩
    · have hi : Lib.index s [32] = (a.length : Int) := by rw [Lib.index_one, h3]
      cases n with
      | zero => rw [h1] at hn; simp at hn
      | succ n =>
        rw [Lib.count_hit (by simp) hi]
        have hd : s.drop (a.length + [(32 : UInt8)].length) = b := by rw [h1]; simp [List.drop_append]
        have ih := split_count n b (by rw [h1] at hn; simp at hn; omega)
        rw [hd, Nat.add_comm 1]
        have hs : splitW s = a :: splitW b := by rw [h1]; exact splitW_app h2
        rw [hs]
        refine ⟨?_, by rw [List.length_cons, ih.2]⟩
        rw [Lib.splitK, hi, if_neg (by rw [beq_iff_eq]; omega), Int.toNat_natCast, hd, ih.1]
        congr 1
        rw [h1]; simp
/-- The words of a text, if they may be. -/
def getW (s : Txt) : Option (List Txt) := if s = [] then some [] else if fineW (splitW s) then some (splitW s) else none
def hasW (l : List Txt) (w : Txt) : Bool := l.any (· == w)
def knownW : List Txt := [[97, 116, 111, 109, 105, 99], [98, 97, 110, 100], [100, 101, 101, 112, 101, 110], [111, 102, 115], [116, 104, 105, 110]]
def chooseW (o w : List Txt) : List Txt := knownW.filter (fun k => hasW o k && hasW w k)
theorem choose_comm (o w : List Txt) : chooseW o w = chooseW w o := by
  unfold chooseW
  congr 1
  funext k
  exact Bool.and_comm _ _
theorem has_choose (o w : List Txt) (k : Txt) (hk : k ∈ knownW) : hasW (chooseW o w) k = (hasW o k && hasW w k) := by
  unfold chooseW
  rw [Bool.eq_iff_iff]
  constructor
  · intro h
    obtain ⟨y, hy, he⟩ := List.any_eq_true.1 h
    have : y = k := by simpa using he
    subst this
    exact (List.mem_filter.1 hy).2
  · intro h
    exact List.any_eq_true.2 ⟨k, List.mem_filter.2 ⟨hk, h⟩, by simp⟩
theorem choose_again (o w : List Txt) : chooseW (chooseW o w) o = chooseW o w := by
  show knownW.filter _ = knownW.filter _
  apply List.filter_congr
  intro k hk
  rw [has_choose o w k hk]
  cases hasW o k <;> cases hasW w k <;> rfl
theorem choose_once (o w : List Txt) : chooseW w (chooseW o w) = chooseW o w := by
  rw [choose_comm w, choose_comm o w]
  exact choose_again w o
theorem choose_fine (o w : List Txt) : fineW (chooseW o w) = true := by
  unfold chooseW
  generalize (fun k => hasW o k && hasW w k) = p
  unfold knownW
  simp only [List.filter_cons, List.filter_nil]
  generalize p [97, 116, 111, 109, 105, 99] = b1
  generalize p [98, 97, 110, 100] = b2
  generalize p [100, 101, 101, 112, 101, 110] = b3
  generalize p [111, 102, 115] = b4
  generalize p [116, 104, 105, 110] = b5
  cases b1 <;> cases b2 <;> cases b3 <;> cases b4 <;> cases b5 <;> decide
end Go.Proofs.YtakodjmembpdjaaDoor
