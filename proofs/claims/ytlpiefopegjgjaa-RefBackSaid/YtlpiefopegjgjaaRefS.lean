/- The plain law of updates (layer 9): what one update, and what updates come to, on our side. No condition; no program. -/
import Derived.Test.YtlpiefopegjgjaaUpdR
import Derived.Test.YtlpiefopegjgjaaRefR
namespace Go.Proofs.Ytlpiefopegjgjaa
open Go.RowKit
/-- What an update is told (an error's number), the refs behind it; p: the updates ahead of it. -/
def rightOf (p : List UpdL) (x : UpdL) : Bool := nameOk x.name && !(p.any (fun y => y.name == x.name)) && !(isNone x.old && isNone x.new)
def codeP (l : List RefL) (p : List UpdL) (x : UpdL) : Nat := if rightOf p x then (if findOr l x.name = x.old then (if (putL l x.name x.new).length ≤ 64 then 0 else 3) else 10) else 8
def nextP (l : List RefL) (p : List UpdL) (x : UpdL) : List RefL := if codeP l p x = 0 then putL l x.name x.new else l
theorem rightAt_of (u : List UpdL) (k : Nat) (x : UpdL) : rightAt u k x = rightOf (u.take k) x := rfl
theorem code_wrong {l : List RefL} {p : List UpdL} {x : UpdL} (h : rightOf p x = false) : codeP l p x = 8 ∧ nextP l p x = l := by
  have : codeP l p x = 8 := by simp [codeP, h]
  exact ⟨this, by simp [nextP, this]⟩
theorem code_lease {l : List RefL} {p : List UpdL} {x : UpdL} (h : rightOf p x = true) (h1 : ¬ findOr l x.name = x.old) : codeP l p x = 10 ∧ nextP l p x = l := by
  have : codeP l p x = 10 := by simp [codeP, h, h1]
  exact ⟨this, by simp [nextP, this]⟩
theorem code_limit {l : List RefL} {p : List UpdL} {x : UpdL} (h : rightOf p x = true) (h1 : findOr l x.name = x.old) (h2 : ¬ (putL l x.name x.new).length ≤ 64) : codeP l p x = 3 ∧ nextP l p x = l := by
  have : codeP l p x = 3 := by rw [codeP, if_pos h, if_pos h1, if_neg h2]
  exact ⟨this, by rw [nextP, if_neg (by omega)]⟩
theorem code_ok {l : List RefL} {p : List UpdL} {x : UpdL} (h : rightOf p x = true) (h1 : findOr l x.name = x.old) (h2 : (putL l x.name x.new).length ≤ 64) : codeP l p x = 0 ∧ nextP l p x = putL l x.name x.new := by
  have : codeP l p x = 0 := by rw [codeP, if_pos h, if_pos h1, if_pos h2]
  exact ⟨this, by rw [nextP, if_pos this]⟩
/-- The refs, and what is told, behind the first k updates. -/
def runP (l : List RefL) (u : List UpdL) : Nat → List RefL × List Nat
  | 0 => (l, [])
  | k + 1 => match u[k]? with
    | none => runP l u k
    | some x => (nextP (runP l u k).1 (u.take k) x, (runP l u k).2 ++ [codeP (runP l u k).1 (u.take k) x])
theorem runP_step {l : List RefL} {u : List UpdL} {k : Nat} {x : UpdL} (hx : u[k]? = some x) : runP l u (k + 1) = (nextP (runP l u k).1 (u.take k) x, (runP l u k).2 ++ [codeP (runP l u k).1 (u.take k) x]) := by
  simp [runP, hx]
theorem findOr_len {l : List RefL} (hok : RefsOk l) (name : List UInt8) : (findOr l name).length = 32 := by
  unfold findOr findL
  cases h : l.find? (fun r => r.name == name) with
  | none => simp
  | some x => simpa using (hok x (List.mem_of_find?_eq_some h)).1
theorem refsOk_put {l : List RefL} (hok : RefsOk l) {name id : List UInt8} (hid : id.length = 32) (hnm : name.length ≤ 9223372036854775807) : RefsOk (putL l name id) := by
  have hd : RefsOk (dropL l name) := refsOk_filter hok _
  unfold putL
  split
  · exact hd
  · intro y hy
    unfold insL at hy
    rw [List.mem_append, List.mem_append] at hy
    rcases hy with (h1 | h1) | h1
    · exact hd y (List.mem_of_mem_take h1)
    · simp at h1
      subst h1
      exact ⟨hid, hnm⟩
    · exact hd y (List.mem_of_mem_drop h1)
theorem dropL_le (l : List RefL) (name : List UInt8) : (dropL l name).length ≤ l.length := List.length_filter_le _ _
theorem putL_le (l : List RefL) (name id : List UInt8) : (putL l name id).length ≤ l.length + 1 := by
  have := dropL_le l name
  unfold putL
  split
  · omega
  · have := posL_le (dropL l name) name
    simp only [insL, List.length_append, List.length_take, List.length_drop, List.length_cons, List.length_nil]
    omega
theorem nextP_ok {l : List RefL} (hok : RefsOk l) {p : List UpdL} {x : UpdL} (hx : UpdOk x) : RefsOk (nextP l p x) := by
  unfold nextP
  split
  · exact refsOk_put hok hx.2.1 hx.2.2
  · exact hok
theorem nextP_le (l : List RefL) (p : List UpdL) (x : UpdL) : (nextP l p x).length ≤ l.length + 1 := by
  unfold nextP
  split
  · exact putL_le _ _ _
  · omega
theorem runP_ok {l : List RefL} (hok : RefsOk l) {u : List UpdL} (hu : UpdsOk u) (k : Nat) : RefsOk (runP l u k).1 := by
  induction k with
  | zero => exact hok
  | succ k ih =>
    cases hx : u[k]? with
    | none => simpa [runP, hx] using ih
    | some x =>
      rw [runP_step hx]
      exact nextP_ok ih (hu x (List.mem_of_getElem? hx))
theorem runP_le (l : List RefL) (u : List UpdL) (k : Nat) : (runP l u k).1.length ≤ l.length + k := by
  induction k with
  | zero => exact Nat.le_refl _
  | succ k ih =>
    cases hx : u[k]? with
    | none => simp only [runP, hx]; omega
    | some x =>
      rw [runP_step hx]
      have := nextP_le (runP l u k).1 (u.take k) x
      simp only
      omega
theorem runP_told {l : List RefL} {u : List UpdL} {k : Nat} (hk : k ≤ u.length) : (runP l u k).2.length = k := by
  induction k with
  | zero => rfl
  | succ k ih =>
    have hx : u[k]? = some u[k] := List.getElem?_eq_getElem (by omega)
    rw [runP_step hx]
    simp [ih (by omega)]
theorem codeP_lt (l : List RefL) (p : List UpdL) (x : UpdL) : codeP l p x < 16 := by
  unfold codeP
  repeat' split
  all_goals omega
end Go.Proofs.Ytlpiefopegjgjaa
