/- The walks of layer 9 (ref): slices.Insert, all roads. No condition. -/
import Derived.Test.YtlpiefopegjgjaaRefN
namespace Go.Proofs.Ytlpiefopegjgjaa
open Go.RowKit
theorem OwnRefs.of_row {w : World} {base g cap : Nat} {l : List RefL} (hok : RefsOk l) (h : Row w g 54 33 refC cap l) (hg : base ≤ g) {n : Nat} (hn : n = l.length) : OwnRefs w base (.slice (some ⟨g, 0, none⟩) n cap) l := by
  subst hn
  exact h.own (refK hok) hg
theorem refsOk_ins {l : List RefL} (hok : RefsOk l) (i : Nat) {x : RefL} (hx : RefOk x) : RefsOk (l.take i ++ [x] ++ l.drop i) := by
  intro y hy
  simp only [List.mem_append, List.mem_singleton] at hy
  rcases hy with (hy | rfl) | hy
  · exact hok y (List.mem_of_mem_take hy)
  · exact hx
  · exact hok y (List.mem_of_mem_drop hy)
set_option maxRecDepth 100000 in
set_option maxHeartbeats 500000 in
theorem insert_end (l : List RefL) (hok : RefsOk l) (hbig : l.length ≤ 1000000) (v : Value) (w : World) (base vb : Nat) (x : RefL) (hx : RefOk x) (hbase : base ≤ w.heap.size) (hown : OwnRefs w base v l)
    (hv : Blk w vb 54 (refC x).toArray) :
    Calls Try.prog 48 #[v, .int .i64 (l.length : Nat), .slice (some ⟨vb, 0, none⟩) 1 1] w fun e w' =>
      ∃ v', e = .returned v' ∧ OwnRefs w' base v' (l ++ [x]) ∧ Below base w w' := by
  have hcap : ∃ A cap, v = .slice A l.length cap ∧ l.length ≤ cap ∧ cap ≤ 9223372036854775807 ∧ (A = none → l.length = 0 ∧ cap = 0) := by
    rcases Row.of_own (refK hok) hown with ⟨rfl, rfl⟩ | ⟨g, cap, rfl, hg, hrow⟩
    · exact ⟨none, 0, rfl, by simp, by omega, fun _ => ⟨rfl, rfl⟩⟩
    · exact ⟨_, cap, rfl, hrow.le, hrow.top63, fun h => by cases h⟩
  obtain ⟨A, cap, rfl, hc1, hc2, hnil⟩ := hcap
  have hlk := refC_len hx
  have hone : ∀ u ∈ (refC x).toArray.toList, u.oneCell' = true := fun u hu => refC_one x u (by simpa using hu)
  have hb := Below.refl base w
  have h1 : l.length + 1 ≤ 9223372036854775807 := by omega
  have h2 : (l.length + 1) * 48 ≤ 140737488355328 := by omega
  have hlen : l.length ≤ 9223372036854775807 := by omega
  clear hbig
  go_enter Try.func48, Try.ntmps48
  go_wp2_with (first
    | (at_builtin
       refine wpList_append_blk rfl (.tmp 23) (.tmp 24) _ rfl 54 _ 33 48 Try.refTy base _ l.length (rowsOf refC l) rfl hown vb 1 1 54 _ rfl hv (by rw [List.size_toArray, hlk]) hone h1 h2 w hb hbase ?_
       intro v' w' hown3 hbel3 hg3))
  all_goals
    go_ret
    have hown4 : OwnRefs w' base v' (l ++ [x]) := by
      unfold OwnRefs
      rw [List.length_append, List.length_singleton, rowsOf_append, rowsOf_one]
      exact hown3
    exact ⟨_, rfl, hown4, hbel3⟩
/-- slices.Insert of one ref. -/
theorem insert_calls (l : List RefL) (hok : RefsOk l) (hbig : l.length ≤ 1000000) (v : Value) (w : World) (base i vb : Nat) (x : RefL) (hx : RefOk x) (hbase : base ≤ w.heap.size) (hown : OwnRefs w base v l) (hi : i ≤ l.length)
    (hv : Blk w vb 54 (refC x).toArray) (hne : v.ownBlock ≠ some vb) :
    Calls Try.prog 48 #[v, .int .i64 i, .slice (some ⟨vb, 0, none⟩) 1 1] w fun e w' =>
      ∃ v', e = .returned v' ∧ OwnRefs w' base v' (l.take i ++ [x] ++ l.drop i) ∧ Below base w w' := by
  rcases Nat.lt_or_ge i l.length with hlt | hge
  · rcases Row.of_own (refK hok) hown with ⟨rfl, rfl⟩ | ⟨g, cap, rfl, hg, hrow⟩
    · simp at hlt
    have hlen : l.length + 1 = (l.take i ++ [x] ++ l.drop i).length := by simp; omega
    by_cases hcap : l.length + 1 ≤ cap
    · refine (insert_room l hok w base g cap i vb x hx hg hrow hlt hcap hv (fun e => hne (by rw [e]; rfl))).mono ?_
      rintro e w' ⟨rfl, h1, h2⟩
      exact ⟨_, rfl, OwnRefs.of_row (refsOk_ins hok i hx) h1 hg hlen, h2⟩
    · refine (insert_grow l hok hbig w base g cap i vb x hx hbase hrow hlt (by omega) hv).mono ?_
      rintro e w' ⟨G, rfl, h1, h2⟩
      exact ⟨_, rfl, OwnRefs.of_row (refsOk_ins hok i hx) h1 hbase hlen, h2⟩
  · obtain rfl : i = l.length := by omega
    rw [List.take_length, List.drop_length, List.append_nil]
    exact insert_end l hok hbig v w base vb x hx hbase hown hv
end Go.Proofs.Ytlpiefopegjgjaa
