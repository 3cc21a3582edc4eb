/- The walks of layer 9 (ref): slices.Clone, slices.DeleteFunc at refs. No condition. -/
import Derived.Test.YtlpiefopegjgjaaRefI
import Derived.Test.YtlpiefopegjgjaaRowk
import Derived.Lib.SliceRun
namespace Go.Proofs.Ytlpiefopegjgjaa
open Go.RowKit
def zRef : Value := .agg (refC ⟨[], List.replicate 32 0⟩).toArray
theorem Try.refTy : SliceTy Try.prog 22 54 zRef 33 48 := ⟨Try.underlying22, info_parts (by kernel_rfl), rfl, by omega⟩
theorem refK {l : List RefL} (h : RefsOk l) : ∀ x ∈ l, (refC x).length = 33 := fun x hx => refC_len (h x hx)
theorem refOne (l : List RefL) : ∀ u ∈ rowsOf refC l, u.oneCell' = true := rowsOf_one' fun x _ => refC_one x
abbrev OwnRefs (w : World) (base : Nat) (v : Value) (l : List RefL) : Prop := w.ownsRow base 54 33 v l.length (rowsOf refC l)
theorem OwnRefs.refs {w : World} {base : Nat} {v : Value} {l : List RefL} (hok : RefsOk l) (h : OwnRefs w base v l) : Refs w v l := SliceAt.of_own (refK hok) h
theorem wpList_append_slice {P : Program} {w : World} {ops : Array Oper} {rest : List Oper} {o : Oper} {a : Act} {Q : Exit → Act → World → Prop} (hgd : o.guard = none) (s x : Operand) (t : TypeId)
    (ho : o.op = .call { callee := .builtin .append, args := #[s, x], argTypes := #[t, t] })
    (e : TypeId) (z : Value) (size bytes : Nat) (hT : SliceTy P t e z size bytes) (base : Nat) (v : Value) (n : Nat) (xs : List Value) (hs : a.eval s = v) (hown : w.ownsRow base e size v n xs)
    (ad : Addr) (m c : Nat) (news : List Value) (hx : a.eval x = .slice (some ad) m c) (hl : news.length = m * size) (hnews : ∀ j u, news[j]? = some u → w.cell? (ad.add j) = some u) (h1 : ∀ u ∈ news, u.oneCell' = true)
    (h63 : n + m ≤ 9223372036854775807) (hbytes : (n + m) * bytes ≤ 140737488355328) (w0 : World) (hb : Below base w0 w) (hbase : base ≤ w.heap.size)
    (h : ∀ v' w', w'.ownsRow base e size v' (n + m) (xs ++ news) → Below base w0 w' → wpList P ops Q rest (a.put o.dst v') w') : wpList P ops Q (o :: rest) a w :=
  wpList_plain hgd fun _ hK => by
    obtain ⟨i, i1, i2, i3, i4⟩ := hT.hi
    refine wp_append_own w s x t ho base e i z size bytes hT.ht i1 i2 i3 i4 hT.hzs hT.hsz v n xs hs hown ad m c news hx hl hnews h1 h63 hbytes hbase ?_
    intro v' w' hown' hg _
    exact hK _ _ (h v' w' hown' (hb.grown hg hbase (fun k hk => (World.ownsRow.lt hown k hk).1)))
set_option maxRecDepth 100000 in
set_option maxHeartbeats 400000 in
theorem clone_calls (l : List RefL) (hok : RefsOk l) (hbig : l.length ≤ 1000000) (v : Value) (w : World) (hv : Refs w v l) :
    Calls Try.prog 23 #[v] w fun e w' => ∃ v', e = .returned v' ∧ OwnRefs w' w.heap.size v' l ∧ Below w.heap.size w w' := by
  have hv0 := hv
  have q22 := fun (w : World) (a : Option Addr) (n c n' c' : Nat) => Lib.run_eql_slice_nil (P := Try.prog) w 22 _ a n c n' c' Try.underlying22
  obtain ⟨A, cap, rfl, hcap1, hcap2, hat⟩ := hv
  cases A with
  | none =>
    obtain rfl : l = [] := by
      cases l with
      | nil => rfl
      | cons x l => obtain ⟨g, o, h, _⟩ := hat (by simp); cases h
    clear hat hv0
    go_enter Try.func23, Try.ntmps23
    go_wp2
    go_ret
    exact ⟨_, rfl, World.ownsRow_nil _ _ _ _, Below.refl _ _⟩
  | some ad =>
    have hb0 : Below w.heap.size w (w.alloc (.cells #[] 54)) := (Below.refl _ _).alloc (Nat.le_refl _) _
    have hnews := (hv0.below hb0).news (refK hok) rfl
    have hown0 : (w.alloc (.cells #[] 54)).ownsRow w.heap.size 54 33 (.slice (some ⟨w.heap.size, 0, none⟩) 0 0) 0 [] :=
      World.ownsRow_lit (size := 33) w #[] 0 (Nat.le_refl _) (by simp [maxLen]) rfl
    have hone := refOne l
    have hl := rowsOf_length (refK hok)
    clear hat hv0
    go_enter Try.func23, Try.ntmps23
    go_wp2_with (first
      | (at_builtin
         refine wpList_append_slice rfl (.tmp 5) (.tmp 6) _ rfl 54 _ 33 48 Try.refTy w.heap.size _ 0 [] rfl hown0 ad l.length cap (rowsOf refC l) rfl hl hnews hone (by omega) (by omega) w hb0 hb0.size ?_
         intro v' w' hown3 hbel3))
    go_ret
    refine ⟨_, rfl, ?_, hbel3⟩
    rw [Nat.zero_add, List.nil_append] at hown3
    exact hown3
end Go.Proofs.Ytlpiefopegjgjaa
