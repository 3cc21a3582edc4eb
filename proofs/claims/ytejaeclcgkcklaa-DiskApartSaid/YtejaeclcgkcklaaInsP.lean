/- Lemmas for slices.Insert: lists, ranges of rows. No condition; no program. -/
import Derived.Test.YtejaeclcgkcklaaFar
namespace Go.Proofs.Ytejaeclcgkcklaa
open Go.RowKit
theorem ins_place {α : Type} {l : List α} {i : Nat} (hi : i < l.length) (x : α) :
    (l.take (i + 1) ++ l.drop i ++ l.drop (i + 1 + (l.drop i).length)).set i x = l.take i ++ [x] ++ l.drop i := by
  rw [List.drop_of_length_le (i := i + 1 + (l.drop i).length) (by rw [List.length_drop]; omega), List.append_nil, List.set_eq_take_append_cons_drop, if_pos (by simp; omega)]
  rw [List.take_append_of_le_length (by simp; omega), List.take_take, Nat.min_eq_left (by omega)]
  rw [List.drop_append_of_le_length (by simp; omega), List.drop_of_length_le (l := l.take (i + 1)) (by simp; omega)]
  simp
theorem range_news {w : World} {g o : Nat} {cs : List Value} (h : w.rangeAt g o cs) : ∀ j u, cs[j]? = some u → w.cell? ((⟨g, o, none⟩ : Addr).add j) = some u := fun j u hu => by rw [Addr.add_mid]; exact h j u hu
theorem Row.range_from {α : Type} {w : World} {g : Nat} {e : TypeId} {k cap : Nat} {enc : α → List Value} {l : List α} (hk : ∀ x ∈ l, (enc x).length = k) (h : Row w g e k enc cap l) (i : Nat) : w.rangeAt g (i * k) (rowsOf enc (l.drop i)) := fun j u hu => by
  obtain ⟨a, x, q, h1, h2, h3⟩ := rowsOf_find (fun x hx => hk x (List.mem_of_mem_drop hx)) hu
  rw [List.getElem?_drop] at h1
  have := h.at_ _ x h1 q u h2
  rw [h3, show i * k + (a * k + q) = (i + a) * k + q from by rw [Nat.add_mul, Nat.add_assoc]]
  exact this
theorem step_append_run {P : Program} {ops : Array Oper} {o : Oper} {a : Act} {w : World} {K : Act → World → Prop} {Q : Exit → Act → World → Prop} {E : Prop}
    (hg : o.guard = none) (d x : Operand) (dT sT : TypeId) (hop : o.op = Op.call { callee := Callee.builtin Builtin.append, args := #[d, x], argTypes := #[dT, sT] })
    (v u : Value) (hd : a.eval d = v) (hx : a.eval x = u) {v' : Value} {w' : World} (hr : (Builtin.append_ #[dT, sT] o.type #[v, u]).run P w = .ok v' w') (hK : K (a.put o.dst v') w') :
    if Region.wanted o (yielded ops a.tmps) = true then Oper.wp P o a w K Q else E := by
  have hw : Region.wanted o (yielded ops a.tmps) = true := by simp [Region.wanted, hg]
  rw [if_pos hw]
  unfold Oper.wp execOp
  simp only [hop, resolve, invoke, builtin, Sem.run_bind, Sem.run_pure, Result.andThen_ok, List.map_toArray, List.map_cons, List.map_nil, hd, hx, hr]
  exact hK
theorem grown_drew {w w' : World} {row : Option Nat} (h : w.grownBy w' row) : w.grownBy w'.drew row := ⟨h.os, h.tape, h.output, h.size, h.block⟩
theorem grown_cells {w w' : World} {g : Nat} (h : w.grownBy w' (some g)) (o : Nat) (vs : List Value) : w.grownBy (w'.setCells g o vs) (some g) :=
  (Far.cells (S := [some g]) (w := w) (.inl (by simp)) vs o w' (Far.of_grown h)).grown fun k hk => by simpa using hk
theorem grown_refl' (w : World) (row : Option Nat) : w.grownBy w row := ⟨rfl, rfl, rfl, Nat.le_refl _, fun _ _ _ => rfl⟩
end Go.Proofs.Ytejaeclcgkcklaa
