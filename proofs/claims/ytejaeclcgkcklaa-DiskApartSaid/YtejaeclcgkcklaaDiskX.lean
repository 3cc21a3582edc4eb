/- The walks of layer 21 (disk), the document's side: Write, Copied. No condition. -/
import Derived.Test.YtejaeclcgkcklaaDiskR
import Derived.Test.YtejaeclcgkcklaaDiskG
namespace Go.Proofs.Ytejaeclcgkcklaa
open Go.RowKit
/-- Block q holds the document's disk; vm is its slice of files. -/
structure RDiskAt (w : World) (base q : Nat) (vm : Value) (s : DiskL) : Prop where
  blk : Blk w q 30 (diskC vm s)
  own : OwnRF w base vm s.l
  ok : DiskOk s
section
variable {w w' : World} {base q : Nat} {vm : Value} {s : DiskL}
theorem RDiskAt.c0 (h : RDiskAt w base q vm s) : w.cell? ⟨q, 0, none⟩ = some vm := by rw [h.blk.cell]; rfl
theorem RDiskAt.c1 (h : RDiskAt w base q vm s) : w.cell? ⟨q, 1, none⟩ = some (.int .i64 s.fuse) := by rw [h.blk.cell]; rfl
theorem RDiskAt.c2 (h : RDiskAt w base q vm s) : w.cell? ⟨q, 2, none⟩ = some (.int .i64 s.part) := by rw [h.blk.cell]; rfl
theorem RDiskAt.c3 (h : RDiskAt w base q vm s) : w.cell? ⟨q, 3, none⟩ = some (.bool s.down) := by rw [h.blk.cell]; rfl
theorem RDiskAt.fr (h : RDiskAt w base q vm s) (i : Nat) : w.frozen? ⟨q, i, none⟩ = false := h.blk.frozen i
theorem RDiskAt.ne (h : RDiskAt w base q vm s) : vm.ownBlock ≠ some q := fun e => own_blk_ne h.own h.blk (by decide) e.symm
theorem RDiskAt.below (h : RDiskAt w base q vm s) (hb : Below w.heap.size w w') : RDiskAt w' base q vm s := ⟨h.blk.below hb h.blk.lt, own_below h.own hb, h.ok⟩
theorem RDiskAt.far {S : List (Option Nat)} (h : RDiskAt w base q vm s) (hf : Far S w w') (h1 : some q ∉ S) (h2 : ∀ k, vm.ownBlock = some k → some k ∉ S) : RDiskAt w' base q vm s := ⟨hf.blk h.blk h1, hf.own h.own h2, h.ok⟩
theorem RDiskAt.drew (h : RDiskAt w base q vm s) : RDiskAt w.drew base q vm s := ⟨h.blk, h.own, h.ok⟩
theorem RDiskAt.files (h : RDiskAt w base q vm s) : RFiles w vm s.l := h.own.refs h.ok.ok
theorem RDiskAt.keep (h : RDiskAt w base q vm s) (o : Nat) (v : Value) : OwnRF (w.setCell ⟨q, o, none⟩ v) base vm s.l :=
  (Far.refl [some q] w |>.set_ (p := ⟨q, o, none⟩) (.inl (by simp)) _).own h.own (fun k hk e => h.ne (by simp at e; rw [hk, e]))
theorem RDiskAt.set_fuse (h : RDiskAt w base q vm s) (x : Int) (hx : -1 ≤ x ∧ x ≤ 9223372036854775807) : RDiskAt (w.setCell ⟨q, 1, none⟩ (.int .i64 x)) base q vm { s with fuse := x } :=
  ⟨h.blk.set_ 1 _, h.keep _ _, ⟨h.ok.ok, h.ok.sorted, hx, h.ok.part, h.ok.few⟩⟩
theorem RDiskAt.set_part (h : RDiskAt w base q vm s) (x : Int) (hx : I64 x) : RDiskAt (w.setCell ⟨q, 2, none⟩ (.int .i64 x)) base q vm { s with part := x } :=
  ⟨h.blk.set_ 2 _, h.keep _ _, ⟨h.ok.ok, h.ok.sorted, h.ok.fuse, hx, h.ok.few⟩⟩
theorem RDiskAt.set_down (h : RDiskAt w base q vm s) (x : Bool) : RDiskAt (w.setCell ⟨q, 3, none⟩ (.bool x)) base q vm { s with down := x } :=
  ⟨h.blk.set_ 3 _, h.keep _ _, ⟨h.ok.ok, h.ok.sorted, h.ok.fuse, h.ok.part, h.ok.few⟩⟩
theorem setK_edit (s : List FileL) (hs : SortedK FileL.name s) (n d : Txt) (g : Bool) : setK FileL.name ⟨n, d⟩ g s = editL s n d g := by
  cases g
  · exact setK_false hs
  · exact setK_true
/-- What Set gives, laid into the disk. -/
theorem RDiskAt.laid (h : RDiskAt w base q vm s) (hB : base ≤ w.heap.size) (hbel : Below w.heap.size w w') {v' : Value} {n d : Txt} {g : Bool} (hok : DiskOk { s with l := editL s.l n d g }) (hown : OwnRF w' w.heap.size v' (setK FileL.name ⟨n, d⟩ g s.l)) :
    RDiskAt (w'.setCell ⟨q, 0, none⟩ v') base q v' { s with l := editL s.l n d g } ∧ Far [some q] w (w'.setCell ⟨q, 0, none⟩ v') ∧ Newer w vm v' := by
  rw [setK_edit _ h.ok.sorted] at hown
  have hlt := fun k hk => World.ownsRow.lt hown k hk
  have hq := h.blk.lt
  refine ⟨⟨(h.blk.below hbel h.blk.lt).set_ 0 v', ?_, hok⟩, (Far.of_below hbel).set_ (.inl (by simp)) _, .inr fun k hk => (hlt k hk).1⟩
  exact (Far.refl [some q] w' |>.set_ (p := ⟨q, 0, none⟩) (.inl (by simp)) _).own (own_base hown hB) (fun k hk e => by have := (hlt k hk).1; simp at e; omega)
set_option maxRecDepth 100000 in
set_option maxHeartbeats 1000000 in
theorem refWrite_calls (hB : base ≤ w.heap.size) (h : RDiskAt w base q vm s) (n d : Txt) (g : Bool) (hn : n.length ≤ 9223372036854775807) (hd : d.length ≤ 1000000) (hf : s.l.length < 500000) :
    Calls Try.prog 19 #[.pointer (some ⟨q, 0, none⟩), .string (B n), .string (B d), .bool g] w fun e w' => e = .returned (.int .i64 (writeC s)) ∧
      ∃ vm', RDiskAt w' base q vm' (writeS s n d g) ∧ Far [some q] w w' ∧ Newer w vm vm' := by
  have c0 := h.c0
  have c1 := h.c1
  have c2 := h.c2
  have c3 := h.c3
  have hD := Lib.hid h
  have hpt := h.ok.part
  have hfu := h.ok.fuse
  cases hdn : s.down with
  | true =>
    obtain ⟨e1, e2⟩ := write_down hdn n d g
    rw [e1, e2]
    rw [hdn] at c3
    clear h e1 e2 hdn
    go_enter Try.func19, Try.ntmps19
    go_wp2
    go_ret
    exact ⟨rfl, _, hD.out, Far.refl _ _, Newer.refl _ _⟩
  | false =>
    rw [hdn] at c3
    by_cases h0 : s.fuse = 0
    · have f3 := h.fr 3
      have hD1 := Lib.hid (h.set_down true)
      have d0 := hD1.out.c0
      have d2 := hD1.out.c2
      have hF1 := (Far.refl [some q] w).set_ (p := ⟨q, 3, none⟩) (.inl (by simp)) (.bool true)
      have hs1 : (w.setCell ⟨q, 3, none⟩ (.bool true)).heap.size = w.heap.size := World.size_setCell _ _ _
      by_cases h1 : 0 < s.part
      · obtain ⟨e1, e2⟩ := write_part hdn h0 h1 n d g
        rw [e1, e2]
        have hcut : cutS s = { s with down := true } := by simp [cutS, h0]
        obtain ⟨k, hk⟩ : ∃ k : Nat, s.part = (k : Int) := ⟨s.part.toNat, by omega⟩
        have hcd : cutD s d = d.take (min k d.length) := by unfold cutD; rw [hk]; rfl
        have hk0 : 0 < k := by omega
        have hcl : (cutD s d).length ≤ d.length := cutD_len s d
        have hok1 : DiskOk { ({ s with down := true } : DiskL) with l := editL s.l n (cutD s d) g } := hD1.out.ok.edit g hn (by omega) hf
        have hst := Lib.hid (refSet_calls s.l h.ok.ok h.ok.few vm _ hD1.out.files n (cutD s d) hn (by omega) g)
        have hq1 := fun W (hb : Below (w.setCell ⟨q, 3, none⟩ (.bool true)).heap.size (w.setCell ⟨q, 3, none⟩ (.bool true)) W) => (hD1.out.below hb)
        rw [hcut]
        rw [hk] at c2 d2
        rw [hcd] at hst hok1 hcl ⊢
        rw [h0] at c1
        clear h e1 e2 hdn h0 hcd h1 hpt hcut
        by_cases hkd : k < d.length
        · rw [Nat.min_eq_left (Nat.le_of_lt hkd)] at hst hok1 ⊢
          clear hcl
          go_enter Try.func19, Try.ntmps19
          go_wp2_with (go_at_call 26; go_must (refine hst.out.mono ?_); rintro e w1 ⟨v', rfl, hown, hbel⟩
                       have hq2 := hq1 _ hbel
                       have g0 := hq2.c0
                       have gf := hq2.fr 0
                       obtain ⟨A', c', rfl⟩ := own_form' hown)
          go_ret
          obtain ⟨r1, r2, r3⟩ := hD1.out.laid (by rw [hs1]; exact hB) hbel hok1 hown
          exact ⟨rfl, _, r1, hF1.trans r2, (Newer.refl _ _).then_ r3 (by rw [hs1]; exact Nat.le_refl _)⟩
        · rw [Nat.min_eq_right (Nat.le_of_not_lt hkd), List.take_length] at hst hok1 ⊢
          clear hcl
          go_enter Try.func19, Try.ntmps19
          go_wp2_with (go_at_call 26; go_must (refine hst.out.mono ?_); rintro e w1 ⟨v', rfl, hown, hbel⟩
                       have hq2 := hq1 _ hbel
                       have g0 := hq2.c0
                       have gf := hq2.fr 0
                       obtain ⟨A', c', rfl⟩ := own_form' hown)
          go_ret
          obtain ⟨r1, r2, r3⟩ := hD1.out.laid (by rw [hs1]; exact hB) hbel hok1 hown
          exact ⟨rfl, _, r1, hF1.trans r2, (Newer.refl _ _).then_ r3 (by rw [hs1]; exact Nat.le_refl _)⟩
      · obtain ⟨e1, e2⟩ := write_none hdn h0 h1 n d g
        have hcut : cutS s = { s with down := true } := by simp [cutS, h0]
        rw [e1, e2, hcut]
        rw [h0] at c1
        clear h e1 e2 hdn h0 hcut
        go_enter Try.func19, Try.ntmps19
        go_wp2
        go_ret
        exact ⟨rfl, _, hD1.out, hF1, Newer.refl _ _⟩
    · obtain ⟨e1, e2⟩ := write_fine hdn h0 n d g
      rw [e1, e2]
      have f1 := h.fr 1
      by_cases h1 : 0 < s.fuse
      · have hcut : cutS s = { s with fuse := s.fuse - 1 } := by simp [cutS, h0, h1]
        rw [hcut]
        have hD1 := Lib.hid (h.set_fuse (s.fuse - 1) (by omega))
        have hF1 := (Far.refl [some q] w).set_ (p := ⟨q, 1, none⟩) (.inl (by simp)) (.int .i64 (s.fuse - 1))
        have hs1 : (w.setCell ⟨q, 1, none⟩ (.int .i64 (s.fuse - 1))).heap.size = w.heap.size := World.size_setCell _ _ _
        have d0 := hD1.out.c0
        have hok1 : DiskOk { ({ s with fuse := s.fuse - 1 } : DiskL) with l := editL s.l n d g } := hD1.out.ok.edit g hn (by omega) hf
        have hst := Lib.hid (refSet_calls s.l h.ok.ok h.ok.few vm _ hD1.out.files n d hn (by omega) g)
        have hq1 := fun W (hb : Below (w.setCell ⟨q, 1, none⟩ (.int .i64 (s.fuse - 1))).heap.size (w.setCell ⟨q, 1, none⟩ (.int .i64 (s.fuse - 1))) W) => (hD1.out.below hb)
        clear h e1 e2 hdn hcut
        go_enter Try.func19, Try.ntmps19
        go_wp2_with (go_at_call 26; go_must (refine hst.out.mono ?_); rintro e w1 ⟨v', rfl, hown, hbel⟩
                     have hq2 := hq1 _ hbel
                     have g0 := hq2.c0
                     have gf := hq2.fr 0
                     obtain ⟨A', c', rfl⟩ := own_form' hown)
        go_ret
        obtain ⟨r1, r2, r3⟩ := hD1.out.laid (by rw [hs1]; exact hB) hbel hok1 hown
        exact ⟨rfl, _, r1, hF1.trans r2, (Newer.refl _ _).then_ r3 (by rw [hs1]; exact Nat.le_refl _)⟩
      · have hcut : cutS s = s := by simp [cutS, h0, h1]
        rw [hcut]
        have hok1 : DiskOk { s with l := editL s.l n d g } := h.ok.edit g hn (by omega) hf
        have hst := Lib.hid (refSet_calls s.l h.ok.ok h.ok.few vm _ h.files n d hn (by omega) g)
        clear h e1 e2 hdn hcut
        go_enter Try.func19, Try.ntmps19
        go_wp2_with (go_at_call 26; go_must (refine hst.out.mono ?_); rintro e w1 ⟨v', rfl, hown, hbel⟩
                     have hq2 := hD.out.below hbel
                     have g0 := hq2.c0
                     have gf := hq2.fr 0
                     obtain ⟨A', c', rfl⟩ := own_form' hown)
        go_ret
        obtain ⟨r1, r2, r3⟩ := hD.out.laid hB hbel hok1 hown
        exact ⟨rfl, _, r1, r2, r3⟩
end
end Go.Proofs.Ytejaeclcgkcklaa
