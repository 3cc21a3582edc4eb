/- Lemmas and walks of this seat, laid together: Grow, StN, Tab. -/
import Derived.Test.YtnehabcopjgklaaDoorMl
import Derived.Deep.CutBlock
import Derived.Test.YtnehabcopjgklaaDoorCards
import Derived.WalkKit
import Derived.ProofKit
import Derived.OpenShut
import Derived.Deep.DeepHandedRow
import Derived.Lib.LaidTab
/- The walk of layer 11's document: Grow. No condition. -/
namespace Go.Proofs.YtnehabcopjgklaaDoor
open Go.RowKit
theorem make1_calls {w : World} {vm : Value} {es : List DiL} (h : DocSt w vm es) (ids : List Txt) (hok : ∀ x ∈ ids, x.length = 32) (hil : ids.length ≤ 1000) (vi : Value) (hi : Ids w vi ids) (x : SdL) (hx : SdOk w x) (hr : x.refs.length ≤ 10) (ht : x.text.length ≤ 300) :
    Calls Tryd.prog 34 #[.agg #[vm], vi, .agg (sdC x).toArray] w fun e w' => MkR w e w' ∧ Below w.heap.size w w' := by
  have h4 : (x.kind.toNat : Int) % 4 = 0 ∨ (x.kind.toNat : Int) % 4 = 1 ∨ (x.kind.toNat : Int) % 4 = 2 ∨ (x.kind.toNat : Int) % 4 = 3 := by omega
  rcases h4 with h4 | h4 | h4 | h4
  · exact make_blob h ids hok hil vi hi x hx hr ht h4
  · exact make_tree h ids hok hil vi hi x hx hr ht h4
  · exact make_commit h ids hok hil vi hi x hx hr ht h4
  · exact make_tag h ids hok hil vi hi x hx hr ht h4
def ldvSd (p : Addr) : Sem Value := loadVar 80 p
theorem ldvSd_eq (p : Addr) : loadVar 80 p = ldvSd p := rfl
theorem run_ldvSd {w : World} {g o : Nat} {e : SdL} (h : w.rangeAt g o (sdC e)) : (ldvSd ⟨g, o, none⟩).run Tryd.prog w = .ok (.agg (sdC e).toArray) w := run_loadVar_mid w g o 80 (sdC e) _ h Tryd.underlying80 rfl szSeed
attribute [local go_sem ↓] ldvI_eq ldvS_eq stvI_eq stvS_eq ldvSd_eq
/-- What make1 tells, amid a region. -/
def MkV (B : Nat) (v : Value) (F : Foot) (w : World) : Prop := ∃ o A1 A2 k1 k2, v = .agg (objC o (.slice A1 o.ents.length k1) (.slice A2 o.pars.length k2)).toArray ∧ Small o ∧ ObjOk o ∧ ownR B 76 34 o.ents.length (rowsOf entC o.ents) (.slice A1 o.ents.length k1) F w ∧ ownR B 24 32 o.pars.length (rowsOf idC o.pars) (.slice A2 o.pars.length k2) F w
theorem MkV_stab (B : Nat) (v : Value) : Stab (MkV B v) := fun F F' w w' hf ha ⟨o, A1, A2, k1, k2, e, h1, h2, h3, h4⟩ => ⟨o, A1, A2, k1, k2, e, h1, h2, ownR_stab _ _ _ _ _ _ F F' w w' hf ha h3, ownR_stab _ _ _ _ _ _ F F' w w' hf ha h4⟩
def EncV (v : Value) : Prop := ∃ t b, v = .tuple #[.string (B t), .bool b] ∧ t.length ≤ 4096
theorem encD_V (o : ObjL) : EncV (encD o) := by
  cases h : encO o with
  | none => exact ⟨[], false, encD_none h, by simp⟩
  | some t =>
    refine ⟨t, true, encD_some h, ?_⟩
    unfold encO at h
    split at h
    · rename_i hc
      injection h with h
      rw [← h]; exact hc.2
    · cases h
theorem DocSt.one {w : World} {vm : Value} {es : List DiL} (h : DocSt w vm es) : vm.oneCell' = true := by
  obtain ⟨A, c, rfl⟩ := own_form' h.own
  rfl
theorem grow_id (w : World) (a b : Array Value) (T : TypeId) (c : Array Value) (S : TypeId) : Blk (((w.alloc (.cells a T)).alloc (.cells b S)).setRow w.heap.size c) (w.heap.size + 1) S b := by
  unfold Blk
  rw [setRow_other _ _ _ _ (by omega)]
  have := Blk.new (w.alloc (.cells a T)) S b
  rwa [size_alloc'] at this
/-- What Grow tells: some store, some ids. -/
def GrowR (w : World) (n : Nat) (e : Ending) (w' : World) : Prop := ∃ vm es vi ids, e = .returned (.tuple #[.agg #[vm], vi]) ∧ DocSt w' vm es ∧ es.length ≤ n ∧ OwnIds w' w.heap.size vi ids ∧ ids.length ≤ n ∧ (∀ x ∈ ids, x.length = 32) ∧ Apart vi vm es
set_option maxRecDepth 100000 in
set_option maxHeartbeats 16000000 in
theorem grow_calls (l : List SdL) (hl : l.length ≤ 100) (hsm : ∀ x ∈ l, x.refs.length ≤ 10 ∧ x.text.length ≤ 300) (va : Value) (w : World) (h : Seeds w va l) :
    Calls Tryd.prog 18 #[va] w fun e w' => GrowR w l.length e w' ∧ Below w.heap.size w w' := by
  have hzI := zeroIdV
  have hZ32 : (u8s noId).size = 32 := by rw [u8s_size, noId_len]
  have hbS : Tryd.prog.built 30 [] = some #[.slice none 0 0] := by kernel_rfl
  have hrb := fun W => run_build (P := Tryd.prog) W _ _ _ hbS
  have hS0 : (#[Value.slice none 0 0] : Array Value).size = 1 := rfl
  have hS1 : (#[Value.slice none 0 0] : Array Value).all (·.oneCell') = true := by kernel_rfl
  obtain ⟨W1, hW1⟩ : ∃ W1, w.alloc (.cells #[.slice none 0 0] 30) = W1 := ⟨_, rfl⟩
  have r1 : Blk W1 w.heap.size 30 #[.slice none 0 0] := by rw [← hW1]; exact Blk.new _ _ _
  have b1 : Below w.heap.size w W1 := by rw [← hW1]; exact (Below.refl _ _).alloc (Nat.le_refl _) _
  have hlt0 := r1.lt
  have hat0 := h.at_
  have heach := h.each
  obtain ⟨A, cap, rfl, hcap1, hcap2, hat⟩ := hat0
  clear h
  go_enter Tryd.func18, Tryd.ntmps18
  go_wp2_with (first
    | ((with_reducible refine lit_new 30 (.tmp 4) (.tmp 12) #[.slice none 0 0] 1 szDSt hS0 hS1 _ ?_ ?_ ?_ ?_)
       · exact hS0
       · rfl
       · rfl
       intro W2 m2 b12))
  have hlt1 := m2.lt
  have hD2 : DocSt W2 (.slice none 0 0) [] := ⟨World.ownsRow_nil _ _ _ _, fun e he => by simp at he, StoOk.nil⟩
  clear hrb hS0 hS1
  go_loopw [5, 6] (fun v5 v6 wr => ∃ (k : Nat) (vm : Value) (es : List DiL) (ids : List Txt), v6 = .int .i64 k ∧ k ≤ l.length ∧ es.length ≤ k ∧ ids.length ≤ k ∧ Hid (∀ x ∈ ids, x.length = 32) ∧ Blk wr W1.heap.size 30 #[vm] ∧ DocSt wr vm es ∧ OwnIds wr W2.heap.size v5 ids ∧ Apart v5 vm es ∧ Below W1.heap.size W1 wr ∧ W2.heap.size ≤ wr.heap.size) (fun _ v6 _ => l.length - (intOf v6).toNat)
  case atStart => exact ⟨0, _, [], [], rfl, by omega, by simp, by simp, Lib.hid (fun x hx => by simp at hx), m2, hD2, World.ownsRow_nil _ _ _ _, fun k hk => by simp [Value.ownBlock] at hk, b12, Nat.le_refl _⟩
  case round =>
    obtain ⟨k, vm, es, ids, rfl, hk, hel, hil, hids, hM, hD, hown, hap, hbel, hsz2⟩ := hrel
    by_cases hlt : k < l.length
    · have hki : (k : Int) < (l.length : Int) := by omega
      obtain ⟨ga, oa, rfl, hga, hca⟩ := hat (by omega)
      obtain ⟨x, hx⟩ : ∃ x, l[k]? = some x := ⟨_, List.getElem?_eq_getElem hlt⟩
      have hxm := List.mem_of_getElem? hx
      obtain ⟨hx1, hx2⟩ := hsm x hxm
      have hxo := heach x hxm
      have hbr : Below w.heap.size w wr := bthen b1 b1.size hbel
      have fS := fun W (hW : Below wr.heap.size wr W) => run_ldvSd (rangeAt_below (hca k x hx) hga (bthen hbr hbr.size hW))
      have fM := fun W (hW : Below wr.heap.size wr W) => run_ldvS (hM.below hW hM.lt)
      have hiW := fun W (hW : Below wr.heap.size wr W) => SliceAt.of_own (fun e h => idC_len (hids.out e h)) (own_below hown hW)
      have hmk := fun W (hW : Below wr.heap.size wr W) => make1_calls (hD.below hW) ids hids.out (by omega) _ (hiW W hW) x (hxo.below (bthen hbr hbr.size hW)) hx1 hx2
      have hlth : (k : Nat) < l.length := hlt
      clear hx hca hat heach hsm hxm hxo hiW
      generalize (sdC x).toArray = SC at *
      go_wp2
      refine wp_region_go0 13 (by kernel_rfl) (by kernel_rfl) (by kernel_rfl) (by kernel_rfl) ?_
      simp only [exSp]
      iterate 13 apply Exists.intro
      repeat
        first
          | ((with_reducible apply lx0_ex)
             · (go_simp; done)
             apply Exists.intro
             apply And.intro
             · apply Eq.refl
             apply And.intro
             · intro W hW hD
               have q0 := fM W hW
               have q1 := fS W hW
               go_simp
               rfl
             simp only [Act.put, List.setIfInBounds_toArray, List.set_cons_zero, List.set_cons_succ])
          | ((with_reducible apply lx0_pass)
             · (first | rfl | (go_simp; done))
             · apply Eq.refl
             simp only [Act.put, List.setIfInBounds_toArray, List.set_cons_zero, List.set_cons_succ])
          | ((with_reducible refine lx0_new (MkV wr.heap.size) rfl ?_ (MkV_stab _) ?_ ?_)
             · (go_simp; done)
             · intro W hW hD
               unfold doesAt Oper.wp execOp
               go_simp
               (with_reducible refine (hmk W hW).mono ?_)
               rintro e w' ⟨⟨o, A1, A2, k1, k2, rfl, h1, h2, h3, h4⟩, hb⟩
               exact ⟨hb, fun F f1 f2 f3 => ⟨o, A1, A2, k1, k2, rfl, h1, h2, ownR_new hW.size h3 F f1 f2 f3, ownR_new hW.size h4 F f1 f2 f3⟩⟩
             intro v
             simp only [Act.put, List.setIfInBounds_toArray, List.set_cons_zero, List.set_cons_succ])
          | ((with_reducible refine lx0_new (fun v _ _ => EncV v) rfl ?_ (stab_pure EncV) ?_ ?_)
             · (go_simp; done)
             · intro W hW hD
               obtain ⟨F, o, A1, A2, k1, k2, rfl, h1, h2, h3, h4⟩ := hD.at 0 rfl (by kernel_rfl)
               have hc := refEncode_calls o h1 A1 A2 k1 k2 W ⟨h2, SliceAt.of_own (fun e h => entC_len (h2.ents e h)) h3.1, SliceAt.of_own (fun e h => idC_len (h2.pars e h)) h4.1⟩
               unfold doesAt Oper.wp execOp
               go_simp
               (with_reducible refine hc.mono ?_)
               rintro e w' ⟨rfl, hb⟩
               exact ⟨hb, fun _ _ _ _ => encD_V o⟩
             intro v
             simp only [Act.put, List.setIfInBounds_toArray, List.set_cons_zero, List.set_cons_succ])
          | (first | (with_reducible apply lx_move') | (with_reducible apply lx_assign')
             · apply Eq.refl
             apply Exists.intro
             apply And.intro
             · (go_simp; rfl)
             simp only [Act.put, List.setIfInBounds_toArray, List.set_cons_zero, List.set_cons_succ])
          | ((with_reducible apply lx_extr')
             · apply Eq.refl
             apply Exists.intro
             apply And.intro
             · (go_simp; rfl)
             refine ⟨fun W hW hD => ?_, ?_⟩
             · obtain ⟨F, t, b, rfl, ht⟩ := hD.at 0 rfl (by kernel_rfl)
               exact ⟨_, rfl, by simp⟩
             simp only [Act.put, List.setIfInBounds_toArray, List.set_cons_zero, List.set_cons_succ])
      refine lx0_nil ?_ fun w6 hW6 hD6 => ?_
      · exact List.nodup_nil
      obtain ⟨_, t, b, rfl, htl⟩ := hD6 _ (.head _)
      simp only [extr2_0, extr2_1]
      have b6 := hbel.trans (hW6.mono hbel.size)
      have M6 := hM.below hW6 hM.lt
      have D6 := hD.below hW6
      have own6 := own_below hown hW6
      have sz6 : W2.heap.size ≤ w6.heap.size := Nat.le_trans hsz2 hW6.size
      clear hD6 hmk fS
      cases b
      · go_wp2
        go_roundw
        case rel => exact ⟨k + 1, vm, es, ids, by go_num, by omega, by omega, by omega, hids, M6, D6, own6, hap, b6, sz6⟩
        case measure => simp [intOf]; omega
      · have lM := run_ldvS M6
        have hwi := Lib.hid (docWith_calls D6 (by omega) t (by omega))
        have hpl := putS_len (es.map (·.st)) t
        rw [List.length_map] at hpl
        have hpi : (putI t).length = 32 := by
          unfold putI
          split
          · rfl
          · exact shaOf_length _
        obtain ⟨pn, hpn⟩ : ∃ pn, putI t = pn := ⟨_, rfl⟩
        obtain ⟨bf, hbf⟩ : ∃ bf, (decO t).isSome = bf := ⟨_, rfl⟩
        obtain ⟨PL, hPL⟩ : ∃ PL, putS (es.map (·.st)) t = PL := ⟨_, rfl⟩
        unfold WithR at hwi
        rw [hpn] at hpi hwi
        rw [hbf, hPL] at hwi
        rw [hPL] at hpl
        have hp32 : (u8s pn).size = 32 := by rw [u8s_size, hpi]
        have hpo := u8s_one pn
        have hszI : (Tryd.prog.info? 24).map (·.size) = some (u8s pn).size := by rw [hp32]; exact sz32
        clear hpn hbf hPL
        go_upto_region 9 with (first
          | ((with_reducible refine hwi.out.mono ?_); rintro e w7 ⟨⟨vm7, es7, rfl, D7, hmap, hold⟩, b67⟩)
          | (refine wpList_store_row rfl 30 (.tmp 9) (.tmp 35) rfl w7.heap.size #[vm7] rfl rfl _ #[.slice none 0 0] ((Blk.new _ _ _).alloc _) szDSt rfl (by simp [D7.one]) ?_)
          | (refine wpList_store_row rfl 24 (.tmp 10) (.tmp 36) rfl (w7.heap.size + 1) (u8s pn) rfl rfl _ (u8s noId) (grow_id _ _ _ _ _ _) hszI (by rw [hp32, hZ32]) hpo ?_))
        obtain ⟨W8, hW8⟩ : ∃ W8, (((w7.alloc (.cells #[.slice none 0 0] 30)).alloc (.cells (u8s noId) 24)).setRow w7.heap.size #[vm7]).setRow (w7.heap.size + 1) (u8s pn) = W8 := ⟨_, rfl⟩
        have b78 : Below w7.heap.size w7 W8 := by
          rw [← hW8]
          exact below_setRow (below_setRow (((Below.refl _ _).alloc (Nat.le_refl _) _).alloc (by rw [size_alloc']; omega) _) (Nat.le_refl _) _) (by omega) _
        have g9 : Blk W8 w7.heap.size 30 #[vm7] := by
          rw [← hW8]
          unfold Blk
          rw [setRow_other _ _ _ _ (by omega)]
          exact setRow_heap _ _ _ _ _ _ ((Blk.new _ _ _).alloc _)
        have g10 : Blk W8 (w7.heap.size + 1) 24 (u8s pn) := by
          rw [← hW8]
          exact setRow_heap _ _ _ _ _ _ (grow_id _ _ _ _ _ _)
        rw [hW8]
        have b68 : Below w6.heap.size w6 W8 := bthen b67 b67.size b78
        have b8 := b6.trans (b68.mono b6.size)
        have M8 := M6.below b68 M6.lt
        have D8 := D7.below b78
        have O8 := D6.below b68
        have own8 := own_below own6 b68
        have sz8 : W2.heap.size ≤ W8.heap.size := Nat.le_trans sz6 b68.size
        have hel7 : es7.length ≤ es.length + 1 := by rw [← hmap, List.length_map] at hpl; exact hpl
        have hap8 := hap.with_ own6 own8 D8 hold
        clear hwi hW8 hmap hold
        cases bf
        · go_wp2
          go_roundw
          case rel => exact ⟨k + 1, vm, es, ids, by go_num, by omega, by omega, by omega, hids, M8, O8, own8, hap, b8, sz8⟩
          case measure => simp [intOf]; omega
        · have l9 := run_ldvS g9
          have hno := D8.blk_ne M8 (by decide) (by decide) (by decide)
          have D9 := D8.row hno #[vm7]
          have own9 := own_row own8 hlt1 #[vm7]
          have hne10 : w7.heap.size + 1 ≠ W1.heap.size := by have := M6.lt; have := b67.size; omega
          have g109 : Blk (W8.setRow W1.heap.size #[vm7]) (w7.heap.size + 1) 24 (u8s pn) := keep_row g10 hne10 _
          have l10 := run_ldvI_at (range_blk g109) hpi
          have M9 : Blk (W8.setRow W1.heap.size #[vm7]) W1.heap.size 30 #[vm7] := setRow_heap _ _ _ _ _ _ M8
          have b9 := below_setRow b8 (Nat.le_refl _) #[vm7]
          have sz9 : W2.heap.size ≤ (W8.setRow W1.heap.size #[vm7]).heap.size := by simpa using sz8
          have hid32 : (u8s pn).size = 32 := hp32
          have hidl : (u8s pn).size = 1 * 32 := hp32
          have hid1 : ∀ u ∈ (u8s pn).toList, u.oneCell' = true := idC_one pn
          have hids2 : Hid (∀ z ∈ ids ++ [pn], z.length = 32) := Lib.hid fun z hz => by
            rcases List.mem_append.1 hz with hz | hz
            · exact hids.out z hz
            · rw [List.mem_singleton.1 hz]; exact hpi
          have hrow : Hid (rowsOf idC (ids ++ [pn]) = rowsOf idC ids ++ (u8s pn).toList) := Lib.hid (by rw [rowsOf_append, rowsOf_one]; rfl)
          have hkl : ids.length + 1 ≤ 9223372036854775807 := by omega
          have hm2 : (ids.length + 1) * 32 ≤ 140737488355328 := by omega
          have hone7 : (#[vm7] : Array Value).all (·.oneCell') = true := by simp [D7.one]
          have hdM := own_blk_ne own9 M9 (by decide)
          have hszS1 : (Tryd.prog.info? 30).map (·.size) = some (#[vm7] : Array Value).size := szDSt
          clear hpi g10 g109 g9 hp32
          generalize u8s pn = XC at *
          go_wp2_with (first
            | (refine wpList_store_row rfl 30 (.tmp 4) (.tmp 39) rfl W1.heap.size #[vm7] rfl rfl _ _ M8 hszS1 rfl hone7 ?_)
            | ((with_reducible refine lit_slice1 (.tmp 41) Tryd.idsTy XC hid32 (by omega) ?_ ?_); rfl)
            | (at_builtin
               (with_reducible refine lit_append_new (.tmp 40) (.tmp 42) 1 _ Tryd.idsTy own9 XC hidl hid1 hkl hm2 sz9 ?_ ?_ ?_); rfl; rfl
               intro v10 w10 hv10 hb10 hg10 hn10
               have b10 := b9.trans (hb10.mono (Nat.le_of_lt hlt1))
               have M10 := Blk.grown M9 hg10 hdM
               have D10 := D9.grown hg10 (fun k hk => hap8 k hk)
               have hap10 := (Apart.newer hap8 D9 hn10)
               have hap10b : Apart v10 vm7 es7 := hap10
               have sz10 : W2.heap.size ≤ w10.heap.size := Nat.le_trans sz9 hg10.size
               clear hg10 hn10 hap10))
          go_roundw
          case rel => exact ⟨k + 1, vm7, es7, ids ++ [pn], by go_num, by omega, by omega, by simp; omega, hids2, M10, D10, by unfold OwnIds; rw [List.length_append, hrow.out]; exact hv10, hap10b, b10, sz10⟩
          case measure => simp [intOf]; omega
    · have hki : ¬ (k : Int) < (l.length : Int) := by omega
      have lM := run_ldvS hM
      have rr := r1.below hbel hlt0
      have hno := hD.blk_ne rr (by decide) (by decide) (by decide)
      have hbr : Below w.heap.size w wr := bthen b1 b1.size hbel
      have hszS1 : (Tryd.prog.info? 30).map (·.size) = some (#[vm] : Array Value).size := szDSt
      have hone7 : (#[vm] : Array Value).all (·.oneCell') = true := by simp [hD.one]
      clear hat heach hsm
      go_wp2_with (first
        | (refine wpList_store_row rfl 30 (.tmp 2) (.tmp 44) rfl w.heap.size #[vm] rfl rfl _ _ rr hszS1 rfl hone7 ?_))
      refine bodyPost_ret (results_row_tmp rfl _ _ w.heap.size _ _ _ _ rfl (setRow_heap _ _ _ _ _ _ rr) Tryd.underlying30 rfl hszS1) rfl ⟨⟨vm, es, _, ids, rfl, hD.row hno _, by omega, own_down (own_row hown (Nat.lt_trans hlt0 hlt1) _) (Nat.le_of_lt (Nat.lt_trans hlt0 hlt1)), by omega, hids.out, by exact hap⟩, below_setRow hbr (Nat.le_refl _) _⟩
end Go.Proofs.YtnehabcopjgklaaDoor
/- The walk of layer 11's law: StoreApart. Condition: the table of constants is as the program lays it. -/
namespace Go.Proofs.YtnehabcopjgklaaDoor
open Go.RowKit
attribute [local go_sem ↓] ldvI_eq ldvS_eq
theorem putC_some (t : Txt) : (((putC t : Nat) : Int) == 0) = (decO t).isSome := by
  unfold putC
  cases decO t <;> rfl
/-- Two blocks that a Put may write, both from B on. -/
theorem two_from {B p : Nat} {v : Value} (h1 : B ≤ p) (h2 : ∀ k, v.ownBlock = some k → B ≤ k) : ∀ k, some k ∈ [some p, v.ownBlock] → B ≤ k := fun k hk => by
  simp only [List.mem_cons, List.not_mem_nil, or_false] at hk
  rcases hk with hk | hk
  · injection hk with hk; omega
  · exact h2 k hk.symm
/-- What a Put leaves: the document's store; a variable of another type; another store that was laid later. -/
theorem DocSt.put {w w' : World} {base p : Nat} {vl vm : Value} {s : List StL} {es : List DiL} (h : DocSt w vm es) (hs : StoAt w base p vl s) (hf : Far [some p, vl.ownBlock] w w') : DocSt w' vm es := h.far hf fun k hk => by
  simp only [List.mem_cons, List.not_mem_nil, or_false] at hk
  rcases hk with hk | hk
  · injection hk with hk
    rw [hk]
    exact h.blk_ne hs.blk (by decide) (by decide) (by decide)
  · rintro (hu | ⟨e, he, hu | hu⟩)
    · exact own_ne h.own hs.own (by decide) k hu hk.symm
    · exact own_ne (h.each e he).oe hs.own (by decide) k hu hk.symm
    · exact own_ne (h.each e he).op hs.own (by decide) k hu hk.symm
theorem Blk.put {w w' : World} {base p g : Nat} {vl : Value} {s : List StL} {T : TypeId} {cs : Array Value} (h : Blk w g T cs) (hs : StoAt w base p vl s) (hf : Far [some p, vl.ownBlock] w w') (h1 : 63 ≠ T) (h2 : 71 ≠ T) : Blk w' g T cs := hf.blk h (by
  simp only [List.mem_cons, List.not_mem_nil, or_false, not_or]
  refine ⟨fun e => ?_, own_blk_ne hs.own h h2⟩
  injection e with e
  exact Blk.ne_ hs.blk (e ▸ h) h1 rfl)
theorem StoAt.put {w w0 w' : World} {base base' p p' : Nat} {vl vl' : Value} {s s' : List StL} (h : StoAt w base' p' vl' s') (hs : StoAt w0 base p vl s) (hb : w0.heap.size ≤ base') (hf : Far [some p, vl.ownBlock] w w') (hp' : base' ≤ p') : StoAt w' base' p' vl' s' :=
  h.far hf (by
    simp only [List.mem_cons, List.not_mem_nil, or_false, not_or]
    refine ⟨fun e => ?_, fun e => ?_⟩
    · injection e with e
      have := hs.lt
      omega
    · have := (World.ownsRow.lt hs.own p' e.symm).2
      omega) fun k hk => by
    have h1 := (World.ownsRow.lt h.own k hk).1
    simp only [List.mem_cons, List.not_mem_nil, or_false, not_or]
    refine ⟨fun e => ?_, fun e => ?_⟩
    · injection e with e
      have := hs.lt
      omega
    · have := (World.ownsRow.lt hs.own k e.symm).2
      omega
set_option maxRecDepth 100000 in
set_option maxHeartbeats 16000000 in
theorem storeApart_calls (l : List SdL) (va : Value) (more : Txt) (hml : more.length ≤ 9223372036854775807) (w : World) (hK : TabK w) (h : Seeds w va l) :
    Calls Tryd.prog 4 #[va, .string (B more)] w fun e w' => e = .returned (.bool true) ∧ Below w.heap.size w w' := by
  have hkn := fun W (hb : Below w.heap.size w W) => Lib.hid (knows_calls11 W (hK.below hb))
  have hfw : Calls Tryd.prog 17 #[va, .int .i64 20] w fun e w' => FewB l 20 e ∧ Below w.heap.size w w' := few_calls11 l 20 (by omega) va w h
  have hfw := Lib.hid hfw
  have hgr := fun (hl : l.length ≤ 20) (hsm : ∀ x ∈ l, x.refs.length ≤ 10 ∧ x.text.length ≤ 300) W (hW : Below w.heap.size w W) => grow_calls l (by omega) hsm va W (h.below hW)
  have hzI := zeroIdV
  have hzo := zeroObj
  have hz72 := zObj_size
  have hZ32 : (u8s noId).size = 32 := by rw [u8s_size, noId_len]
  have hn1 := u8s_one noId
  clear h
  go_enter Tryd.func4, Tryd.ntmps4
  go_upto_region 2 with (first
    | ((with_reducible refine hfw.out.mono ?_); rintro e w1 ⟨⟨b, rfl, hb⟩, b1⟩))
  have hk1 := hkn _ b1
  cases b
  · go_wp2_with (first
      | ((with_reducible refine hk1.out.mono ?_); rintro e w9 ⟨rfl, b9⟩))
    go_ret
    exact ⟨rfl, bthen b1 b1.size b9⟩
  · obtain ⟨hl20, hsm⟩ := hb rfl
    by_cases hm5 : more.length ≤ 500
    · have i5 : ¬ (500 : Int) < (more.length : Int) := by omega
      have hgr := Lib.hid (hgr hl20 hsm _ b1)
      clear hk1 hb hsm
      go_upto_region 5 with (first
        | ((with_reducible refine hgr.out.mono ?_); rintro e w2 ⟨⟨vm, es, vi, ids, rfl, D2, hel, own2, hil, hids, hap⟩, hb2⟩
           have b2 := bthen b1 b1.size hb2
           have hvm1 : (#[vm] : Array Value).all (·.oneCell') = true := by simp [D2.one]
           have hvm0 : (#[vm] : Array Value).size = 1 := rfl)
        | ((with_reducible refine lit_new 30 (.tmp 6) (.tmp 41) #[vm] 1 szDSt hvm0 hvm1 _ ?_ ?_ ?_ ?_)
           · exact hvm0
           · rfl
           · rfl
           intro W3 m3 hbl3
           have b3 := bthen b2 b2.size hbl3
           have D3 := D2.below hbl3))
      have l3 := run_ldvS m3
      have hof := Lib.hid (of_calls11 D3 (by omega) (hK.below b3))
      obtain ⟨L, hL⟩ : ∃ L, es.map (·.st) = L := ⟨_, rfl⟩
      have hLok := D3.ok
      have hLl : L.length = es.length := by rw [← hL, List.length_map]
      rw [hL] at hof hLok
      have hLk : Hid (∀ (k : Nat) (x : DiL), es[k]? = some x → L[k]? = some x.st) := Lib.hid fun k x hx => by rw [← hL, List.getElem?_map, hx]; rfl
      have hL := Lib.hid hL
      have hLl := Lib.hid hLl
      have hnw := fun W => stoNew_calls W
      clear hgr hfw own2 hids hap hil
      go_upto_region 9 with (first
        | ((with_reducible refine hof.out.mono ?_); rintro e w4 ⟨⟨p, vl, rfl, hp, S4⟩, hb4⟩
           have b4 := bthen b3 b3.size hb4
           have D4 := D3.below hb4
           have m4 := m3.below hb4 m3.lt)
        | ((with_reducible refine (hnw _).mono ?_); rintro e w5 ⟨rfl, T5, hb5⟩
           have b5 := bthen b4 b4.size hb5))
      obtain ⟨A, cap, hvm, hcap1, hcap2, hat⟩ := D4.at_
      have hg6 := m4.lt
      have hw1 : IntKind.i64.wrap ((es.length : Int) - 1) = (es.length : Int) - 1 := IntWalk.i64_in _ (by omega)
      have m5c : w5.cell? ⟨w2.heap.size, 0, none⟩ = some (.slice A es.length cap) := by rw [← hvm]; exact (m4.below hb5 hg6).cell 0
      have T5 : StoAt w5 w4.heap.size w4.heap.size (.slice none 0 0) (L.drop es.length) := by rw [← hLl.out, List.drop_length]; exact T5
      clear hof hnw
      go_wp2
      go_loopw [10] (fun vi wr => ∃ (j : Nat) (vl2 : Value), vi = .int .i64 ((j : Int) - 1) ∧ j ≤ es.length ∧ StoAt wr w4.heap.size w4.heap.size vl2 (L.drop j) ∧ Below w4.heap.size w4 wr) (fun vi _ => (intOf vi + 1).toNat)
      case atStart => exact ⟨es.length, _, rfl, Nat.le_refl _, T5, hb5⟩
      case round =>
        obtain ⟨j, vl2, rfl, hj, T6, hbel⟩ := hrel
        have b6 := bthen b4 b4.size hbel
        have D6 := D4.below hbel
        have m6 := m4.below hbel hg6
        have S6 := S4.below hbel
        have c6 : wr.cell? ⟨w2.heap.size, 0, none⟩ = some (.slice A es.length cap) := by rw [← hvm]; exact m6.cell 0
        cases j with
        | succ k =>
          have e1 : (((k + 1 : Nat) : Int) - 1) = (k : Int) := by omega
          rw [e1]
          clear e1
          have hki : (k : Int) < (es.length : Int) := by omega
          have hk0 : (0 : Int) ≤ (k : Int) := by omega
          obtain ⟨ga, oa, rfl, hga, hca⟩ := hat (by omega)
          obtain ⟨x, hx⟩ : ∃ x, es[k]? = some x := ⟨_, List.getElem?_eq_getElem (by omega)⟩
          have hxo := D4.each x (List.mem_of_getElem? hx)
          have hLx := hLk.out k x hx
          have htx := dit_text (rangeAt_below (hca k x hx) hga hbel) hxo.id
          have htl := (decO_len hxo.dec).2
          have htk : (L.drop (k + 1)).length < 500000 := by have := hLl.out; rw [List.length_drop]; omega
          have hpt := stoPut_calls hbel.size T6 x.st.text (by omega) (hK.below b6) htk
          rw [putS_fall hLok hLx] at hpt
          have hpt := Lib.hid hpt
          have hwk : IntKind.i64.wrap ((k : Int) - 1) = (k : Int) - 1 := IntWalk.i64_in _ (by omega)
          clear hx hca hat hLx hxo htk hLk hvm
          go_wp2_with (first
            | ((with_reducible refine hpt.out.mono ?_); rintro e w7 ⟨rfl, vl7, T7, f7, n7⟩
               have b7 : Below w4.heap.size w4 w7 := hbel.trans (f7.below hbel.size (two_from (Nat.le_refl _) fun k hk => (World.ownsRow.lt T6.own k hk).1))))
          go_roundw
          case rel => exact ⟨k, vl7, rfl, by omega, T7, b7⟩
          case measure => simp [intOf]
        | zero =>
          have e1 : (((0 : Nat) : Int) - 1) = -1 := by omega
          rw [e1]
          rw [List.drop_zero] at T6
          have hLl6 : L.length < 500000 := by have := hLl.out; omega
          have hs6 : StoAt wr W3.heap.size p vl (es.map (·.st)) := by rw [hL.out]; exact S6
          have ht6 : StoAt wr w4.heap.size w4.heap.size vl2 (es.map (·.st)) := by rw [hL.out]; exact T6
          have hp3 : W3.heap.size ≤ p := hp
          have hpw : p < w4.heap.size := S4.lt
          have l6 := run_ldvS m6
          have hpc := putC_some more
          obtain ⟨pn, hpn⟩ : ∃ pn, putI more = pn := ⟨_, rfl⟩
          obtain ⟨pc, hpcc⟩ : ∃ pc, putC more = pc := ⟨_, rfl⟩
          obtain ⟨bf, hbf⟩ : ∃ bf, (decO more).isSome = bf := ⟨_, rfl⟩
          have hpi : pn.length = 32 := by
            rw [← hpn]
            unfold putI
            split
            · rfl
            · exact shaOf_length _
          rw [hpcc, hbf] at hpc
          have hp32 : (u8s pn).size = 32 := by rw [u8s_size, hpi]
          have hpo := u8s_one pn
          have hszI : (Tryd.prog.info? 24).map (·.size) = some (u8s pn).size := by rw [hp32]; exact sz32
          obtain ⟨PL, hPL⟩ : ∃ PL, putS (es.map (·.st)) more = PL := ⟨_, rfl⟩
          have hput := fun W vl (S : StoAt W W3.heap.size p vl (es.map (·.st))) (hK : TabK W) (hB : W3.heap.size ≤ W.heap.size) => stoPut_calls hB S more (by omega) hK (by rw [hL.out]; exact hLl6)
          have hwith := fun W (D : DocSt W vm es) => docWith_calls D (by omega) more (by omega)
          unfold WithR at hwith
          simp only [hpn, hpcc, hPL] at hput
          simp only [hpn, hbf, hPL] at hwith
          have hput := Lib.hid hput
          have hwith := Lib.hid hwith
          clear hvm c6 hpn hpcc hbf hPL hLk hat S6 T6 m5c T5 hw1
          go_upto_region 14 with (first
            | ((with_reducible refine (as_calls11 hs6 D6).mono ?_); rintro e w8 ⟨rfl, hb8⟩
               have b8 := bthen b6 b6.size hb8
               have D8 := D6.below hb8
               have m8 := m6.below hb8 m6.lt
               have S8 := hs6.below hb8
               have T8 := ht6.below hb8
               have l8 := run_ldvS m8))
          go_upto_region 15 with (first
            | ((with_reducible refine (as_calls11 T8 D8).mono ?_); rintro e w9 ⟨rfl, hb9⟩
               have b9 := bthen b8 b8.size hb9
               have D9 := D8.below hb9
               have m9 := m8.below hb9 m8.lt
               have S9 := S8.below hb9))
          go_upto_region 17 with (first
            | ((with_reducible refine (stoCopy_calls S9).mono ?_); rintro e w10 ⟨pc', vc, rfl, hpc', C10, hb10⟩
               have b10 := bthen b9 b9.size hb10
               have D10 := D9.below hb10
               have m10 := m9.below hb10 m9.lt
               have S10 := S9.below hb10
               have z10 : W3.heap.size ≤ w10.heap.size := Nat.le_trans hp3 (Nat.le_of_lt S10.lt))
            | ((with_reducible refine (hput.out _ _ S10 (hK.below b10) z10).mono ?_); rintro e w11 ⟨rfl, vl11, S11, f11, n11⟩
               have b11 : Below w.heap.size w w11 := b10.trans (f11.below b10.size (two_from (Nat.le_trans b3.size hp3) fun k hk => Nat.le_trans b3.size (World.ownsRow.lt S10.own k hk).1))
               have D11 := D10.put S10 f11
               have m11 := Blk.put m10 S10 f11 (by decide) (by decide)
               have C11 : StoAt w11 w9.heap.size pc' vc (es.map (·.st)) := C10.put S9 (Nat.le_refl _) f11 hpc')
            | ((with_reducible refine lit_new 24 (.tmp 14) (.tmp 82) (u8s pn) 32 sz32 hp32 hpo _ ?_ ?_ ?_ ?_)
               · first | exact hZ32 | rfl
               · rfl
               · rfl
               intro W12 i12 hb12
               have b12 := bthen b11 b11.size hb12
               have D12 := D11.below hb12
               have m12 := m11.below hb12 m11.lt
               have S12 := S11.below hb12
               have C12 := C11.below hb12
               have l12 := run_ldvS m12))
          go_upto_region 18 with (first
            | ((with_reducible refine (hwith.out _ D12).mono ?_); rintro e w13 ⟨⟨vm13, es13, rfl, D13, hmap, _⟩, hb13⟩)
            | (refine wpList_store_row rfl 30 (.tmp 16) (.tmp 88) rfl w13.heap.size #[vm13] rfl rfl _ #[.slice none 0 0] ((Blk.new _ _ _).alloc _) szDSt rfl (by simp [D13.one]) ?_)
            | (refine wpList_store_row rfl 24 (.tmp 17) (.tmp 89) rfl (w13.heap.size + 1) (u8s pn) rfl rfl _ (u8s noId) (grow_id _ _ _ _ _ _) hszI (by rw [hp32, hZ32]) hpo ?_))
          obtain ⟨W14, hW14⟩ : ∃ W14, (((w13.alloc (.cells #[.slice none 0 0] 30)).alloc (.cells (u8s noId) 24)).setRow w13.heap.size #[vm13]).setRow (w13.heap.size + 1) (u8s pn) = W14 := ⟨_, rfl⟩
          have b134 : Below w13.heap.size w13 W14 := by
            rw [← hW14]
            exact below_setRow (below_setRow (((Below.refl _ _).alloc (Nat.le_refl _) _).alloc (by rw [size_alloc']; omega) _) (Nat.le_refl _) _) (by omega) _
          have g14 : Blk W14 w13.heap.size 30 #[vm13] := by
            rw [← hW14]
            unfold Blk
            rw [setRow_other _ _ _ _ (by omega)]
            exact setRow_heap _ _ _ _ _ _ ((Blk.new _ _ _).alloc _)
          rw [hW14]
          have b124 : Below W12.heap.size W12 W14 := bthen hb13 hb13.size b134
          have b14 := bthen b12 b12.size b124
          have D14 := D12.below b124
          have N14 := D13.below b134
          have m14 := m12.below b124 m12.lt
          have S14 := S12.below b124
          have C14 := C12.below b124
          have l14 := run_ldvS g14
          rw [← hmap] at S14
          clear hput hwith hW14 hmap
          go_upto_region 19 with (first
            | ((with_reducible refine (as_calls11 S14 N14).mono ?_); rintro e w15 ⟨rfl, hb15⟩
               have b15 := bthen b14 b14.size hb15
               have D15 := D14.below hb15
               have C15 := C14.below hb15
               have m15 := m14.below hb15 m14.lt
               have l15 := run_ldvS m15))
          go_upto_region 20 with (first
            | ((with_reducible refine (as_calls11 C15 D15).mono ?_); rintro e w16 ⟨rfl, hb16⟩
               have b16 := bthen b15 b15.size hb16))
          have hrbI := fun W => run_build (P := Tryd.prog) W _ _ _ built_zId
          have hzone : zObj.all (·.oneCell') = true := objC_all zeroO none none 0 0 0 0
          clear D6 D8 D9 D10 D11 D12 D13 D14 D15 N14 m6 m8 m9 m10 m11 m12 m14 m15 hs6 ht6 S8 S9 S10 S11 S12 S14 T8 C10 C11 C12 C14 C15 D4 D3 D2 m3 m4 S4 l6 l8 l12 l14 l15 l3 hL hLl hLok g14
          go_upto_region 24 with (first
            | ((with_reducible refine (nilPut_calls more _).mono ?_); rintro e w17 ⟨rfl, hb17⟩
               have b17 := bthen b16 b16.size hb17)
            | ((with_reducible refine lit_new 24 (.tmp 22) (.tmp 103) (u8s noId) 32 sz32 hZ32 hn1 _ ?_ ?_ ?_ ?_)
               · first | exact hZ32 | rfl
               · rfl
               · rfl
               intro W18 i18 hb18
               have b18 := bthen b17 b17.size hb18)
            | ((with_reducible refine (nilGet_calls noId noId_len _).mono ?_); rintro e w19 ⟨rfl, hb19⟩
               have b19 := bthen b18 b18.size hb19)
            | ((with_reducible refine (nilObject_calls noId noId_len _).mono ?_); rintro e w20 ⟨rfl, hb20⟩
               have b20 := bthen b19 b19.size hb20)
            | ((with_reducible refine lit_new 41 (.tmp 26) (.tmp 115) zObj 72 szObj hz72 hzone _ ?_ ?_ ?_ ?_)
               · first | exact hz72 | rfl
               · rfl
               · rfl
               intro W21 i21 hb21
               have b21 := bthen b20 b20.size hb21))
          have hk21 := hkn _ b21
          go_wp2_with (first
            | ((with_reducible refine hk21.out.mono ?_); rintro e w22 ⟨rfl, hb22⟩
               have b22 := bthen b21 b21.size hb22)
            | ((with_reducible refine (nilKind_calls noId noId_len _).mono ?_); rintro e w23 ⟨rfl, hb23⟩
               have b23 := bthen b22 b22.size hb23)
            | ((with_reducible refine (nilLen_calls _).mono ?_); rintro e w24 ⟨rfl, rfl⟩)
            | ((with_reducible refine (nilIds_calls _).mono ?_); rintro e w25 ⟨rfl, rfl⟩)
            | ((with_reducible refine (nilCopy_calls _).mono ?_); rintro e w26 ⟨rfl, rfl⟩))
          all_goals try (exfalso; omega)
          go_ret
          exact ⟨rfl, b23⟩
    · have i5 : (500 : Int) < (more.length : Int) := by omega
      go_wp2_with (first
        | ((with_reducible refine hk1.out.mono ?_); rintro e w9 ⟨rfl, b9⟩))
      all_goals try (exfalso; omega)
      go_ret
      exact ⟨rfl, bthen b1 b1.size b9⟩
end Go.Proofs.YtnehabcopjgklaaDoor
/- What the row's list of variables gives: the table of constants; and a world that meets it. No condition. -/
namespace Go.Proofs.YtnehabcopjgklaaDoor
open Go.ChangeShapes Go.WideShapes Go.ChangeAt Go.RowKit

theorem gTab : Tryd.prog.globalNamed "knapsack/sha256.constants" = some 0 := by kernel_rfl
theorem gTabType : (Tryd.prog.globals[0]?).map (·.type) = some 87 := by kernel_rfl
theorem cellsTab : Tryd.prog.cellsOf 87 = 64 := by kernel_rfl
theorem cellsU32 : Tryd.prog.cellsOf 39 = 1 := by kernel_rfl
theorem laid_is : (Rows.laid_knapsack_sha256_constants : DataW Unit) = Lib.tabData .u32 (K256.map fun n => ((n : Nat) : Int)) := by kernel_rfl
theorem tabK_of {W : World} (h : laidMetH Tryd.prog [("knapsack/sha256.constants", Rows.laid_knapsack_sha256_constants)] W) : TabK W := by
  rw [laid_is] at h
  have ht := Lib.tabIs_of_head (rest := []) gTab gTabType Tryd.underlying87 Tryd.underlying39 cellsU32 cellsTab h
  have hc (t : Nat) (h64 : t < 64) : W.cell? ⟨0, t, none⟩ = some (.int .u32 (K256.getD t 0 : Nat)) := by
    rw [ht.cell gTab t (by rw [List.length_map, K256_length]; exact h64)]
    have : t < K256.length := by rw [K256_length]; exact h64
    simp [List.getD, List.getElem?_map, List.getElem?_eq_getElem this]
  exact ⟨World.block_lt_of_cell? W _ (hc 0 (by omega)), hc⟩
/-- A world for the witness: the settled one, the table as its initialiser lays it. -/
noncomputable def laidWorld (os : Os) : World :=
  { World.holding Tryd.prog os ⟨#[], #[], []⟩ with heap := (World.holding Tryd.prog os ⟨#[], #[], []⟩).heap.modify 0 fun
      | .cells _ t frozen => .cells (u32s K256) t frozen
      | o => o }
end Go.Proofs.YtnehabcopjgklaaDoor
