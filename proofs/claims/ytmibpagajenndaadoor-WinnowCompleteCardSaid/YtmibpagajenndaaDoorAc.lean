/- The walk of Shared. -/
import Derived.Test.YtmibpagajenndaaDoorAb
namespace Go.Proofs.YtmibpagajenndaaDoor
open Go.RowKit Go.Maps Go.ChangeShapes Go.ChangeMaps

def Grp (w : World) (bm k : Nat) (b : List (Int × Int)) : Prop := w.ownsGroups (H := Unit) Tryd.prog 3 (bm + 1) 3 .i64 bm k (grp b k)

theorem keys_int {es : Array MapEntry} {clock : Nat} {R : Value → Option (DataW Unit × List MemPlace)} (F : Go.WideElems.Fit Tryd.prog 3 R es clock) : ∀ e ∈ es.toList, ∃ n, e.key = .int .i64 n := by
  intro e he
  obtain ⟨y, hy⟩ := F.reads e he
  have hk := Go.WideElems.rd_key hy
  have hu := Tryd.underlying3
  cases hv : e.key <;> simp [hv, keyOf, mapKey, hu] at hk
  obtain ⟨⟨rfl, _⟩, _⟩ := hk
  exact ⟨_, rfl⟩
theorem Ext.grownRow {w w' : World} (he : Ext w w') (row : Option Nat) : w.grownBy w' row := ⟨he.os, he.tape, he.output, he.size, fun i hi _ => he.block i hi⟩
theorem ints_ext {w w' : World} {base : Nat} {e : TypeId} {q : IntKind} {v : Value} {zs : List Int} (h : w.ownsInts base e q v zs) (he : Ext w w') : w'.ownsInts base e q v zs := h.kept he.grownBy (by cases v.ownBlock <;> simp)

theorem wpList_lookup_is {P : Program} {ops : Array Oper} {rest : List Oper} {o : Oper} {a : Act} {w : World} {Q : Exit → Act → World → Prop} (hg : o.guard = none) (m x : Operand) (t : TypeId) (hop : o.op = Op.lookup t m x false)
    (mv xv v : Value) (hm : a.eval m = mv) (hx : a.eval x = xv) (hrun : (Instr.lookup t mv xv false).run P w = .ok v w) (hK : wpList P ops Q rest (a.put o.dst v) w) : wpList P ops Q (o :: rest) a w := by
  refine wpList_plain hg fun K' hK' => ?_
  unfold Oper.wp
  simp [execOp, hop, hm, hx, hrun, Result.andThen]
  exact hK' _ _ hK
/-- The closure full. -/
theorem full_is (bx : Nat) (v : Value) (A : Option Addr) (N c : Nat) (B : Bool) (w : World) (hv : v = .slice A N c) (hc : w.cell? ⟨bx, 0, none⟩ = some v) (hB : decide (1024 < N) = B) : Calls Tryd.prog 35 #[.pointer (some ⟨bx, 0, none⟩)] w (Qu (.bool B) w) := by
  subst hv hB
  go_enter Tryd.func35, Tryd.ntmps35
  go_wp2_with fail
  go_ret
  exact ⟨ret_bool (by simp; omega), Dr.refl _⟩
theorem wf_pairs_take (zs : List Int) (i : Nat) (h : i < zs.length) : zs.take (i + 1) = zs.take i ++ [gt zs i] := by
  rw [List.take_add_one, List.getElem?_eq_getElem h, ← gt_get _ _ h]; rfl

theorem box_kept {w w5 : World} {b : Nat} {v : Value} {t : TypeId} {row : Option Nat} {o : Obj} (h : w.heap[b]? = some (.cells #[v] t (0, 0))) (hg : (w.alloc o).grownBy w5 row) (hne : row ≠ some b) :
    w5.heap[b]? = some (.cells #[v] t (0, 0)) ∧ w5.cell? ⟨b, 0, none⟩ = some v ∧ w5.frozen? ⟨b, 0, none⟩ = false := by
  have hlt : b < w.heap.size := (Array.getElem?_eq_some_iff.1 h).1
  have h1 : (w.alloc o).heap[b]? = some (.cells #[v] t (0, 0)) := (((Ext.refl w).alloc o).block b hlt).trans h
  have h5 : w5.heap[b]? = some (.cells #[v] t (0, 0)) := (hg.block b (by simp; omega) (fun e => hne e.symm)).trans h1
  exact ⟨h5, by rw [cell_of_row _ _ _ _ _ _ h5]; rfl, by simp [World.frozen?, h5]⟩
theorem box_cell {w : World} {b : Nat} {v : Value} {t : TypeId} (h : w.heap[b]? = some (.cells #[v] t (0, 0))) : w.cell? ⟨b, 0, none⟩ = some v := by rw [cell_of_row _ _ _ _ _ _ h]; rfl
theorem own_at_lt {w : World} {base : Nat} {e : TypeId} {size : Nat} {v : Value} {n : Nat} {xs : List Value} (h : OwnAt w base e size v n xs) {g : Nat} (hg : v.ownBlock = some g) : base ≤ g ∧ g < w.heap.size := by
  obtain ⟨_, ⟨rfl, _⟩ | ⟨g', off, cap, cur, rfl, hb, hh', _⟩⟩ := h
  · simp [Value.ownBlock] at hg
  · simp [Value.ownBlock] at hg
    subst hg
    refine ⟨hb, ?_⟩
    rcases Nat.lt_or_ge g' w.heap.size with h | h
    · exact h
    · rw [Array.getElem?_eq_none h] at hh'; cases hh'

set_option maxRecDepth 4000 in
set_option maxHeartbeats 1000000 in
theorem Shared_ord (a b : List (Int × Int)) (A B : Option Addr) (c d n m : Nat) (w : World) (hA : PrAt w A n a) (hB : PrAt w B m b) (wa : PrWf a) (wb : PrWf b) (hn : n ≤ 60) (hm : m ≤ 60) (oa : ordB a = true) (ob : ordB b = true) :
    Calls Tryd.prog 17 #[.slice A n c, .slice B m d] w (RetPairs w (if (prs a b m n).length ≤ 1024 then prs a b m n else []) (if (prs a b m n).length ≤ 1024 then 0 else 10)) := by
  obtain ⟨i0, hi, hz0, hz1, hz2⟩ := info_parts pair_info
  obtain ⟨i1, hi1, hz10, hz11, hz12⟩ := info_parts int_info
  have hmm := @run_makeMap Tryd.prog
  have HA := Lib.hid hA
  have HB := Lib.hid hB
  have HWA := Lib.hid wa
  have HWB := Lib.hid wb
  have HOA := Lib.hid oa
  have HOB := Lib.hid ob
  obtain ⟨Z, hZ⟩ : ∃ Z, Z = RetPairs w (if (prs a b m n).length ≤ 1024 then prs a b m n else []) (if (prs a b m n).length ≤ 1024 then 0 else 10) := ⟨_, rfl⟩
  rw [← hZ]
  have HZ := Lib.hid hZ
  clear hA hB oa ob hZ wa wb
  go_enter Tryd.func17, Tryd.ntmps17
  go_wp2_with fail
  refine (ordered_is a _ _ _ true _ HA.out hn HOA.out).mono ?_
  rintro e w1 ⟨rfl, d1⟩
  go_wp2_with fail
  refine (ordered_is b _ _ _ true _ (HB.out.ext d1.ext) hm HOB.out).mono ?_
  rintro e w2 ⟨rfl, d2⟩
  go_wp2_with fail
  have d12 := d1.trans d2
  clear d1 d2
  go_loopw [26] (fun i wr => ∃ k : Nat, k ≤ m ∧ i = .int .i64 k ∧ Grp wr w2.heap.size k b ∧ Ext w wr) (fun i _ => m - (intOf i).toNat)
  case atStart => exact ⟨0, Nat.zero_le _, rfl, World.ownsGroups_made _ _ _ _ _, (d12.ext).alloc _⟩
  case round =>
    obtain ⟨k, hk, rfl, hgr, hd⟩ := hrel
    by_cases hlt : k < m
    · obtain ⟨bb, ob', rfl, hcb⟩ := HB.out.2.2 (by omega)
      have cb := hcb k hlt
      have c0 := hd.keepc cb.1
      have c1 := hd.keepc cb.2
      have hwf := HWB.out k (by have := HB.out.1; omega)
      clear hcb cb
      have hkey := keyOf_int_mk Tryd.underlying3 hwf.1
      obtain ⟨v, zs, hrun, hat, hoi, hzl, hback⟩ := World.ownsGroups.at hgr law3 Tryd.underlying64 (zero22 _) (by unfold maxLen; omega) hkey
      obtain ⟨es, clock, hbm, hfit, _⟩ := hgr
      obtain ⟨v0, hv0⟩ := lookup_any es (hh b k) w2.heap.size hwf.1 (keys_int hfit)
      have hvv : v = v0 := by
        have h1 := hv0 wr clock hbm
        rw [hrun] at h1
        cases h1
        rfl
      subst hvv
      have hzs := zs_of hoi hat
      have hrow : ∀ g, v.ownBlock = some g → w2.heap.size + 1 ≤ g ∧ g < wr.heap.size := fun g hg => hoi.1.lt g hg
      have hbmlt : w2.heap.size < wr.heap.size := (Array.getElem?_eq_some_iff.1 hbm).1
      obtain ⟨Φ, hΦ⟩ : ∃ Φ : World → Prop, ∀ x, Φ x ↔ x.heap[w2.heap.size]? = some (.map es clock) ∧ x.cell? ⟨wr.heap.size, 0, none⟩ = some (.int .i64 (hh b k)) ∧ x.cell? ⟨wr.heap.size, 1, none⟩ = some (.int .i64 (pp b k)) := ⟨_, fun _ => Iff.rfl⟩
      have hx1 : Ext wr (wr.alloc (.cells #[.int .i64 (hh b k), .int .i64 (pp b k)] 38)).drew := ((Ext.refl wr).alloc _).drew
      have h0 : Φ (wr.alloc (.cells #[.int .i64 (hh b k), .int .i64 (pp b k)] 38)).drew := (hΦ _).2 ⟨(hx1.block _ hbmlt).trans hbm, cell_new wr _ _ 0, cell_new wr _ _ 1⟩
      have fx0 : ∀ x : Lat Φ, x.w'.cell? ⟨wr.heap.size, 0, none⟩ = some (.int .i64 (hh b k)) := fun x => ((hΦ _).1 x.h).2.1
      have fx1 : ∀ x : Lat Φ, x.w'.cell? ⟨wr.heap.size, 1, none⟩ = some (.int .i64 (pp b k)) := fun x => ((hΦ _).1 x.h).2.2
      have fx2 : Hid (∀ x : Lat Φ, (Instr.lookup 64 (.map (some w2.heap.size)) (.int .i64 (hh b k)) false).run Tryd.prog x.w' = .ok v x.w') := fun x => hv0 _ clock ((hΦ _).1 x.h).1
      have hne := Lat.some h0
      have HΦ := Lib.hid hΦ
      have HBM := Lib.hid hbm
      have HX1 := Lib.hid hx1
      have HOI := Lib.hid hoi
      have HBACK := Lib.hid hback
      have HROW := Lib.hid hrow
      have HZS := Lib.hid hzs
      clear hΦ hx1 hoi hback hrow hzs hv0 hfit hbm hrun hat
      go_wp2_with fail
      refine wp_region_tail 11 [9, 10] Φ h0 (by kernel_rfl) (by kernel_rfl) (by kernel_rfl) ?_
      simp only [List.take_succ_cons, List.take_zero, List.drop_succ_cons, List.drop_zero]
      iterate 6 (refine lex_pure rfl rfl rfl ?_; intro K hK; go_big_quiet_op; go_big_quiet_on)
      refine lex_pure rfl rfl rfl ?_
      intro K hK
      refine ⟨v, fun w' hw' => ?_, ?_⟩
      · obtain ⟨x, rfl⟩ := hw'
        have h2 := fx2.out x
        unfold Oper.quietAt
        show Oper.quietUpon _ _ _ _ (Sem.run Tryd.prog (do pure (Next.value (← Instr.lookup 64 (.map (some w2.heap.size)) (.int .i64 (hh b k)) false))) x.w')
        rw [Sem.run_bind, h2]
        exact ⟨rfl, rfl⟩
      go_simp
      go_big_quiet_on
      iterate 2 (refine lex_pure rfl rfl rfl ?_; intro K hK; go_big_quiet_op; go_big_quiet_on)
      refine lex_eff rfl ?_
      go_wp2_with fail
      have hx2 := HX1.out.alloc (.cells #[.int .i64 (pp b k)] 3)
      have hΦ2 := (HΦ.out _).2 ⟨(hx2.block _ hbmlt).trans (((Ext.refl _).block _ hbmlt).trans HBM.out), alloc_keepc (.cells #[.int .i64 (pp b k)] 3) ((HΦ.out _).1 h0).2.1, alloc_keepc (.cells #[.int .i64 (pp b k)] 3) ((HΦ.out _).1 h0).2.2⟩
      refine ⟨⟨⟨_, hΦ2⟩, rfl⟩, ?_⟩
      refine lex_eff rfl ?_
      have hoi3 := ints_ext HOI.out hx2
      have hcn := cells_new_ints (wr.alloc (.cells #[.int .i64 (hh b k), .int .i64 (pp b k)] 38)) [pp b k]
      rw [show (wr.alloc (.cells #[.int .i64 (hh b k), .int .i64 (pp b k)] 38)).heap.size = wr.heap.size + 1 by simp] at hcn
      refine wpList_append_own_at _ rfl (.tmp 36) (.tmp 39) 53 rfl (w2.heap.size + 1) 3 i1 (.int .i64 0) 1 8 Tryd.underlying53 hi1 hz10 hz11 hz12 rfl (by decide) _ _ _ rfl hoi3.1 ⟨_, 0, none⟩ 1 1 (ints [pp b k]) rfl rfl hcn (ints_one _) (by unfold maxLen; omega) (by omega) (by simp; omega) ?_
      intro v' w5 hown' hgrow _ hloc
      go_wp2_with fail
      have hoi' := hoi3.appended hown' hwf.2
      have hall := (hx2.grownRow v.ownBlock).trans hgrow
      have hloc' : v'.ownBlock = v.ownBlock ∨ ∃ g, v'.ownBlock = some g ∧ wr.heap.size ≤ g := hloc.imp id (fun h => ⟨_, h, hx2.size⟩)
      have hΦ3 := (HΦ.out w5).2 ⟨(hgrow.block _ (Nat.lt_of_lt_of_le hbmlt hx2.size) (fun e => by have := HROW.out _ e.symm; omega)).trans ((HΦ.out _).1 hΦ2).1,
        grown_keepc hgrow ((HΦ.out _).1 hΦ2).2.1 (fun e => by have := HROW.out _ e; simp at this), grown_keepc hgrow ((HΦ.out _).1 hΦ2).2.2 (fun e => by have := HROW.out _ e; simp at this)⟩
      refine ⟨⟨⟨_, hΦ3⟩, rfl⟩, ?_⟩
      refine lex_nil ?_
      refine wpList_mapUpdate_back _ rfl (.tmp 30) (.tmp 32) (.tmp 40) 64 rfl HBACK.out rfl rfl rfl hall hoi' (by simp; omega) hloc' ?_
      intro w6 hown6 hgrow6
      go_wp2_with fail
      go_roundw
      case rel =>
        refine ⟨k + 1, by omega, by go_num, ?_, Below.groups hd HOI.out hall hgrow6 hd.size (by have := d12.size; omega) (by have := d12.size; omega)⟩
        unfold Grp
        rw [grp, col, if_pos rfl, ← HZS.out, ← hoi'.datum_pos (by simp)]
        exact hown6
      case measure => simp [intOf]; omega
    · obtain rfl : k = m := by omega
      have HG := Lib.hid hgr
      clear hgr
      go_wp2_with fail
      obtain ⟨W, rfl⟩ : ∃ W, W = wr := ⟨wr, rfl⟩
      have hdz : w.heap.size ≤ W.heap.size := hd.size
      go_loopw [45] (fun i w' => ∃ j : Nat, j ≤ n ∧ i = .int .i64 j ∧ (∃ v, w'.heap[W.heap.size]? = some (.cells #[v] 41 (0, 0)) ∧ OwnPairs w' (W.heap.size + 1) v (prs a b k j)) ∧ Hid ((prs a b k j).length ≤ 1024) ∧ Ext W w') (fun i _ => n - (intOf i).toNat)
      case atStart => exact ⟨0, Nat.zero_le _, rfl, ⟨_, heap_alloc_new _ _, own_pairs_nil _ _⟩, by unfold Hid; simp [prs], (Ext.refl _).alloc _⟩
      case round =>
        obtain ⟨j, hj, rfl, ⟨v, hbx, hown⟩, hlen, he⟩ := hrel
        by_cases hlt2 : j < n
        · obtain ⟨ba, oa', rfl, hca⟩ := HA.out.2.2 (by omega)
          have ca := hca j hlt2
          have c0 := he.keepc (hd.keepc ca.1)
          have c1 := he.keepc (hd.keepc ca.2)
          have hwf := HWA.out j (by have := HA.out.1; omega)
          have hkey := keyOf_int_mk Tryd.underlying3 hwf.1
          obtain ⟨vz, zs, hrun, hat, hoi, hzl, _⟩ := World.ownsGroups.at HG.out law3 Tryd.underlying64 (zero22 _) (by unfold maxLen; omega) hkey
          have hzs := zs_of hoi hat
          obtain ⟨es, clock, hbm, hfit, _⟩ := HG.out
          obtain ⟨v0, hv0⟩ := lookup_any es (hh a j) w2.heap.size hwf.1 (keys_int hfit)
          have hvv : vz = v0 := by
            have h1 := hv0 W clock hbm
            rw [hrun] at h1
            cases h1
            rfl
          subst hvv
          have hbmlt : w2.heap.size < W.heap.size := (Array.getElem?_eq_some_iff.1 hbm).1
          obtain ⟨Az, cz, ez, iz⟩ := IntsAt.of_own (show OwnInts W (w2.heap.size + 1) vz zs from OwnAt.of_row hoi.1)
          subst ez
          obtain ⟨L, hL⟩ : ∃ L, L = zs.length := ⟨_, rfl⟩
          rw [← hL] at iz hzl hv0
          have HL := Lib.hid hL
          have HIZ := Lib.hid iz
          have HV0 := Lib.hid hv0
          have HZS := Lib.hid hzs
          have HBM := Lib.hid hbm
          have HOWN := Lib.hid hown
          have HBX := Lib.hid hbx
          clear hca ca hrun hat hoi hfit hbm hL iz hzs hv0 hown hbx
          go_wp2_with (at_lookup; refine wpList_lookup_is rfl _ _ 64 rfl _ _ (.slice Az L cz) rfl rfl (HV0.out _ clock (((he.alloc _).block _ hbmlt).trans HBM.out)) ?_)
          obtain ⟨V, rfl⟩ : ∃ V, V = wr := ⟨wr, rfl⟩
          go_loopw [54] (fun idx w' => ∃ i : Nat, i ≤ L ∧ idx = .int .i64 i ∧ (∃ v', w'.heap[W.heap.size]? = some (.cells #[v'] 41 (0, 0)) ∧ OwnPairs w' (W.heap.size + 1) v' (prs a b k j ++ with1 (pp a j) (zs.take i)) ∧ v'.ownBlock ≠ some V.heap.size) ∧ Hid ((prs a b k j ++ with1 (pp a j) (zs.take i)).length ≤ 1024) ∧
              w'.cell? ⟨V.heap.size, 1, none⟩ = some (.int .i64 (pp a j)) ∧ Ext W w' ∧ V.heap.size < w'.heap.size) (fun idx _ => L - (intOf idx).toNat)
          case atStart =>
            refine ⟨0, Nat.zero_le _, rfl, ⟨v, ((Ext.refl V).alloc _).block _ (by have := he.size; have := (Array.getElem?_eq_some_iff.1 HBX.out).1; omega) |>.trans HBX.out, ?_, fun e => ?_⟩, ?_, cell_new V _ _ 1, he.alloc _, by simp⟩
            · simp [with1]; exact HOWN.out.alloc _
            · have := own_at_lt HOWN.out e; omega
            · unfold Hid; simp [with1]; exact hlen.out
          case round =>
            obtain ⟨i, hi', rfl, ⟨v', hbx, hown, hne⟩, hlen2, c12, he2, hV⟩ := hrel
            by_cases hlt3 : i < L
            · obtain ⟨bz, oz, rfl, hcz⟩ := HIZ.out.gcell (by omega)
              have cz0 := he2.keepc (hcz i hlt3)
              have cbx : wr.cell? ⟨W.heap.size, 0, none⟩ = some v' := by rw [cell_of_row _ _ _ _ _ _ hbx]; rfl
              obtain ⟨N, hN⟩ : ∃ N, N = (prs a b k j ++ with1 (pp a j) (zs.take i)).length := ⟨_, rfl⟩
              have hown3 : OwnAt wr (W.heap.size + 1) 45 2 v' N (pcells (prs a b k j ++ with1 (pp a j) (zs.take i))) := by rw [hN]; exact hown
              have hN2 : N ≤ 1024 := by rw [hN]; exact hlen2.out
              obtain ⟨A6, c6, e6⟩ := own_form hown3
              subst e6
              have hst : prs a b k j ++ with1 (pp a j) (zs.take (i + 1)) = prs a b k j ++ with1 (pp a j) (zs.take i) ++ [(pp a j, gt zs i)] := by
                rw [wf_pairs_take _ _ (by have := HL.out; omega), with1_append, ← List.append_assoc]; rfl
              have HN := Lib.hid hN
              have HST := Lib.hid hst
              have HBX2 := Lib.hid hbx
              have hbl : W.heap.size < wr.heap.size := (Array.getElem?_eq_some_iff.1 hbx).1
              clear hcz hown hN hst hbx
              by_cases hbig : 1024 < N + 1
              · have hd1 : decide (1024 < N + 1) = true := decide_eq_true hbig
                go_wp2_with (at_builtin; refine wpList_append_ownAt _ rfl (.tmp 58) (.tmp 63) 41 rfl (W.heap.size + 1) 45 i0 (.agg #[.int .i64 0, .int .i64 0]) 2 16 Tryd.underlying41 hi hz0 hz1 hz2 rfl (by decide) _ _ _ rfl (hown3.alloc _) ⟨wr.heap.size, 0, none⟩ 1 1 (pcells [(pp a j, gt zs i)]) rfl rfl (cells_new_pair _ _ _) (pcells_one _) (by unfold maxLen; omega) (by omega) (by simp; omega) (by decide) ?_
                             intro v5 w5 hown5 hg5 hold5 hloc5
                             obtain ⟨A7, c7, rfl⟩ := own_form hown5
                             obtain ⟨hbx5, cbx5, hfz5⟩ := box_kept HBX2.out hg5 (fun e => by have := own_at_lt hown3 (g := W.heap.size) e; omega)
                             have HBX5 := Lib.hid hbx5
                             clear hbx5)
                have e5 : Ext W w5 := (he2.alloc _).grown (hown3.mono (by omega)) hg5
                refine (full_is W.heap.size _ A7 (N + 1) c7 true _ rfl (box_cell (one_setCell (u := .slice A7 (N + 1) c7) HBX5.out)) hd1).mono ?_
                rintro e w6 ⟨rfl, d6⟩
                go_wp2_with fail
                have hbg : 1024 < (prs a b k n).length := by
                  have h1 := prs_mono a b k (j + 1) (n - (j + 1))
                  rw [show j + 1 + (n - (j + 1)) = n by omega, prs, ← HZS.out, List.length_append, with1_len] at h1
                  have h2 := HN.out
                  rw [List.length_append, with1_len, List.length_take] at h2
                  have h3 := HL.out
                  omega
                rw [HZ.out, if_neg (by omega), if_neg (by omega)]
                exact ⟨_, rfl, own_pairs_nil _ _, hd.trans ((e5.setCell (Nat.le_refl _) _).dr d6)⟩
              · have hd1 : decide (1024 < N + 1) = false := decide_eq_false hbig
                go_wp2_with (at_builtin; refine wpList_append_ownAt _ rfl (.tmp 58) (.tmp 63) 41 rfl (W.heap.size + 1) 45 i0 (.agg #[.int .i64 0, .int .i64 0]) 2 16 Tryd.underlying41 hi hz0 hz1 hz2 rfl (by decide) _ _ _ rfl (hown3.alloc _) ⟨wr.heap.size, 0, none⟩ 1 1 (pcells [(pp a j, gt zs i)]) rfl rfl (cells_new_pair _ _ _) (pcells_one _) (by unfold maxLen; omega) (by omega) (by simp; omega) (by decide) ?_
                             intro v5 w5 hown5 hg5 hold5 hloc5
                             obtain ⟨A7, c7, rfl⟩ := own_form hown5
                             obtain ⟨hbx5, cbx5, hfz5⟩ := box_kept HBX2.out hg5 (fun e => by have := own_at_lt hown3 (g := W.heap.size) e; omega)
                             have HBX5 := Lib.hid hbx5
                             clear hbx5)
                have e5 : Ext W w5 := (he2.alloc _).grown (hown3.mono (by omega)) hg5
                refine (full_is W.heap.size _ A7 (N + 1) c7 false _ rfl (box_cell (one_setCell (u := .slice A7 (N + 1) c7) HBX5.out)) hd1).mono ?_
                rintro e w6 ⟨rfl, d6⟩
                go_wp2_with fail
                go_roundw
                case rel =>
                  have hr7 : (Value.slice A7 (N + 1) c7).ownBlock ≠ some W.heap.size := fun e => by have := own_at_lt hown5 (g := W.heap.size) e; omega
                  have g5 : w5.grownBy (w5.setCell ⟨W.heap.size, 0, none⟩ (.slice A7 (N + 1) c7)) (some W.heap.size) := grownBy_setCells W.heap.size [.slice A7 (N + 1) c7] 0 w5
                  refine ⟨i + 1, by omega, by go_num, ⟨.slice A7 (N + 1) c7, ?_, ?_, ?_⟩, ?_, ?_, (e5.setCell (Nat.le_refl _) _).dr d6, ?_⟩
                  · obtain ⟨q, rfl⟩ := d6
                    exact one_setCell HBX5.out
                  · rw [HST.out]
                    refine own_pairs_snoc HN.out ((hown5.keep fun g hg hlt => ?_).dr d6)
                    exact g5.block g hlt (fun e => hr7 (by cases e; exact hg))
                  · rcases hloc5 with h | ⟨g, h, h2⟩
                    · rw [h]; exact hne
                    · rw [h]
                      intro e
                      cases e
                      have := h2.1
                      simp at this
                      omega
                  · unfold Hid
                    rw [HST.out, List.length_append, ← HN.out]
                    simp
                    omega
                  · refine d6.keepc (grown_keepc g5 (grown_keepc hg5 (alloc_keepc _ c12) ?_) ?_)
                    · exact hne
                    · intro e
                      have h1 : W.heap.size = V.heap.size := Option.some.inj e
                      have h2 := (Array.getElem?_eq_some_iff.1 HBX.out).1
                      omega
                  · have h1 := hg5.size
                    have h2 := d6.size
                    have h3 := g5.size
                    simp at h1
                    omega
                case measure => simp [intOf]; omega
            · obtain rfl : i = L := by omega
              go_wp2_with fail
              go_roundw
              case rel =>
                have ht : zs.take i = zs := by rw [HL.out, List.take_length]
                rw [ht, HZS.out] at hown hlen2
                exact ⟨j + 1, by omega, by go_num, ⟨v', hbx, hown⟩, hlen2, he2⟩
              case measure => simp [intOf]; omega
        · obtain rfl : j = n := by omega
          have cbx := box_cell hbx
          have HOWN := Lib.hid hown
          clear hown hbx
          go_wp2_with fail
          rw [HZ.out, if_pos hlen.out, if_pos hlen.out]
          exact ⟨_, rfl, HOWN.out.mono (by omega), hd.trans he⟩

end Go.Proofs.YtmibpagajenndaaDoor
