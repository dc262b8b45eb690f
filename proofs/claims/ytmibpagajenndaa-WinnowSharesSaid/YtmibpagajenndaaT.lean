/- The walk of WinnowWindows. -/
import Derived.Test.YtmibpagajenndaaS
import Derived.Maps.OwnSet
namespace Go.Proofs.Ytmibpagajenndaa
open Go.RowKit Go.Maps

set_option maxHeartbeats 400000 in
theorem sorted_yes (T : List Int) (b o c L : Nat) (w : World) (hL : L ≤ 8192) (hc : ∀ j, j < L → w.cell? ⟨b, o + j, none⟩ = some (.int .i64 (gt T j))) (hch : ∀ j, j + 1 < L → gt T j < gt T (j + 1)) :
    Calls Try.prog 37 #[.slice (some ⟨b, o, none⟩) L c] w (Qu (.bool true) w) := by
  have HC := Lib.hid hc
  have HCH := Lib.hid hch
  clear hc hch
  go_enter Try.func37, Try.ntmps37
  go_wp2_with fail
  go_loopw [3] (fun i wr => ∃ k : Nat, k ≤ L ∧ i = .int .i64 ((k : Int) - 1) ∧ Dr w wr) (fun i _ => (intOf i).toNat)
  case atStart => exact ⟨L, Nat.le_refl _, rfl, Dr.refl _⟩
  case round =>
    obtain ⟨k, hk, rfl, hd⟩ := hrel
    by_cases h1 : k ≤ 1
    · go_wp2_with fail
      go_ret
      exact ⟨rfl, hd⟩
    · obtain ⟨m, rfl⟩ : ∃ m, k = m + 2 := ⟨k - 2, by omega⟩
      have c0 := hd.keepc (HC.out m (by omega))
      have c1 := hd.keepc (HC.out (m + 1) (by omega))
      have hlt := HCH.out m (by omega)
      have e1 : (((m + 2 : Nat) : Int) - 1) = ((m + 1 : Nat) : Int) := by omega
      rw [e1]
      have hwk : IntKind.i64.wrap (((m + 1 : Nat) : Int) - 1) = (m : Int) := by rw [IntWalk.i64_in _ (by omega)]; omega
      generalize gt T m = x at *
      generalize gt T (m + 1) = y at *
      have hle : x ≤ y := by omega
      clear e1 hlt
      go_wp2_with fail
      go_quiet ((go_at_call 61; exact Calls.quiet_of_same (Try.cmp_Less_int2 _ _ _)))
      go_wp2_with fail
      go_roundw
      case rel => exact ⟨m + 1, by omega, by go_num, hd.drewN _⟩
      case measure => simp [intOf]

theorem W.keys_sel (g : Nat → Int) (q : Nat) (hq : 0 < q) : ∀ N, ((List.range N).map fun i => Lit.int .i64 ((W.lst g i q : Nat) : Int)).foldl addKey [] = (W.sel g q N).map fun p => Lit.int .i64 ((p : Nat) : Int)
  | 0 => by simp [W.sel]
  | 1 => by
    rw [W.sel_one]
    simp [addKey]
  | N + 2 => by
    have ih := W.keys_sel g q hq (N + 1)
    rw [List.range_succ, List.map_append, List.foldl_append, ih, W.sel_step' g q N hq]
    have hm := W.lst_mono g N q hq
    simp only [List.map_cons, List.map_nil, List.foldl_cons, List.foldl_nil, addKey]
    by_cases h : W.lst g (N + 1) q = W.lst g N q
    · rw [if_pos h, if_pos]
      rw [List.any_eq_true]
      refine ⟨_, List.mem_map.2 ⟨W.lst g N q, (W.sel_mem g q hq (N + 1) _).2 ⟨N, by omega, rfl⟩, rfl⟩, ?_⟩
      rw [h]
      exact WideAt.sameKey_self trivial
    · rw [if_neg h, if_neg]
      · rw [List.map_append]; rfl
      · rw [List.any_eq_true]
        rintro ⟨x, hx, hs⟩
        obtain ⟨p, hp, rfl⟩ := List.mem_map.1 hx
        obtain ⟨i, hi, e⟩ := (W.sel_mem g q hq (N + 1) p).1 hp
        have hs' := WideAt.sameKey_eq hs
        simp only [Lit.int.injEq, Int.natCast_inj, true_and] at hs'
        have : W.lst g i q ≤ W.lst g N q := by
          have hmo : ∀ d, W.lst g (N - d) q ≤ W.lst g N q := by
            intro d
            induction d with
            | zero => exact Nat.le_refl _
            | succ d ihd =>
              by_cases hd : d < N
              · have := W.lst_mono g (N - (d + 1)) q hq
                rw [show N - (d + 1) + 1 = N - d by omega] at this
                omega
              · rw [show N - (d + 1) = N - d by omega]; exact ihd
          have := hmo (N - i)
          rwa [show N - (N - i) = i by omega] at this
        omega

def keysW (g : Nat → Int) (q N : Nat) : List Lit := (List.range N).map fun i => Lit.int .i64 ((W.lst g i q : Nat) : Int)
def setW (g : Nat → Int) (q N : Nat) : DataW Unit := setOf (.lit (.bool true)) (keysW g q N)
theorem setW_zero (g : Nat → Int) (q : Nat) : setW g q 0 = .map [] := rfl
theorem setW_succ (g : Nat → Int) (q N : Nat) : setW g q (N + 1) = (setW g q N).put (Lit.int .i64 ((W.lst g N q : Nat) : Int)) (.lit (.bool true)) := by
  unfold setW keysW
  rw [List.range_succ, List.map_append]
  exact setOf_snoc _ _ _
theorem setW_size (l : List Int) (q N : Nat) (hq : 0 < q) : Maps.size (setW (gt l) q N) = (selI l q N).length := by
  unfold setW selI
  rw [size_setOf _ _ (by intro x hx; obtain ⟨i, _, rfl⟩ := List.mem_map.1 hx; trivial), keysW, W.keys_sel _ _ hq]
  simp
attribute [irreducible] setW

theorem law3 : Keyed Try.prog 3 := int_keyed Try.underlying3
theorem contains_yes (T : List Int) (b o c L : Nat) (x : Int) (w : World) (hL : L = T.length) (hL2 : L ≤ 8192) (hc : ∀ j, j < L → w.cell? ⟨b, o + j, none⟩ = some (.int .i64 (gt T j))) (hx : x ∈ T) :
    Calls Try.prog 38 #[.slice (some ⟨b, o, none⟩) L c, .int .i64 x] w fun e w' => e = .returned (.bool true) ∧ w = w' := by
  subst hL
  refine (Try.slices_Contains_int b o _ c T x w (Nat.le_refl _) (by omega) (fun j hj => by rw [hc j hj, ← gt_get _ _ hj]; simp [List.getD, hj])).mono ?_
  rintro e w' ⟨rfl, rfl⟩
  rw [List.take_length]
  exact ⟨ret_bool (by simpa using hx), rfl⟩
theorem Least_ok (l : List Int) (A : Option Addr) (c n k q : Nat) (w : World) (hA : IntsAt w A n l) (hq : 0 < q) (hn : k + q ≤ n) (hn2 : n ≤ 8192) :
    Calls Try.prog 17 #[.slice A n c, .int .i64 (k : Int), .int .i64 ((k : Int) + (q : Int))] w (Qu (.tuple #[.int .i64 ((W.lst (gt l) k q : Nat) : Int), .int .i64 0]) w) := by
  have h := Least_q l A c n k ((k : Int) + (q : Int)) w hA (WalkArith.wf_i64 (by omega)) (WalkArith.wf_i64 (by omega))
  have e : leastV l k ((k : Int) + (q : Int)) = .tuple #[.int .i64 ((W.lst (gt l) k q : Nat) : Int), .int .i64 0] := by
    unfold leastV
    rw [if_pos (by have := hA.1; simp [leastOk]; omega), Int.toNat_natCast, show ((k : Int) + (q : Int) - (k : Int)).toNat = q by omega]
  rwa [e] at h

theorem map_dr {H : Type} {w w' : World} {k : TypeId} {R : Value → Option (DataW H × List MemPlace)} {b n : Nat} {D : DataW H} (h : w.ownsMap Try.prog k R b n D) (d : Dr w w') : w'.ownsMap Try.prog k R b n D := by
  obtain ⟨m, rfl⟩ := d
  exact h
theorem sorted_none (A : Option Addr) (c : Nat) (w : World) : Calls Try.prog 37 #[.slice A 0 c] w (Qu (.bool true) w) := by
  go_enter Try.func37, Try.ntmps37
  go_wp2_with fail
  refine wp_loop_rounds 1 ?_
  rw [rounds_succ]
  go_wp2_with fail
  go_ret
  exact ⟨rfl, Dr.refl _⟩
theorem selI_width1 (l : List Int) : ∀ N, (selI l 1 N).length = N
  | 0 => by rw [selI_zero]; rfl
  | 1 => by rw [selI_one]; rfl
  | N + 2 => by
    have h1 : ∀ i, W.lst (gt l) i 1 = i := fun i => by
      have := W.lst_spec (gt l) i 1 (by omega)
      omega
    rw [selI_step l 1 N (by omega), if_pos (by rw [h1, h1]; omega), List.length_append, selI_width1 l (N + 1)]
    rfl
theorem selI_has (l : List Int) (q N i : Nat) (hq : 0 < q) (hi : i < N) : ((W.lst (gt l) i q : Nat) : Int) ∈ selI l q N := by
  unfold selI
  exact List.mem_map.2 ⟨_, (W.sel_mem (gt l) q hq N _).2 ⟨i, hi, rfl⟩, rfl⟩

set_option maxRecDepth 4000 in
set_option maxHeartbeats 1000000 in
theorem winnowWindows_walk (v0 v1 : Value) (a0 : List Int) (a1 : Int) {w : World} (r0 : (sliceR (intR .i64)).val w a0 v0) (r1 : (intR .u8).val w a1 v1) :
    Calls Try.prog 10 #[v0, v1] w (Al (.bool true) w) := by
  obtain ⟨A, c, rfl, hA⟩ := val_slice r0
  obtain ⟨rfl, hw1⟩ := val_int r1
  clear r0 r1
  have b1 := wf_u8 hw1
  have i0 := IntsAt.of_slice hA
  obtain ⟨n, hn⟩ : ∃ n, n = a0.length := ⟨_, rfl⟩
  rw [← hn] at i0 ⊢
  have HN := Lib.hid hn
  obtain ⟨q, hq⟩ : ∃ q : Nat, 1 + a1 % 20 = (q : Int) := ⟨(1 + a1 % 20).toNat, by omega⟩
  have hq1 : 1 ≤ q := by omega
  have hq2 : q ≤ 20 := by omega
  clear hn hA hw1
  have hmm := @run_makeMap Try.prog
  by_cases hl : n ≤ 100
  · by_cases hnq : n < q
    · have hs : selI a0 q (n + 1 - q) = [] := by rw [show n + 1 - q = 0 by omega, selI_zero]
      have HS := Lib.hid hs
      clear hs
      by_cases hqq : q = 1
      · obtain rfl : n = 0 := by omega
        have e1 : ((q : Int) == 1) = true := by simp; omega
        have HQ := Lib.hid hqq
        clear hqq
        go_enter Try.func10, Try.ntmps10
        go_wp2_with (go_at_call 14; refine (awake25 _).mono ?_; rintro e w1 ⟨rfl, d1⟩)
        refine (Select_nat a0 _ _ _ _ _ _ (by first | rfl | exact hq) (i0.ext d1) hq1 (by omega) (by omega)).mono ?_
        rw [HS.out]
        rintro e w4 ⟨v4, rfl, o4, d4⟩
        obtain ⟨A4, c4, e4, i4⟩ := IntsAt.of_own o4
        obtain rfl : v4 = .slice A4 0 c4 := e4
        go_wp2_with (go_at_call 37; refine (sorted_none _ _ _).mono ?_; rintro e w5 ⟨rfl, d5⟩)
        refine wp_loop_rounds 1 ?_
        rw [rounds_succ]
        have hs0 : Maps.size (DataW.map [] : DataW Unit) = 0 := rfl
        go_wp2_with (at_len; refine wpList_len_own _ rfl _ 55 rfl 3 4 Try.underlying55 (plainElem (H := Unit) Try.prog 4) w5.heap.size 0 (.map []) rfl (World.ownsMap_made _ _ _ _) ?_)
        go_ret
        exact ⟨rfl, ((d1.trans d4).dr d5).alloc _⟩
      · have e1 : ((q : Int) == 1) = false := by simp; omega
        have HQ := Lib.hid hqq
        clear hqq
        go_enter Try.func10, Try.ntmps10
        go_wp2_with (go_at_call 14; refine (awake25 _).mono ?_; rintro e w1 ⟨rfl, d1⟩)
        refine (Select_nat a0 _ _ _ _ _ _ (by first | rfl | exact hq) (i0.ext d1) hq1 (by omega) (by omega)).mono ?_
        rw [HS.out]
        rintro e w4 ⟨v4, rfl, o4, d4⟩
        obtain ⟨A4, c4, e4, i4⟩ := IntsAt.of_own o4
        obtain rfl : v4 = .slice A4 0 c4 := e4
        go_wp2_with (go_at_call 37; refine (sorted_none _ _ _).mono ?_; rintro e w5 ⟨rfl, d5⟩)
        refine wp_loop_rounds 1 ?_
        rw [rounds_succ]
        have hs0 : Maps.size (DataW.map [] : DataW Unit) = 0 := rfl
        go_wp2_with (at_len; refine wpList_len_own _ rfl _ 55 rfl 3 4 Try.underlying55 (plainElem (H := Unit) Try.prog 4) w5.heap.size 0 (.map []) rfl (World.ownsMap_made _ _ _ _) ?_)
        go_ret
        exact ⟨rfl, ((d1.trans d4).dr d5).alloc _⟩
    · obtain ⟨N, hN⟩ : ∃ N, N = n - q := ⟨_, rfl⟩
      obtain ⟨T, hT⟩ : ∃ T, selI a0 q (N + 1) = T := ⟨_, rfl⟩
      have hT' : selI a0 q (n + 1 - q) = T := by rw [← hT, hN, show n + 1 - q = n - q + 1 by omega]
      have hNn : N + q = n := by omega
      obtain ⟨L, hL⟩ : ∃ L, L = T.length := ⟨_, rfl⟩
      have hpos : 0 < L := by rw [hL, ← hT]; exact selI_pos _ _ _ hq1
      have hLn : L ≤ N + 1 := by rw [hL, ← hT]; exact selI_len _ _ _ hq1
      have hF : SelFacts a0 q N T := by rw [← hT]; exact selFacts _ _ _ hq1
      have hsz : ∀ k, k ≤ N + 1 → True := fun _ _ => trivial
      have hw1 : q = 1 → L = n := fun e => by subst e; rw [hL, ← hT, selI_width1]; omega
      have HW1 := Lib.hid hw1
      have HT := Lib.hid hT
      have HT' := Lib.hid hT'
      have HF := Lib.hid hF
      have HL := Lib.hid hL
      have HNN := Lib.hid hNn
      have hN1 : N + q ≤ n := by omega
      have hN2 : n ≤ N + q := by omega
      clear hT hT' hF hw1 hN hL hNn hsz
      have main : ∀ b1, ((q : Int) == 1) = b1 → (b1 = true → ((L : Int) != (n : Int)) = false) → Calls Try.prog 10 #[.slice A n c, .int .u8 a1] w (Al (.bool true) w) := by
        intro b1 hb1 hb2
        cases b1
        case false =>
          clear hb2
          go_enter Try.func10, Try.ntmps10
          go_wp2_with (go_at_call 14; refine (awake25 _).mono ?_; rintro e w1 ⟨rfl, d1⟩)
          refine (Select_nat a0 _ _ _ _ _ _ (by first | rfl | exact hq) (i0.ext d1) hq1 (by omega) (by omega)).mono ?_
          rw [HT'.out]
          rintro e w4 ⟨v4, rfl, o4, d4⟩
          obtain ⟨A4, c4, e4, i4⟩ := IntsAt.of_own o4
          rw [← HL.out] at e4 i4
          obtain rfl := e4
          obtain ⟨b, o, rfl, hc⟩ := i4.gcell hpos
          have HC := Lib.hid hc
          clear hc i4 o4
          have hz : ((L : Int) == 0) = false := by simp; omega
          go_wp2_with (go_at_call 37; refine (sorted_yes T _ _ _ _ _ (by omega) HC.out (fun j hj => (HF.out.chain j (by have := HL.out; omega)).1)).mono ?_; rintro e w5 ⟨rfl, d5⟩)
          have HC5 : Hid (∀ j, j < L → w5.cell? ⟨b, o + j, none⟩ = some (.int .i64 (gt T j))) := fun j hj => d5.keepc (HC.out j hj)
          go_loopw [9] (fun i wr => ∃ k : Nat, k ≤ N + 1 ∧ i = .int .i64 k ∧ wr.ownsMap Try.prog 3 (plainElem (H := Unit) Try.prog 4) w5.heap.size k (setW (gt a0) q k) ∧ Ext w5 wr) (fun i _ => n - (intOf i).toNat)
          case atStart => exact ⟨0, Nat.zero_le _, rfl, by rw [setW_zero]; exact World.ownsMap_made _ _ _ _, (Ext.refl _).alloc _⟩
          case round =>
            obtain ⟨k, hk, rfl, hown, hd⟩ := hrel
            by_cases hlt : k ≤ N
            · obtain ⟨p, hp⟩ : ∃ p, p = W.lst (gt a0) k q := ⟨_, rfl⟩
              have hsp := W.lst_spec (gt a0) k q hq1
              have hst : setW (gt a0) q (k + 1) = (setW (gt a0) q k).put (Lit.int .i64 ((p : Nat) : Int)) (.lit (.bool true)) := by rw [hp]; exact setW_succ _ _ _
              have hmem : ((p : Nat) : Int) ∈ T := by rw [hp, ← HT.out]; exact selI_has _ _ _ _ hq1 (by omega)
              rw [← hp] at hsp
              have HP := Lib.hid hp
              have HSP := Lib.hid hsp
              have HST := Lib.hid hst
              have HM := Lib.hid hmem
              have g1 : k ≤ p := hsp.1
              have g2 : p < k + q := hsp.2.1
              clear hp hsp hst hmem
              have dw : Ext w wr := ((d1.trans d4).dr d5).trans hd
              go_wp2_with fail
              refine (Least_ok a0 _ _ _ _ _ _ (i0.ext dw) hq1 (by omega) (by omega)).mono ?_
              rw [← HP.out]
              rintro e w6 ⟨rfl, d6⟩
              have hkey : keyOf Try.prog 3 (.int .i64 ((p : Nat) : Int)) = some (.int .i64 ((p : Nat) : Int)) := keyOf_int_mk Try.underlying3 (WalkArith.wf_i64 (by omega))
              have hown6 := map_dr hown d6
              go_wp2_with (first | (go_at_call 38; refine (contains_yes T _ _ _ _ _ _ HL.out (by omega) (fun j hj => (hd.dr d6).keepc (HC5.out j hj)) HM.out).mono ?_; rintro e w7 ⟨rfl, rfl⟩) | (at_mapUpdate; refine wpList_mapUpdate_own _ rfl _ _ _ 55 rfl 3 4 law3 Try.underlying55 (plainElem (H := Unit) Try.prog 4) w5.heap.size k _ rfl hown6 (by unfold maxLen; omega) _ _ _ rfl rfl hkey _ [] (plainElem_bool Try.underlying4 true) ?_; intro w7 hown7 hgrow7))
              have d7 : Ext w5 w7 := Below.grown (hd.dr d6) hgrow7 (hd.dr d6).size (fun j hj => by cases hj; exact Nat.le_refl _)
              have dw7 : Ext w w7 := ((d1.trans d4).dr d5).trans d7
              have hown8 : w7.ownsMap Try.prog 3 (plainElem (H := Unit) Try.prog 4) w5.heap.size (k + 1) (setW (gt a0) q (k + 1)) := by rw [HST.out]; exact hown7
              have HOWN := Lib.hid hown8
              obtain ⟨ba, oa, rfl, hca⟩ := i0.gcell (by omega)
              have HCA := Lib.hid hca
              clear hown7 hown8 hown6 hown hkey hca hgrow7
              go_loopw [12] (fun i w8 => ∃ j : Nat, k ≤ j ∧ j ≤ k + q ∧ i = .int .i64 j ∧ Dr w7 w8) (fun i _ => k + q - (intOf i).toNat)
              case atStart => exact ⟨k, Nat.le_refl _, by omega, rfl, Dr.refl _⟩
              case round =>
                rename_i w8 _
                obtain ⟨j, hj1, hj2, rfl, hd8⟩ := hrel
                by_cases hjl : j < k + q
                · have c0 := (dw7.dr hd8).keepc (HCA.out j (by omega))
                  have c1 := (dw7.dr hd8).keepc (HCA.out p (by omega))
                  have hge := HSP.out.2.2.1 j hj1 hjl
                  have hgt := HSP.out.2.2.2 j
                  have hn63 : (n : Int) ≤ 100 := by omega
                  generalize gt a0 j = x at *
                  generalize gt a0 p = y at *
                  by_cases hxy : x = y
                  · subst hxy
                    have hjp : j ≤ p := by
                      rcases Nat.lt_or_ge p j with h | h
                      · have := hgt h hjl; omega
                      · exact h
                    have t1 : decide ((p : Int) < (j : Int)) = false := by simp; omega
                    have t2 : (x == x) = true := by simp
                    clear hgt hge
                    go_wp2_with fail
                    go_quiet (fail)
                    go_wp2_with fail
                    go_roundw
                    case rel => exact ⟨j + 1, by omega, by omega, by go_num, hd8.drewN _⟩
                    case measure => simp [intOf]; omega
                  · have t0 : decide (x < y) = false := by simp; omega
                    have t2 : (x == y) = false := by simpa using hxy
                    clear hgt hxy
                    go_wp2_with fail
                    go_quiet (fail)
                    go_wp2_with fail
                    go_roundw
                    case rel => exact ⟨j + 1, by omega, by omega, by go_num, hd8.drewN _⟩
                    case measure => simp [intOf]; omega
                · go_wp2_with fail
                  go_roundw
                  case rel => exact ⟨k + 1, by omega, by go_num, map_dr HOWN.out hd8, d7.dr hd8⟩
                  case measure => simp [intOf]; omega
            · obtain rfl : k = N + 1 := by omega
              have hsz : Maps.size (setW (gt a0) q (N + 1)) = L := by rw [setW_size _ _ _ hq1, HT.out, HL.out]
              go_wp2_with (at_len; refine wpList_len_own _ rfl _ 55 rfl 3 4 Try.underlying55 (plainElem (H := Unit) Try.prog 4) w5.heap.size (N + 1) _ rfl hown ?_)
              go_ret
              exact ⟨rfl, ((d1.trans d4).dr d5).trans hd⟩
        case true =>
          have hb3 := hb2 rfl
          clear hb2
          go_enter Try.func10, Try.ntmps10
          go_wp2_with (go_at_call 14; refine (awake25 _).mono ?_; rintro e w1 ⟨rfl, d1⟩)
          refine (Select_nat a0 _ _ _ _ _ _ (by first | rfl | exact hq) (i0.ext d1) hq1 (by omega) (by omega)).mono ?_
          rw [HT'.out]
          rintro e w4 ⟨v4, rfl, o4, d4⟩
          obtain ⟨A4, c4, e4, i4⟩ := IntsAt.of_own o4
          rw [← HL.out] at e4 i4
          obtain rfl := e4
          obtain ⟨b, o, rfl, hc⟩ := i4.gcell hpos
          have HC := Lib.hid hc
          clear hc i4 o4
          have hz : ((L : Int) == 0) = false := by simp; omega
          go_wp2_with (go_at_call 37; refine (sorted_yes T _ _ _ _ _ (by omega) HC.out (fun j hj => (HF.out.chain j (by have := HL.out; omega)).1)).mono ?_; rintro e w5 ⟨rfl, d5⟩)
          have HC5 : Hid (∀ j, j < L → w5.cell? ⟨b, o + j, none⟩ = some (.int .i64 (gt T j))) := fun j hj => d5.keepc (HC.out j hj)
          go_loopw [9] (fun i wr => ∃ k : Nat, k ≤ N + 1 ∧ i = .int .i64 k ∧ wr.ownsMap Try.prog 3 (plainElem (H := Unit) Try.prog 4) w5.heap.size k (setW (gt a0) q k) ∧ Ext w5 wr) (fun i _ => n - (intOf i).toNat)
          case atStart => exact ⟨0, Nat.zero_le _, rfl, by rw [setW_zero]; exact World.ownsMap_made _ _ _ _, (Ext.refl _).alloc _⟩
          case round =>
            obtain ⟨k, hk, rfl, hown, hd⟩ := hrel
            by_cases hlt : k ≤ N
            · obtain ⟨p, hp⟩ : ∃ p, p = W.lst (gt a0) k q := ⟨_, rfl⟩
              have hsp := W.lst_spec (gt a0) k q hq1
              have hst : setW (gt a0) q (k + 1) = (setW (gt a0) q k).put (Lit.int .i64 ((p : Nat) : Int)) (.lit (.bool true)) := by rw [hp]; exact setW_succ _ _ _
              have hmem : ((p : Nat) : Int) ∈ T := by rw [hp, ← HT.out]; exact selI_has _ _ _ _ hq1 (by omega)
              rw [← hp] at hsp
              have HP := Lib.hid hp
              have HSP := Lib.hid hsp
              have HST := Lib.hid hst
              have HM := Lib.hid hmem
              have g1 : k ≤ p := hsp.1
              have g2 : p < k + q := hsp.2.1
              clear hp hsp hst hmem
              have dw : Ext w wr := ((d1.trans d4).dr d5).trans hd
              go_wp2_with fail
              refine (Least_ok a0 _ _ _ _ _ _ (i0.ext dw) hq1 (by omega) (by omega)).mono ?_
              rw [← HP.out]
              rintro e w6 ⟨rfl, d6⟩
              have hkey : keyOf Try.prog 3 (.int .i64 ((p : Nat) : Int)) = some (.int .i64 ((p : Nat) : Int)) := keyOf_int_mk Try.underlying3 (WalkArith.wf_i64 (by omega))
              have hown6 := map_dr hown d6
              go_wp2_with (first | (go_at_call 38; refine (contains_yes T _ _ _ _ _ _ HL.out (by omega) (fun j hj => (hd.dr d6).keepc (HC5.out j hj)) HM.out).mono ?_; rintro e w7 ⟨rfl, rfl⟩) | (at_mapUpdate; refine wpList_mapUpdate_own _ rfl _ _ _ 55 rfl 3 4 law3 Try.underlying55 (plainElem (H := Unit) Try.prog 4) w5.heap.size k _ rfl hown6 (by unfold maxLen; omega) _ _ _ rfl rfl hkey _ [] (plainElem_bool Try.underlying4 true) ?_; intro w7 hown7 hgrow7))
              have d7 : Ext w5 w7 := Below.grown (hd.dr d6) hgrow7 (hd.dr d6).size (fun j hj => by cases hj; exact Nat.le_refl _)
              have dw7 : Ext w w7 := ((d1.trans d4).dr d5).trans d7
              have hown8 : w7.ownsMap Try.prog 3 (plainElem (H := Unit) Try.prog 4) w5.heap.size (k + 1) (setW (gt a0) q (k + 1)) := by rw [HST.out]; exact hown7
              have HOWN := Lib.hid hown8
              obtain ⟨ba, oa, rfl, hca⟩ := i0.gcell (by omega)
              have HCA := Lib.hid hca
              clear hown7 hown8 hown6 hown hkey hca hgrow7
              go_loopw [12] (fun i w8 => ∃ j : Nat, k ≤ j ∧ j ≤ k + q ∧ i = .int .i64 j ∧ Dr w7 w8) (fun i _ => k + q - (intOf i).toNat)
              case atStart => exact ⟨k, Nat.le_refl _, by omega, rfl, Dr.refl _⟩
              case round =>
                rename_i w8 _
                obtain ⟨j, hj1, hj2, rfl, hd8⟩ := hrel
                by_cases hjl : j < k + q
                · have c0 := (dw7.dr hd8).keepc (HCA.out j (by omega))
                  have c1 := (dw7.dr hd8).keepc (HCA.out p (by omega))
                  have hge := HSP.out.2.2.1 j hj1 hjl
                  have hgt := HSP.out.2.2.2 j
                  have hn63 : (n : Int) ≤ 100 := by omega
                  generalize gt a0 j = x at *
                  generalize gt a0 p = y at *
                  by_cases hxy : x = y
                  · subst hxy
                    have hjp : j ≤ p := by
                      rcases Nat.lt_or_ge p j with h | h
                      · have := hgt h hjl; omega
                      · exact h
                    have t1 : decide ((p : Int) < (j : Int)) = false := by simp; omega
                    have t2 : (x == x) = true := by simp
                    clear hgt hge
                    go_wp2_with fail
                    go_quiet (fail)
                    go_wp2_with fail
                    go_roundw
                    case rel => exact ⟨j + 1, by omega, by omega, by go_num, hd8.drewN _⟩
                    case measure => simp [intOf]; omega
                  · have t0 : decide (x < y) = false := by simp; omega
                    have t2 : (x == y) = false := by simpa using hxy
                    clear hgt hxy
                    go_wp2_with fail
                    go_quiet (fail)
                    go_wp2_with fail
                    go_roundw
                    case rel => exact ⟨j + 1, by omega, by omega, by go_num, hd8.drewN _⟩
                    case measure => simp [intOf]; omega
                · go_wp2_with fail
                  go_roundw
                  case rel => exact ⟨k + 1, by omega, by go_num, map_dr HOWN.out hd8, d7.dr hd8⟩
                  case measure => simp [intOf]; omega
            · obtain rfl : k = N + 1 := by omega
              have hsz : Maps.size (setW (gt a0) q (N + 1)) = L := by rw [setW_size _ _ _ hq1, HT.out, HL.out]
              go_wp2_with (at_len; refine wpList_len_own _ rfl _ 55 rfl 3 4 Try.underlying55 (plainElem (H := Unit) Try.prog 4) w5.heap.size (N + 1) _ rfl hown ?_)
              go_ret
              exact ⟨rfl, ((d1.trans d4).dr d5).trans hd⟩
      by_cases hqq : q = 1
      · exact main true (by simp; omega) (fun _ => by have := HW1.out hqq; simp; omega)
      · exact main false (by simp; omega) (fun h => by cases h)
  · go_enter Try.func10, Try.ntmps10
    go_wp2_with (go_at_call 14; refine (awake25 _).mono ?_; rintro e w1 ⟨rfl, d1⟩)
    go_ret
    exact ⟨rfl, d1⟩

end Go.Proofs.Ytmibpagajenndaa
