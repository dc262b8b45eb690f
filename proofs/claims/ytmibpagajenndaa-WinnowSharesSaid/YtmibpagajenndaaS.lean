/- The walk of WinnowGaps. -/
import Derived.Test.YtmibpagajenndaaR
namespace Go.Proofs.Ytmibpagajenndaa
open Go.RowKit

theorem W.sel_first (g : Nat → Int) (w : Nat) (hw : 0 < w) : ∀ n, (W.sel g w (n + 1))[0]? = some (W.lst g 0 w)
  | 0 => by rw [W.sel_one]; rfl
  | n + 1 => by
    have ih := W.sel_first g w hw n
    rw [W.sel_step' g w n hw]
    split
    · exact ih
    · rw [List.getElem?_append_left (List.length_pos_iff.2 (W.sel_ne g w n hw))]
      exact ih
theorem gt_sel (l : List Int) (q n j : Nat) (h : j < (selI l q n).length) : gt (selI l q n) j = (((W.sel (gt l) q n)[j]'(by unfold selI at h; simpa using h) : Nat) : Int) := by
  have h2 : j < (W.sel (gt l) q n).length := by unfold selI at h; simpa using h
  have : (selI l q n)[j]? = some (((W.sel (gt l) q n)[j] : Nat) : Int) := by unfold selI; rw [List.getElem?_map, List.getElem?_eq_getElem h2]; rfl
  rw [List.getElem?_eq_getElem h] at this
  rw [← gt_get _ _ h]
  exact Option.some.inj this
structure SelFacts (l : List Int) (q M : Nat) (T : List Int) : Prop where
  pos : 0 < T.length
  first : 0 ≤ gt T 0 ∧ gt T 0 < q
  last : (M : Int) ≤ gt T (T.length - 1) ∧ gt T (T.length - 1) < (M : Int) + q
  range : ∀ j, j < T.length → 0 ≤ gt T j ∧ gt T j < (M : Int) + q
  chain : ∀ j, j + 1 < T.length → gt T j < gt T (j + 1) ∧ gt T (j + 1) ≤ gt T j + q
theorem selFacts (l : List Int) (q M : Nat) (hq : 0 < q) : SelFacts l q M (selI l q (M + 1)) := by
  have hpos := selI_pos l q M hq
  have hlen : (selI l q (M + 1)).length = (W.sel (gt l) q (M + 1)).length := by unfold selI; simp
  refine ⟨hpos, ?_, ?_, fun j hj => ?_, fun j hj => ?_⟩
  · rw [gt_sel _ _ _ _ hpos]
    have h1 := W.sel_first (gt l) q hq M
    rw [List.getElem?_eq_getElem (by omega)] at h1
    have h2 := Option.some.inj h1
    have := (W.lst_spec (gt l) 0 q hq).2.1
    omega
  · rw [gt_sel _ _ _ _ (by omega)]
    have h1 := W.sel_last (gt l) q hq M
    rw [List.getLast?_eq_getElem?, List.getElem?_eq_getElem (by omega)] at h1
    have h2 := Option.some.inj h1
    have h3 := W.lst_spec (gt l) M q hq
    simp only [hlen] at *
    omega
  · rw [gt_sel _ _ _ _ hj]
    have hm := (W.sel_mem (gt l) q hq (M + 1) _).1 (List.getElem_mem (show j < (W.sel (gt l) q (M + 1)).length by omega))
    obtain ⟨i, hi, e⟩ := hm
    have h3 := W.lst_spec (gt l) i q hq
    omega
  · rw [gt_sel _ _ _ _ hj, gt_sel _ _ _ _ (by omega)]
    have := W.sel_chain (gt l) q hq (M + 1) j (by omega)
    omega

theorem Select_nat (l : List Int) (A : Option Addr) (c n q : Nat) (k : Int) (w : World) (hk : k = (q : Int)) (hA : IntsAt w A n l) (h1 : 1 ≤ q) (h2 : q ≤ 1024) (hl : n ≤ 8192) :
    Calls Try.prog 15 #[.slice A n c, .int .i64 k] w (RetInts w (selI l q (n + 1 - q)) 0) := hk ▸ Select_walk l A c n q w hA h1 h2 hl

set_option maxHeartbeats 800000 in
theorem winnowGaps_walk (v0 v1 : Value) (a0 : List Int) (a1 : Int) {w : World} (r0 : (sliceR (intR .i64)).val w a0 v0) (r1 : (intR .u8).val w a1 v1) :
    Calls Try.prog 3 #[v0, v1] w (Al (.bool true) w) := by
  obtain ⟨A, c, rfl, hA⟩ := val_slice r0
  obtain ⟨rfl, hw1⟩ := val_int r1
  clear r0 r1
  have b1 := wf_u8 hw1
  have i0 := IntsAt.of_slice hA
  obtain ⟨n, hn⟩ : ∃ n, n = a0.length := ⟨_, rfl⟩
  rw [← hn] at i0 ⊢
  have HN := Lib.hid hn
  obtain ⟨q, hq⟩ : ∃ q : Nat, 1 + a1 % 20 = (q : Int) := ⟨(1 + a1 % 20).toNat, by omega⟩
  have hq1 : 1 ≤ q := by omega
  have hq2 : q ≤ 20 := by omega
  clear hn hA hw1
  by_cases hl : n ≤ 100
  · by_cases hnq : n < q
    · have hs : selI a0 q (n + 1 - q) = [] := by rw [show n + 1 - q = 0 by omega, selI_zero]
      have HS := Lib.hid hs
      clear hs
      go_enter Try.func3, Try.ntmps3
      go_wp2_with (go_at_call 14; refine (awake25 _).mono ?_; rintro e w1 ⟨rfl, d1⟩)
      refine (Select_nat a0 _ _ _ _ _ _ (by first | rfl | exact hq) (i0.ext d1) hq1 (by omega) (by omega)).mono ?_
      rw [HS.out]
      rintro e w4 ⟨v4, rfl, o4, d4⟩
      obtain ⟨A4, c4, e4, i4⟩ := IntsAt.of_own o4
      obtain rfl : v4 = .slice A4 0 c4 := e4
      go_wp2_with fail
      go_ret
      exact ⟨rfl, d1.trans d4⟩
    · obtain ⟨T, hT⟩ : ∃ T, selI a0 q (n + 1 - q) = T := ⟨_, rfl⟩
      have hF : SelFacts a0 q (n - q) T := by rw [← hT, show n + 1 - q = n - q + 1 by omega]; exact selFacts _ _ _ hq1
      have HT := Lib.hid hT
      have HF := Lib.hid hF
      clear hT hF
      go_enter Try.func3, Try.ntmps3
      go_wp2_with (go_at_call 14; refine (awake25 _).mono ?_; rintro e w1 ⟨rfl, d1⟩)
      refine (Select_nat a0 _ _ _ _ _ _ (by first | rfl | exact hq) (i0.ext d1) hq1 (by omega) (by omega)).mono ?_
      rw [HT.out]
      rintro e w4 ⟨v4, rfl, o4, d4⟩
      obtain ⟨L, hL⟩ : ∃ L, L = T.length := ⟨_, rfl⟩
      obtain ⟨A4, c4, e4, i4⟩ := IntsAt.of_own o4
      rw [← hL] at e4 i4
      obtain rfl := e4
      have hpos : 0 < L := by rw [hL]; exact HF.out.pos
      obtain ⟨b, o, rfl, hc⟩ := i4.gcell hpos
      have HC := Lib.hid hc
      have HL := Lib.hid hL
      have hz : ((L : Int) == 0) = false := by simp; omega
      have c0 := hc 0 hpos
      have c1 := hc (L - 1) (by omega)
      simp only [Nat.add_zero] at c0
      have f0 := HF.out.first
      have f1 := HF.out.last
      rw [← hL] at f1
      have hLn : L ≤ 101 := by rw [hL, ← HT.out]; have := selI_len a0 q (n + 1 - q) hq1; omega
      clear hL hc i4 o4
      have hwn : IntKind.i64.wrap ((n : Int) - q) = (n : Int) - q := IntWalk.i64_in _ (by omega)
      have hwl : IntKind.i64.wrap ((L : Int) - 1) = (L : Int) - 1 := IntWalk.i64_in _ (by omega)
      go_wp2_with fail
      clear c0 c1 f0 f1 hz
      go_loopw [8] (fun i wr => ∃ k : Nat, 1 ≤ k ∧ k ≤ L ∧ i = .int .i64 k ∧ Dr w4 wr) (fun i _ => L - (intOf i).toNat)
      case atStart => exact ⟨1, Nat.le_refl _, hpos, rfl, Dr.refl _⟩
      case round =>
        obtain ⟨k, hk1, hk2, rfl, hd⟩ := hrel
        by_cases hlt : k < L
        · have c0 := hd.keepc (HC.out k hlt)
          have c1 := hd.keepc (HC.out (k - 1) (by omega))
          have hr0 := HF.out.range k (by have := HL.out; omega)
          have hr1 := HF.out.range (k - 1) (by have := HL.out; omega)
          have hch := HF.out.chain (k - 1) (by have := HL.out; omega)
          rw [show k - 1 + 1 = k by omega] at hch
          have hwd : IntKind.i64.wrap (gt T k - gt T (k - 1)) = gt T k - gt T (k - 1) := IntWalk.i64_in _ (by omega)
          have hwk : IntKind.i64.wrap ((k : Int) - 1) = (k : Int) - 1 := IntWalk.i64_in _ (by omega)
          generalize gt T k = x at *
          generalize gt T (k - 1) = y at *
          go_wp2_with fail
          have e1 : ¬ x ≤ y := by omega
          have e2 : ¬ (q : Int) < x - y := by omega
          clear hch hr0 hr1
          go_quiet (fail)
          go_wp2_with fail
          go_roundw
          case rel => exact ⟨k + 1, by omega, by omega, by go_num, hd.drewN _⟩
          case measure => simp [intOf]; omega
        · go_wp2_with fail
          go_ret
          exact ⟨rfl, (d1.trans d4).dr hd⟩
  · go_enter Try.func3, Try.ntmps3
    go_wp2_with (go_at_call 14; refine (awake25 _).mono ?_; rintro e w1 ⟨rfl, d1⟩)
    go_ret
    exact ⟨rfl, d1⟩

end Go.Proofs.Ytmibpagajenndaa
