/- Select for any width, Guarantee, the example of chapter 25. -/
import Derived.Test.YtmibpagajenndaaQ
namespace Go.Proofs.Ytmibpagajenndaa
open Go.RowKit

def okW (q : Int) : Bool := decide (1 ≤ q ∧ q ≤ 1024)
def selL (l : List Int) (q : Int) : List Int := if okW q then selI l q.toNat (l.length + 1 - q.toNat) else []
def selE (q : Int) : Int := if okW q then 0 else 3

set_option maxHeartbeats 400000 in
theorem Select_any (l : List Int) (A : Option Addr) (c n : Nat) (q : Int) (w : World) (hA : IntsAt w A n l) (hl : n ≤ 8192) :
    Calls Try.prog 15 #[.slice A n c, .int .i64 q] w (RetInts w (selL l q) (selE q)) := by
  by_cases h : 1 ≤ q ∧ q ≤ 1024
  · obtain ⟨k, rfl⟩ := Int.eq_ofNat_of_zero_le (show 0 ≤ q by omega)
    have := Select_walk l A c n k w hA (by omega) (by omega) hl
    rw [selL, selE, if_pos (by simp [okW]; omega), if_pos (by simp [okW]; omega), Int.toNat_natCast, ← hA.1]
    exact this
  · have h0 : selL l q = [] := by rw [selL, if_neg (by simp [okW]; omega)]
    have h3 : selE q = 3 := by rw [selE, if_neg (by simp [okW]; omega)]
    have H0 := Lib.hid h0
    have H3 := Lib.hid h3
    have HA := Lib.hid hA
    clear h0 h3 hA
    go_enter Try.func15, Try.ntmps15
    go_wp2_with (go_at_call 46; refine (size_is _ false _ (by simp; omega)).mono ?_; rintro e w' ⟨rfl, rfl⟩)
    go_ret2
    exact ⟨.slice none 0 0, by rw [H3.out]; rfl, by rw [H0.out]; exact own_nil _ _, Ext.refl _⟩

set_option maxHeartbeats 400000 in
theorem refSelect_any (l : List Int) (A : Option Addr) (c n : Nat) (q : Int) (w : World) (hA : IntsAt w A n l) (hl : n ≤ 8192) :
    Calls Try.prog 16 #[.slice A n c, .int .i64 q] w (RetInts w (selL l q) (selE q)) := by
  by_cases h : 1 ≤ q ∧ q ≤ 1024
  · obtain ⟨k, rfl⟩ := Int.eq_ofNat_of_zero_le (show 0 ≤ q by omega)
    have := refSelect_walk l A c n k w hA (by omega) (by omega) hl
    rw [selL, selE, if_pos (by simp [okW]; omega), if_pos (by simp [okW]; omega), Int.toNat_natCast, ← hA.1]
    exact this
  · have h0 : selL l q = [] := by rw [selL, if_neg (by simp [okW]; omega)]
    have h3 : selE q = 3 := by rw [selE, if_neg (by simp [okW]; omega)]
    have H0 := Lib.hid h0
    have H3 := Lib.hid h3
    have HA := Lib.hid hA
    clear h0 h3 hA
    go_enter Try.func16, Try.ntmps16
    go_wp2_with (go_at_call 47; refine (right_is _ false _ (by simp; omega)).mono ?_; rintro e w' ⟨rfl, rfl⟩)
    go_ret2
    exact ⟨.slice none 0 0, by rw [H3.out]; rfl, by rw [H0.out]; exact own_nil _ _, Ext.refl _⟩

theorem exSel : selL [7, 3, 5, 3, 9] 3 = [1, 3] := by
  have e : ∀ i, gt [7, 3, 5, 3, 9] i = [7, 3, 5, 3, 9].getD i 0 := fun i => by unfold gt; rfl
  rw [selL, if_pos (by decide)]
  show selI _ 3 3 = _
  simp [selI, W.sel, W.lst, e]

set_option maxHeartbeats 400000 in
theorem guarantee43 (w : World) : Calls Try.prog 45 #[.int .i64 4, .int .i64 3] w fun e w' => e = .returned (.tuple #[.int .i64 6, .int .i64 0]) ∧ w = w' := by
  go_enter Try.func45, Try.ntmps45
  go_wp2_with (go_at_call 46; refine (size_is _ true _ (by decide)).mono ?_; rintro e w' ⟨rfl, rfl⟩)
  go_ret2
  exact ⟨rfl, rfl⟩

set_option maxHeartbeats 400000 in
theorem awake25 (w : World) : Calls Try.prog 14 #[] w (Al (.bool true) w) := by
  have HX := Lib.hid exSel
  go_enter Try.func14, Try.ntmps14
  go_wp2_with fail
  refine (Select_any [7, 3, 5, 3, 9] _ _ 5 _ _ ⟨rfl, by decide, fun _ => ⟨_, _, rfl, fun j hj => ?_⟩⟩ (by decide)).mono ?_
  · match j, hj with
    | 0, _ => exact cell_new _ _ _ 0
    | 1, _ => exact cell_new _ _ _ 1
    | 2, _ => exact cell_new _ _ _ 2
    | 3, _ => exact cell_new _ _ _ 3
    | 4, _ => exact cell_new _ _ _ 4
  rw [HX.out]
  rintro e w1 ⟨v1, rfl, o1, d1⟩
  obtain ⟨A1, c1, e1, i1⟩ := IntsAt.of_own o1
  obtain rfl : v1 = .slice A1 2 c1 := e1
  have i1' : IntsAt w1 A1 2 [1, 3] := i1
  go_wp2_with (go_at_call 45; refine (guarantee43 _).mono ?_; rintro e w' ⟨rfl, rfl⟩)
  refine (Equal_q [1, 3] [1, 3] _ _ _ _ _ _ _ (i1'.ext ((Ext.refl _).alloc _)) ⟨rfl, by decide, fun _ => ⟨_, _, rfl, fun j hj => ?_⟩⟩).mono ?_
  · match j, hj with
    | 0, _ => exact cell_new _ _ _ 0
    | 1, _ => exact cell_new _ _ _ 1
  rintro e w2 ⟨rfl, d2⟩
  go_wp2_with fail
  go_ret
  exact ⟨rfl, ((((Ext.refl w).alloc _).trans d1).alloc _).dr d2⟩

set_option maxHeartbeats 800000 in
theorem winnowSelects_walk (v0 v1 v2 v3 : Value) (a0 : List Int) (a1 a2 a3 : Int) {w : World} (r0 : (sliceR (intR .i64)).val w a0 v0) (r1 : (intR .i64).val w a1 v1) (r2 : (intR .i64).val w a2 v2) (r3 : (intR .i64).val w a3 v3) :
    Calls Try.prog 4 #[v0, v1, v2, v3] w (Al (.bool true) w) := by
  obtain ⟨A, c, rfl, hA⟩ := val_slice r0
  obtain ⟨rfl, _⟩ := val_int r1
  obtain ⟨rfl, w2⟩ := val_int r2
  obtain ⟨rfl, w3⟩ := val_int r3
  clear r0 r1 r2 r3
  have HW2 := Lib.hid w2
  have HW3 := Lib.hid w3
  have i0 := IntsAt.of_slice hA
  obtain ⟨n, hn⟩ : ∃ n, n = a0.length := ⟨_, rfl⟩
  rw [← hn] at i0 ⊢
  have HN := Lib.hid hn
  clear hn hA w2 w3
  by_cases hl : n ≤ 100
  · go_enter Try.func4, Try.ntmps4
    go_wp2_with (go_at_call 14; refine (awake25 _).mono ?_; rintro e w1 ⟨rfl, d1⟩)
    refine (Select_any a0 _ _ _ _ _ (i0.ext d1) (by omega)).mono ?_
    rintro e w4 ⟨v4, rfl, o4, d4⟩
    go_wp2_with fail
    refine (refSelect_any a0 _ _ _ _ _ ((i0.ext d1).ext d4) (by omega)).mono ?_
    rintro e w5 ⟨v5, rfl, o5, d5⟩
    go_wp2_with fail
    obtain ⟨x, y, hv⟩ : ∃ x y, leastV a0 a2 a3 = .tuple #[.int .i64 x, .int .i64 y] := by
      unfold leastV
      split
      · exact ⟨_, _, rfl⟩
      · exact ⟨_, _, rfl⟩
    have HV := Lib.hid hv
    clear hv
    refine (Least_q a0 _ _ _ _ _ _ (((i0.ext d1).ext d4).ext d5) HW2.out HW3.out).mono ?_
    rw [HV.out]
    rintro e w6 ⟨rfl, d6⟩
    go_wp2_with fail
    refine (refLeast_q a0 _ _ _ _ _ _ ((((i0.ext d1).ext d4).ext d5).ext d6.ext) HW2.out HW3.out).mono ?_
    rw [HV.out]
    rintro e w7 ⟨rfl, d7⟩
    obtain ⟨A4, c4, rfl, i4⟩ := IntsAt.of_own (((o4.ext d5).dr d6).dr d7)
    obtain ⟨A5, c5, rfl, i5⟩ := IntsAt.of_own ((o5.dr d6).dr d7)
    generalize (selL a0 a1).length = m at i4 i5 ⊢
    go_wp2_with fail
    refine (Equal_q _ _ _ _ _ _ _ _ _ i4 i5).mono ?_
    rintro e w8 ⟨rfl, d8⟩
    go_wp2_with fail
    go_ret
    exact ⟨ret_bool (by simp), ((((d1.trans d4).trans d5).dr d6).dr d7).dr d8⟩
  · go_enter Try.func4, Try.ntmps4
    go_wp2_with (go_at_call 14; refine (awake25 _).mono ?_; rintro e w1 ⟨rfl, d1⟩)
    go_ret
    exact ⟨rfl, d1⟩

end Go.Proofs.Ytmibpagajenndaa
