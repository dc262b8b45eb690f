/- Select for any width, Guarantee, the example of chapter 25. -/
import Derived.Test.YtmibpagajenndaaDoorQ
namespace Go.Proofs.YtmibpagajenndaaDoor
open Go.RowKit

def okW (q : Int) : Bool := decide (1 ≤ q ∧ q ≤ 1024)
def selL (l : List Int) (q : Int) : List Int := if okW q then selI l q.toNat (l.length + 1 - q.toNat) else []
def selE (q : Int) : Int := if okW q then 0 else 3

set_option maxHeartbeats 400000 in
theorem Select_any (l : List Int) (A : Option Addr) (c n : Nat) (q : Int) (w : World) (hA : IntsAt w A n l) (hl : n ≤ 8192) :
    Calls Tryd.prog 23 #[.slice A n c, .int .i64 q] w (RetInts w (selL l q) (selE q)) := by
  by_cases h : 1 ≤ q ∧ q ≤ 1024
  · obtain ⟨k, rfl⟩ := Int.eq_ofNat_of_zero_le (show 0 ≤ q by omega)
    have := Select_walk l A c n k w hA (by omega) (by omega) hl
    rw [selL, selE, if_pos (by simp [okW]; omega), if_pos (by simp [okW]; omega), Int.toNat_natCast, ← hA.1]
    exact this
  · have h0 : selL l q = [] := by rw [selL, if_neg (by simp [okW]; omega)]
    have h3 : selE q = 3 := by rw [selE, if_neg (by simp [okW]; omega)]
    have H0 := Lib.hid h0
    have H3 := Lib.hid h3
    have HA := Lib.hid hA
    clear h0 h3 hA
    go_enter Tryd.func23, Tryd.ntmps23
    go_wp2_with (go_at_call 25; refine (size_is _ false _ (by simp; omega)).mono ?_; rintro e w' ⟨rfl, rfl⟩)
    go_ret2
    exact ⟨.slice none 0 0, by rw [H3.out]; rfl, by rw [H0.out]; exact own_nil _ _, Ext.refl _⟩

set_option maxHeartbeats 400000 in
theorem refSelect_any (l : List Int) (A : Option Addr) (c n : Nat) (q : Int) (w : World) (hA : IntsAt w A n l) (hl : n ≤ 8192) :
    Calls Tryd.prog 30 #[.slice A n c, .int .i64 q] w (RetInts w (selL l q) (selE q)) := by
  by_cases h : 1 ≤ q ∧ q ≤ 1024
  · obtain ⟨k, rfl⟩ := Int.eq_ofNat_of_zero_le (show 0 ≤ q by omega)
    have := refSelect_walk l A c n k w hA (by omega) (by omega) hl
    rw [selL, selE, if_pos (by simp [okW]; omega), if_pos (by simp [okW]; omega), Int.toNat_natCast, ← hA.1]
    exact this
  · have h0 : selL l q = [] := by rw [selL, if_neg (by simp [okW]; omega)]
    have h3 : selE q = 3 := by rw [selE, if_neg (by simp [okW]; omega)]
    have H0 := Lib.hid h0
    have H3 := Lib.hid h3
    have HA := Lib.hid hA
    clear h0 h3 hA
    go_enter Tryd.func30, Tryd.ntmps30
    go_wp2_with (go_at_call 28; refine (right_is _ false _ (by simp; omega)).mono ?_; rintro e w' ⟨rfl, rfl⟩)
    go_ret2
    exact ⟨.slice none 0 0, by rw [H3.out]; rfl, by rw [H0.out]; exact own_nil _ _, Ext.refl _⟩

theorem exSel : selL [7, 3, 5, 3, 9] 3 = [1, 3] := by
  have e : ∀ i, gt [7, 3, 5, 3, 9] i = [7, 3, 5, 3, 9].getD i 0 := fun i => by unfold gt; rfl
  rw [selL, if_pos (by decide)]
  show selI _ 3 3 = _
  simp [selI, W.sel, W.lst, e]

set_option maxHeartbeats 400000 in
theorem guarantee43 (w : World) : Calls Tryd.prog 13 #[.int .i64 4, .int .i64 3] w fun e w' => e = .returned (.tuple #[.int .i64 6, .int .i64 0]) ∧ w = w' := by
  go_enter Tryd.func13, Tryd.ntmps13
  go_wp2_with (go_at_call 25; refine (size_is _ true _ (by decide)).mono ?_; rintro e w' ⟨rfl, rfl⟩)
  go_ret2
  exact ⟨rfl, rfl⟩

set_option maxHeartbeats 400000 in
theorem awake25 (w : World) : Calls Tryd.prog 10 #[] w (Al (.bool true) w) := by
  have HX := Lib.hid exSel
  go_enter Tryd.func10, Tryd.ntmps10
  go_wp2_with fail
  refine (Select_any [7, 3, 5, 3, 9] _ _ 5 _ _ ⟨rfl, by decide, fun _ => ⟨_, _, rfl, fun j hj => ?_⟩⟩ (by decide)).mono ?_
  · match j, hj with
    | 0, _ => exact cell_new _ _ _ 0
    | 1, _ => exact cell_new _ _ _ 1
    | 2, _ => exact cell_new _ _ _ 2
    | 3, _ => exact cell_new _ _ _ 3
    | 4, _ => exact cell_new _ _ _ 4
  rw [HX.out]
  rintro e w1 ⟨v1, rfl, o1, d1⟩
  obtain ⟨A1, c1, e1, i1⟩ := IntsAt.of_own o1
  obtain rfl : v1 = .slice A1 2 c1 := e1
  have i1' : IntsAt w1 A1 2 [1, 3] := i1
  go_wp2_with (go_at_call 13; refine (guarantee43 _).mono ?_; rintro e w' ⟨rfl, rfl⟩)
  refine (Equal_q [1, 3] [1, 3] _ _ _ _ _ _ _ (i1'.ext ((Ext.refl _).alloc _)) ⟨rfl, by decide, fun _ => ⟨_, _, rfl, fun j hj => ?_⟩⟩).mono ?_
  · match j, hj with
    | 0, _ => exact cell_new _ _ _ 0
    | 1, _ => exact cell_new _ _ _ 1
  rintro e w2 ⟨rfl, d2⟩
  go_wp2_with fail
  go_ret
  exact ⟨rfl, ((((Ext.refl w).alloc _).trans d1).alloc _).dr d2⟩

end Go.Proofs.YtmibpagajenndaaDoor
