/- Contracts of rolling's and its reference's arithmetic. -/
import Derived.Test.YtmibpagajenndaaDoorA
import Derived.Test.YtmibpagajenndaaDoorM
import Derived.Deep.QuietTactic
import Derived.BigQuiet
import Derived.Lib.Hide
namespace Go.Proofs.YtmibpagajenndaaDoor
open Go.RowKit

theorem mul_any (a b : Int) (w : World) (ha : 0 ≤ a ∧ a < 2305843009213693951) (hb : 0 ≤ b ∧ b < 2305843009213693951) :
    Calls Tryd.prog 38 #[.int .i64 a, .int .i64 b] w fun e w' => e = .returned (.int .i64 (a * b % 2305843009213693951)) ∧ w = w' := by
  have hr := M.mul_range ha hb
  obtain ⟨a, rfl⟩ := Int.eq_ofNat_of_zero_le ha.1
  obtain ⟨b, rfl⟩ := Int.eq_ofNat_of_zero_le hb.1
  have h1 := M.and_mask ((a : Int) * b % 18446744073709551616) (by omega) (by omega)
  have h2 := M.mulHalves ((a : Int) * b) hr.1 hr.2
  have h3 := M.fold_mod ((a : Int) * b)
  have H1 := Lib.hid h1
  have H2 := Lib.hid h2
  have H3 := Lib.hid h3
  clear h1 h2 h3
  go_enter Tryd.func38, Tryd.ntmps38
  go_wp2_with (go_at_call 50; refine (Tryd.bits_Mul64 a b (by omega) (by omega) _).mono ?_; rintro e w' ⟨rfl, rfl⟩)
  rw [H1.out, H2.out]
  rw [show wrap64 ((a : Int) * b % 18446744073709551616 % 2305843009213693952) = (a : Int) * b % 2305843009213693952 from by rw [IntWalk.wrap64_in _ (by omega)]; omega]
  rw [show wrap64 ((a : Int) * b / 2305843009213693952) = (a : Int) * b / 2305843009213693952 from IntWalk.wrap64_in _ (by omega)]
  refine (add_any _ _ _ (by omega) (by omega) (by omega)).mono ?_
  rintro e w' ⟨rfl, rfl⟩
  go_wp2_with fail
  go_ret
  exact ⟨ret_int H3.out, rfl⟩

set_option maxHeartbeats 400000 in
theorem times_any (a b : Int) (w : World) (ha : 0 ≤ a ∧ a < 2305843009213693951) (hb : 0 ≤ b ∧ b < 2305843009213693951) :
    Calls Tryd.prog 58 #[.int .i64 a, .int .i64 b] w fun e w' => e = .returned (.int .i64 (a * b % 2305843009213693951)) ∧ w = w' := by
  obtain ⟨b, rfl⟩ := Int.eq_ofNat_of_zero_le hb.1
  go_enter Tryd.func58, Tryd.ntmps58
  go_wp2
  go_loop [0, 1, 5] (fun x y o => ∃ (x' o' : Int) (n : Nat), x = .int .i64 x' ∧ y = .int .i64 n ∧ o = .int .i64 o' ∧ (0 ≤ x' ∧ x' < 2305843009213693951) ∧ (0 ≤ o' ∧ o' < 2305843009213693951) ∧ n ≤ b ∧ Hid ((o' + x' * n) % 2305843009213693951 = a * b % 2305843009213693951))
    (fun _ y _ => (intOf y).toNat)
  case atStart => exact ⟨a, 0, b, rfl, rfl, rfl, ha, by omega, Nat.le_refl _, by show (0 + a * b) % _ = _; rw [Int.zero_add]⟩
  case round =>
    obtain ⟨x', o', n, rfl, rfl, rfl, hx, ho, hn, H⟩ := hrel
    by_cases h0 : n = 0
    · subst h0
      go_wp2_with fail
      go_ret
      exact ⟨ret_int (by have := H.out; simp at this; rw [← this, Int.emod_eq_of_lt ho.1 ho.2]), rfl⟩
    · have h0' : 0 < n := by omega
      by_cases ho2 : n % 2 = 1
      · have t1 : (((n : Int) % 2) == 1) = true := by simp; omega
        go_wp2_with (go_at_call 57; refine (refAdd_any _ _ _ (by omega) (by omega) (by omega)).mono ?_; rintro e w' ⟨rfl, rfl⟩)
        go_round
        case rel => exact ⟨(x' + x') % 2305843009213693951, (o' + x') % 2305843009213693951, n / 2, rfl, by go_num, rfl, by omega, by omega, by omega, M.times_odd _ _ _ _ ho2 H.out⟩
        case measure => simp [intOf]; omega
      · have t1 : (((n : Int) % 2) == 1) = false := by simp; omega
        go_wp2_with (go_at_call 57; refine (refAdd_any _ _ _ (by omega) (by omega) (by omega)).mono ?_; rintro e w' ⟨rfl, rfl⟩)
        go_round
        case rel => exact ⟨(x' + x') % 2305843009213693951, o', n / 2, rfl, by go_num, rfl, by omega, by omega, by omega, M.times_even _ _ _ _ (by omega) H.out⟩
        case measure => simp [intOf]; omega

end Go.Proofs.YtmibpagajenndaaDoor
