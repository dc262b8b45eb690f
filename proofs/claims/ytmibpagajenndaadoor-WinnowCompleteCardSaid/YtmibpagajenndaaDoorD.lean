/- Contracts of rolling's powers, joins and rolls, and of their references. -/
import Derived.Test.YtmibpagajenndaaDoorC
namespace Go.Proofs.YtmibpagajenndaaDoor
open Go.RowKit

set_option maxHeartbeats 400000 in
theorem power_any (N : Nat) (w : World) (hN : N ≤ 8192) : Calls Tryd.prog 39 #[.int .i64 (N : Int)] w fun e w' => e = .returned (.int .i64 (M.pw 1000003 N)) ∧ w = w' := by
  go_enter Tryd.func39, Tryd.ntmps39
  go_wp2
  go_loop [0, 3, 4] (fun y o s => ∃ (o' s' : Int) (n : Nat), y = .int .i64 n ∧ o = .int .i64 o' ∧ s = .int .i64 s' ∧ (0 ≤ s' ∧ s' < 2305843009213693951) ∧ (0 ≤ o' ∧ o' < 2305843009213693951) ∧ n ≤ N ∧ Hid (o' * M.pw s' n % 2305843009213693951 = M.pw 1000003 N))
    (fun y _ _ => (intOf y).toNat)
  case atStart => exact ⟨1, 1000003, N, rfl, rfl, rfl, by omega, by omega, Nat.le_refl _, by show 1 * M.pw 1000003 N % 2305843009213693951 = _; rw [Int.one_mul, M.pw_self]⟩
  case round =>
    obtain ⟨o', s', n, rfl, rfl, rfl, hs, ho, hn, H⟩ := hrel
    by_cases h0 : n = 0
    · subst h0
      go_wp2_with fail
      go_ret
      exact ⟨ret_int (by have := H.out; simp [M.pw] at this; rw [← this, Int.emod_eq_of_lt ho.1 ho.2]), rfl⟩
    · have h0' : 0 < n := by omega
      by_cases ho2 : n % 2 = 1
      · have t1 : (((n : Int) % 2) == 1) = true := by simp; omega
        go_wp2_with (go_at_call 38; refine (mul_any _ _ _ (by omega) (by omega)).mono ?_; rintro e w' ⟨rfl, rfl⟩)
        go_round
        case rel => exact ⟨o' * s' % 2305843009213693951, s' * s' % 2305843009213693951, n / 2, by go_num, rfl, rfl, by omega, by omega, by omega, (M.round_odd _ _ _ ho2).trans H.out⟩
        case measure => simp [intOf]; omega
      · have t1 : (((n : Int) % 2) == 1) = false := by simp; omega
        go_wp2_with (go_at_call 38; refine (mul_any _ _ _ (by omega) (by omega)).mono ?_; rintro e w' ⟨rfl, rfl⟩)
        go_round
        case rel => exact ⟨o', s' * s' % 2305843009213693951, n / 2, by go_num, rfl, rfl, by omega, by omega, by omega, (M.round_even _ _ _ (by omega)).trans H.out⟩
        case measure => simp [intOf]; omega

/-- What Power gives. -/
def powS (n : Int) : Int := if 0 ≤ n ∧ n ≤ 8192 then M.pw 1000003 n.toNat else 0
theorem powS_range (n : Int) : 0 ≤ powS n ∧ powS n < 2305843009213693951 := by
  unfold powS; split
  · exact M.pw_range _ _
  · omega

theorem Power_any (n : Int) (w : World) : Calls Tryd.prog 21 #[.int .i64 n] w fun e w' => e = .returned (.int .i64 (powS n)) ∧ w = w' := by
  have hm : Hid (powS n = if 0 ≤ n ∧ n ≤ 8192 then M.pw 1000003 n.toNat else 0) := rfl
  by_cases h0 : n < 0
  · go_enter Tryd.func21, Tryd.ntmps21
    go_wp2
    go_ret
    exact ⟨ret_int (by rw [hm.out, if_neg (by omega)]), rfl⟩
  · by_cases h1 : 8192 < n
    · go_enter Tryd.func21, Tryd.ntmps21
      go_wp2
      go_ret
      exact ⟨ret_int (by rw [hm.out, if_neg (by omega)]), rfl⟩
    · obtain ⟨n, rfl⟩ := Int.eq_ofNat_of_zero_le (show 0 ≤ n by omega)
      go_enter Tryd.func21, Tryd.ntmps21
      go_wp2_with (go_at_call 39; refine (power_any _ _ (by omega)).mono ?_; rintro e w' ⟨rfl, rfl⟩)
      go_ret
      exact ⟨ret_int (by rw [hm.out, if_pos (by omega)]; rfl), rfl⟩

theorem push_q (h : Int) (s : ByteArray) (w : World) (hh : 0 ≤ h ∧ h < 2305843009213693951) (hs : s.size ≤ 9223372036854775807) :
    Calls Tryd.prog 22 #[.int .i64 h, .string s] w (Qu (.int .i64 (M.next h s.data.toList)) w) := by
  have hc := M.code_range s.data.toList
  go_enter Tryd.func22, Tryd.ntmps22
  go_wp2_with (first | (go_at_call 38; refine (mul_any _ _ _ (by omega) (by omega)).mono ?_; rintro e w' ⟨rfl, rfl⟩) | (go_at_call 20; refine (code_q _ _ hs).mono ?_; rintro e w1 ⟨rfl, hd⟩) | (go_at_call 37; refine (add_any _ _ _ (by omega) (by omega) (by omega)).mono ?_; rintro e w' ⟨rfl, rfl⟩))
  go_ret
  exact ⟨ret_int (by unfold M.next; rfl), hd⟩

theorem next_q (h : Int) (s : ByteArray) (w : World) (hh : 0 ≤ h ∧ h < 2305843009213693951) (hs : s.size ≤ 9223372036854775807) :
    Calls Tryd.prog 52 #[.int .i64 h, .string s] w (Qu (.int .i64 (M.next h s.data.toList)) w) := by
  have hc := M.code_range s.data.toList
  go_enter Tryd.func52, Tryd.ntmps52
  go_wp2_with (first | (go_at_call 58; refine (times_any _ _ _ (by omega) (by omega)).mono ?_; rintro e w' ⟨rfl, rfl⟩) | (go_at_call 59; refine (refCode_q _ _ hs).mono ?_; rintro e w1 ⟨rfl, hd⟩) | (go_at_call 57; refine (refAdd_any _ _ _ (by omega) (by omega) (by omega)).mono ?_; rintro e w' ⟨rfl, rfl⟩))
  go_ret
  exact ⟨ret_int (by unfold M.next; rw [Int.mul_comm 1000003]), hd⟩

/-- What Join gives. -/
def joinOk (a b n : Int) : Bool := decide ((0 ≤ a ∧ a < 2305843009213693951) ∧ (0 ≤ b ∧ b < 2305843009213693951) ∧ 0 ≤ n ∧ n ≤ 8192)
def joinV (a b n : Int) : Value := if joinOk a b n then .tuple #[.int .i64 ((a * M.pw 1000003 n.toNat + b) % 2305843009213693951), .int .i64 0] else .tuple #[.int .i64 0, .int .i64 3]

end Go.Proofs.YtmibpagajenndaaDoor
