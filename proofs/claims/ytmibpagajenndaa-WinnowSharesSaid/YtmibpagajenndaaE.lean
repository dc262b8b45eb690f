/- Contracts of Join, Roll and their references. -/
import Derived.Test.YtmibpagajenndaaD
namespace Go.Proofs.Ytmibpagajenndaa
open Go.RowKit

theorem refJoin_any (a b n : Int) (w : World) : Calls Try.prog 34 #[.int .i64 a, .int .i64 b, .int .i64 n] w fun e w' => e = .returned (joinV a b n) ∧ w = w' := by
  have hm : Hid (joinV a b n = if joinOk a b n then .tuple #[.int .i64 ((a * M.pw 1000003 n.toNat + b) % 2305843009213693951), .int .i64 0] else .tuple #[.int .i64 0, .int .i64 3]) := rfl
  by_cases ha : 0 ≤ a ∧ a < 2305843009213693951
  · by_cases hb : 0 ≤ b ∧ b < 2305843009213693951
    · by_cases h0 : n < 0
      · go_enter Try.func34, Try.ntmps34
        go_wp2_with (first | (go_at_call 30; refine (refResidue_any _ _).mono ?_; rintro e w' ⟨rfl, rfl⟩))
        go_ret2
        exact ⟨by rw [hm.out, if_neg (by simp [joinOk]; omega)]; rfl, rfl⟩
      · by_cases h1 : 8192 < n
        · go_enter Try.func34, Try.ntmps34
          go_wp2_with (first | (go_at_call 30; refine (refResidue_any _ _).mono ?_; rintro e w' ⟨rfl, rfl⟩))
          go_ret2
          exact ⟨by rw [hm.out, if_neg (by simp [joinOk]; omega)]; rfl, rfl⟩
        · obtain ⟨N, rfl⟩ := Int.eq_ofNat_of_zero_le (show 0 ≤ n by omega)
          have hp := powS_range N
          have hpe : powS N = M.pw 1000003 N := by unfold powS; rw [if_pos (by omega)]; rfl
          have Hpe := Lib.hid hpe
          clear hpe
          go_enter Try.func34, Try.ntmps34
          go_wp2_with (first | (go_at_call 30; refine (refResidue_any _ _).mono ?_; rintro e w' ⟨rfl, rfl⟩) | (go_at_call 26; refine (refPower_any _ _).mono ?_; rintro e w' ⟨rfl, rfl⟩) | (go_at_call 52; refine (times_any _ _ _ (by omega) (by omega)).mono ?_; rintro e w' ⟨rfl, rfl⟩) | (go_at_call 51; refine (refAdd_any _ _ _ (by omega) (by omega) (by omega)).mono ?_; rintro e w' ⟨rfl, rfl⟩))
          go_ret2
          exact ⟨by rw [hm.out, if_pos (by simp [joinOk]; omega)]; simp [Hpe.out], rfl⟩
    · go_enter Try.func34, Try.ntmps34
      go_wp2_with (first | (go_at_call 30; refine (refResidue_any _ _).mono ?_; rintro e w' ⟨rfl, rfl⟩))
      go_ret2
      exact ⟨by rw [hm.out, if_neg (by simp [joinOk]; omega)]; rfl, rfl⟩
  · go_enter Try.func34, Try.ntmps34
    go_wp2_with (first | (go_at_call 30; refine (refResidue_any _ _).mono ?_; rintro e w' ⟨rfl, rfl⟩))
    go_ret2
    exact ⟨by rw [hm.out, if_neg (by simp [joinOk]; omega)]; rfl, rfl⟩

/-- What Roll gives. -/
def rollOk (h k : Int) : Bool := decide ((0 ≤ h ∧ h < 2305843009213693951) ∧ 1 ≤ k ∧ k ≤ 8192)
def rollV (h : Int) (out inn : List UInt8) (k : Int) : Value := if rollOk h k then .tuple #[.int .i64 (M.roll h out inn (M.pw 1000003 (k - 1).toNat)), .int .i64 0] else .tuple #[.int .i64 0, .int .i64 3]

theorem roll_q (h : Int) (o i : ByteArray) (top : Int) (w : World) (hh : 0 ≤ h ∧ h < 2305843009213693951) (ht : 0 ≤ top ∧ top < 2305843009213693951) (ho : o.size ≤ 9223372036854775807) (hi : i.size ≤ 9223372036854775807) :
    Calls Try.prog 59 #[.int .i64 h, .string o, .string i, .int .i64 top] w (Qu (.int .i64 (M.roll h o.data.toList i.data.toList top)) w) := by
  have hc := M.code_range o.data.toList
  have hm : Hid (M.roll h o.data.toList i.data.toList top = M.next ((h + (2305843009213693951 - (M.code o.data.toList + 1) % 2305843009213693951 * top % 2305843009213693951)) % 2305843009213693951) i.data.toList) := by unfold Hid M.roll; rfl
  have hr := M.mul_range (show 0 ≤ (M.code o.data.toList + 1) % 2305843009213693951 ∧ (M.code o.data.toList + 1) % 2305843009213693951 < 2305843009213693951 by omega) ht
  go_enter Try.func59, Try.ntmps59
  go_wp2_with (first | (go_at_call 21; refine (code_q _ _ ho).mono ?_; rintro e w1 ⟨rfl, hd⟩) | (go_at_call 49; refine (add_any _ _ _ (by omega) (by omega) (by omega)).mono ?_; rintro e w' ⟨rfl, rfl⟩) | (go_at_call 50; refine (mul_any _ _ _ (by omega) (by omega)).mono ?_; rintro e w' ⟨rfl, rfl⟩) | (go_at_call 55; refine (push_q _ _ _ (by omega) hi).mono ?_; rintro e w2 ⟨rfl, hd2⟩))
  go_ret
  exact ⟨by rw [hm.out]; simp, hd.trans hd2⟩

theorem power_int (n : Int) (w : World) (h0 : 0 ≤ n) (h1 : n ≤ 8192) : Calls Try.prog 54 #[.int .i64 n] w fun e w' => e = .returned (.int .i64 (M.pw 1000003 n.toNat)) ∧ w = w' := by
  obtain ⟨N, rfl⟩ := Int.eq_ofNat_of_zero_le h0
  exact power_any N w (by omega)
theorem refPower_int (n : Int) (w : World) (h0 : 0 ≤ n) (h1 : n ≤ 8192) : Calls Try.prog 26 #[.int .i64 n] w fun e w' => e = .returned (.int .i64 (M.pw 1000003 n.toNat)) ∧ w = w' :=
  (refPower_any n w).mono fun _ _ ⟨h, h2⟩ => ⟨by rw [h]; unfold powS; rw [if_pos ⟨h0, h1⟩], h2⟩

theorem Roll_q (h : Int) (o i : ByteArray) (k : Int) (w : World) (ho : o.size ≤ 9223372036854775807) (hi : i.size ≤ 9223372036854775807) :
    Calls Try.prog 35 #[.int .i64 h, .string o, .string i, .int .i64 k] w (Qu (rollV h o.data.toList i.data.toList k) w) := by
  have hm : Hid (rollV h o.data.toList i.data.toList k = if rollOk h k then .tuple #[.int .i64 (M.roll h o.data.toList i.data.toList (M.pw 1000003 (k - 1).toNat)), .int .i64 0] else .tuple #[.int .i64 0, .int .i64 3]) := rfl
  by_cases ha : 0 ≤ h ∧ h < 2305843009213693951
  · by_cases h0 : k < 1
    · go_enter Try.func35, Try.ntmps35
      go_wp2_with (first | (go_at_call 53; refine (residue_any _ _).mono ?_; rintro e w' ⟨rfl, rfl⟩))
      go_ret2
      exact ⟨by rw [hm.out, if_neg (by simp [rollOk]; omega)]; rfl, Dr.refl _⟩
    · by_cases h1 : 8192 < k
      · go_enter Try.func35, Try.ntmps35
        go_wp2_with (first | (go_at_call 53; refine (residue_any _ _).mono ?_; rintro e w' ⟨rfl, rfl⟩))
        go_ret2
        exact ⟨by rw [hm.out, if_neg (by simp [rollOk]; omega)]; rfl, Dr.refl _⟩
      · have hp := M.pw_range 1000003 (k - 1).toNat
        go_enter Try.func35, Try.ntmps35
        go_wp2_with (first | (go_at_call 53; refine (residue_any _ _).mono ?_; rintro e w' ⟨rfl, rfl⟩) | (go_at_call 54; refine (power_int _ _ (by omega) (by omega)).mono ?_; rintro e w' ⟨rfl, rfl⟩) | (go_at_call 59; refine (roll_q _ _ _ _ _ (by omega) (M.pw_range _ _) ho hi).mono ?_; rintro e w1 ⟨rfl, hd⟩))
        go_ret2
        exact ⟨by rw [hm.out, if_pos (by simp [rollOk]; omega)]; simp, hd⟩
  · go_enter Try.func35, Try.ntmps35
    go_wp2_with (first | (go_at_call 53; refine (residue_any _ _).mono ?_; rintro e w' ⟨rfl, rfl⟩))
    go_ret2
    exact ⟨by rw [hm.out, if_neg (by simp [rollOk]; omega)]; rfl, Dr.refl _⟩

theorem refRoll_q (h : Int) (o i : ByteArray) (k : Int) (w : World) (ho : o.size ≤ 9223372036854775807) (hi : i.size ≤ 9223372036854775807) :
    Calls Try.prog 36 #[.int .i64 h, .string o, .string i, .int .i64 k] w (Qu (rollV h o.data.toList i.data.toList k) w) := by
  have hm : Hid (rollV h o.data.toList i.data.toList k = if rollOk h k then .tuple #[.int .i64 (M.roll h o.data.toList i.data.toList (M.pw 1000003 (k - 1).toNat)), .int .i64 0] else .tuple #[.int .i64 0, .int .i64 3]) := rfl
  by_cases ha : 0 ≤ h ∧ h < 2305843009213693951
  · by_cases h0 : k < 1
    · go_enter Try.func36, Try.ntmps36
      go_wp2_with (first | (go_at_call 30; refine (refResidue_any _ _).mono ?_; rintro e w' ⟨rfl, rfl⟩))
      go_ret2
      exact ⟨by rw [hm.out, if_neg (by simp [rollOk]; omega)]; rfl, Dr.refl _⟩
    · by_cases h1 : 8192 < k
      · go_enter Try.func36, Try.ntmps36
        go_wp2_with (first | (go_at_call 30; refine (refResidue_any _ _).mono ?_; rintro e w' ⟨rfl, rfl⟩))
        go_ret2
        exact ⟨by rw [hm.out, if_neg (by simp [rollOk]; omega)]; rfl, Dr.refl _⟩
      · have hp := M.pw_range 1000003 (k - 1).toNat
        have hc := M.code_range o.data.toList
        go_enter Try.func36, Try.ntmps36
        go_wp2_with (first | (go_at_call 30; refine (refResidue_any _ _).mono ?_; rintro e w' ⟨rfl, rfl⟩) | (go_at_call 26; refine (refPower_int _ _ (by omega) (by omega)).mono ?_; rintro e w' ⟨rfl, rfl⟩) | (go_at_call 22; refine (refCode_q _ _ ho).mono ?_; rintro e w1 ⟨rfl, hd⟩) | (go_at_call 52; refine (times_any _ _ _ (by omega) (M.pw_range _ _)).mono ?_; rintro e w' ⟨rfl, rfl⟩) | (go_at_call 51; refine (refAdd_any _ _ _ (by omega) (by omega) (by omega)).mono ?_; rintro e w' ⟨rfl, rfl⟩) | (go_at_call 60; refine (next_q _ _ _ (by omega) hi).mono ?_; rintro e w2 ⟨rfl, hd2⟩))
        go_ret2
        exact ⟨by rw [hm.out, if_pos (by simp [rollOk]; omega)]; simp [M.roll], hd.trans hd2⟩
  · go_enter Try.func36, Try.ntmps36
    go_wp2_with (first | (go_at_call 30; refine (refResidue_any _ _).mono ?_; rintro e w' ⟨rfl, rfl⟩))
    go_ret2
    exact ⟨by rw [hm.out, if_neg (by simp [rollOk]; omega)]; rfl, Dr.refl _⟩

end Go.Proofs.Ytmibpagajenndaa
