/- Contracts of rolling's words and hashes. -/
import Derived.Test.YtmibpagajenndaaB
namespace Go.Proofs.Ytmibpagajenndaa
open Go.RowKit

theorem take_snoc (s : ByteArray) (k : Nat) (h : k < s.size) : s.data.toList.take (k + 1) = s.data.toList.take k ++ [s[k]] := by
  rw [List.take_succ_eq_append_getElem (by simpa using h)]; rfl

set_option maxHeartbeats 400000 in
theorem code_q (s : ByteArray) (w : World) (hs : s.size ≤ 9223372036854775807) : Calls Try.prog 21 #[.string s] w (Qu (.int .i64 (M.code s.data.toList)) w) := by
  go_enter Try.func21, Try.ntmps21
  go_wp2
  go_loopw [3, 7] (fun c i wr => ∃ k : Nat, k ≤ s.size ∧ i = .int .i64 k ∧ c = .int .i64 (M.code (s.data.toList.take k)) ∧ Dr w wr) (fun _ i _ => s.size - (intOf i).toNat)
  case atStart => exact ⟨0, Nat.zero_le _, rfl, by simp [M.code], Dr.refl _⟩
  case round =>
    obtain ⟨k, hk, rfl, rfl, hd⟩ := hrel
    have hcr := M.code_range (s.data.toList.take k)
    by_cases hlt : k < s.size
    · have hsn := M.code_snoc (s.data.toList.take k) s[k]
      rw [← take_snoc s k hlt] at hsn
      have HS := Lib.hid hsn
      clear hsn
      have hb : (s[k]).toNat < 256 := (s[k]).toNat_lt
      go_wp2
      go_quiet (first | (go_at_call 50; exact quiet_at (toQ (mul_any _ _ _ (by omega) (by omega)))) | (go_at_call 49; exact quiet_at (toQ (add_any _ _ _ (by omega) (by omega) (by omega)))))
      go_wp2
      go_roundw
      case rel => exact ⟨k + 1, by omega, by go_num, by rw [HS.out, M.emod_add_left], hd.drewN _⟩
      case measure => simp [intOf]; omega
    · go_wp2
      go_ret
      exact ⟨ret_int (by rw [List.take_of_length_le (by simp; omega)]), hd⟩

set_option maxHeartbeats 400000 in
theorem refCode_q (s : ByteArray) (w : World) (hs : s.size ≤ 9223372036854775807) : Calls Try.prog 22 #[.string s] w (Qu (.int .i64 (M.code s.data.toList)) w) := by
  go_enter Try.func22, Try.ntmps22
  go_wp2
  go_loopw [3, 4] (fun c i wr => ∃ k : Nat, k ≤ s.size ∧ i = .int .i64 k ∧ c = .int .i64 (M.code (s.data.toList.take k)) ∧ Dr w wr) (fun _ i _ => s.size - (intOf i).toNat)
  case atStart => exact ⟨0, Nat.zero_le _, rfl, by simp [M.code], Dr.refl _⟩
  case round =>
    obtain ⟨k, hk, rfl, rfl, hd⟩ := hrel
    have hcr := M.code_range (s.data.toList.take k)
    by_cases hlt : k < s.size
    · have hsn := M.code_snoc (s.data.toList.take k) s[k]
      rw [← take_snoc s k hlt] at hsn
      have HS := Lib.hid hsn
      clear hsn
      have hb : (s[k]).toNat < 256 := (s[k]).toNat_lt
      go_wp2
      go_quiet (first | (go_at_call 52; exact quiet_at (toQ (times_any _ _ _ (by omega) (by omega)))) | (go_at_call 51; exact quiet_at (toQ (refAdd_any _ _ _ (by omega) (by omega) (by omega)))))
      go_wp2
      go_roundw
      case rel => exact ⟨k + 1, by omega, by go_num, by rw [HS.out, M.emod_add_left, Int.mul_comm], hd.drewN _⟩
      case measure => simp [intOf]; omega
    · go_wp2
      go_ret
      exact ⟨ret_int (by rw [List.take_of_length_le (by simp; omega)]), hd⟩

/-- What Mul gives. -/
def mulS (a b : Int) : Int := if (0 ≤ a ∧ a < 2305843009213693951) ∧ 0 ≤ b ∧ b < 2305843009213693951 then a * b % 2305843009213693951 else 0

theorem Mul_any (a b : Int) (w : World) : Calls Try.prog 23 #[.int .i64 a, .int .i64 b] w fun e w' => e = .returned (.int .i64 (mulS a b)) ∧ w = w' := by
  have hm : Hid (mulS a b = if (0 ≤ a ∧ a < 2305843009213693951) ∧ 0 ≤ b ∧ b < 2305843009213693951 then a * b % 2305843009213693951 else 0) := rfl
  by_cases ha : 0 ≤ a ∧ a < 2305843009213693951
  · by_cases hb : 0 ≤ b ∧ b < 2305843009213693951
    · go_enter Try.func23, Try.ntmps23
      go_wp2_with (first | (go_at_call 53; refine (residue_any _ _).mono ?_; rintro e w' ⟨rfl, rfl⟩) | (go_at_call 50; refine (mul_any _ _ _ ha hb).mono ?_; rintro e w' ⟨rfl, rfl⟩))
      go_ret
      exact ⟨ret_int (by rw [hm.out, if_pos ⟨ha, hb⟩]), rfl⟩
    · go_enter Try.func23, Try.ntmps23
      go_wp2_with (go_at_call 53; refine (residue_any _ _).mono ?_; rintro e w' ⟨rfl, rfl⟩)
      go_ret
      exact ⟨ret_int (by rw [hm.out, if_neg (fun h => hb h.2)]), rfl⟩
  · go_enter Try.func23, Try.ntmps23
    go_wp2_with (go_at_call 53; refine (residue_any _ _).mono ?_; rintro e w' ⟨rfl, rfl⟩)
    go_ret
    exact ⟨ret_int (by rw [hm.out, if_neg (fun h => ha h.1)]), rfl⟩

end Go.Proofs.Ytmibpagajenndaa
