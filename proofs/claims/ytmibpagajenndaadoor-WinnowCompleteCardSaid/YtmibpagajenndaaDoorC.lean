/- Contracts of rolling's words and hashes. -/
import Derived.Test.YtmibpagajenndaaDoorB
namespace Go.Proofs.YtmibpagajenndaaDoor
open Go.RowKit

theorem take_snoc (s : ByteArray) (k : Nat) (h : k < s.size) : s.data.toList.take (k + 1) = s.data.toList.take k ++ [s[k]] := by
  rw [List.take_succ_eq_append_getElem (by simpa using h)]; rfl

set_option maxHeartbeats 400000 in
theorem code_q (s : ByteArray) (w : World) (hs : s.size ≤ 9223372036854775807) : Calls Tryd.prog 20 #[.string s] w (Qu (.int .i64 (M.code s.data.toList)) w) := by
  go_enter Tryd.func20, Tryd.ntmps20
  go_wp2
  go_loopw [3, 7] (fun c i wr => ∃ k : Nat, k ≤ s.size ∧ i = .int .i64 k ∧ c = .int .i64 (M.code (s.data.toList.take k)) ∧ Dr w wr) (fun _ i _ => s.size - (intOf i).toNat)
  case atStart => exact ⟨0, Nat.zero_le _, rfl, by simp [M.code], Dr.refl _⟩
  case round =>
    obtain ⟨k, hk, rfl, rfl, hd⟩ := hrel
    have hcr := M.code_range (s.data.toList.take k)
    by_cases hlt : k < s.size
    · have hsn := M.code_snoc (s.data.toList.take k) s[k]
      rw [← take_snoc s k hlt] at hsn
      have HS := Lib.hid hsn
      clear hsn
      have hb : (s[k]).toNat < 256 := (s[k]).toNat_lt
      go_wp2
      go_quiet (first | (go_at_call 38; exact quiet_at (toQ (mul_any _ _ _ (by omega) (by omega)))) | (go_at_call 37; exact quiet_at (toQ (add_any _ _ _ (by omega) (by omega) (by omega)))))
      go_wp2
      go_roundw
      case rel => exact ⟨k + 1, by omega, by go_num, by rw [HS.out, M.emod_add_left], hd.drewN _⟩
      case measure => simp [intOf]; omega
    · go_wp2
      go_ret
      exact ⟨ret_int (by rw [List.take_of_length_le (by simp; omega)]), hd⟩

set_option maxHeartbeats 400000 in
theorem refCode_q (s : ByteArray) (w : World) (hs : s.size ≤ 9223372036854775807) : Calls Tryd.prog 59 #[.string s] w (Qu (.int .i64 (M.code s.data.toList)) w) := by
  go_enter Tryd.func59, Tryd.ntmps59
  go_wp2
  go_loopw [3, 4] (fun c i wr => ∃ k : Nat, k ≤ s.size ∧ i = .int .i64 k ∧ c = .int .i64 (M.code (s.data.toList.take k)) ∧ Dr w wr) (fun _ i _ => s.size - (intOf i).toNat)
  case atStart => exact ⟨0, Nat.zero_le _, rfl, by simp [M.code], Dr.refl _⟩
  case round =>
    obtain ⟨k, hk, rfl, rfl, hd⟩ := hrel
    have hcr := M.code_range (s.data.toList.take k)
    by_cases hlt : k < s.size
    · have hsn := M.code_snoc (s.data.toList.take k) s[k]
      rw [← take_snoc s k hlt] at hsn
      have HS := Lib.hid hsn
      clear hsn
      have hb : (s[k]).toNat < 256 := (s[k]).toNat_lt
      go_wp2
      go_quiet (first | (go_at_call 58; exact quiet_at (toQ (times_any _ _ _ (by omega) (by omega)))) | (go_at_call 57; exact quiet_at (toQ (refAdd_any _ _ _ (by omega) (by omega) (by omega)))))
      go_wp2
      go_roundw
      case rel => exact ⟨k + 1, by omega, by go_num, by rw [HS.out, M.emod_add_left, Int.mul_comm], hd.drewN _⟩
      case measure => simp [intOf]; omega
    · go_wp2
      go_ret
      exact ⟨ret_int (by rw [List.take_of_length_le (by simp; omega)]), hd⟩

/-- What Mul gives. -/
def mulS (a b : Int) : Int := if (0 ≤ a ∧ a < 2305843009213693951) ∧ 0 ≤ b ∧ b < 2305843009213693951 then a * b % 2305843009213693951 else 0

end Go.Proofs.YtmibpagajenndaaDoor
