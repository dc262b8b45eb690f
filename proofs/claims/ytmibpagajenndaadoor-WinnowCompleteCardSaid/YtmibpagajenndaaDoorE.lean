/- Contracts of Join, Roll and their references. -/
import Derived.Test.YtmibpagajenndaaDoorD
namespace Go.Proofs.YtmibpagajenndaaDoor
open Go.RowKit

/-- What Roll gives. -/
def rollOk (h k : Int) : Bool := decide ((0 ≤ h ∧ h < 2305843009213693951) ∧ 1 ≤ k ∧ k ≤ 8192)
def rollV (h : Int) (out inn : List UInt8) (k : Int) : Value := if rollOk h k then .tuple #[.int .i64 (M.roll h out inn (M.pw 1000003 (k - 1).toNat)), .int .i64 0] else .tuple #[.int .i64 0, .int .i64 3]

theorem roll_q (h : Int) (o i : ByteArray) (top : Int) (w : World) (hh : 0 ≤ h ∧ h < 2305843009213693951) (ht : 0 ≤ top ∧ top < 2305843009213693951) (ho : o.size ≤ 9223372036854775807) (hi : i.size ≤ 9223372036854775807) :
    Calls Tryd.prog 40 #[.int .i64 h, .string o, .string i, .int .i64 top] w (Qu (.int .i64 (M.roll h o.data.toList i.data.toList top)) w) := by
  have hc := M.code_range o.data.toList
  have hm : Hid (M.roll h o.data.toList i.data.toList top = M.next ((h + (2305843009213693951 - (M.code o.data.toList + 1) % 2305843009213693951 * top % 2305843009213693951)) % 2305843009213693951) i.data.toList) := by unfold Hid M.roll; rfl
  have hr := M.mul_range (show 0 ≤ (M.code o.data.toList + 1) % 2305843009213693951 ∧ (M.code o.data.toList + 1) % 2305843009213693951 < 2305843009213693951 by omega) ht
  go_enter Tryd.func40, Tryd.ntmps40
  go_wp2_with (first | (go_at_call 20; refine (code_q _ _ ho).mono ?_; rintro e w1 ⟨rfl, hd⟩) | (go_at_call 37; refine (add_any _ _ _ (by omega) (by omega) (by omega)).mono ?_; rintro e w' ⟨rfl, rfl⟩) | (go_at_call 38; refine (mul_any _ _ _ (by omega) (by omega)).mono ?_; rintro e w' ⟨rfl, rfl⟩) | (go_at_call 22; refine (push_q _ _ _ (by omega) hi).mono ?_; rintro e w2 ⟨rfl, hd2⟩))
  go_ret
  exact ⟨by rw [hm.out]; simp, hd.trans hd2⟩

theorem power_int (n : Int) (w : World) (h0 : 0 ≤ n) (h1 : n ≤ 8192) : Calls Tryd.prog 39 #[.int .i64 n] w fun e w' => e = .returned (.int .i64 (M.pw 1000003 n.toNat)) ∧ w = w' := by
  obtain ⟨N, rfl⟩ := Int.eq_ofNat_of_zero_le h0
  exact power_any N w (by omega)
end Go.Proofs.YtmibpagajenndaaDoor
