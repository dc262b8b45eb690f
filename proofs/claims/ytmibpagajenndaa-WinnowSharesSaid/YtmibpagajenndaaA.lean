/- Contracts of the small functions of rolling, winnow and of their references. -/
import Derived.Test.YtmibpagajenndaaRows
import Derived.Test.YtmibpagajenndaaShelf
import Derived.Test.YtmibpagajenndaaRep
namespace Go.Proofs.Ytmibpagajenndaa
open Go.RowKit

theorem size_any (n : Int) (w : World) :
    Calls Try.prog 46 #[.int .i64 n] w fun e w' => e = .returned (.bool (decide (1 ≤ n ∧ n ≤ 1024))) ∧ w = w' := by
  by_cases h : 1 ≤ n
  all_goals
    go_enter Try.func46, Try.ntmps46
    go_wp2
    go_ret
    exact ⟨ret_bool (by simp [h] <;> omega), rfl⟩

theorem right_any (n : Int) (w : World) :
    Calls Try.prog 47 #[.int .i64 n] w fun e w' => e = .returned (.bool (decide (1 ≤ n ∧ n ≤ 1024))) ∧ w = w' := by
  by_cases h : 1 ≤ n
  all_goals
    go_enter Try.func47, Try.ntmps47
    go_wp2
    go_ret
    exact ⟨ret_bool (by simp [h] <;> omega), rfl⟩

theorem residue_any (n : Int) (w : World) :
    Calls Try.prog 53 #[.int .i64 n] w fun e w' => e = .returned (.bool (decide (0 ≤ n ∧ n < 2305843009213693951))) ∧ w = w' := by
  by_cases h : 0 ≤ n
  all_goals
    go_enter Try.func53, Try.ntmps53
    go_wp2
    go_ret
    exact ⟨ret_bool (by simp [h] <;> omega), rfl⟩

theorem refResidue_any (n : Int) (w : World) :
    Calls Try.prog 30 #[.int .i64 n] w fun e w' => e = .returned (.bool (decide (0 ≤ n ∧ n < 2305843009213693951))) ∧ w = w' := by
  by_cases h : 0 ≤ n
  all_goals
    go_enter Try.func30, Try.ntmps30
    go_wp2
    go_ret
    exact ⟨ret_bool (by simp [h] <;> omega), rfl⟩

theorem add_any (a b : Int) (w : World) (ha : 0 ≤ a) (hb : 0 ≤ b) (hab : a + b ≤ 6917529027641081850) :
    Calls Try.prog 49 #[.int .i64 a, .int .i64 b] w fun e w' => e = .returned (.int .i64 ((a + b) % 2305843009213693951)) ∧ w = w' := by
  go_enter Try.func49, Try.ntmps49
  go_wp2
  all_goals
    go_ret
    exact ⟨ret_int (by omega), rfl⟩

theorem refAdd_any (a b : Int) (w : World) (ha : 0 ≤ a) (hb : 0 ≤ b) (hab : a + b ≤ 6917529027641081850) :
    Calls Try.prog 51 #[.int .i64 a, .int .i64 b] w fun e w' => e = .returned (.int .i64 ((a + b) % 2305843009213693951)) ∧ w = w' := by
  go_enter Try.func51, Try.ntmps51
  go_wp2
  go_ret
  exact ⟨rfl, rfl⟩

end Go.Proofs.Ytmibpagajenndaa
