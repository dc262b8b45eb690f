/- Contracts of the small functions of rolling, winnow and of their references. -/
import Derived.Test.YtmibpagajenndaaDoorRows
import Derived.Test.YtmibpagajenndaaDoorShelf
import Derived.Test.YtmibpagajenndaaDoorRep
namespace Go.Proofs.YtmibpagajenndaaDoor
open Go.RowKit

theorem size_any (n : Int) (w : World) :
    Calls Tryd.prog 25 #[.int .i64 n] w fun e w' => e = .returned (.bool (decide (1 ≤ n ∧ n ≤ 1024))) ∧ w = w' := by
  by_cases h : 1 ≤ n
  all_goals
    go_enter Tryd.func25, Tryd.ntmps25
    go_wp2
    go_ret
    exact ⟨ret_bool (by simp [h] <;> omega), rfl⟩

theorem right_any (n : Int) (w : World) :
    Calls Tryd.prog 28 #[.int .i64 n] w fun e w' => e = .returned (.bool (decide (1 ≤ n ∧ n ≤ 1024))) ∧ w = w' := by
  by_cases h : 1 ≤ n
  all_goals
    go_enter Tryd.func28, Tryd.ntmps28
    go_wp2
    go_ret
    exact ⟨ret_bool (by simp [h] <;> omega), rfl⟩

theorem add_any (a b : Int) (w : World) (ha : 0 ≤ a) (hb : 0 ≤ b) (hab : a + b ≤ 6917529027641081850) :
    Calls Tryd.prog 37 #[.int .i64 a, .int .i64 b] w fun e w' => e = .returned (.int .i64 ((a + b) % 2305843009213693951)) ∧ w = w' := by
  go_enter Tryd.func37, Tryd.ntmps37
  go_wp2
  all_goals
    go_ret
    exact ⟨ret_int (by omega), rfl⟩

theorem refAdd_any (a b : Int) (w : World) (ha : 0 ≤ a) (hb : 0 ≤ b) (hab : a + b ≤ 6917529027641081850) :
    Calls Tryd.prog 57 #[.int .i64 a, .int .i64 b] w fun e w' => e = .returned (.int .i64 ((a + b) % 2305843009213693951)) ∧ w = w' := by
  go_enter Tryd.func57, Tryd.ntmps57
  go_wp2
  go_ret
  exact ⟨rfl, rfl⟩

end Go.Proofs.YtmibpagajenndaaDoor
