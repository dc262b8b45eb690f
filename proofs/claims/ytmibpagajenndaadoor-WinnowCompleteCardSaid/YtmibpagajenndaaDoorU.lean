/- The reference's Shared. -/
import Derived.Test.YtmibpagajenndaaDoorV
import Derived.Laws.StructEq
import Derived.ChangeKeysEq
namespace Go.Proofs.YtmibpagajenndaaDoor
open Go.RowKit

def RetPairs (w : World) (L : List (Int × Int)) (er : Int) (e : Ending) (w' : World) : Prop := ∃ v, e = .returned (.tuple #[v, .int .i64 er]) ∧ OwnPairs w' w.heap.size v L ∧ Ext w w'
theorem ordered_is (l : List (Int × Int)) (A : Option Addr) (c n : Nat) (B : Bool) (w : World) (hA : PrAt w A n l) (hl : n ≤ 60) (h : ordB l = B) : Calls Tryd.prog 34 #[.slice A n c] w (Qu (.bool B) w) := h ▸ ordered_q l A c n w hA hl
theorem own_pairs_nil (w : World) (b : Nat) : OwnPairs w b (.slice none 0 0) [] := OwnAt.nil _ _ _ _

/-- A step of the inner loop. -/
theorem prs_hit (a b : List (Int × Int)) (m k j : Nat) (h : hh a k = hh b j) : prs a b m k ++ with1 (pp a k) (col b (hh a k) (j + 1)) = prs a b m k ++ with1 (pp a k) (col b (hh a k) j) ++ [(pp a k, pp b j)] := by
  rw [col, if_pos h.symm, with1_append, ← List.append_assoc]; rfl
theorem prs_miss (a b : List (Int × Int)) (m k j : Nat) (h : ¬ hh a k = hh b j) : prs a b m k ++ with1 (pp a k) (col b (hh a k) (j + 1)) = prs a b m k ++ with1 (pp a k) (col b (hh a k) j) := by
  rw [col, if_neg (Ne.symm h), List.append_nil]
def partN (a b : List (Int × Int)) (m k j : Nat) : Nat := (prs a b m k ++ with1 (pp a k) (col b (hh a k) j)).length
theorem partN_le (a b : List (Int × Int)) (m k j : Nat) (hm : m ≤ 60) (hk : k ≤ 60) (hj : j ≤ 60) : partN a b m k j ≤ 3660 := by
  have h1 := prs_len a b m k
  have h2 := col_len b (hh a k) j
  have h3 : k * m ≤ 60 * 60 := Nat.mul_le_mul hk hm
  unfold partN
  rw [List.length_append, with1_len]
  omega
def prsN (a b : List (Int × Int)) (m k : Nat) : Nat := (prs a b m k).length

def shL (a b : List (Int × Int)) : List (Int × Int) := if ordB a = true ∧ ordB b = true then (if (prs a b b.length a.length).length ≤ 1024 then prs a b b.length a.length else []) else []
def shE (a b : List (Int × Int)) : Int := if ordB a = true ∧ ordB b = true then (if (prs a b b.length a.length).length ≤ 1024 then 0 else 10) else 5
theorem sh_yes {a b : List (Int × Int)} (oa : ordB a = true) (ob : ordB b = true) : shL a b = (if (prs a b b.length a.length).length ≤ 1024 then prs a b b.length a.length else []) ∧ shE a b = (if (prs a b b.length a.length).length ≤ 1024 then 0 else 10) := by
  have h : ordB a = true ∧ ordB b = true := ⟨oa, ob⟩
  exact ⟨if_pos h, if_pos h⟩
theorem sh_no {a b : List (Int × Int)} (h : ordB a = false ∨ ordB b = false) : shL a b = [] ∧ shE a b = 5 := by
  have : ¬ (ordB a = true ∧ ordB b = true) := by rintro ⟨h1, h2⟩; rcases h with h | h <;> simp_all
  exact ⟨if_neg this, if_neg this⟩
attribute [irreducible] shL shE

theorem PrAt.of_own {w : World} {base : Nat} {v : Value} {l : List (Int × Int)} (h : OwnPairs w base v l) : ∃ A c, v = .slice A l.length c ∧ PrAt w A l.length l := by
  obtain ⟨h1, h2 | ⟨g, off, cap, cur, rfl, hb, hh', hnc, hc, hs, hx⟩⟩ := id h
  · obtain ⟨rfl, h0⟩ := h2
    rw [h0]
    exact ⟨none, 0, rfl, by rw [h0], by omega, fun h => absurd h (Nat.lt_irrefl 0)⟩
  · refine ⟨_, _, rfl, rfl, by omega, fun hn => ⟨g, off, rfl, fun j hj => ?_⟩⟩
    obtain ⟨g', o', c', e, _, _, _, _, hcc⟩ := OwnAt.cells h hn
    cases e
    have := pcells_get l j hj
    rw [hh_get _ _ hj, pp_get _ _ hj] at this
    exact ⟨hcc _ _ this.1, hcc _ _ this.2⟩

theorem neq_pair (x y : Int) (w : World) : (binOp .neq 45 (.agg #[.int .i64 x, .int .i64 y]) (.agg #[.int .i64 x, .int .i64 y])).run Tryd.prog w = .ok (.bool false) w := by
  obtain ⟨i0, hi, hz0, hz1, hz2⟩ := info_parts int_info
  rw [run_neq_struct, show (10000 : Nat) = 9999 + 1 from rfl, run_equalIn_array w 9999 _ _ Tryd.underlying45 hi]
  go_simp
  have hc : Tryd.prog.cellsOf 3 = 1 := by kernel_rfl
  have u3 := Tryd.underlying3
  have a3 := Tryd.isAgg3
  have z3 := Tryd.sizeOf3
  rw [hc]
  simp only [Op.eqItems]
  go_simp
theorem guard_pair (op : BinOp) (a b : Operand) (xs ys : Array Value) (w : World) : (eqGuard op 45 a b (.agg xs) (.agg ys)).run Tryd.prog w = .ok () w := run_eqGuard_agg w op 45 a b xs ys (by kernel_rfl)

end Go.Proofs.YtmibpagajenndaaDoor
