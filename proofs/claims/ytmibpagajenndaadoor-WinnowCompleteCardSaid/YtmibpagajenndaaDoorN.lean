/- Contracts of winnow's Least and of the reference's least, Least and Select. -/
import Derived.Test.YtmibpagajenndaaDoorI
import Derived.Test.YtmibpagajenndaaDoorW
namespace Go.Proofs.YtmibpagajenndaaDoor
open Go.RowKit

def gt (l : List Int) (j : Nat) : Int := l.getD j 0
theorem gt_get (l : List Int) (j : Nat) (h : j < l.length) : l[j] = gt l j := by unfold gt; simp [h]
attribute [irreducible] gt
theorem IntsAt.gcell {w : World} {A : Option Addr} {n : Nat} {l : List Int} (h : IntsAt w A n l) (hne : 0 < n) : ∃ b off, A = some ⟨b, off, none⟩ ∧ ∀ j, j < n → w.cell? ⟨b, off + j, none⟩ = some (.int .i64 (gt l j)) := by
  obtain ⟨rfl, _, h3⟩ := h
  obtain ⟨b, off, e, hc⟩ := h3 (List.length_pos_iff.1 hne)
  exact ⟨b, off, e, fun j hj => by rw [hc j hj, gt_get]⟩

theorem lst_next (g : Nat → Int) (a j : Nat) (h : a ≤ j) : W.lst g a (j + 1 - a) = if g j ≤ g (W.lst g a (j - a)) then j else W.lst g a (j - a) := by
  rw [show j + 1 - a = (j - a) + 1 by omega, W.lst, show a + (j - a) = j by omega]
theorem lst_first (g : Nat → Int) (a : Nat) : W.lst g a (a - a) = a := by rw [Nat.sub_self, W.lst]

set_option maxHeartbeats 400000 in
theorem least_nat (l : List Int) (A : Option Addr) (c n a k : Nat) (w : World) (hA : IntsAt w A n l) (hk : 0 < k) (hn : a + k ≤ n) :
    Calls Tryd.prog 44 #[.slice A n c, .int .i64 (a : Int), .int .i64 ((a : Int) + (k : Int))] w (Qu (.int .i64 (W.lst (gt l) a k : Nat)) w) := by
  obtain ⟨b, off, rfl, hc⟩ := hA.gcell (by omega)
  have hn63 : n ≤ 9223372036854775807 := by have := hA.1; have := hA.2.1; omega
  have HC := Lib.hid hc
  clear hc hA
  go_enter Tryd.func44, Tryd.ntmps44
  go_wp2
  go_loopw [7, 8] (fun o i wr => ∃ j : Nat, a ≤ j ∧ j ≤ a + k ∧ i = .int .i64 j ∧ o = .int .i64 (W.lst (gt l) a (j - a) : Nat) ∧ Dr w wr) (fun _ i _ => a + k - (intOf i).toNat)
  case atStart => exact ⟨a, Nat.le_refl _, by omega, rfl, by rw [lst_first], Dr.refl _⟩
  case round =>
    obtain ⟨j, hj1, hj2, rfl, rfl, hd⟩ := hrel
    by_cases hlt : j < a + k
    · have hp : W.lst (gt l) a (j - a) < n := by
        rcases Nat.eq_zero_or_pos (j - a) with h | h
        · rw [h, W.lst]; omega
        · have := (W.lst_spec (gt l) a (j - a) h).2.1; omega
      have hnx := lst_next (gt l) a j hj1
      have c0 := hd.keepc (HC.out j (by omega))
      have c1 := hd.keepc (HC.out _ hp)
      have hp1 : (W.lst (gt l) a (j - a) : Int) < n := by omega
      generalize W.lst (gt l) a (j - a) = p at *
      have HN := Lib.hid hnx
      clear hnx
      by_cases hle : gt l j ≤ gt l p
      · go_wp2
        go_quiet (fail)
        go_wp2
        go_roundw
        case rel => exact ⟨j + 1, by omega, by omega, by go_num, by rw [HN.out, if_pos hle], hd.drewN _⟩
        case measure => simp [intOf]; omega
      · go_wp2
        go_quiet (fail)
        go_wp2
        go_roundw
        case rel => exact ⟨j + 1, by omega, by omega, by go_num, by rw [HN.out, if_neg (by omega)], hd.drewN _⟩
        case measure => simp [intOf]; omega
    · go_wp2
      go_ret
      exact ⟨ret_int (by rw [show j - a = k by omega]), hd⟩

theorem least_int (l : List Int) (A : Option Addr) (c n : Nat) (f t : Int) (w : World) (hA : IntsAt w A n l) (h0 : 0 ≤ f) (h1 : f < t) (h2 : t ≤ n) :
    Calls Tryd.prog 44 #[.slice A n c, .int .i64 f, .int .i64 t] w (Qu (.int .i64 (W.lst (gt l) f.toNat (t - f).toNat : Nat)) w) := by
  have := least_nat l A c n f.toNat (t - f).toNat w hA (by omega) (by omega)
  rwa [show ((f.toNat : Nat) : Int) = f by omega, show f + (((t - f).toNat : Nat) : Int) = t by omega] at this

/-- What Least gives. -/
def leastOk (n f t : Int) : Bool := decide (0 ≤ f ∧ f < t ∧ t ≤ n)
def leastV (l : List Int) (f t : Int) : Value := if leastOk l.length f t then .tuple #[.int .i64 (W.lst (gt l) f.toNat (t - f).toNat : Nat), .int .i64 0] else .tuple #[.int .i64 0, .int .i64 3]

end Go.Proofs.YtmibpagajenndaaDoor
