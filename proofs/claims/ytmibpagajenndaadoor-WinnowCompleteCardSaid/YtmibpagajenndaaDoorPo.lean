/- slices.ContainsFunc of pairs; the law's test of a pair. -/
import Derived.Test.YtmibpagajenndaaDoorPn
namespace Go.Proofs.YtmibpagajenndaaDoor
open Go.RowKit

set_option maxHeartbeats 400000 in
theorem hit_any (x y p q k n : Int) (bp bq bk bn : Nat) (w : World) (c1 : w.cell? ⟨bp, 0, none⟩ = some (.int .i64 p)) (c2 : w.cell? ⟨bq, 0, none⟩ = some (.int .i64 q)) (c3 : w.cell? ⟨bk, 0, none⟩ = some (.int .i64 k)) (c4 : w.cell? ⟨bn, 0, none⟩ = some (.int .i64 n))
    (hx : 0 ≤ x ∧ x ≤ 10000) (hy : 0 ≤ y ∧ y ≤ 10000) (hp : 0 ≤ p ∧ p ≤ 10000) (hq : 0 ≤ q ∧ q ≤ 10000) (hk : 0 ≤ k ∧ k ≤ 10000) (hn : 0 ≤ n ∧ n ≤ 10000) :
    Calls Tryd.prog 19 #[.agg #[.int .i64 x, .int .i64 y], .pointer (some ⟨bp, 0, none⟩), .pointer (some ⟨bq, 0, none⟩), .pointer (some ⟨bk, 0, none⟩), .pointer (some ⟨bn, 0, none⟩)] w (Al (.bool (hitB p q k n (x, y))) w) := by
  have hv : Hid (hitB p q k n (x, y) = (decide (x - p = y - q) && decide (p ≤ x) && decide (x + k ≤ p + n))) := rfl
  have l1 := World.block_lt_of_cell? w _ c1
  have l2 := World.block_lt_of_cell? w _ c2
  have l3 := World.block_lt_of_cell? w _ c3
  have l4 := World.block_lt_of_cell? w _ c4
  have d1 := alloc_keepc (.cells #[.int .i64 x, .int .i64 y] 45) c1
  have d2 := alloc_keepc (.cells #[.int .i64 x, .int .i64 y] 45) c2
  have d3 := alloc_keepc (.cells #[.int .i64 x, .int .i64 y] 45) c3
  have d4 := alloc_keepc (.cells #[.int .i64 x, .int .i64 y] 45) c4
  clear c1 c2 c3 c4
  go_enter Tryd.func19, Tryd.ntmps19
  go_wp2_with fail
  all_goals
    go_ret
    refine ⟨ret_bool ?_, (Ext.refl w).alloc _⟩
    rw [hv.out]
    simp
    try omega

set_option maxHeartbeats 400000 in
theorem IndexPairs (l : List (Int × Int)) (A : Option Addr) (c L g : Nat) (lb : Array Value) (p : Int × Int → Bool) (w : World) (eg : ∀ args w, (callFunc g args).run Tryd.prog w = .ok (.enter g args) w) (hL2 : L ≤ 9000000)
    (hA : PrAt w A L l) (hp : ∀ j, j < L → ∀ w', Ext w w' → Calls Tryd.prog g (#[.agg #[.int .i64 (hh l j), .int .i64 (pp l j)]] ++ lb) w' (Al (.bool (p (hh l j, pp l j))) w')) :
    Calls Tryd.prog 36 #[.slice A L c, .func (.func g) #[] lb] w fun e w' => (∃ i : Int, e = .returned (.int .i64 i) ∧ decide (0 ≤ i) = l.any p) ∧ Ext w w' := by
  have HL := Lib.hid hA.1
  have HA := Lib.hid hA.2.2
  have HP := Lib.hid hp
  clear hA hp
  have hpair : ∀ j (h : j < l.length), p l[j] = p (hh l j, pp l j) := fun j h => by rw [← hh_get l j h, ← pp_get l j h]
  have HPR := Lib.hid hpair
  clear hpair
  go_enter Tryd.func36, Tryd.ntmps36
  go_wp2_with fail
  go_loopw [5, 8] (fun _ i wr => ∃ k : Nat, k ≤ L ∧ i = .int .i64 k ∧ Hid (∀ j (h : j < l.length), j < k → p l[j] = false) ∧ Ext w wr) (fun _ i _ => L - (intOf i).toNat)
  case atStart => exact ⟨0, Nat.zero_le _, rfl, fun j _ hj => absurd hj (Nat.not_lt_zero _), Ext.refl _⟩
  case round =>
    obtain ⟨k, hk, rfl, hno, hd⟩ := hrel
    by_cases hlt : k < L
    · obtain ⟨b, off, rfl, hcs⟩ := HA.out (by omega)
      have c0 := hd.keepc (hcs k hlt).1
      have c1 := hd.keepc (hcs k hlt).2
      have hcall := HP.out k hlt wr hd
      have hkp := HPR.out k (by rw [← HL.out]; exact hlt)
      clear hcs
      obtain ⟨bb, hbb⟩ : ∃ bb, p (hh l k, pp l k) = bb := ⟨_, rfl⟩
      rw [hbb] at hcall hkp
      generalize hh l k = x at *
      generalize pp l k = y at *
      have HK := Lib.hid hcall
      have HPK := Lib.hid hkp
      clear hcall hkp hbb
      cases bb with
      | true =>
        go_wp2_with (go_at_fn g; refine HK.out.mono ?_; rintro e w1 ⟨rfl, d1⟩)
        go_ret
        refine ⟨⟨_, rfl, ?_⟩, hd.trans d1⟩
        rw [List.any_eq_true.2 ⟨l[k]'(by rw [← HL.out]; exact hlt), List.getElem_mem _, HPK.out⟩]
        simp
      | false =>
        go_wp2_with (go_at_fn g; refine HK.out.mono ?_; rintro e w1 ⟨rfl, d1⟩)
        go_roundw
        case rel =>
          refine ⟨k + 1, by omega, by go_num, fun j h hj => ?_, hd.trans d1⟩
          by_cases e : j = k
          · subst e; exact HPK.out
          · exact hno.out j h (by omega)
        case measure => simp [intOf]; omega
    · have hkL : k = L := by omega
      go_wp2_with fail
      go_ret
      refine ⟨⟨_, rfl, ?_⟩, hd⟩
      have : l.any p = false := by
        rw [List.any_eq_false]
        intro x hx
        obtain ⟨j, hj, rfl⟩ := List.getElem_of_mem hx
        have := hno.out j hj (by have := HL.out; omega)
        simp [this]
      rw [this]
      rfl

set_option maxHeartbeats 400000 in
theorem ContainsPairs (l : List (Int × Int)) (A : Option Addr) (c L g : Nat) (lb : Array Value) (p : Int × Int → Bool) (w : World) (eg : ∀ args w, (callFunc g args).run Tryd.prog w = .ok (.enter g args) w) (hL2 : L ≤ 9000000)
    (hA : PrAt w A L l) (hp : ∀ j, j < L → ∀ w', Ext w w' → Calls Tryd.prog g (#[.agg #[.int .i64 (hh l j), .int .i64 (pp l j)]] ++ lb) w' (Al (.bool (p (hh l j, pp l j))) w')) :
    Calls Tryd.prog 18 #[.slice A L c, .func (.func g) #[] lb] w (Al (.bool (l.any p)) w) := by
  have h := IndexPairs l A c L g lb p w eg hL2 hA hp
  obtain ⟨B, hB⟩ : ∃ B, B = l.any p := ⟨_, rfl⟩
  rw [← hB] at h ⊢
  have HH := Lib.hid h
  clear h hp hB eg hA
  go_enter Tryd.func18, Tryd.ntmps18
  go_wp2_with fail
  refine HH.out.mono ?_
  rintro e w1 ⟨⟨i, rfl, hi⟩, d1⟩
  go_wp2_with fail
  go_ret
  exact ⟨rfl, d1⟩
theorem eg19 : ∀ (args : Array Value) (w : World), (callFunc 19 args).run Tryd.prog w = .ok (.enter 19 args) w := enters_of Tryd.func19 (by kernel_rfl) rfl

end Go.Proofs.YtmibpagajenndaaDoor
