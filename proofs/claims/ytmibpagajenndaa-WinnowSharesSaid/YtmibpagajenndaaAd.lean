/- The walk of WinnowShares. -/
import Derived.Test.YtmibpagajenndaaAc
namespace Go.Proofs.Ytmibpagajenndaa
open Go.RowKit

set_option maxHeartbeats 400000 in
theorem Shared_any (a b : List (Int × Int)) (A B : Option Addr) (c d n m : Nat) (w : World) (hA : PrAt w A n a) (hB : PrAt w B m b) (wa : PrWf a) (wb : PrWf b) (hn : n ≤ 60) (hm : m ≤ 60) :
    Calls Try.prog 31 #[.slice A n c, .slice B m d] w (RetPairs w (shL a b) (shE a b)) := by
  cases oa : ordB a with
  | true =>
    cases ob : ordB b with
    | true =>
      have h := Shared_ord a b A B c d n m w hA hB wa wb hn hm oa ob
      obtain ⟨e1, e2⟩ := sh_yes oa ob
      rw [e1, e2, ← hA.1, ← hB.1]
      exact h
    | false =>
      obtain ⟨e1, e2⟩ := sh_no (a := a) (b := b) (.inr ob)
      rw [e1, e2]
      have HA := Lib.hid hA
      have HB := Lib.hid hB
      have HOA := Lib.hid oa
      have HOB := Lib.hid ob
      clear hA hB oa ob e1 e2 wa wb
      go_enter Try.func31, Try.ntmps31
      go_wp2_with fail
      refine (ordered_is a _ _ _ true _ HA.out hn HOA.out).mono ?_
      rintro e w1 ⟨rfl, d1⟩
      go_wp2_with fail
      refine (ordered_is b _ _ _ false _ (HB.out.ext d1.ext) hm HOB.out).mono ?_
      rintro e w2 ⟨rfl, d2⟩
      go_wp2_with fail
      go_ret2
      exact ⟨_, rfl, own_pairs_nil _ _, (d1.trans d2).ext⟩
  | false =>
    obtain ⟨e1, e2⟩ := sh_no (a := a) (b := b) (.inl oa)
    rw [e1, e2]
    have HA := Lib.hid hA
    have HOA := Lib.hid oa
    clear hA hB oa e1 e2 wa wb
    go_enter Try.func31, Try.ntmps31
    go_wp2_with fail
    refine (ordered_is a _ _ _ false _ HA.out hn HOA.out).mono ?_
    rintro e w1 ⟨rfl, d1⟩
    go_wp2_with fail
    go_ret2
    exact ⟨_, rfl, own_pairs_nil _ _, d1.ext⟩

theorem PrAt.dr {w w' : World} {A : Option Addr} {n : Nat} {l : List (Int × Int)} (h : PrAt w A n l) (he : Dr w w') : PrAt w' A n l := h.ext he.ext
section
variable {H : Type} {enc : TypeId × Value → H} {w : World}
theorem op68 : Opens enc Try.prog w 68 prR := Opens.struct Try.underlying68 (by kernel_rfl) (.cons op3 rfl (.one op3 rfl))
theorem op45 : Opens enc Try.prog w 45 (sliceR prR) := Opens.slice Try.underlying45 (by kernel_rfl) (by decide) op68
end

set_option maxHeartbeats 800000 in
theorem winnowShares_walk (v0 v1 : Value) (a0 a1 : List (Int × Int)) {w : World} (r0 : (sliceR prR).val w a0 v0) (r1 : (sliceR prR).val w a1 v1) :
    Calls Try.prog 8 #[v0, v1] w (Al (.bool true) w) := by
  obtain ⟨A, c, rfl, hA⟩ := val_slice r0
  obtain ⟨B, d, rfl, hB⟩ := val_slice r1
  clear r0 r1
  have i0 := PrAt.of_slice hA
  have i1 := PrAt.of_slice hB
  have wa := PrWf.of_slice hA
  have wb := PrWf.of_slice hB
  obtain ⟨n, hn⟩ : ∃ n, n = a0.length := ⟨_, rfl⟩
  obtain ⟨m, hm⟩ : ∃ m, m = a1.length := ⟨_, rfl⟩
  rw [← hn] at i0 ⊢
  rw [← hm] at i1 ⊢
  have b0 := i0.2.1
  have b1 := i1.2.1
  have I0 := Lib.hid i0
  have I1 := Lib.hid i1
  have WA := Lib.hid wa
  have WB := Lib.hid wb
  clear hn hm hA hB wa wb i0 i1
  by_cases h0 : n ≤ 60
  · by_cases h1 : m ≤ 60
    · go_enter Try.func8, Try.ntmps8
      go_wp2_with (go_at_call 14; refine (awake25 _).mono ?_; rintro e w1 ⟨rfl, d1⟩)
      refine (Shared_any a0 a1 _ _ _ _ _ _ _ (I0.out.ext d1) (I1.out.ext d1) WA.out WB.out h0 h1).mono ?_
      rintro e w2 ⟨v2, rfl, o2, d2⟩
      go_wp2_with fail
      refine (refShared_any a0 a1 _ _ _ _ _ _ _ ((I0.out.ext d1).ext d2) ((I1.out.ext d1).ext d2) h0 h1).mono ?_
      rintro e w3 ⟨v3, rfl, o3, d3⟩
      obtain ⟨A2, c2, rfl, i2⟩ := PrAt.of_own (o2.ext d3)
      obtain ⟨A3, c3, rfl, i3⟩ := PrAt.of_own o3
      generalize (shL a0 a1).length = N at i2 i3 ⊢
      have I2 := Lib.hid i2
      have I3 := Lib.hid i3
      clear i2 i3 o2 o3
      go_wp2_with fail
      refine (EqualPairs_q _ _ _ _ _ _ _ I2.out I3.out).mono ?_
      rintro e w4 ⟨rfl, d4⟩
      go_wp2_with fail
      go_ret
      exact ⟨ret_bool (by simp), ((d1.trans d2).trans d3).dr d4⟩
    · go_enter Try.func8, Try.ntmps8
      go_wp2_with (go_at_call 14; refine (awake25 _).mono ?_; rintro e w1 ⟨rfl, d1⟩)
      go_ret
      exact ⟨rfl, d1⟩
  · go_enter Try.func8, Try.ntmps8
    go_wp2_with (go_at_call 14; refine (awake25 _).mono ?_; rintro e w1 ⟨rfl, d1⟩)
    go_ret
    exact ⟨rfl, d1⟩

end Go.Proofs.Ytmibpagajenndaa
