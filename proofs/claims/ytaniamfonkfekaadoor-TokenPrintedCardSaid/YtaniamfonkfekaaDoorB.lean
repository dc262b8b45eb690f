/- Contract of token's Number. -/
import Derived.Test.YtaniamfonkfekaaDoorA
import Derived.Laws.RangeString
namespace Go.Proofs.YtaniamfonkfekaaDoor
open Go.RowKit Go.Lib

theorem numOk_iff (s : ByteArray) (h0 : 0 < s.size) : K.numOk s.data.toList = (decide (K.run false s.data.toList = s.size) && !(decide (1 < s.size) && decide ((s[0].toNat : Int) = 48))) := by
  obtain ⟨p1, p2, p3⟩ := str_pos s h0
  have hl : s.data.toList.length = s.size := by simp
  have h1 : s.data.toList ≠ [] := by rw [p3]; simp
  have h2 : (s.data.toList[0]? = some 48) ↔ ((s[0].toNat : Int) = 48) := by
    rw [p3]
    simp only [List.getElem?_cons_zero, Option.some.injEq]
    constructor
    · intro h; rw [h]; rfl
    · intro h
      apply UInt8.toNat.inj
      have : s[0].toNat = 48 := by omega
      rw [this]; rfl
  unfold K.numOk
  rw [hl]
  simp only [h1, ne_eq, not_false_eq_true, decide_true, Bool.true_and, h2]

set_option maxHeartbeats 1000000 in
theorem Number_any (s : ByteArray) (w : World) (hs : s.size ≤ 9223372036854775807) :
    Calls Tryd.prog 9 #[.string s] w (Al (.tuple #[.int .u32 ((K.number s.data.toList).1 : Nat), .int .i64 (K.number s.data.toList).2]) w) := by
  have hl : s.data.toList.length = s.size := by simp
  by_cases h0 : 0 < s.size
  · obtain ⟨p1, p2, p3⟩ := str_pos s h0
    have hok := numOk_iff s h0
    by_cases hr : K.run false s.data.toList = s.size
    · have e1 : ((K.run false s.data.toList : Int) != (s.size : Int)) = false := by rw [hr]; simp
      have HE1 := Lib.hid e1
      by_cases h1 : 1 < s.size ∧ (s[0].toNat : Int) = 48
      · have hn : Hid (K.number s.data.toList = (0, 4)) := by
          unfold Hid K.number
          rw [if_neg]
          rw [hok]
          simp [h1]
        have e2 : ((s[0].toNat : Int) == 48) = true := by simpa using h1.2
        have e3 : 1 < s.size := h1.1
        have HR := Lib.hid hr
        clear h1 hok hl p3 hr e1
        go_enter Tryd.func9, Tryd.ntmps9
        go_wp2_with (go_at_call 16; refine (run_any _ _ _).mono ?_; rw [HR.out]; rintro e w1 ⟨rfl, d1⟩)
        go_ret2
        exact ⟨by rw [hn.out]; rfl, d1⟩
      · have hok' : K.numOk s.data.toList = true := by
          rw [hok]
          simp only [hr, decide_true, Bool.true_and]
          rcases Decidable.em (1 < s.size) with h3 | h3
          · have : ¬ (s[0].toNat : Int) = 48 := fun h => h1 ⟨h3, h⟩
            simp [this]
          · simp [h3]
        have hn : Hid (K.number s.data.toList = if 4294967295 < K.val s.data.toList then (0, 3) else (K.val s.data.toList, 0)) := by
          unfold Hid K.number
          rw [if_pos hok']
        have hdig : Hid (∀ k (h : k < s.size), 48 ≤ s[k].toNat ∧ s[k].toNat ≤ 57) := by
          intro k h
          have := K.runWithin false s.data.toList k (by omega) (by omega)
          have e : s.data.toList[k]'(by omega) = s[k] := rfl
          rw [e] at this
          simp [K.word, K.wordN, K.digitN] at this
          omega
        have hts : Hid (∀ k (h : k < s.size), K.val (s.data.toList.take (k + 1)) = 10 * K.val (s.data.toList.take k) + (s[k].toNat - 48)) := by
          intro k h
          rw [List.take_succ_eq_append_getElem (by omega), K.val_snoc]
          rfl
        have hvt : Hid (∀ k, K.val (s.data.toList.take k) ≤ K.val s.data.toList) := fun k => K.val_take _ _
        have hv0 : Hid (K.val (s.data.toList.take 0) = 0) := rfl
        have hall : Hid (s.data.toList.take s.size = s.data.toList) := List.take_of_length_le (by omega)
        have HR := Lib.hid hr
        clear hok hok' hl p3 hr e1
        by_cases h3 : 1 < s.size
        all_goals
          first
            | have e2 : ((s[0].toNat : Int) == 48) = false := by simp; omega
            | skip
          go_enter Tryd.func9, Tryd.ntmps9
          go_wp2_with (go_at_call 16; refine (run_any _ _ _).mono ?_; rw [HR.out]; rintro e w1 ⟨rfl, d1⟩)
          go_loopw [4] (fun n wr => ∃ k : Nat, k ≤ s.size ∧ K.val (s.data.toList.take k) ≤ 4294967295 ∧ n = .int .u64 ((K.val (s.data.toList.take k) : Nat) : Int) ∧ wr = w1.iter s k) (fun _ wr => s.size - wr.iterPos w1.heap.size)
          case atStart => exact ⟨0, Nat.zero_le _, by rw [hv0.out]; omega, by rw [hv0.out]; rfl, rfl⟩
          case round =>
            obtain ⟨k, hk, hvk, rfl, rfl⟩ := hrel
            by_cases hlt : k < s.size
            · obtain ⟨g1, g2⟩ := hdig.out k hlt
              have hnx := fun ty => run_next_ascii (P := Tryd.prog) w1 s k ty hlt (by omega)
              have hst := hts.out k hlt
              generalize K.val (s.data.toList.take k) = v at *
              generalize s[k].toNat = c at *
              have HST := Lib.hid hst
              clear hst
              have HVT := hvt.out (k + 1)
              by_cases hbig : 4294967295 < 10 * v + (c - 48)
              · go_wp2_with fail
                go_ret2
                exact ⟨by rw [hn.out, if_pos (by have := HST.out; omega)]; rfl, d1.alloc _⟩
              · go_wp2_with fail
                go_roundw
                case rel => exact ⟨k + 1, by omega, by rw [HST.out]; omega, by rw [HST.out]; exact congrArg (Value.int .u64) (by omega), rfl⟩
                case measure => simp; omega
            · obtain rfl : k = s.size := by omega
              have hnx := fun ty => run_next_end (P := Tryd.prog) w1 s s.size ty hlt
              rw [hall.out] at hvk ⊢
              go_wp2_with fail
              go_ret2
              exact ⟨by rw [hn.out, if_neg (by omega)]; rfl, d1.alloc _⟩
    · have hn : Hid (K.number s.data.toList = (0, 4)) := by
        unfold Hid K.number
        rw [if_neg]
        rw [hok]
        simp [hr]
      have e1 : ((K.run false s.data.toList : Int) != (s.size : Int)) = true := by simp; omega
      clear hok hl p3 hr
      go_enter Tryd.func9, Tryd.ntmps9
      go_wp2_with (go_at_call 16; refine (run_any _ _ _).mono ?_; rintro e w1 ⟨rfl, d1⟩)
      go_ret2
      exact ⟨by rw [hn.out]; rfl, d1⟩
  · have he : s.data.toList = [] := List.eq_nil_of_length_eq_zero (by omega)
    have hn : Hid (K.number s.data.toList = (0, 4)) := by rw [he]; rfl
    have e1 : s.toList.isEmpty = true := by rw [ByteArray.toList_eq, he]; rfl
    clear he hl
    go_enter Tryd.func9, Tryd.ntmps9
    go_wp2
    go_ret2
    exact ⟨by rw [hn.out]; rfl, Ext.refl _⟩
end Go.Proofs.YtaniamfonkfekaaDoor
