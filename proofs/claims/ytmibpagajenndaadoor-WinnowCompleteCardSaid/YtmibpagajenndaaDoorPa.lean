/- Names of files: tree.part, tree.Path. -/
import Derived.Test.YtmibpagajenndaaDoorAc
namespace Go.Proofs.YtmibpagajenndaaDoor
open Go.RowKit

/-- The letters of a name. -/
def runeB (n : Int) : Bool := (decide (97 ≤ n) && decide (n ≤ 122)) || (decide (48 ≤ n) && decide (n ≤ 57)) || decide (n = 46) || decide (n = 95) || decide (n = 45)

set_option maxHeartbeats 400000 in
theorem pred56 (w : World) : PredAt Tryd.prog 56 #[] encR (fun r => !runeB (r : Int)) w := by
  intro W x hb
  have hv : Hid (runeB (x : Int) = ((decide (97 ≤ (x : Int)) && decide ((x : Int) ≤ 122)) || (decide (48 ≤ (x : Int)) && decide ((x : Int) ≤ 57)) || decide ((x : Int) = 46) || decide ((x : Int) = 95) || decide ((x : Int) = 45))) := rfl
  unfold FnGives
  by_cases h1 : 97 ≤ (x : Int) ∧ (x : Int) ≤ 122
  · obtain ⟨g1, g2⟩ := h1
    go_enter Tryd.func56, Tryd.ntmps56
    go_wp2_with fail
    go_ret
    exact ⟨ret_bool (by rw [hv.out]; simp; omega), 0, rfl⟩
  · by_cases h2 : 48 ≤ (x : Int) ∧ (x : Int) ≤ 57
    · obtain ⟨g1, g2⟩ := h2
      go_enter Tryd.func56, Tryd.ntmps56
      go_wp2_with fail
      go_ret
      exact ⟨ret_bool (by rw [hv.out]; simp; omega), 0, rfl⟩
    · by_cases h3 : (x : Int) = 46
      · have e1 : ((x : Int) == 46) = true := by simp [h3]
        have g1 : (x : Int) < 48 := by omega
        have g2 : 0 ≤ (x : Int) := by omega
        clear h1 h2
        go_enter Tryd.func56, Tryd.ntmps56
        go_wp2_with fail
        go_ret
        exact ⟨ret_bool (by rw [hv.out]; simp [h3]), 0, rfl⟩
      · have e1 : ((x : Int) == 46) = false := by simp; omega
        have tail : ∀ b2 b3, ((x : Int) == 95) = b2 → ((x : Int) == 45) = b3 → runeB (x : Int) = (b2 || b3) → ((x : Int) < 48 ∨ (57 < (x : Int) ∧ (x : Int) < 97) ∨ 122 < (x : Int)) → Calls Tryd.prog 56 (#[encR x] ++ #[]) W fun e w' => e = Ending.returned (Value.bool ((fun r : Nat => !runeB (r : Int)) x)) ∧ ∃ q, w' = W.drewN q := by
          intro b2 b3 e2 e3 hr hc
          have HR := Lib.hid hr
          clear hr h1 h2 h3 hv
          rcases hc with g | ⟨g, g'⟩ | g <;> cases b2 <;> cases b3
          all_goals
            go_enter Tryd.func56, Tryd.ntmps56
            go_wp2_with fail
            go_ret
            exact ⟨ret_bool (by show _ = !runeB _; rw [HR.out]; first | rfl | (simp; omega)), 0, rfl⟩
        refine tail _ _ rfl rfl ?_ (by omega)
        rw [hv.out]
        have c1 : (decide (97 ≤ (x : Int)) && decide ((x : Int) ≤ 122)) = false := by simp; omega
        have c2 : (decide (48 ≤ (x : Int)) && decide ((x : Int) ≤ 57)) = false := by simp; omega
        have c3 : decide ((x : Int) = 46) = false := by simp; omega
        rw [c1, c2, c3]
        rfl

theorem eg56 : ∀ (args : Array Value) (w : World), (callFunc 56 args).run Tryd.prog w = .ok (.enter 56 args) w := enters_of Tryd.func56 (by kernel_rfl) rfl
/-- Are all letters those of a name? -/
def allRunes (s : ByteArray) : Bool := !decide (0 ≤ Lib.idxFunc (fun r => !runeB (r : Int)) true s)
/-- What a name is. -/
def partB (s : ByteArray) : Bool := if h : 0 < s.size then (if 32 < s.size then false else if s[0] = 46 then false else if s[0] = 45 then false else allRunes s) else false

set_option maxHeartbeats 400000 in
theorem part_any (s : ByteArray) (w : World) (hs : s.size ≤ 9223372036854775807) : Calls Tryd.prog 48 #[.string s] w (Al (.bool (partB s)) w) := by
  by_cases h0 : 0 < s.size
  · have hne : s.toList.isEmpty = false := by
      rw [ByteArray.toList_eq]
      have hl : s.data.toList.length = s.size := by simp
      cases hq : s.data.toList with
      | nil => rw [hq] at hl; simp at hl; omega
      | cons a l => rfl
    have HP : Hid (partB s = if 32 < s.size then false else if s[0] = 46 then false else if s[0] = 45 then false else allRunes s) := by unfold Hid partB; rw [dif_pos h0]
    have hb : s[0].toNat ≤ 255 := by have := s[0].toNat_lt; omega
    by_cases h32 : 32 < s.size
    · have hp : partB s = false := by rw [HP.out, if_pos h32]
      rw [hp]
      go_enter Tryd.func48, Tryd.ntmps48
      go_wp2_with fail
      go_ret
      exact ⟨rfl, Ext.refl _⟩
    · by_cases h46 : s[0] = 46
      · have hp : partB s = false := by rw [HP.out, if_neg h32, if_pos h46]
        have e1 : ((s[0].toNat : Int) == 46) = true := by rw [h46]; rfl
        rw [hp]
        go_enter Tryd.func48, Tryd.ntmps48
        go_wp2_with fail
        go_ret
        exact ⟨rfl, Ext.refl _⟩
      · have e1 : ((s[0].toNat : Int) == 46) = false := by
          simp only [beq_eq_false_iff_ne, ne_eq]
          intro e
          exact h46 (UInt8.toNat_inj.1 (by show s[0].toNat = 46; omega))
        by_cases h45 : s[0] = 45
        · have hp : partB s = false := by rw [HP.out, if_neg h32, if_neg h46, if_pos h45]
          have e2 : ((s[0].toNat : Int) == 45) = true := by rw [h45]; rfl
          rw [hp]
          go_enter Tryd.func48, Tryd.ntmps48
          go_wp2_with fail
          go_ret
          exact ⟨rfl, Ext.refl _⟩
        · have e2 : ((s[0].toNat : Int) == 45) = false := by
            simp only [beq_eq_false_iff_ne, ne_eq]
            intro e
            exact h45 (UInt8.toNat_inj.1 (by show s[0].toNat = 45; omega))
          obtain ⟨R, hR⟩ : ∃ R, decide (0 ≤ Lib.idxFunc (fun r => !runeB (r : Int)) true s) = R := ⟨_, rfl⟩
          have hp : partB s = !R := by rw [HP.out, if_neg h32, if_neg h46, if_neg h45, allRunes, hR]
          have HR := Lib.hid hR
          rw [hp]
          clear hR
          go_enter Tryd.func48, Tryd.ntmps48
          go_wp2_with fail
          refine (Tryd.strings_ContainsFunc 56 #[] eg56 (fun r => !runeB (r : Int)) s _ (pred56 _)).mono ?_
          rw [HR.out]
          rintro e w1 ⟨rfl, d1⟩
          go_wp2_with fail
          go_ret
          exact ⟨rfl, d1⟩
  · have hz : s.size = 0 := by omega
    have hp : partB s = false := by unfold partB; rw [dif_neg h0]
    have hne : s.toList.isEmpty = true := by
      rw [ByteArray.toList_eq]
      have hl : s.data.toList.length = s.size := by simp
      cases hq : s.data.toList with
      | nil => rfl
      | cons a l => rw [hq] at hl; simp at hl; omega
    rw [hp]
    clear h0
    go_enter Tryd.func48, Tryd.ntmps48
    go_wp2_with fail
    go_ret
    exact ⟨rfl, Ext.refl _⟩

end Go.Proofs.YtmibpagajenndaaDoor
