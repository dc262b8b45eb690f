/- The reference's names of paths. -/
import Derived.Test.YtmibpagajenndaaDoorPg
namespace Go.Proofs.YtmibpagajenndaaDoor
open Go.RowKit

/-- The letters of a name. -/
def okc (c : UInt8) : Bool := runeB (c.toNat : Int)
/-- A name, by its bytes. -/
def nameB (l : List UInt8) : Bool := decide (1 ≤ l.length) && decide (l.length ≤ 32) && l.head? != some 46 && l.head? != some 45 && l.all okc

theorem head_get (s : ByteArray) (h : 0 < s.size) : s.data.toList.head? = some s[0] := by
  have hl : 0 < s.data.toList.length := by simpa using h
  rw [List.head?_eq_getElem?, List.getElem?_eq_getElem hl]
  rfl
theorem name_of (s : ByteArray) (h : 0 < s.size) : nameB s.data.toList = (decide (s.size ≤ 32) && decide (¬ (s[0].toNat : Int) = 46) && decide (¬ (s[0].toNat : Int) = 45) && s.data.toList.all okc) := by
  have e1 : ∀ n : UInt8, (s.data.toList.head? != some n) = decide (¬ (s[0].toNat : Int) = (n.toNat : Int)) := by
    intro n
    rw [head_get s h, Bool.eq_iff_iff]
    have : s[0] = n ↔ s[0].toNat = n.toNat := UInt8.toNat_inj.symm
    simp [this]
    omega
  unfold nameB
  rw [e1 46, e1 45]
  have h1 : 1 ≤ s.size := h
  simp [h1]
theorem all_take_snoc (s : ByteArray) (k : Nat) (h : k < s.size) (p : UInt8 → Bool) : (s.data.toList.take (k + 1)).all p = ((s.data.toList.take k).all p && p s[k]) := by
  rw [take_snoc s k h, List.all_append]
  simp

/-- The ways of a letter through the tests. -/
theorem rune_ways (n : Int) : (runeB n = true ∧ ((97 ≤ n ∧ n ≤ 122) ∨ (48 ≤ n ∧ n ≤ 57) ∨ (n = 46 ∧ (n != 46) = false) ∨ (n = 95 ∧ (n != 46) = true ∧ (n != 95) = false) ∨ (n = 45 ∧ (n != 46) = true ∧ (n != 95) = true ∧ (n != 45) = false))) ∨
    (runeB n = false ∧ (n != 46) = true ∧ (n != 95) = true ∧ (n != 45) = true ∧ (122 < n ∨ (57 < n ∧ n < 97) ∨ n < 48)) := by
  unfold runeB
  simp
  omega
theorem all_miss {s : ByteArray} {k : Nat} {p : UInt8 → Bool} (h : k < s.size) (hp : p s[k] = false) : s.data.toList.all p = false := by
  rw [List.all_eq_false]
  exact ⟨s[k], by have : s[k] = s.data.toList[k]'(by simpa using h) := rfl
                  rw [this]; exact List.getElem_mem _, by simp [hp]⟩

/-- All letters up to k are those of a name. -/
def okTo (s : ByteArray) (k : Nat) : Prop := (s.data.toList.take k).all okc = true

set_option maxRecDepth 8000 in
set_option maxHeartbeats 1000000 in
theorem name_any (s : ByteArray) (w : World) (hs : s.size ≤ 9223372036854775807) : Calls Tryd.prog 51 #[.string s] w fun e w' => e = .returned (.bool (nameB s.data.toList)) ∧ w = w' := by
  by_cases h1 : 1 ≤ s.size
  · by_cases h2 : s.size ≤ 32
    · have hb : s[0].toNat ≤ 255 := by have := s[0].toNat_lt; omega
      have HN := Lib.hid (name_of s h1)
      go_enter Tryd.func51, Tryd.ntmps51
      go_wp2_with fail
      · have g : (s[0].toNat : Int) = 46 := by assumption
        go_ret
        exact ⟨ret_bool (by rw [HN.out]; simp [g]), rfl⟩
      · have g : (((s.size : Int) < 1 ∨ (32 : Int) < s.size) ∨ ((s[0].toNat : Int) == 46) = true) ∨ ((s[0].toNat : Int) == 45) = true := by assumption
        have g2 : (s[0].toNat : Int) = 46 ∨ (s[0].toNat : Int) = 45 := by simp at g; omega
        go_ret
        exact ⟨ret_bool (by rw [HN.out]; rcases g2 with g2 | g2 <;> simp [g2]), rfl⟩
      · have g : (((1 : Int) ≤ s.size ∧ (s.size : Int) ≤ 32) ∧ ((s[0].toNat : Int) == 46) = false) ∧ ((s[0].toNat : Int) == 45) = false := by assumption
        have g2 : ¬ (s[0].toNat : Int) = 46 ∧ ¬ (s[0].toNat : Int) = 45 := by simp at g; omega
        have G2 := Lib.hid g2
        clear g g2
        go_loop [3] (fun i => ∃ k : Nat, k ≤ s.size ∧ i = .int .i64 k ∧ okTo s k) (fun i => s.size - (intOf i).toNat)
        case atStart => exact ⟨0, Nat.zero_le _, rfl, rfl⟩
        case round =>
          obtain ⟨k, hk, rfl, HK⟩ := hrel
          by_cases hlt : k < s.size
          · have hx : s[k].toNat ≤ 255 := by have := s[k].toNat_lt; omega
            have HT := Lib.hid (all_take_snoc s k hlt okc)
            rcases rune_ways (s[k].toNat : Int) with ⟨ho, hw⟩ | ⟨ho, h46, h95, h45, hw⟩
            · have HS : okTo s (k + 1) := by unfold okTo at HK ⊢; rw [HT.out, HK]; exact ho
              clear ho HT
              rcases hw with ⟨g1, g2⟩ | ⟨g1, g2⟩ | ⟨g1, g2⟩ | ⟨g1, g2, g3⟩ | ⟨g1, g2, g3, g4⟩
              all_goals
                go_wp2_with fail
                go_round
                case rel => exact ⟨k + 1, by omega, by go_num, HS⟩
                case measure => simp [intOf]; omega
            · have HS : Hid (s.data.toList.all okc = false) := all_miss hlt ho
              clear ho HT
              rcases hw with g1 | ⟨g1, g2⟩ | g1
              all_goals
                go_wp2_with fail
                go_ret
                exact ⟨ret_bool (by rw [HN.out, HS.out]; simp), rfl⟩
          · have hks : k = s.size := by omega
            have HF : Hid (s.data.toList.all okc = true) := by unfold Hid; unfold okTo at HK; rwa [hks, List.take_of_length_le (by simp)] at HK
            go_wp2_with fail
            go_ret
            exact ⟨ret_bool (by rw [HN.out, HF.out]; simp [G2.out.1, G2.out.2, h2]), rfl⟩
    · have hn : nameB s.data.toList = false := by rw [name_of s h1]; simp [h2]
      rw [hn]
      clear hn
      go_enter Tryd.func51, Tryd.ntmps51
      go_wp2_with fail
      go_ret
      exact ⟨rfl, rfl⟩
  · have hn : nameB s.data.toList = false := by unfold nameB; have : decide (1 ≤ s.data.toList.length) = false := by simpa using h1
                                                rw [this]; rfl
    rw [hn]
    clear hn
    go_enter Tryd.func51, Tryd.ntmps51
    go_wp2_with fail
    go_ret
    exact ⟨rfl, rfl⟩
end Go.Proofs.YtmibpagajenndaaDoor
