/- The reference's paths; they are the program's. -/
import Derived.Test.YtmibpagajenndaaDoorPh
import Derived.Test.YtmibpagajenndaaDoorSeg
namespace Go.Proofs.YtmibpagajenndaaDoor
open Go.RowKit

/-- A path, by its bytes. -/
def pathL (l : List UInt8) : Bool := decide (l.length ≤ 128) && (Seg.segs 47 l).all nameB && decide ((Seg.segs 47 l).length ≤ 8)
/-- The loop's state: c names stand before place f, no slash since. -/
def pst (l : List UInt8) (R : Bool) (c f k : Nat) : Prop :=
  c ≤ k ∧ f ≤ k ∧ ((k ≤ l.length ∧ (∀ j (_ : j < l.length), f ≤ j → j < k → l[j] ≠ 47) ∧ R = ((Seg.segs 47 (l.drop f)).all nameB && decide (c + (Seg.segs 47 (l.drop f)).length ≤ 8))) ∨ (k = l.length + 1 ∧ R = decide (c ≤ 8)))
theorem pst_start (l : List UInt8) (h : l.length ≤ 128) : pst l (pathL l) 0 0 0 := by
  refine ⟨Nat.le_refl _, Nat.le_refl _, .inl ⟨Nat.zero_le _, fun j _ _ h => absurd h (Nat.not_lt_zero _), ?_⟩⟩
  unfold pathL
  simp [h]
theorem pst_on {l : List UInt8} {R : Bool} {c f k : Nat} (h : pst l R c f k) (hk : k < l.length) (hc : l[k] ≠ 47) : pst l R c f (k + 1) := by
  obtain ⟨h1, h2, ⟨_, h3, h4⟩ | ⟨h3, _⟩⟩ := h
  · refine ⟨by omega, by omega, .inl ⟨by omega, fun j hj hfj hjk => ?_, h4⟩⟩
    by_cases e : j = k
    · subst e; exact hc
    · exact h3 j hj hfj (by omega)
  · omega
theorem pst_end {l : List UInt8} {R : Bool} {c f k : Nat} (h : pst l R c f k) (hk : ¬ k ≤ l.length) : R = decide (c ≤ 8) := by
  obtain ⟨_, _, ⟨h3, _, _⟩ | ⟨_, h4⟩⟩ := h
  · omega
  · exact h4
theorem pst_part {l : List UInt8} {R : Bool} {c f k : Nat} (h : pst l R c f k) (hk : k ≤ l.length) (hc : ∀ h : k < l.length, l[k] = 47) :
    (nameB ((l.drop f).take (k - f)) = false → R = false) ∧ (nameB ((l.drop f).take (k - f)) = true → pst l R (c + 1) (k + 1) (k + 1)) := by
  obtain ⟨h1, h2, ⟨_, h3, h4⟩ | ⟨h3, _⟩⟩ := h
  · by_cases hlt : k < l.length
    · have e := Seg.segs_at 47 l f k h2 hlt h3 (hc hlt)
      rw [e] at h4
      refine ⟨fun hn => by rw [h4, List.all_cons, hn]; rfl, fun hn => ⟨by omega, Nat.le_refl _, .inl ⟨by omega, fun j _ h5 h6 => by omega, ?_⟩⟩⟩
      rw [h4, List.all_cons, hn, List.length_cons]
      simp
      rw [show c + 1 + (Seg.segs 47 (l.drop (k + 1))).length = c + ((Seg.segs 47 (l.drop (k + 1))).length + 1) by omega]
    · have hkl : k = l.length := by omega
      have e := Seg.segs_end 47 l f fun j hj hfj => h3 j hj hfj (by omega)
      have e2 : (l.drop f).take (k - f) = l.drop f := List.take_of_length_le (by simp; omega)
      rw [e] at h4
      rw [e2]
      refine ⟨fun hn => by rw [h4]; simp [hn], fun hn => ⟨by omega, Nat.le_refl _, .inr ⟨by omega, ?_⟩⟩⟩
      rw [h4]
      simp [hn]
  · omega
theorem name_at (s : ByteArray) (f k : Nat) (b : Bool) (w : World) (hs : s.size ≤ 9223372036854775807) (h : nameB ((s.data.toList.drop f).take (k - f)) = b) : Calls Tryd.prog 51 #[.string (s.extract f k)] w fun e w' => e = .returned (.bool b) ∧ w = w' := by
  subst h
  have := name_any (s.extract f k) w (by rw [ByteArray.size_extract]; omega)
  rwa [Lib.extract_data] at this

set_option maxRecDepth 8000 in
set_option maxHeartbeats 1000000 in
theorem refPath_any (s : ByteArray) (w : World) (hs : s.size ≤ 9223372036854775807) : Calls Tryd.prog 41 #[.string s] w fun e w' => e = .returned (.bool (pathL s.data.toList)) ∧ w = w' := by
  have hl : s.data.toList.length = s.size := by simp
  by_cases h1 : s.size ≤ 128
  · have H0 := pst_start s.data.toList (by omega)
    have HN := fun f k b w' (h : nameB ((s.data.toList.drop f).take (k - f)) = b) => name_at s f k b w' hs h
    generalize pathL s.data.toList = R at H0 ⊢
    have HL := Lib.hid hl
    have HNN := Lib.hid HN
    clear hl HN
    go_enter Tryd.func41, Tryd.ntmps41
    go_wp2_with fail
    go_loop [3, 4, 5] (fun a b i => ∃ c f k : Nat, k ≤ s.size + 1 ∧ c ≤ k ∧ f ≤ k ∧ a = .int .i64 c ∧ b = .int .i64 f ∧ i = .int .i64 k ∧ pst s.data.toList R c f k) (fun _ _ i => s.size + 1 - (intOf i).toNat)
    case atStart => exact ⟨0, 0, 0, Nat.zero_le _, Nat.le_refl _, Nat.le_refl _, rfl, rfl, rfl, H0⟩
    case round =>
      obtain ⟨c, f, k, hk, hck, hfk, rfl, rfl, rfl, HP⟩ := hrel
      by_cases hle : k ≤ s.size
      · have part : (∀ h : k < s.data.toList.length, s.data.toList[k] = 47) → (nameB ((s.data.toList.drop f).take (k - f)) = false ∧ R = false) ∨ (nameB ((s.data.toList.drop f).take (k - f)) = true ∧ pst s.data.toList R (c + 1) (k + 1) (k + 1)) := fun h => by
          have := pst_part HP (by rw [HL.out]; exact hle) h
          cases hn : nameB ((s.data.toList.drop f).take (k - f))
          · exact .inl ⟨rfl, this.1 hn⟩
          · exact .inr ⟨rfl, this.2 hn⟩
        by_cases hlt : k < s.size
        · by_cases h47 : s[k] = 47
          · have e1 : ((s[k].toNat : Int) != 47) = false := by rw [h47]; rfl
            rcases part (fun _ => h47) with ⟨hn, rfl⟩ | ⟨hn, hp⟩
            · have HC := fun w' => HNN.out f k false w' hn
              have HCC := Lib.hid HC
              clear HC hn part h47
              go_wp2_with fail
              refine (HCC.out _).mono ?_
              rintro e w' ⟨rfl, rfl⟩
              go_wp2_with fail
              go_ret
              exact ⟨rfl, rfl⟩
            · have HC := fun w' => HNN.out f k true w' hn
              have HCC := Lib.hid HC
              clear HC hn part h47
              go_wp2_with fail
              refine (HCC.out _).mono ?_
              rintro e w' ⟨rfl, rfl⟩
              go_wp2_with fail
              go_round
              case rel => exact ⟨c + 1, k + 1, k + 1, by omega, by omega, Nat.le_refl _, by go_num, by go_num, by go_num, hp⟩
              case measure => simp [intOf]; omega
          · have e1 : ((s[k].toNat : Int) != 47) = true := by
              simp only [bne_iff_ne, ne_eq]
              intro e
              exact h47 (UInt8.toNat_inj.1 (by show s[k].toNat = 47; omega))
            have hp := pst_on HP (by rw [HL.out]; exact hlt) h47
            clear part h47
            go_wp2_with fail
            go_round
            case rel => exact ⟨c, f, k + 1, by omega, by omega, by omega, rfl, rfl, by go_num, hp⟩
            case measure => simp [intOf]; omega
        · rcases part (fun h => absurd (by rw [HL.out] at h; exact h) hlt) with ⟨hn, rfl⟩ | ⟨hn, hp⟩
          · have HC := fun w' => HNN.out f k false w' hn
            have HCC := Lib.hid HC
            clear HC hn part
            go_wp2_with fail
            refine (HCC.out _).mono ?_
            rintro e w' ⟨rfl, rfl⟩
            go_wp2_with fail
            go_ret
            exact ⟨rfl, rfl⟩
          · have HC := fun w' => HNN.out f k true w' hn
            have HCC := Lib.hid HC
            clear HC hn part
            go_wp2_with fail
            refine (HCC.out _).mono ?_
            rintro e w' ⟨rfl, rfl⟩
            go_wp2_with fail
            go_round
            case rel => exact ⟨c + 1, k + 1, k + 1, by omega, by omega, Nat.le_refl _, by go_num, by go_num, by go_num, hp⟩
            case measure => simp [intOf]; omega
      · have hr := pst_end HP (by rw [HL.out]; exact hle)
        have HR := Lib.hid hr
        clear hr
        go_wp2_with fail
        go_ret
        exact ⟨ret_bool (by rw [HR.out]; simp; omega), rfl⟩
  · have hp : pathL s.data.toList = false := by
      unfold pathL
      have : decide (s.data.toList.length ≤ 128) = false := by rw [hl]; simpa using h1
      rw [this]
      rfl
    rw [hp]
    clear hp hl
    go_enter Tryd.func41, Tryd.ntmps41
    go_wp2_with fail
    go_ret
    exact ⟨rfl, rfl⟩

/-! ### The two are one -/
theorem rune_high (n : Nat) (h : 128 ≤ n) : runeB (n : Int) = false := by unfold runeB; simp; omega
theorem allRunes_all (s : ByteArray) : allRunes s = s.data.toList.all okc := by
  unfold allRunes
  rw [Seg.idxFunc_all (fun r => !runeB (r : Int)) (fun n h => by simp [rune_high n h]) s, List.any_eq_not_all_not, Bool.not_not]
  congr 1
  funext c
  simp [okc]
theorem part_name (s : ByteArray) : partB s = nameB s.data.toList := by
  unfold partB
  by_cases h : 0 < s.size
  · rw [dif_pos h, name_of s h, allRunes_all]
    have h46 : s[0] = 46 ↔ (s[0].toNat : Int) = 46 := by
      rw [← UInt8.toNat_inj]; show s[0].toNat = 46 ↔ _; omega
    have h45 : s[0] = 45 ↔ (s[0].toNat : Int) = 45 := by
      rw [← UInt8.toNat_inj]; show s[0].toNat = 45 ↔ _; omega
    by_cases h1 : 32 < s.size
    · rw [if_pos h1]; simp [Nat.not_le.2 h1]
    · rw [if_neg h1]
      by_cases h2 : s[0] = 46
      · rw [if_pos h2]; simp [h46.1 h2]
      · rw [if_neg h2]
        by_cases h3 : s[0] = 45
        · rw [if_pos h3]; simp [h45.1 h3]
        · rw [if_neg h3]
          have g2 := mt h46.2 h2
          have g3 := mt h45.2 h3
          simp [g2, g3, Nat.not_lt.1 h1]
  · rw [dif_neg h]
    have : decide (1 ≤ s.data.toList.length) = false := by
      have hl : s.data.toList.length = s.size := by simp
      rw [hl]
      exact decide_eq_false (by omega)
    unfold nameB
    rw [this]
    rfl
theorem path_same (s : ByteArray) : pathB s = pathL s.data.toList := by
  have e := Seg.splitB_segs 47 s
  unfold pathB pathL
  have e1 : (pieces s).map (·.data.toList) = Seg.segs 47 s.data.toList := e
  have e2 : (pieces s).length = (Seg.segs 47 s.data.toList).length := by rw [← e1, List.length_map]
  have e3 : (!((pieces s).any fun x => !partB x)) = (Seg.segs 47 s.data.toList).all nameB := by
    rw [← e1, List.all_map, List.any_eq_not_all_not, Bool.not_not]
    congr 1
    funext x
    simp [part_name]
  rw [e2, e3]
  simp [Bool.and_assoc, Bool.and_comm, Bool.and_left_comm]

end Go.Proofs.YtmibpagajenndaaDoor
