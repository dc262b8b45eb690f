/- tree.Path. -/
import Derived.Test.YtmibpagajenndaaDoorPb
namespace Go.Proofs.YtmibpagajenndaaDoor
open Go.RowKit

theorem extract_le (s : ByteArray) (i j : Nat) : (s.extract i j).size ≤ s.size := by rw [ByteArray.size_extract]; omega
theorem split_sizes (sep : ByteArray) : ∀ (k : Nat) (s : ByteArray), ∀ x ∈ Lib.splitB sep 0 k s, x.size ≤ s.size
  | 0, s, x, hx => by
    rw [Lib.splitB_zero] at hx
    simp at hx
    rw [hx]; exact Nat.le_refl _
  | k + 1, s, x, hx => by
    unfold Lib.splitB at hx
    split at hx
    · simp at hx
      rw [hx]; exact Nat.le_refl _
    · rcases List.mem_cons.1 hx with rfl | hx
      · exact extract_le _ _ _
      · exact Nat.le_trans (split_sizes sep k _ x hx) (extract_le _ _ _)
theorem pieces_sizes (s : ByteArray) : ∀ x ∈ pieces s, x.size ≤ s.size := split_sizes _ _ s

def pathE (s : ByteArray) : Int := if pathB s = true then 0 else 2
set_option maxHeartbeats 400000 in
theorem Path_any (s : ByteArray) (m : Int) (w : World) (hs : s.size ≤ 1000000) (hm : w.cell? ⟨0, 0, none⟩ = some (.int .i64 m)) : Calls Tryd.prog 31 #[.string s] w (Al (.int .i64 (pathE s)) w) := by
  have hsp := fun w' (h : w'.cell? ⟨0, 0, none⟩ = some (.int .i64 m)) => Tryd.strings_Split s ⟨#[47]⟩ m w' (by omega) h (by decide)
  obtain ⟨L, hL⟩ : ∃ L, L = (pieces s).length := ⟨_, rfl⟩
  obtain ⟨X, hX⟩ : ∃ X, X = (pieces s).any (fun x => !partB x) := ⟨_, rfl⟩
  have hpB : pathE s = if decide (s.size ≤ 128) && decide (L ≤ 8) && !X then 0 else 2 := by unfold pathE pathB; rw [← hL, ← hX]
  have hc : ∀ w' : World, ∀ j (h : j < (pieces s).length), (w'.alloc (.cells ((pieces s).map Value.string).toArray 9)).cell? ⟨w'.heap.size, j, none⟩ = some (.string (pieces s)[j]) := fun w' j h => by
    rw [cell_new]; simp [h]
  have hCF := fun (w' : World) => ContainsStr (pieces s) w'.heap.size L L 47 #[] (fun x => !partB x) (w'.alloc (.cells ((pieces s).map Value.string).toArray 9)) eg47 hL (by rw [hL, pieces_len]; have := Lib.count_le s.data.toList [47]; have e : Lib.countB s ⟨#[47]⟩ = Lib.count s.data.toList [47] := rfl; simp at this; omega) (hc w') (fun x hx w'' => by
    have := pieces_sizes s x hx
    exact notPart_any x w'' (by omega))
  rw [← hX] at hCF
  have hLL : Lib.countB s ⟨#[47]⟩ + 1 = L := by rw [hL, pieces_len]
  have hLb : L ≤ 1000002 := by rw [hL, pieces_len]; have := Lib.count_le s.data.toList [47]; have e : Lib.countB s ⟨#[47]⟩ = Lib.count s.data.toList [47] := rfl; simp at this; omega
  have HSP := Lib.hid hsp
  have HCF := Lib.hid hCF
  have HPB := Lib.hid hpB
  have HLL := Lib.hid hLL
  have HM := Lib.hid hm
  clear hsp hCF hpB hLL hm hL hX hc
  by_cases h128 : s.size ≤ 128
  · by_cases h8 : L ≤ 8
    · have he : pathE s = if X then 2 else 0 := by rw [HPB.out]; cases X <;> simp [h128, h8]
      clear HPB
      cases X
      · rw [he]
        clear he
        rw [if_neg (by simp)]
        go_enter Tryd.func31, Tryd.ntmps31
        go_wp2_with fail
        refine (HSP.out _ HM.out).mono ?_
        rw [HLL.out]
        rintro e w1 ⟨rfl, rfl⟩
        go_wp2_with fail
        refine (HCF.out w).mono ?_
        rintro e w2 ⟨rfl, d2⟩
        go_wp2_with fail
        go_ret
        exact ⟨rfl, ((Ext.refl w).alloc _).trans d2⟩
      · rw [he]
        clear he
        rw [if_pos rfl]
        go_enter Tryd.func31, Tryd.ntmps31
        go_wp2_with fail
        refine (HSP.out _ HM.out).mono ?_
        rw [HLL.out]
        rintro e w1 ⟨rfl, rfl⟩
        go_wp2_with fail
        refine (HCF.out w).mono ?_
        rintro e w2 ⟨rfl, d2⟩
        go_wp2_with fail
        go_ret
        exact ⟨rfl, ((Ext.refl w).alloc _).trans d2⟩
    · have he : pathE s = 2 := by rw [HPB.out]; simp [h8]
      rw [he]
      clear he HPB
      go_enter Tryd.func31, Tryd.ntmps31
      go_wp2_with fail
      refine (HSP.out _ HM.out).mono ?_
      rw [HLL.out]
      rintro e w1 ⟨rfl, rfl⟩
      go_wp2_with fail
      go_ret
      exact ⟨rfl, (Ext.refl w).alloc _⟩
  · have he : pathE s = 2 := by rw [HPB.out]; simp [h128]
    rw [he]
    clear he HPB
    go_enter Tryd.func31, Tryd.ntmps31
    go_wp2_with fail
    refine (HSP.out _ HM.out).mono ?_
    rw [HLL.out]
    rintro e w1 ⟨rfl, rfl⟩
    go_wp2_with fail
    go_ret
    exact ⟨rfl, (Ext.refl w).alloc _⟩

end Go.Proofs.YtmibpagajenndaaDoor
