/- Hashes of lists of words. -/
import Derived.Test.YtmibpagajenndaaDoorE
namespace Go.Proofs.YtmibpagajenndaaDoor
open Go.RowKit

def lexR : Rep (ByteArray × Int) := prodR strR (intR .i64)
theorem lex_cells {w : World} {B : Nat → Prop} {b off : Nat} {l : List (ByteArray × Int)} (h : RowAt lexR w B b off l) (i : Nat) (hi : i < l.length) :
    w.cell? ⟨b, off + i * 2, none⟩ = some (.string l[i].1) ∧ w.cell? ⟨b, off + i * 2 + 1, none⟩ = some (.int .i64 l[i].2) ∧ l[i].1.size ≤ 9223372036854775807 := by
  obtain ⟨us, ⟨x, y, rfl, ⟨rfl, hs⟩, ⟨rfl, _⟩⟩, h2⟩ := h i hi
  exact ⟨h2 0 _ rfl, h2 1 _ rfl, hs⟩
/-- The texts of some words. -/
def texts (l : List (ByteArray × Int)) : List (List UInt8) := l.map fun x => x.1.data.toList
theorem texts_snoc (l : List (ByteArray × Int)) (i : Nat) (hi : i < l.length) : texts (l.take (i + 1)) = texts (l.take i) ++ [l[i].1.data.toList] := by
  unfold texts; rw [List.take_succ_eq_append_getElem hi, List.map_append]; rfl

set_option maxHeartbeats 400000 in
theorem Hash_a (l : List (ByteArray × Int)) (A : Option Addr) (c : Nat) (w : World) (hA : SliceAt lexR w (Old w) A c l) :
    Calls Tryd.prog 9 #[.slice A l.length c] w (Al (.int .i64 (M.hash (texts l))) w) := by
  obtain ⟨hlc, hc, hrow⟩ := hA
  go_enter Tryd.func9, Tryd.ntmps9
  go_wp2
  go_loopw [3, 8] (fun h i wr => ∃ k : Nat, k ≤ l.length ∧ i = .int .i64 k ∧ h = .int .i64 (M.hash (texts (l.take k))) ∧ Ext w wr) (fun _ i _ => l.length - (intOf i).toNat)
  case atStart => exact ⟨0, Nat.zero_le _, rfl, by simp [M.hash, texts], Ext.refl _⟩
  case round =>
    obtain ⟨k, hk, rfl, rfl, hd⟩ := hrel
    have hcr := M.hash_range (texts (l.take k))
    by_cases hlt : k < l.length
    · obtain ⟨b, off, rfl, hb, hr⟩ := hrow (by intro h; rw [h] at hlt; simp at hlt)
      obtain ⟨c0, c1, hs⟩ := lex_cells hr k hlt
      rw [← hd.cell (p := ⟨b, off + k * 2, none⟩) hb] at c0
      rw [← hd.cell (p := ⟨b, off + k * 2 + 1, none⟩) hb] at c1
      have hsn := texts_snoc l k hlt
      have HS := Lib.hid hsn
      clear hsn
      clear hrow hr
      go_wp2_with (go_at_call 22; refine (push_q _ _ _ (by omega) hs).mono ?_; rintro e w1 ⟨rfl, hd1⟩)
      go_roundw
      case rel => exact ⟨k + 1, by omega, by go_num, by rw [HS.out, M.hash_snoc], (hd.alloc _).dr hd1⟩
      case measure => simp [intOf]; omega
    · go_wp2
      go_ret
      exact ⟨ret_int (by rw [List.take_of_length_le (by omega)]), hd⟩

set_option maxHeartbeats 400000 in
theorem refHash_q (l : List (ByteArray × Int)) (A : Option Addr) (c : Nat) (w : World) (hA : SliceAt lexR w (Old w) A c l) :
    Calls Tryd.prog 43 #[.slice A l.length c] w (Qu (.int .i64 (M.hash (texts l))) w) := by
  obtain ⟨hlc, hc, hrow⟩ := hA
  go_enter Tryd.func43, Tryd.ntmps43
  go_wp2
  go_loopw [3, 4] (fun h i wr => ∃ k : Nat, k ≤ l.length ∧ i = .int .i64 k ∧ h = .int .i64 (M.hash (texts (l.take k))) ∧ Dr w wr) (fun _ i _ => l.length - (intOf i).toNat)
  case atStart => exact ⟨0, Nat.zero_le _, rfl, by simp [M.hash, texts], Dr.refl _⟩
  case round =>
    obtain ⟨k, hk, rfl, rfl, hd⟩ := hrel
    have hcr := M.hash_range (texts (l.take k))
    by_cases hlt : k < l.length
    · obtain ⟨b, off, rfl, hb, hr⟩ := hrow (by intro h; rw [h] at hlt; simp at hlt)
      obtain ⟨c0, c1, hs⟩ := lex_cells hr k hlt
      rw [← hd.cell ⟨b, off + k * 2, none⟩] at c0
      have hsn := texts_snoc l k hlt
      have HS := Lib.hid hsn
      clear hsn c1
      clear hrow hr
      go_wp2_with (go_at_call 52; refine (next_q _ _ _ (by omega) hs).mono ?_; rintro e w1 ⟨rfl, hd1⟩)
      go_roundw
      case rel => exact ⟨k + 1, by omega, by go_num, by rw [HS.out, M.hash_snoc], hd.trans hd1⟩
      case measure => simp [intOf]; omega
    · go_wp2
      go_ret
      exact ⟨ret_int (by rw [List.take_of_length_le (by omega)]), hd⟩

/-- At most 40 words of at most 40 bytes. -/
def fewB (l : List (ByteArray × Int)) : Bool := decide (l.length ≤ 40) && l.all fun x => decide (x.1.size ≤ 40)
theorem few_take {l : List (ByteArray × Int)} {k : Nat} (hk : k < l.length) (h : 40 < (l[k]).1.size) : fewB l = false := by
  unfold fewB
  rw [Bool.and_eq_false_iff]; right
  rw [List.all_eq_false]
  exact ⟨l[k], List.getElem_mem hk, by simp; omega⟩
theorem Few_q (l : List (ByteArray × Int)) (A : Option Addr) (c : Nat) (w : World) (hA : SliceAt lexR w (Old w) A c l) :
    Calls Tryd.prog 7 #[.slice A l.length c] w fun e w' => e = .returned (.bool (fewB l)) ∧ w = w' := by
  obtain ⟨hlc, hc, hrow⟩ := hA
  by_cases h40 : 40 < l.length
  · have hf : Hid (fewB l = false) := by unfold Hid fewB; rw [Bool.and_eq_false_iff]; left; simp; omega
    go_enter Tryd.func7, Tryd.ntmps7
    go_wp2
    go_ret
    exact ⟨ret_bool hf.out.symm, rfl⟩
  · go_enter Tryd.func7, Tryd.ntmps7
    go_wp2
    go_loop [3] (fun i => ∃ k : Nat, k ≤ l.length ∧ i = .int .i64 k ∧ Hid (∀ j (h : j < l.length), j < k → l[j].1.size ≤ 40)) (fun i => l.length - (intOf i).toNat)
    case atStart => exact ⟨0, Nat.zero_le _, rfl, fun j _ h => absurd h (Nat.not_lt_zero _)⟩
    case round =>
      obtain ⟨k, hk, rfl, H⟩ := hrel
      by_cases hlt : k < l.length
      · obtain ⟨b, off, rfl, hb, hr⟩ := hrow (by intro h; rw [h] at hlt; simp at hlt)
        obtain ⟨c0, c1, hs⟩ := lex_cells hr k hlt
        clear c1
        clear hrow hr
        by_cases hs4 : 40 < l[k].1.size
        · have hf : Hid (fewB l = false) := few_take hlt hs4
          go_wp2
          go_ret
          exact ⟨ret_bool hf.out.symm, rfl⟩
        · go_wp2
          go_round
          case rel => exact ⟨k + 1, by omega, by go_num, fun j h hj => by
            rcases Nat.lt_or_ge j k with h1 | h1
            · exact H.out j h h1
            · have : j = k := by omega
              subst this; omega⟩
          case measure => simp [intOf]; omega
      · have hf : Hid (fewB l = true) := by
          unfold Hid fewB
          rw [Bool.and_eq_true, List.all_eq_true]
          refine ⟨by simp; omega, fun x hx => ?_⟩
          obtain ⟨j, hj, rfl⟩ := List.getElem_of_mem hx
          have := H.out j hj (by omega)
          simpa using this
        go_wp2
        go_ret
        exact ⟨ret_bool hf.out.symm, rfl⟩

end Go.Proofs.YtmibpagajenndaaDoor
