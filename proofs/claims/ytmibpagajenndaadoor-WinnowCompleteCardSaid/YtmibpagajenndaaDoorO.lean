/- The reference's Select. -/
import Derived.Test.YtmibpagajenndaaDoorN
namespace Go.Proofs.YtmibpagajenndaaDoor
open Go.RowKit

/-- The selected positions, as numbers. -/
def selI (l : List Int) (w n : Nat) : List Int := (W.sel (gt l) w n).map fun p : Nat => (p : Int)
theorem selI_zero (l : List Int) (w : Nat) : selI l w 0 = [] := by simp [selI, W.sel]
theorem selI_one (l : List Int) (w : Nat) : selI l w 1 = [((W.lst (gt l) 0 w : Nat) : Int)] := by unfold selI; rw [W.sel_one]; rfl
theorem selI_step (l : List Int) (w n : Nat) (hw : 0 < w) : selI l w (n + 2) = if W.lst (gt l) n w < W.lst (gt l) (n + 1) w then selI l w (n + 1) ++ [((W.lst (gt l) (n + 1) w : Nat) : Int)] else selI l w (n + 1) := by
  unfold selI
  rw [W.sel_step _ _ _ hw]
  split
  · rw [List.map_append]; rfl
  · rfl
theorem selI_last (l : List Int) (w n : Nat) (hw : 0 < w) : (selI l w (n + 1))[(selI l w (n + 1)).length - 1]? = some ((W.lst (gt l) n w : Nat) : Int) := by
  unfold selI
  rw [List.length_map, List.getElem?_map, ← List.getLast?_eq_getElem?, W.sel_last _ _ hw]
  rfl
theorem selI_pos (l : List Int) (w n : Nat) (hw : 0 < w) : 0 < (selI l w (n + 1)).length := by
  unfold selI
  rw [List.length_map]
  exact List.length_pos_iff.2 (W.sel_ne _ _ _ hw)
theorem selI_len (l : List Int) (w n : Nat) (hw : 0 < w) : (selI l w n).length ≤ n := by
  unfold selI
  rw [List.length_map]
  exact W.sel_len _ _ hw n

theorem right_is (n : Int) (b : Bool) (w : World) (h : decide (1 ≤ n ∧ n ≤ 1024) = b) : Calls Tryd.prog 28 #[.int .i64 n] w fun e w' => e = .returned (.bool b) ∧ w = w' := h ▸ right_any n w
theorem size_is (n : Int) (b : Bool) (w : World) (h : decide (1 ≤ n ∧ n ≤ 1024) = b) : Calls Tryd.prog 25 #[.int .i64 n] w fun e w' => e = .returned (.bool b) ∧ w = w' := h ▸ size_any n w

theorem least_zero (l : List Int) (A : Option Addr) (c n q : Nat) (w : World) (hA : IntsAt w A n l) (hk : 0 < q) (hn : q ≤ n) :
    Calls Tryd.prog 44 #[.slice A n c, .int .i64 0, .int .i64 (q : Int)] w (Qu (.int .i64 (W.lst (gt l) 0 q : Nat)) w) := by
  have h := least_int l A c n 0 q w hA (by omega) (by omega) (by omega)
  rwa [show ((0 : Int)).toNat = 0 from rfl, Int.sub_zero, Int.toNat_natCast] at h

set_option maxHeartbeats 1000000 in
theorem refSelect_walk (l : List Int) (A : Option Addr) (c n q : Nat) (w : World) (hA : IntsAt w A n l) (h1 : 1 ≤ q) (h2 : q ≤ 1024) (hl : n ≤ 8192) :
    Calls Tryd.prog 30 #[.slice A n c, .int .i64 (q : Int)] w (RetInts w (selI l q (n + 1 - q)) 0) := by
  obtain ⟨i0, hi, hz0, hz1, hz2⟩ := info_parts int_info
  have HA := Lib.hid hA
  clear hA
  have hq : Hid (1 ≤ q) := h1
  go_enter Tryd.func30, Tryd.ntmps30
  go_wp2_with (go_at_call 28; refine (right_is _ true _ (by simp; omega)).mono ?_; rintro e w' ⟨rfl, rfl⟩)
  go_loopw [6, 7] (fun v i wr => ∃ k : Nat, (k = 0 ∨ k + q ≤ n + 1) ∧ i = .int .i64 k ∧ OwnInts wr w.heap.size v (selI l q k) ∧ Ext w wr) (fun _ i _ => n + 1 - (intOf i).toNat)
  case atStart => exact ⟨0, .inl rfl, rfl, by rw [selI_zero]; exact own_empty _ _ rfl, (Ext.refl _).alloc _⟩
  case round =>
    obtain ⟨k, hk, rfl, hown, hd⟩ := hrel
    by_cases hlt : k + q ≤ n
    · have hleast := fun (w' : World) (he : Ext w w') => least_nat l A c n k q w' (HA.out.ext he) (by omega) hlt
      have HL := Lib.hid hleast
      clear hleast
      cases k with
      | zero =>
        obtain ⟨A2, c2, e2, i2⟩ := IntsAt.of_own hown
        rw [selI_zero] at e2
        have hs1 := Lib.hid (selI_one l q)
        rw [e2] at hown ⊢
        have hown0 : OwnAt wr w.heap.size 3 1 (.slice A2 0 c2) 0 (ints []) := by have := hown; rw [selI_zero] at this; exact this
        clear i2 e2 hown
        go_wp2_with fail
        refine (least_zero l _ _ _ _ _ (HA.out.ext hd) (by omega) (by omega)).mono ?_
        rintro e w1 ⟨rfl, d1⟩
        go_wp2_with (at_builtin; refine wpList_append_ownAt _ rfl (.tmp 43) (.tmp 45) 53 rfl w.heap.size 3 i0 (.int .i64 0) 1 8 Tryd.underlying53 hi hz0 hz1 hz2 rfl (by decide) _ _ _ rfl ((hown0.dr d1).alloc _) ⟨w1.heap.size, 0, none⟩ 1 1 (ints [((W.lst (gt l) 0 q : Nat) : Int)]) rfl rfl (cells_new_ints w1 _) (ints_one _) (by unfold maxLen; omega) (by omega) (by have := hd.size; have := d1.size; simp; omega) (by decide) ?_; intro v2 w2 hown2 hg2 _ _)
        go_roundw
        case rel => exact ⟨1, .inr (by omega), rfl, by rw [hs1.out]; exact hown2, ((hd.dr d1).alloc _).grown hown0 hg2⟩
        case measure => simp [intOf]
      | succ k =>
        have hpos := selI_pos l q k hq.out
        have hlast := selI_last l q k hq.out
        have hstep := Lib.hid (selI_step l q k hq.out)
        have hlen := selI_len l q (k + 1) hq.out
        obtain ⟨g, o, cap, rfl, hgb, hgw, hgc, hcap, hcell⟩ := OwnAt.cells hown hpos
        have hcl := hcell ((selI l q (k + 1)).length - 1) (.int .i64 ((W.lst (gt l) k q : Nat) : Int)) (by unfold ints; rw [List.getElem?_map, hlast]; rfl)
        have hown' : OwnAt wr w.heap.size 3 1 (.slice (some ⟨g, o, none⟩) (selI l q (k + 1)).length cap) (selI l q (k + 1)).length (ints (selI l q (k + 1))) := hown
        clear hcell hlast
        have HL2 := Lib.hid (rfl : (selI l q (k + 1)).length = (selI l q (k + 1)).length)
        obtain ⟨L, hL⟩ : ∃ L, L = (selI l q (k + 1)).length := ⟨_, rfl⟩
        rw [← hL] at hpos hlen hgc hcl hown' ⊢
        have HLL := Lib.hid hL
        clear hL hown HL2
        have hz : ((L : Int) == 0) = false := by simp; omega
        by_cases hpp : W.lst (gt l) k q < W.lst (gt l) (k + 1) q
        · have hpp' : ((W.lst (gt l) k q : Nat) : Int) < ((W.lst (gt l) (k + 1) q : Nat) : Int) := by omega
          have HP := Lib.hid hpp
          clear hpp
          go_wp2_with fail
          refine (HL.out _ hd).mono ?_
          rintro e w1 ⟨rfl, d1⟩
          have hcl1 := d1.keepc hcl
          go_wp2_with (at_builtin; refine wpList_append_ownAt _ rfl (.tmp 43) (.tmp 45) 53 rfl w.heap.size 3 i0 (.int .i64 0) 1 8 Tryd.underlying53 hi hz0 hz1 hz2 rfl (by decide) _ _ _ rfl ((hown'.dr d1).alloc _) ⟨w1.heap.size, 0, none⟩ 1 1 (ints [((W.lst (gt l) (k + 1) q : Nat) : Int)]) rfl rfl (cells_new_ints w1 _) (ints_one _) (by unfold maxLen; omega) (by omega) (by have := hd.size; have := d1.size; simp; omega) (by decide) ?_; intro v2 w2 hown2 hg2 _ _)
          go_roundw
          case rel => exact ⟨k + 2, .inr (by omega), by go_num, by rw [hstep.out, if_pos HP.out]; exact own_snoc (by rw [← HLL.out]; exact hown2), ((hd.dr d1).alloc _).grown hown' hg2⟩
          case measure => simp [intOf]; omega
        · have hpp' : ¬ ((W.lst (gt l) k q : Nat) : Int) < ((W.lst (gt l) (k + 1) q : Nat) : Int) := by omega
          have HP := Lib.hid hpp
          clear hpp
          go_wp2_with fail
          refine (HL.out _ hd).mono ?_
          rintro e w1 ⟨rfl, d1⟩
          have hcl1 := d1.keepc hcl
          go_wp2_with fail
          go_roundw
          case rel => exact ⟨k + 2, .inr (by omega), by go_num, by rw [hstep.out, if_neg HP.out]; unfold OwnInts; rw [← HLL.out]; exact hown'.dr d1, hd.dr d1⟩
          case measure => simp [intOf]; omega
    · go_wp2_with fail
      go_ret2
      exact ⟨_, rfl, by rw [show n + 1 - q = k by omega]; exact hown, hd⟩

end Go.Proofs.YtmibpagajenndaaDoor
