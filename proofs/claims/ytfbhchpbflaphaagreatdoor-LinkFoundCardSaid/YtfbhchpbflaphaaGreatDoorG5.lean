/- The texts Pr Cod Obj Arc Fl Oe Of Og of the seat, joined. -/
import Derived.Test.YtfbhchpbflaphaaGreatDoorG4
import Derived.Lib.ItoaNum
import Derived.IntWalk
import Derived.Maps.OwnOps
import Derived.Maps.OwnSet
import Derived.Maps.Views
import Derived.StringKeys
import Derived.ChangeKeysEq
/- Strings of the call's own; the reference's Split and Path; they are the program's. -/
namespace Go.Proofs.YtfbhchpbflaphaaGreatDoor
open Go.RowKit

theorem str_info : (Tryz.prog.info? 9).map (fun i => (i.zero, i.size, i.bytes)) = some (some (.string ⟨#[]⟩), 1, 16) := by kernel_rfl
def strs (l : List ByteArray) : List Value := l.map Value.string
theorem strs_one (l : List ByteArray) : ∀ u ∈ strs l, u.oneCell' = true := by intro u hu; obtain ⟨n, _, rfl⟩ := List.mem_map.1 hu; rfl
theorem strs_append (l m : List ByteArray) : strs (l ++ m) = strs l ++ strs m := List.map_append
theorem cells_new_strs (w : World) (l : List ByteArray) : ∀ j u, (strs l)[j]? = some u → (w.alloc (.cells (strs l).toArray 9)).cell? ((⟨w.heap.size, 0, none⟩ : Addr).add j) = some u := by
  intro j u hj
  rw [Addr.add_lit, Nat.zero_add, cell_new]
  simpa using hj
/-- A slice of the call's own holds these strings. -/
def OwnStrs (w : World) (base : Nat) (v : Value) (l : List ByteArray) : Prop := OwnAt w base 9 1 v l.length (strs l)
theorem own_strs_nil (w : World) (b : Nat) : OwnStrs w b (.slice none 0 0) [] := OwnAt.nil _ _ _ _
theorem own_strs_snoc {w : World} {base : Nat} {v : Value} {l : List ByteArray} {x : ByteArray} {n : Nat} (hn : n = l.length) (h : OwnAt w base 9 1 v (n + 1) (strs l ++ strs [x])) : OwnStrs w base v (l ++ [x]) := by
  subst hn
  unfold OwnStrs
  rw [strs_append, List.length_append]
  exact h
/-- n strings at A. -/
def StrsAt (w : World) (A : Option Addr) (n : Nat) (l : List ByteArray) : Prop :=
  n = l.length ∧ n ≤ 9223372036854775807 ∧ ∀ j (h : j < l.length), ∃ b off, A = some ⟨b, off, none⟩ ∧ ∀ w', Ext w w' → w'.cell? ⟨b, off + j, none⟩ = some (.string l[j])
theorem StrsAt.ext {w w' : World} {A : Option Addr} {n : Nat} {l : List ByteArray} (h : StrsAt w A n l) (he : Ext w w') : StrsAt w' A n l :=
  ⟨h.1, h.2.1, fun j hj => by obtain ⟨b, off, e, hc⟩ := h.2.2 j hj; exact ⟨b, off, e, fun w2 h2 => hc w2 (he.trans h2)⟩⟩
theorem StrsAt.of_own {w : World} {base : Nat} {v : Value} {l : List ByteArray} (h : OwnStrs w base v l) : ∃ A c, v = .slice A l.length c ∧ StrsAt w A l.length l := by
  by_cases hl : l = []
  · subst hl
    obtain ⟨_, ⟨rfl, _⟩ | ⟨g, off, cap, cur, rfl, _, _, hn, hc, _⟩⟩ := h
    · exact ⟨none, 0, rfl, rfl, by simp, fun j hj => by simp at hj⟩
    · exact ⟨_, cap, rfl, rfl, by simp, fun j hj => by simp at hj⟩
  · obtain ⟨g, off, cap, rfl, _, _, hn, hc, hcell⟩ := OwnAt.cells h (List.length_pos_iff.2 hl)
    exact ⟨_, cap, rfl, rfl, by omega, fun j hj => ⟨g, off, rfl, fun w' hw' => hw'.keepc (hcell j _ (by simp [strs, hj]))⟩⟩

/-- The parts of a string between bytes. -/
def mkB (l : List UInt8) : ByteArray := ⟨l.toArray⟩
theorem mkB_ext (s : ByteArray) (f k : Nat) : s.extract f k = mkB ((s.data.toList.drop f).take (k - f)) := by
  apply ByteArray.ext
  apply Array.toList_inj.1
  rw [Lib.extract_data]
  rfl
def partsB (c : UInt8) (s : ByteArray) : List ByteArray := (Seg.segs c s.data.toList).map mkB
/-- The loop's state: D is cut off, from place f on the byte has not stood. -/
def cutSt (c : UInt8) (s : ByteArray) (D : List ByteArray) (f k : Nat) : Prop :=
  f ≤ k ∧ k ≤ s.data.toList.length ∧ (∀ j (_ : j < s.data.toList.length), f ≤ j → j < k → s.data.toList[j] ≠ c) ∧ partsB c s = D ++ (Seg.segs c (s.data.toList.drop f)).map mkB ∧ D.length ≤ k
theorem cut_start (c : UInt8) (s : ByteArray) : cutSt c s [] 0 0 := ⟨Nat.le_refl _, Nat.zero_le _, fun _ _ _ h => absurd h (Nat.not_lt_zero _), rfl, Nat.zero_le _⟩
theorem cut_on {c : UInt8} {s : ByteArray} {D : List ByteArray} {f k : Nat} (h : cutSt c s D f k) (hk : k < s.data.toList.length) (hc : s.data.toList[k] ≠ c) : cutSt c s D f (k + 1) := by
  obtain ⟨h1, h2, h3, h4, h5⟩ := h
  refine ⟨by omega, by omega, fun j hj hfj hjk => ?_, h4, by omega⟩
  by_cases e : j = k
  · subst e; exact hc
  · exact h3 j hj hfj (by omega)
theorem cut_hit {c : UInt8} {s : ByteArray} {D : List ByteArray} {f k : Nat} (h : cutSt c s D f k) (hk : k < s.data.toList.length) (hc : s.data.toList[k] = c) : cutSt c s (D ++ [s.extract f k]) (k + 1) (k + 1) := by
  obtain ⟨h1, h2, h3, h4, h5⟩ := h
  refine ⟨Nat.le_refl _, by omega, fun _ _ h6 h7 => by omega, ?_, by simp; omega⟩
  rw [h4, Seg.segs_at c s.data.toList f k h1 hk h3 hc, mkB_ext]
  simp
theorem cut_end {c : UInt8} {s : ByteArray} {D : List ByteArray} {f : Nat} (h : cutSt c s D f s.size) : partsB c s = D ++ [s.extract f s.size] := by
  obtain ⟨h1, h2, h3, h4, h5⟩ := h
  have hl : s.data.toList.length = s.size := by simp
  rw [h4, Seg.segs_end c s.data.toList f (fun j hj hfj => h3 j hj hfj (by omega)), mkB_ext, List.take_of_length_le (by simp)]
  rfl
def RetStrs (w : World) (L : List ByteArray) (e : Ending) (w' : World) : Prop := ∃ v, e = .returned v ∧ OwnStrs w' w.heap.size v L ∧ Ext w w'

set_option maxRecDepth 8000 in
set_option maxHeartbeats 1000000 in
theorem refSplit_any (s : ByteArray) (c : UInt8) (w : World) (hs : s.size ≤ 9000000) : Calls Tryz.prog 117 #[.string s, .int .u8 (c.toNat : Int)] w (RetStrs w (partsB c s)) := by
  obtain ⟨i0, hi, hz0, hz1, hz2⟩ := info_parts str_info
  have hl : s.data.toList.length = s.size := by simp
  have HL := Lib.hid hl
  have hcb : c.toNat ≤ 255 := by have := c.toNat_lt; omega
  have H0 := cut_start c s
  clear hl
  go_enter Tryz.func117, Tryz.ntmps117
  go_wp2_with fail
  go_loopw [5, 6, 7] (fun v a i wr => ∃ (D : List ByteArray) (f k : Nat), f ≤ k ∧ k ≤ s.size ∧ a = .int .i64 f ∧ i = .int .i64 k ∧ cutSt c s D f k ∧ OwnStrs wr w.heap.size v D ∧ Ext w wr) (fun _ _ i _ => s.size - (intOf i).toNat)
  case atStart => exact ⟨[], 0, 0, Nat.le_refl _, Nat.zero_le _, rfl, rfl, H0, own_strs_nil _ _, Ext.refl _⟩
  case round =>
    obtain ⟨D, f, k, hfk, hk, rfl, rfl, HC, hown, hd⟩ := hrel
    have hdl : D.length ≤ k := HC.2.2.2.2
    unfold OwnStrs at hown
    by_cases hlt : k < s.size
    · have hb : s[k].toNat ≤ 255 := by have := s[k].toNat_lt; omega
      by_cases hc : s[k] = c
      · have e1 : ((s[k].toNat : Int) == (c.toNat : Int)) = true := by rw [hc]; simp
        have HH := cut_hit HC (by rw [HL.out]; exact hlt) hc
        obtain ⟨q, hq⟩ : ∃ q, q = D.length := ⟨_, rfl⟩
        rw [← hq] at hown hdl
        have HQ := Lib.hid hq
        have HBS : Hid (w.heap.size ≤ (wr.alloc (.cells #[.string (s.extract f k)] 9)).heap.size) := Nat.le_trans hd.size ((Ext.refl wr).alloc _).size
        clear hc hq
        go_wp2_with (at_builtin; refine wpList_append_ownAt _ rfl (.tmp 19) (.tmp 24) 36 rfl w.heap.size 9 i0 (.string ⟨#[]⟩) 1 16 Tryz.underlying36 hi hz0 hz1 hz2 rfl (by decide) _ _ _ rfl (hown.alloc _) ⟨wr.heap.size, 0, none⟩ 1 1 (strs [s.extract f k]) rfl rfl (cells_new_strs wr _) (strs_one _) (by unfold maxLen; omega) (by omega) HBS.out (by decide) ?_; intro v4 w4 hown4 hg4 _ _)
        go_roundw
        case rel => exact ⟨D ++ [s.extract f k], k + 1, k + 1, Nat.le_refl _, by omega, by go_num, by go_num, HH, own_strs_snoc HQ.out hown4, (hd.alloc _).grown hown hg4⟩
        case measure => simp [intOf]; omega
      · have e1 : ((s[k].toNat : Int) == (c.toNat : Int)) = false := by
          rw [beq_eq_false_iff_ne]
          intro e
          exact hc (UInt8.toNat_inj.1 (by omega))
        have HH := cut_on HC (by rw [HL.out]; exact hlt) hc
        clear hc
        go_wp2_with fail
        go_roundw
        case rel => exact ⟨D, f, k + 1, by omega, by omega, rfl, by go_num, HH, hown, hd⟩
        case measure => simp [intOf]; omega
    · obtain rfl : k = s.size := by omega
      have he := cut_end HC
      have HE := Lib.hid he
      obtain ⟨q, hq⟩ : ∃ q, q = D.length := ⟨_, rfl⟩
      rw [← hq] at hown hdl
      have HQ := Lib.hid hq
      have HBS : Hid (w.heap.size ≤ (wr.alloc (.cells #[.string (s.extract f s.size)] 9)).heap.size) := Nat.le_trans hd.size ((Ext.refl wr).alloc _).size
      clear he hq
      go_wp2_with (at_builtin; refine wpList_append_ownAt _ rfl (.tmp 28) (.tmp 32) 36 rfl w.heap.size 9 i0 (.string ⟨#[]⟩) 1 16 Tryz.underlying36 hi hz0 hz1 hz2 rfl (by decide) _ _ _ rfl (hown.alloc _) ⟨wr.heap.size, 0, none⟩ 1 1 (strs [s.extract f s.size]) rfl rfl (cells_new_strs wr _) (strs_one _) (by unfold maxLen; omega) (by omega) HBS.out (by decide) ?_; intro v4 w4 hown4 hg4 _ _)
      go_ret
      exact ⟨_, rfl, by rw [HE.out]; exact own_strs_snoc HQ.out hown4, (hd.alloc _).grown hown hg4⟩

/-- A path, by its bytes. -/
def pathL (l : List UInt8) : Bool := decide (l.length ≤ 128) && (Seg.segs 47 l).all nameB && decide ((Seg.segs 47 l).length ≤ 8)
theorem parts_path (s : ByteArray) : pathL s.data.toList = (decide (s.size ≤ 128) && decide ((partsB 47 s).length ≤ 8) && (partsB 47 s).all fun x => nameB x.data.toList) := by
  unfold pathL partsB
  rw [List.all_map, List.length_map]
  have e : ((fun x : ByteArray => nameB x.data.toList) ∘ mkB) = nameB := by funext x; rfl
  have hl : s.data.toList.length = s.size := by simp
  rw [e, hl]
  simp [Bool.and_assoc, Bool.and_comm, Bool.and_left_comm]
theorem parts_sizes (c : UInt8) (s : ByteArray) : ∀ x ∈ partsB c s, x.size ≤ s.size := by
  have key : ∀ l : List UInt8, ∀ x ∈ Seg.segs c l, x.length ≤ l.length := by
    intro l
    induction l with
    | nil => intro x hx; simp [Seg.segs] at hx; simp [hx]
    | cons a l ih =>
      intro x hx
      rw [Seg.segs_cons] at hx
      by_cases ha : a = c
      · rw [if_pos ha] at hx
        rcases List.mem_cons.1 hx with rfl | hx
        · simp
        · have := ih x hx; simp; omega
      · rw [if_neg ha] at hx
        cases hseg : Seg.segs c l with
        | nil => rw [hseg] at hx; simp at hx; simp [hx]
        | cons y r =>
          rw [hseg] at hx ih
          simp only at hx
          rcases List.mem_cons.1 hx with rfl | hx
          · have := ih y List.mem_cons_self; simp; omega
          · have := ih x (List.mem_cons_of_mem _ hx); simp; omega
  intro x hx
  obtain ⟨y, hy, rfl⟩ := List.mem_map.1 hx
  have := key _ y hy
  have hl : s.data.toList.length = s.size := by simp
  rw [hl] at this
  show (mkB y).size ≤ s.size
  have e : (mkB y).size = y.length := by simp [mkB, ByteArray.size]
  omega
theorem name_is (s : ByteArray) (b : Bool) (w : World) (hs : s.size ≤ 9223372036854775807) (h : nameB s.data.toList = b) : Calls Tryz.prog 118 #[.string s] w fun e w' => e = .returned (.bool b) ∧ w = w' := h ▸ name_any s w hs
def pathErr (b : Bool) : Int := if b then 0 else 2
def allTo (l : List ByteArray) (k : Nat) : Prop := (l.take k).all (fun x => nameB x.data.toList) = true

set_option maxRecDepth 8000 in
set_option maxHeartbeats 1000000 in
theorem refPath_any (s : ByteArray) (w : World) (hs : s.size ≤ 9000000) : Calls Tryz.prog 88 #[.string s] w (Al (.int .i64 (pathErr (pathL s.data.toList))) w) := by
  have hp := parts_path s
  by_cases h1 : s.size ≤ 128
  · rw [decide_eq_true h1, Bool.true_and] at hp
    have HS := Lib.hid (fun w' => refSplit_any s 47 w' hs)
    have hsz := parts_sizes 47 s
    generalize partsB 47 s = L at hp HS hsz
    have HSZ := Lib.hid hsz
    obtain ⟨n, hn⟩ : ∃ n, n = L.length := ⟨_, rfl⟩
    have HN := Lib.hid hn
    rw [← hn] at hp
    clear hsz hn
    by_cases h8 : n ≤ 8
    · rw [decide_eq_true h8, Bool.true_and] at hp
      generalize pathL s.data.toList = R at hp ⊢
      have HP := Lib.hid hp
      clear hp
      go_enter Tryz.func88, Tryz.ntmps88
      go_wp2_with fail
      refine (HS.out _).mono ?_
      rintro e w1 ⟨v1, rfl, o1, d1⟩
      obtain ⟨A1, c1, rfl, i1⟩ := StrsAt.of_own o1
      rw [← HN.out] at i1 ⊢
      have I1 := Lib.hid i1.2.2
      clear o1 i1
      go_wp2_with fail
      go_loopw [16] (fun i wr => ∃ k : Nat, k ≤ n ∧ i = .int .i64 k ∧ allTo L k ∧ Ext w1 wr) (fun i _ => n - (intOf i).toNat)
      case atStart => exact ⟨0, Nat.zero_le _, rfl, rfl, Ext.refl _⟩
      case round =>
        obtain ⟨k, hk, rfl, HA, hd⟩ := hrel
        by_cases hlt : k < n
        · have hkl : k < L.length := by rw [← HN.out]; exact hlt
          obtain ⟨b, off, rfl, hc⟩ := I1.out k hkl
          have c0 := hc wr hd
          have hx := HSZ.out L[k] (List.getElem_mem hkl)
          have ht : (L.take (k + 1)).all (fun x => nameB x.data.toList) = ((L.take k).all (fun x => nameB x.data.toList) && nameB L[k].data.toList) := by
            rw [List.take_succ_eq_append_getElem hkl, List.all_append]; simp
          have hm : nameB L[k].data.toList = false → L.all (fun x => nameB x.data.toList) = false := fun h => by
            rw [List.all_eq_false]
            exact ⟨L[k], List.getElem_mem hkl, by simp [h]⟩
          generalize L[k] = x at c0 hx ht hm
          obtain ⟨bb, hbb⟩ : ∃ bb, nameB x.data.toList = bb := ⟨_, rfl⟩
          have NM := Lib.hid (fun w' => name_is x bb w' (by omega) hbb)
          rw [hbb] at ht hm
          clear hbb hc
          cases bb
          · have HF : Hid (R = false) := by unfold Hid; rw [HP.out]; exact hm rfl
            clear ht hm
            go_wp2_with fail
            refine (NM.out _).mono ?_
            rintro e w' ⟨rfl, rfl⟩
            go_wp2_with fail
            go_ret
            exact ⟨ret_int (by rw [HF.out]; rfl), d1.trans hd⟩
          · have HT : allTo L (k + 1) := by unfold allTo at HA ⊢; rw [ht, HA]; rfl
            clear ht hm
            go_wp2_with fail
            refine (NM.out _).mono ?_
            rintro e w' ⟨rfl, rfl⟩
            go_wp2_with fail
            go_roundw
            case rel => exact ⟨k + 1, by omega, by go_num, HT, hd⟩
            case measure => simp [intOf]; omega
        · have HT : Hid (R = true) := by
            have h := HA
            unfold allTo at h
            show R = true
            rw [HP.out]
            rwa [List.take_of_length_le (by have := HN.out; omega)] at h
          go_wp2_with fail
          go_ret
          exact ⟨ret_int (by rw [HT.out]; rfl), d1.trans hd⟩
    · rw [decide_eq_false h8, Bool.false_and] at hp
      rw [hp]
      clear hp
      go_enter Tryz.func88, Tryz.ntmps88
      go_wp2_with fail
      refine (HS.out _).mono ?_
      rintro e w1 ⟨v1, rfl, o1, d1⟩
      obtain ⟨A1, c1, rfl, i1⟩ := StrsAt.of_own o1
      rw [← HN.out] at i1 ⊢
      have i12 := i1.2.1
      clear o1 i1
      go_wp2_with fail
      go_ret
      exact ⟨rfl, d1⟩
  · rw [decide_eq_false h1, Bool.false_and, Bool.false_and] at hp
    rw [hp]
    clear hp
    go_enter Tryz.func88, Tryz.ntmps88
    go_wp2_with fail
    go_ret
    exact ⟨rfl, Ext.refl _⟩

/-! ### The program's -/
theorem rune_high (n : Nat) (h : 128 ≤ n) : runeB (n : Int) = false := by unfold runeB; simp; omega
theorem allRunes_all (s : ByteArray) : allRunes s = s.data.toList.all okc := by
  unfold allRunes
  rw [Seg.idxFunc_all (fun r => !runeB (r : Int)) (fun n h => by simp [rune_high n h]) s, List.any_eq_not_all_not, Bool.not_not]
  congr 1
  funext c
  simp [okc]
theorem part_name (s : ByteArray) : partB s = nameB s.data.toList := by
  unfold partB
  by_cases h : 0 < s.size
  · rw [dif_pos h, name_of s h, allRunes_all]
    have h46 : s[0] = 46 ↔ (s[0].toNat : Int) = 46 := by
      rw [← UInt8.toNat_inj]; show s[0].toNat = 46 ↔ _; omega
    have h45 : s[0] = 45 ↔ (s[0].toNat : Int) = 45 := by
      rw [← UInt8.toNat_inj]; show s[0].toNat = 45 ↔ _; omega
    by_cases h1 : 32 < s.size
    · rw [if_pos h1]; simp [Nat.not_le.2 h1]
    · rw [if_neg h1]
      by_cases h2 : s[0] = 46
      · rw [if_pos h2]; simp [h46.1 h2]
      · rw [if_neg h2]
        by_cases h3 : s[0] = 45
        · rw [if_pos h3]; simp [h45.1 h3]
        · rw [if_neg h3]
          have g2 := mt h46.2 h2
          have g3 := mt h45.2 h3
          simp [g2, g3, Nat.not_lt.1 h1]
  · rw [dif_neg h]
    have : decide (1 ≤ s.data.toList.length) = false := by
      have hl : s.data.toList.length = s.size := by simp
      rw [hl]
      exact decide_eq_false (by omega)
    unfold nameB
    rw [this]
    rfl
theorem path_same (s : ByteArray) : pathB s = pathL s.data.toList := by
  have e := Seg.splitB_segs 47 s
  unfold pathB pathL
  have e1 : (pieces s).map (·.data.toList) = Seg.segs 47 s.data.toList := e
  have e2 : (pieces s).length = (Seg.segs 47 s.data.toList).length := by rw [← e1, List.length_map]
  have e3 : (!((pieces s).any fun x => !partB x)) = (Seg.segs 47 s.data.toList).all nameB := by
    rw [← e1, List.all_map, List.any_eq_not_all_not, Bool.not_not]
    congr 1
    funext x
    simp [part_name]
  rw [e2, e3]
  simp [Bool.and_assoc, Bool.and_comm, Bool.and_left_comm]
theorem path_is (s : ByteArray) (m : Int) (w : World) (hs : s.size ≤ 1000000) (hm : w.cell? ⟨0, 0, none⟩ = some (.int .i64 m)) : Calls Tryz.prog 110 #[.string s] w (Al (.int .i64 (pathErr (pathL s.data.toList))) w) := by
  have h := Path_any s m w hs hm
  have e : pathE s = pathErr (pathL s.data.toList) := by unfold pathE pathErr; rw [path_same]
  rwa [e] at h

end Go.Proofs.YtfbhchpbflaphaaGreatDoor

/- Plain facts on encodings: numbers, texts; what is printed is read, what is read was printed. No program in sight. -/
namespace Go.Proofs.YtfbhchpbflaphaaGreatDoor.C

abbrev Bs := List UInt8
/-- The bytes of a number, of a text. -/
def dec (n : Nat) : Bs := Lib.decDigits n
def num (n : Nat) : Bs := dec n ++ [59]
def txt (s : Bs) : Bs := dec s.length ++ 58 :: (s ++ [44])
theorem dec_small {n : Nat} (h : n < 10) : dec n = [UInt8.ofNat (48 + n)] := by unfold dec; rw [Lib.decDigits, dif_pos h]
theorem dec_big {n : Nat} (h : ¬ n < 10) : dec n = dec (n / 10) ++ [UInt8.ofNat (48 + n % 10)] := by unfold dec; rw [Lib.decDigits, dif_neg h]

/-- Reading a number that a byte ends: i bytes were read, of value n. -/
def cnt (e : UInt8) (most : Nat) : Bs → Nat → Nat → Option (Nat × Bs)
  | [], _, _ => none
  | c :: l, i, n => if c = e ∧ 0 < i then some (n, l) else if c.toNat < 48 ∨ 57 < c.toNat ∨ (i = 1 ∧ n = 0) then none else if most < 10 * n + (c.toNat - 48) then none else cnt e most l (i + 1) (10 * n + (c.toNat - 48))
def pNum (low high : Int) (l : Bs) : Option (Nat × Bs) :=
  match cnt 59 281474976710656 l 0 0 with
  | some (n, r) => if low ≤ (n : Int) ∧ (n : Int) ≤ high then some (n, r) else none
  | none => none
def pTxt (most : Nat) (l : Bs) : Option (Bs × Bs) :=
  match cnt 58 65536 l 0 0 with
  | some (n, r) => if r.length ≤ n then none else if r[n]? ≠ some 44 then none else if most < n then none else some (r.take n, r.drop (n + 1))
  | none => none

theorem digit_back {d : Nat} (h : d < 10) : (UInt8.ofNat (48 + d)).toNat = 48 + d := by
  simp [UInt8.toNat_ofNat']
  omega
theorem digit_of (c : UInt8) (h : ¬ (c.toNat < 48 ∨ 57 < c.toNat)) : UInt8.ofNat (48 + (c.toNat - 48)) = c := by
  apply UInt8.toNat_inj.1
  rw [digit_back (by omega)]
  omega

/-- What was read is the numeral, and what ends it. -/
theorem cnt_more {e : UInt8} {most : Nat} : ∀ (l : Bs) (i n m : Nat) (r : Bs), 0 < i → (i = 1 → True) → n ≤ most → (n = 0 → i = 1) → cnt e most l i n = some (m, r) → dec n ++ l = dec m ++ e :: r ∧ m ≤ most
  | [], i, n, m, r, _, _, _, _, h => by simp [cnt] at h
  | c :: l, i, n, m, r, hi, _, hn, h0, h => by
    rw [cnt] at h
    by_cases he : c = e ∧ 0 < i
    · rw [if_pos he] at h
      cases h
      rw [he.1]
      exact ⟨rfl, hn⟩
    · rw [if_neg he] at h
      by_cases hc : c.toNat < 48 ∨ 57 < c.toNat ∨ (i = 1 ∧ n = 0)
      · rw [if_pos hc] at h; cases h
      · rw [if_neg hc] at h
        by_cases hm : most < 10 * n + (c.toNat - 48)
        · rw [if_pos hm] at h; cases h
        · rw [if_neg hm] at h
          have hn0 : n ≠ 0 := fun hz => hc (.inr (.inr ⟨h0 hz, hz⟩))
          have ih := cnt_more l (i + 1) (10 * n + (c.toNat - 48)) m r (by omega) (fun _ => trivial) (by omega) (fun h => by omega) h
          have hd : dec (10 * n + (c.toNat - 48)) = dec n ++ [c] := by
            rw [dec_big (by omega), show (10 * n + (c.toNat - 48)) / 10 = n by omega, show (10 * n + (c.toNat - 48)) % 10 = c.toNat - 48 by omega, digit_of c (by omega)]
          rw [hd] at ih
          exact ⟨by rw [← ih.1]; simp, ih.2⟩
theorem cnt_read {e : UInt8} {most : Nat} {l : Bs} {m : Nat} {r : Bs} (h : cnt e most l 0 0 = some (m, r)) : l = dec m ++ e :: r ∧ m ≤ most := by
  cases l with
  | nil => simp [cnt] at h
  | cons c l =>
    rw [cnt, if_neg (by omega)] at h
    by_cases hc : c.toNat < 48 ∨ 57 < c.toNat ∨ ((0 : Nat) = 1 ∧ (0 : Nat) = 0)
    · rw [if_pos hc] at h; cases h
    · rw [if_neg hc] at h
      by_cases hm : most < 10 * 0 + (c.toNat - 48)
      · rw [if_pos hm] at h; cases h
      · rw [if_neg hm] at h
        have ih := cnt_more l (0 + 1) (10 * 0 + (c.toNat - 48)) m r (by omega) (fun _ => trivial) (by omega) (fun _ => rfl) h
        rw [show 10 * 0 + (c.toNat - 48) = c.toNat - 48 by omega, dec_small (by omega), digit_of c (by omega)] at ih
        exact ⟨ih.1, ih.2⟩
/-- The numeral, and a byte that is no digit behind it, is read. -/
theorem cnt_digits {e : UInt8} {most : Nat} (he : e.toNat < 48 ∨ 57 < e.toNat) (l : Bs) : ∀ (k m : Nat), m ≤ k → m ≤ most → (cnt e most (dec m ++ l) 0 0 = cnt e most l (dec m).length m) ∧ 0 < (dec m).length ∧ (1 < (dec m).length → m ≠ 0)
  | k, m, hk, hm => by
    by_cases h : m < 10
    · rw [dec_small h]
      have hb := digit_back h
      refine ⟨?_, by simp, by simp⟩
      show cnt e most (UInt8.ofNat (48 + m) :: l) 0 0 = _
      rw [cnt, if_neg (by omega), if_neg (by rw [hb]; omega), hb, if_neg (by omega)]
      congr 1
      omega
    · obtain ⟨k, rfl⟩ : ∃ q, k = q + 1 := ⟨k - 1, by omega⟩
      have ih := cnt_digits (most := most) he (UInt8.ofNat (48 + m % 10) :: l) k (m / 10) (by omega) (by omega)
      have hb := digit_back (show m % 10 < 10 by omega)
      rw [dec_big h]
      refine ⟨?_, by simp, fun _ => by omega⟩
      rw [List.append_assoc]
      show cnt e most (dec (m / 10) ++ UInt8.ofNat (48 + m % 10) :: l) 0 0 = _
      rw [ih.1, cnt, if_neg (by
        rintro ⟨h1, _⟩
        rw [← h1, hb] at he
        omega), if_neg (by
        rw [hb]
        rintro (h1 | h1 | ⟨h1, h2⟩) <;> omega), hb, if_neg (by omega), List.length_append, List.length_singleton, show 10 * (m / 10) + (48 + m % 10 - 48) = m by omega]
theorem cnt_print {e : UInt8} {most m : Nat} (he : e.toNat < 48 ∨ 57 < e.toNat) (hm : m ≤ most) (r : Bs) : cnt e most (dec m ++ e :: r) 0 0 = some (m, r) := by
  have h := cnt_digits he (e :: r) m m (Nat.le_refl _) hm (most := most)
  rw [h.1, cnt, if_pos ⟨rfl, h.2.1⟩]

theorem pNum_read {low high : Int} {l : Bs} {n : Nat} {r : Bs} (h : pNum low high l = some (n, r)) : l = num n ++ r ∧ low ≤ (n : Int) ∧ (n : Int) ≤ high := by
  unfold pNum at h
  cases hc : cnt 59 281474976710656 l 0 0 with
  | none => rw [hc] at h; cases h
  | some x =>
    obtain ⟨m, q⟩ := x
    rw [hc] at h
    simp only at h
    by_cases hb : low ≤ (m : Int) ∧ (m : Int) ≤ high
    · rw [if_pos hb] at h
      cases h
      have := (cnt_read hc).1
      exact ⟨by rw [this]; simp [num], hb.1, hb.2⟩
    · rw [if_neg hb] at h; cases h
theorem pNum_print {low high : Int} {n : Nat} (h1 : low ≤ (n : Int)) (h2 : (n : Int) ≤ high) (h3 : n ≤ 281474976710656) (r : Bs) : pNum low high (num n ++ r) = some (n, r) := by
  unfold pNum num
  rw [List.append_assoc, show ([59] : Bs) ++ r = 59 :: r from rfl, cnt_print (by decide) h3]
  simp only
  rw [if_pos ⟨h1, h2⟩]
theorem pTxt_read {most : Nat} {l s r : Bs} (h : pTxt most l = some (s, r)) : l = txt s ++ r ∧ s.length ≤ most ∧ s.length ≤ 65536 := by
  unfold pTxt at h
  cases hc : cnt 58 65536 l 0 0 with
  | none => rw [hc] at h; cases h
  | some x =>
    obtain ⟨m, q⟩ := x
    rw [hc] at h
    simp only at h
    by_cases h1 : q.length ≤ m
    · rw [if_pos h1] at h; cases h
    · rw [if_neg h1] at h
      by_cases h2 : q[m]? = some 44
      · rw [if_neg (by simpa using h2)] at h
        by_cases h3 : most < m
        · rw [if_pos h3] at h; cases h
        · rw [if_neg h3] at h
          cases h
          obtain ⟨hr, hm⟩ := cnt_read hc
          have hl : (q.take m).length = m := by simp; omega
          refine ⟨?_, by omega, by omega⟩
          unfold txt
          rw [hl, hr]
          have e : q = q.take m ++ 44 :: q.drop (m + 1) := by
            conv => lhs; rw [← List.take_append_drop m q]
            have hg : q[m]'(by omega) = 44 := by rw [List.getElem?_eq_getElem (by omega)] at h2; exact Option.some.inj h2
            rw [List.drop_eq_getElem_cons (show m < q.length by omega), hg]
          conv => lhs; rw [e]
          simp
      · rw [if_pos (by simpa using h2)] at h; cases h
theorem pTxt_print {most : Nat} {s : Bs} (h1 : s.length ≤ most) (h2 : s.length ≤ 65536) (r : Bs) : pTxt most (txt s ++ r) = some (s, r) := by
  unfold pTxt txt
  rw [List.append_assoc, show (58 :: (s ++ [44])) ++ r = 58 :: (s ++ 44 :: r) by simp, cnt_print (by decide) h2]
  simp only
  rw [if_neg (by simp), if_neg (by simp), if_neg (by omega)]
  simp

end Go.Proofs.YtfbhchpbflaphaaGreatDoor.C

/- Plain facts on objects: when they are valid, their bytes; what is printed is read, what is read was printed. No program in sight. -/
namespace Go.Proofs.YtfbhchpbflaphaaGreatDoor.C

/-- A symbol (name, mode, section), a relocation (place, symbol), a section (kind, data, relocations), an object. -/
abbrev Sym := ByteArray × (Int × Int)
abbrev Rel := Int × ByteArray
abbrev Sec := Int × (ByteArray × List Rel)
abbrev Obj := List Sym × List Sec
def nm (s : Sym) : Bs := s.1.data.toList
/-- The first symbol of a name. -/
def idx : List Sym → Bs → Option Nat
  | [], _ => none
  | s :: l, x => if nm s = x then some 0 else (idx l x).map (· + 1)
theorem idx_lt : ∀ {l : List Sym} {x : Bs} {i : Nat}, idx l x = some i → ∃ h : i < l.length, nm l[i] = x
  | [], x, i, h => by simp [idx] at h
  | s :: l, x, i, h => by
    rw [idx] at h
    by_cases hs : nm s = x
    · rw [if_pos hs] at h
      cases h
      exact ⟨by simp, hs⟩
    · rw [if_neg hs] at h
      cases hj : idx l x with
      | none => rw [hj] at h; cases h
      | some j =>
        rw [hj] at h
        cases h
        obtain ⟨h1, h2⟩ := idx_lt hj
        exact ⟨by simpa using h1, by simpa using h2⟩
theorem idx_first : ∀ {l : List Sym} {x : Bs} {i : Nat}, idx l x = some i → ∀ j (h : j < l.length), j < i → nm l[j] ≠ x
  | [], x, i, h, _, _, _ => by simp [idx] at h
  | s :: l, x, i, h, j, hj, hji => by
    rw [idx] at h
    by_cases hs : nm s = x
    · rw [if_pos hs] at h
      cases h
      omega
    · rw [if_neg hs] at h
      cases hk : idx l x with
      | none => rw [hk] at h; cases h
      | some k =>
        rw [hk] at h
        cases h
        cases j with
        | zero => exact hs
        | succ j => exact idx_first hk j (by simpa using hj) (by simpa using hji)
theorem idx_none : ∀ {l : List Sym} {x : Bs}, idx l x = none → ∀ j (h : j < l.length), nm l[j] ≠ x
  | [], x, _, j, h => by simp at h
  | s :: l, x, h, j, hj => by
    rw [idx] at h
    by_cases hs : nm s = x
    · rw [if_pos hs] at h; cases h
    · rw [if_neg hs] at h
      cases hk : idx l x with
      | some k => rw [hk] at h; cases h
      | none =>
        cases j with
        | zero => exact hs
        | succ j => exact idx_none hk j (by simpa using hj)
theorem idx_is {l : List Sym} {x : Bs} {i : Nat} (hi : i < l.length) (h : nm l[i] = x) (hf : ∀ j (h : j < l.length), j < i → nm l[j] ≠ x) : idx l x = some i := by
  cases hk : idx l x with
  | none => exact absurd h (idx_none hk i hi)
  | some k =>
    obtain ⟨h1, h2⟩ := idx_lt hk
    rcases Nat.lt_trichotomy k i with h3 | h3 | h3
    · exact absurd h2 (hf k h1 h3)
    · rw [h3]
    · exact absurd h (idx_first hk i hi h3)

section
variable (okN : ByteArray → Bool)
/-- The names are different identifiers. -/
def namesB (l : List Sym) : Bool := (List.range l.length).all fun i => match l[i]? with | some s => okN s.1 && decide (idx l (nm s) = some i) | none => true
theorem namesB_iff (l : List Sym) : namesB okN l = true ↔ ∀ i (h : i < l.length), okN l[i].1 = true ∧ idx l (nm l[i]) = some i := by
  unfold namesB
  rw [List.all_eq_true]
  constructor
  · intro h i hi
    have := h i (List.mem_range.2 hi)
    rw [List.getElem?_eq_getElem hi] at this
    simpa using this
  · intro h i hi
    have hi := List.mem_range.1 hi
    rw [List.getElem?_eq_getElem hi]
    simpa using h i hi
end
/-- A symbol fits n sections. -/
def symB (n : Nat) (s : Sym) : Bool := decide (0 ≤ s.2.1 ∧ s.2.1 ≤ 3) && decide (-1 ≤ s.2.2 ∧ s.2.2 < n) && !(decide (s.2.1 = 3) && decide (0 ≤ s.2.2)) && !(decide (s.2.2 < 0) && (decide (s.2.1 = 1) || decide (s.2.1 = 2)))
/-- How many symbols own section i. -/
def own (l : List Sym) (i : Nat) : Nat := (l.filter fun s => decide (s.2.2 = (i : Int))).length
def relsB (syms : List Sym) (d : Bs) : List Rel → Int → Bool
  | [], _ => true
  | r :: l, e => decide (e ≤ r.1) && decide (r.1 ≤ (d.length : Int) - 4) && decide ((d.drop r.1.toNat).take 4 = [0, 0, 0, 0]) && (idx syms r.2.data.toList).isSome && relsB syms d l (r.1 + 4)
def kindB (k : Int) (n : Nat) : Bool := (decide (k = 1) && decide (2 ≤ n)) || (decide (k = 2) && decide (n % 4 = 0))
def secB (syms : List Sym) (s : Sec) : Bool := kindB s.1 s.2.1.size && relsB syms s.2.1.data.toList s.2.2 0 && decide (s.2.1.size ≤ 8192)
def ownedB (o : Obj) : Bool := (List.range o.2.length).all fun i => decide (own o.1 i = 1) && match o.2[i]? with | some s => secB o.1 s | none => true
def checkB (okN : ByteArray → Bool) (o : Obj) : Bool := decide (o.1.length ≤ 128 ∧ o.2.length ≤ 128) && namesB okN o.1 && o.1.all (symB o.2.length) && ownedB o
theorem ownedB_iff (o : Obj) : ownedB o = true ↔ ∀ i (h : i < o.2.length), own o.1 i = 1 ∧ secB o.1 o.2[i] = true := by
  unfold ownedB
  rw [List.all_eq_true]
  constructor
  · intro h i hi
    have := h i (List.mem_range.2 hi)
    rw [List.getElem?_eq_getElem hi] at this
    simpa using this
  · intro h i hi
    have hi := List.mem_range.1 hi
    rw [List.getElem?_eq_getElem hi]
    simpa using h i hi

/-! ### Its bytes -/
def encSym (s : Sym) : Bs := txt (nm s) ++ (num s.2.1.toNat ++ num (s.2.2 + 1).toNat)
def encRel (syms : List Sym) (r : Rel) : Bs := num r.1.toNat ++ num ((idx syms r.2.data.toList).getD 0)
def encSec (syms : List Sym) (s : Sec) : Bs := num s.1.toNat ++ (txt s.2.1.data.toList ++ (num s.2.2.length ++ s.2.2.flatMap (encRel syms)))
def wObject : Bs := [111, 98, 106, 101, 99, 116]
def wArchive : Bs := [97, 114, 99, 104, 105, 118, 101]
def encObj (o : Obj) : Bs := txt wObject ++ (num o.1.length ++ (o.1.flatMap encSym ++ (num o.2.length ++ o.2.flatMap (encSec o.1))))

/-! ### Read again -/
def pRep {α : Type} (p : Bs → Option (α × Bs)) : Nat → Bs → Option (List α × Bs)
  | 0, l => some ([], l)
  | n + 1, l => match p l with
    | some (a, r) => match pRep p n r with
      | some (zs, q) => some (a :: zs, q)
      | none => none
    | none => none
def pSym (l : Bs) : Option (Sym × Bs) :=
  match pTxt 32 l with
  | some (s, l1) => match pNum 0 3 l1 with
    | some (m, l2) => match pNum 0 128 l2 with
      | some (k, l3) => some ((⟨s.toArray⟩, (m : Int), (k : Int) - 1), l3)
      | none => none
    | none => none
  | none => none
def pRel (syms : List Sym) (l : Bs) : Option (Rel × Bs) :=
  match pNum 0 8192 l with
  | some (m, l1) => match pNum 0 128 l1 with
    | some (k, l2) => match syms[k]? with
      | some s => some (((m : Int), s.1), l2)
      | none => none
    | none => none
  | none => none
def pSec (syms : List Sym) (l : Bs) : Option (Sec × Bs) :=
  match pNum 0 2 l with
  | some (k, l1) => match pTxt 8192 l1 with
    | some (d, l2) => match pNum 0 8192 l2 with
      | some (n, l3) => match pRep (pRel syms) n l3 with
        | some (rs, l4) => some (((k : Int), ⟨d.toArray⟩, rs), l4)
        | none => none
      | none => none
    | none => none
  | none => none
def pObj (l : Bs) : Option (Obj × Bs) :=
  match pTxt 6 l with
  | some (w, l0) => if w = wObject then match pNum 0 128 l0 with
    | some (n, l1) => match pRep pSym n l1 with
      | some (syms, l2) => match pNum 0 128 l2 with
        | some (m, l3) => match pRep (pSec syms) m l3 with
          | some (secs, l4) => some ((syms, secs), l4)
          | none => none
        | none => none
      | none => none
    | none => none
    else none
  | none => none

theorem pRep_read {α : Type} {p : Bs → Option (α × Bs)} {e : α → Bs} (he : ∀ l a r, p l = some (a, r) → l = e a ++ r) : ∀ (n : Nat) (l : Bs) (zs : List α) (r : Bs), pRep p n l = some (zs, r) → l = zs.flatMap e ++ r ∧ zs.length = n
  | 0, l, zs, r, h => by cases h; simp
  | n + 1, l, zs, r, h => by
    rw [pRep] at h
    cases h1 : p l with
    | none => rw [h1] at h; cases h
    | some x =>
      obtain ⟨a, q⟩ := x
      rw [h1] at h
      simp only at h
      cases h2 : pRep p n q with
      | none => rw [h2] at h; cases h
      | some y =>
        obtain ⟨bs, t⟩ := y
        rw [h2] at h
        cases h
        have ih := pRep_read he n q bs r h2
        refine ⟨?_, by simp [ih.2]⟩
        rw [he _ _ _ h1, ih.1]
        simp
theorem pRep_print {α : Type} {p : Bs → Option (α × Bs)} {e : α → Bs} : ∀ (zs : List α) (r : Bs), (∀ a ∈ zs, ∀ r, p (e a ++ r) = some (a, r)) → pRep p zs.length (zs.flatMap e ++ r) = some (zs, r)
  | [], r, _ => rfl
  | a :: zs, r, he => by
    rw [List.length_cons, pRep, List.flatMap_cons, List.append_assoc, he a List.mem_cons_self]
    simp only
    rw [pRep_print zs r fun b hb => he b (List.mem_cons_of_mem _ hb)]
theorem nm_mk (s : Bs) (x : Int × Int) : nm (⟨s.toArray⟩, x) = s := by simp [nm]
theorem pSym_read (l : Bs) (s : Sym) (r : Bs) (h : pSym l = some (s, r)) : l = encSym s ++ r := by
  unfold pSym at h
  cases h1 : pTxt 32 l with
  | none => rw [h1] at h; cases h
  | some x =>
    obtain ⟨t, l1⟩ := x
    rw [h1] at h
    simp only at h
    cases h2 : pNum 0 3 l1 with
    | none => rw [h2] at h; cases h
    | some y =>
      obtain ⟨m, l2⟩ := y
      rw [h2] at h
      simp only at h
      cases h3 : pNum 0 128 l2 with
      | none => rw [h3] at h; cases h
      | some z =>
        obtain ⟨k, l3⟩ := z
        rw [h3] at h
        cases h
        rw [(pTxt_read h1).1, (pNum_read h2).1, (pNum_read h3).1]
        unfold encSym
        rw [nm_mk]
        simp
theorem pSym_print (n : Nat) (s : Sym) (r : Bs) (h1 : s.1.size ≤ 32) (hs : symB n s = true) (hn : n ≤ 128) : pSym (encSym s ++ r) = some (s, r) := by
  have hb : (0 ≤ s.2.1 ∧ s.2.1 ≤ 3) ∧ (-1 ≤ s.2.2 ∧ s.2.2 < n) := by
    unfold symB at hs
    simp only [Bool.and_eq_true, decide_eq_true_eq] at hs
    exact ⟨hs.1.1.1, hs.1.1.2⟩
  have hl : (nm s).length = s.1.size := by simp [nm]
  unfold pSym encSym
  rw [List.append_assoc, List.append_assoc, pTxt_print (by omega) (by omega)]
  simp only
  rw [pNum_print (by omega) (by omega) (by omega)]
  simp only
  rw [pNum_print (by omega) (by omega) (by omega)]
  simp only
  congr 1
  obtain ⟨a, m, k⟩ := s
  simp only [Prod.mk.injEq, and_true]
  exact ⟨by simp [nm], by simp at hb ⊢; omega, by simp at hb ⊢; omega⟩
theorem pRel_read (okN : ByteArray → Bool) {syms : List Sym} (hn : namesB okN syms = true) (l : Bs) (x : Rel) (r : Bs) (h : pRel syms l = some (x, r)) : l = encRel syms x ++ r := by
  unfold pRel at h
  cases h1 : pNum 0 8192 l with
  | none => rw [h1] at h; cases h
  | some y =>
    obtain ⟨m, l1⟩ := y
    rw [h1] at h
    simp only at h
    cases h2 : pNum 0 128 l1 with
    | none => rw [h2] at h; cases h
    | some z =>
      obtain ⟨k, l2⟩ := z
      rw [h2] at h
      simp only at h
      cases h3 : syms[k]? with
      | none => rw [h3] at h; cases h
      | some s =>
        rw [h3] at h
        cases h
        have hk : k < syms.length := by
          rcases Nat.lt_or_ge k syms.length with h | h
          · exact h
          · rw [List.getElem?_eq_none h] at h3; cases h3
        have hs : syms[k] = s := by rw [List.getElem?_eq_getElem hk] at h3; exact Option.some.inj h3
        have hi := ((namesB_iff okN syms).1 hn k hk).2
        rw [hs] at hi
        rw [(pNum_read h1).1, (pNum_read h2).1]
        unfold encRel
        simp only
        rw [show s.1.data.toList = nm s from rfl, hi]
        simp
theorem pRel_print {syms : List Sym} (hl : syms.length ≤ 128) (x : Rel) (r : Bs) (h0 : 0 ≤ x.1) (h1 : x.1 ≤ 8192) (hs : (idx syms x.2.data.toList).isSome = true) : pRel syms (encRel syms x ++ r) = some (x, r) := by
  obtain ⟨k, hk⟩ := Option.isSome_iff_exists.1 hs
  obtain ⟨hlt, hnm⟩ := idx_lt hk
  unfold pRel encRel
  rw [hk, List.append_assoc, pNum_print (by omega) (by omega) (by omega)]
  simp only [Option.getD_some]
  rw [pNum_print (by omega) (by omega) (by omega)]
  simp only [List.getElem?_eq_getElem hlt]
  congr 1
  obtain ⟨a, b⟩ := x
  simp only [Prod.mk.injEq, and_true]
  refine ⟨by simp at h0 ⊢; omega, ?_⟩
  have : (syms[k]).1.data.toList = b.data.toList := hnm
  exact ByteArray.ext (Array.toList_inj.1 this)
theorem pSec_read (okN : ByteArray → Bool) {syms : List Sym} (hn : namesB okN syms = true) (l : Bs) (x : Sec) (r : Bs) (h : pSec syms l = some (x, r)) : l = encSec syms x ++ r := by
  unfold pSec at h
  cases h1 : pNum 0 2 l with
  | none => rw [h1] at h; cases h
  | some y =>
    obtain ⟨k, l1⟩ := y
    rw [h1] at h
    simp only at h
    cases h2 : pTxt 8192 l1 with
    | none => rw [h2] at h; cases h
    | some z =>
      obtain ⟨d, l2⟩ := z
      rw [h2] at h
      simp only at h
      cases h3 : pNum 0 8192 l2 with
      | none => rw [h3] at h; cases h
      | some u =>
        obtain ⟨n, l3⟩ := u
        rw [h3] at h
        simp only at h
        cases h4 : pRep (pRel syms) n l3 with
        | none => rw [h4] at h; cases h
        | some v =>
          obtain ⟨rs, l4⟩ := v
          rw [h4] at h
          cases h
          have hr := pRep_read (pRel_read okN hn) n l3 rs r h4
          rw [(pNum_read h1).1, (pTxt_read h2).1, (pNum_read h3).1, hr.1]
          unfold encSec
          simp [hr.2]
theorem rels_range {syms : List Sym} {d : Bs} : ∀ {l : List Rel} {e : Int}, relsB syms d l e = true → 0 ≤ e → (∀ x ∈ l, 0 ≤ x.1 ∧ x.1 ≤ (d.length : Int) - 4 ∧ (idx syms x.2.data.toList).isSome = true) ∧ (l.length : Int) * 4 + e ≤ max e d.length
  | [], e, _, h0 => by simp; omega
  | r :: l, e, h, h0 => by
    rw [relsB] at h
    simp only [Bool.and_eq_true, decide_eq_true_eq] at h
    obtain ⟨⟨⟨⟨h1, h2⟩, h3⟩, h4⟩, h5⟩ := h
    obtain ⟨ih1, ih2⟩ := rels_range h5 (by omega)
    refine ⟨fun x hx => ?_, ?_⟩
    · rcases List.mem_cons.1 hx with rfl | hx
      · exact ⟨by omega, h2, h4⟩
      · exact ih1 x hx
    · simp only [List.length_cons]
      omega
theorem pSec_print {syms : List Sym} (hl : syms.length ≤ 128) (x : Sec) (r : Bs) (h : secB syms x = true) : pSec syms (encSec syms x ++ r) = some (x, r) := by
  unfold secB at h
  simp only [Bool.and_eq_true, decide_eq_true_eq] at h
  obtain ⟨⟨hk, hr⟩, hd⟩ := h
  have hk' : x.1 = 1 ∨ x.1 = 2 := by
    unfold kindB at hk
    simp only [Bool.or_eq_true, Bool.and_eq_true, decide_eq_true_eq] at hk
    omega
  have hdl : x.2.1.data.toList.length = x.2.1.size := by simp
  obtain ⟨h1, h2⟩ := rels_range hr (Int.le_refl _)
  have hp : pRep (pRel syms) x.2.2.length (x.2.2.flatMap (encRel syms) ++ r) = some (x.2.2, r) :=
    pRep_print x.2.2 r fun a ha r' => pRel_print hl a r' (h1 a ha).1 (by have := (h1 a ha).2.1; omega) (h1 a ha).2.2
  unfold pSec encSec
  rw [List.append_assoc, List.append_assoc, List.append_assoc, pNum_print (by omega) (by omega) (by omega)]
  simp only
  rw [pTxt_print (by omega) (by omega)]
  simp only
  rw [pNum_print (by omega) (by omega) (by omega)]
  simp only
  rw [hp]
  simp only
  congr 1
  obtain ⟨a, b, c⟩ := x
  have ha : ((a.toNat : Nat) : Int) = a := by simp at hk'; omega
  simp [ha]
theorem pObj_read (okN : ByteArray → Bool) {l : Bs} {o : Obj} {r : Bs} (h : pObj l = some (o, r)) (hn : namesB okN o.1 = true) : l = encObj o ++ r := by
  unfold pObj at h
  cases h0 : pTxt 6 l with
  | none => rw [h0] at h; cases h
  | some x0 =>
    obtain ⟨w, l0⟩ := x0
    rw [h0] at h
    simp only at h
    by_cases hw : w = wObject
    · rw [if_pos hw] at h
      cases h1 : pNum 0 128 l0 with
      | none => rw [h1] at h; cases h
      | some x1 =>
        obtain ⟨n, l1⟩ := x1
        rw [h1] at h
        simp only at h
        cases h2 : pRep pSym n l1 with
        | none => rw [h2] at h; cases h
        | some x2 =>
          obtain ⟨syms, l2⟩ := x2
          rw [h2] at h
          simp only at h
          cases h3 : pNum 0 128 l2 with
          | none => rw [h3] at h; cases h
          | some x3 =>
            obtain ⟨m, l3⟩ := x3
            rw [h3] at h
            simp only at h
            cases h4 : pRep (pSec syms) m l3 with
            | none => rw [h4] at h; cases h
            | some x4 =>
              obtain ⟨secs, l4⟩ := x4
              rw [h4] at h
              cases h
              have e2 := pRep_read pSym_read n l1 syms l2 h2
              have e4 := pRep_read (pSec_read okN hn) m l3 secs r h4
              rw [(pTxt_read h0).1, hw, (pNum_read h1).1, e2.1, (pNum_read h3).1, e4.1]
              unfold encObj
              simp [e2.2, e4.2]
    · rw [if_neg hw] at h; cases h
theorem pObj_print (okN : ByteArray → Bool) (hok : ∀ s, okN s = true → s.size ≤ 32) {o : Obj} (h : checkB okN o = true) (r : Bs) : pObj (encObj o ++ r) = some (o, r) := by
  unfold checkB at h
  simp only [Bool.and_eq_true, decide_eq_true_eq] at h
  obtain ⟨⟨⟨hl, hn⟩, hs⟩, hw⟩ := h
  have hnm := (namesB_iff okN o.1).1 hn
  have hsec := (ownedB_iff o).1 hw
  have p1 : pRep pSym o.1.length (o.1.flatMap encSym ++ (num o.2.length ++ o.2.flatMap (encSec o.1) ++ r)) = some (o.1, num o.2.length ++ o.2.flatMap (encSec o.1) ++ r) :=
    pRep_print o.1 _ fun a ha r' => by
      obtain ⟨i, hi, rfl⟩ := List.getElem_of_mem ha
      exact pSym_print o.2.length _ r' (hok _ (hnm i hi).1) (List.all_eq_true.1 hs _ ha) hl.2
  have p2 : pRep (pSec o.1) o.2.length (o.2.flatMap (encSec o.1) ++ r) = some (o.2, r) :=
    pRep_print o.2 _ fun a ha r' => by
      obtain ⟨i, hi, rfl⟩ := List.getElem_of_mem ha
      exact pSec_print hl.1 _ r' (hsec i hi).2
  unfold pObj encObj
  rw [List.append_assoc, List.append_assoc, List.append_assoc, pTxt_print (by decide) (by decide)]
  simp only [if_true]
  rw [pNum_print (by omega) (by omega) (by omega)]
  simp only
  rw [p1]
  simp only
  rw [List.append_assoc, pNum_print (by omega) (by omega) (by omega)]
  simp only
  rw [p2]

end Go.Proofs.YtfbhchpbflaphaaGreatDoor.C

/- Plain facts on archives, and on what is decoded. No program in sight. -/
namespace Go.Proofs.YtfbhchpbflaphaaGreatDoor.C

abbrev Mem := ByteArray × Obj
section
variable (okN okP : ByteArray → Bool)
/-- What bytes decode to. -/
def decB (l : Bs) : Option Obj := if l.length ≤ 65536 then match pObj l with
    | some (o, r) => if r = [] ∧ checkB okN o = true then some o else none
    | none => none
  else none
theorem decB_read {l : Bs} {o : Obj} (h : decB okN l = some o) : l = encObj o ∧ checkB okN o = true ∧ l.length ≤ 65536 ∧ pObj l = some (o, []) := by
  unfold decB at h
  by_cases hl : l.length ≤ 65536
  · rw [if_pos hl] at h
    cases hp : pObj l with
    | none => rw [hp] at h; cases h
    | some x =>
      obtain ⟨p, r⟩ := x
      rw [hp] at h
      simp only at h
      by_cases hc : r = [] ∧ checkB okN p = true
      · rw [if_pos hc] at h
        cases h
        obtain ⟨rfl, hc⟩ := hc
        have hn : namesB okN o.1 = true := by
          unfold checkB at hc
          simp only [Bool.and_eq_true] at hc
          exact hc.1.1.2
        have := pObj_read okN hp hn
        rw [List.append_nil] at this
        exact ⟨this, hc, hl, rfl⟩
      · rw [if_neg hc] at h; cases h
  · rw [if_neg hl] at h; cases h
theorem decB_print (hok : ∀ s, okN s = true → s.size ≤ 32) {o : Obj} (h : checkB okN o = true) (hl : (encObj o).length ≤ 65536) : decB okN (encObj o) = some o := by
  have hp := pObj_print okN hok h []
  rw [List.append_nil] at hp
  unfold decB
  rw [if_pos hl, hp]
  show (if ([] : Bs) = [] ∧ _ then _ else _) = _
  rw [if_pos ⟨rfl, h⟩]
/-- No proper beginning of an object's bytes decodes. -/
theorem decB_part (hok : ∀ s, okN s = true → s.size ≤ 32) {x y : Bs} {o p : Obj} (h : decB okN (x ++ y) = some o) (k : decB okN x = some p) : y = [] := by
  obtain ⟨_, _, _, h1⟩ := decB_read okN h
  obtain ⟨k1, k2, _, _⟩ := decB_read okN k
  rw [k1, pObj_print okN hok k2 y] at h1
  cases h1
  rfl

/-- The members' names are different paths; their objects are valid. -/
def memsB (l : List Mem) : Bool := decide (l.length ≤ 64) && (List.range l.length).all fun i => match l[i]? with
  | some m => okP m.1 && checkB okN m.2 && (List.range i).all fun j => match l[j]? with | some q => decide (q.1.data.toList ≠ m.1.data.toList) | none => true
  | none => true
theorem memsB_iff (l : List Mem) : memsB okN okP l = true ↔ l.length ≤ 64 ∧ ∀ i (h : i < l.length), okP l[i].1 = true ∧ checkB okN l[i].2 = true ∧ ∀ j (h' : j < l.length), j < i → l[j].1.data.toList ≠ l[i].1.data.toList := by
  unfold memsB
  rw [Bool.and_eq_true, List.all_eq_true, decide_eq_true_iff]
  constructor
  · rintro ⟨h0, h⟩
    refine ⟨h0, fun i hi => ?_⟩
    have := h i (List.mem_range.2 hi)
    rw [List.getElem?_eq_getElem hi] at this
    simp only [Bool.and_eq_true, List.all_eq_true] at this
    refine ⟨this.1.1, this.1.2, fun j hj hji => ?_⟩
    have h2 := this.2 j (List.mem_range.2 hji)
    rw [List.getElem?_eq_getElem hj] at h2
    simpa using h2
  · rintro ⟨h0, h⟩
    refine ⟨h0, fun i hi => ?_⟩
    have hi := List.mem_range.1 hi
    rw [List.getElem?_eq_getElem hi]
    simp only [Bool.and_eq_true, List.all_eq_true]
    obtain ⟨h1, h2, h3⟩ := h i hi
    refine ⟨⟨h1, h2⟩, fun j hj => ?_⟩
    have hj := List.mem_range.1 hj
    rw [List.getElem?_eq_getElem (show j < l.length by omega)]
    simpa using h3 j (by omega) hj
def encMem (m : Mem) : Bs := txt m.1.data.toList ++ txt (encObj m.2)
def encArc (l : List Mem) : Bs := txt wArchive ++ (num l.length ++ l.flatMap encMem)
def pMem (l : Bs) : Option (Mem × Bs) :=
  match pTxt 128 l with
  | some (s, l1) => match pTxt 65536 l1 with
    | some (b, l2) => match decB okN b with
      | some o => some ((⟨s.toArray⟩, o), l2)
      | none => none
    | none => none
  | none => none
def pArc (l : Bs) : Option (List Mem × Bs) :=
  match pTxt 7 l with
  | some (w, l0) => if w = wArchive then match pNum 0 64 l0 with
    | some (n, l1) => pRep (pMem okN) n l1
    | none => none
    else none
  | none => none
/-- What bytes unpack to. -/
def unpB (l : Bs) : Option (List Mem) := if l.length ≤ 65536 then match pArc okN l with
    | some (ms, r) => if r = [] ∧ memsB okN okP ms = true then some ms else none
    | none => none
  else none
/-- What Pack gives: bytes, or an error. -/
def packB (l : List Mem) : Bs × Int := if memsB okN okP l then (if l.all fun m => decide ((encObj m.2).length ≤ 65536) then (if (encArc l).length ≤ 65536 then (encArc l, 0) else ([], 10)) else ([], 10)) else ([], 1)
theorem pMem_read (l : Bs) (m : Mem) (r : Bs) (h : pMem okN l = some (m, r)) : l = encMem m ++ r := by
  unfold pMem at h
  cases h1 : pTxt 128 l with
  | none => rw [h1] at h; cases h
  | some x =>
    obtain ⟨s, l1⟩ := x
    rw [h1] at h
    simp only at h
    cases h2 : pTxt 65536 l1 with
    | none => rw [h2] at h; cases h
    | some y =>
      obtain ⟨b, l2⟩ := y
      rw [h2] at h
      simp only at h
      cases h3 : decB okN b with
      | none => rw [h3] at h; cases h
      | some o =>
        rw [h3] at h
        cases h
        rw [(pTxt_read h1).1, (pTxt_read h2).1, (decB_read okN h3).1]
        unfold encMem
        simp
theorem pMem_print (hok : ∀ s, okN s = true → s.size ≤ 32) (m : Mem) (r : Bs) (h1 : m.1.size ≤ 128) (h2 : checkB okN m.2 = true) (h3 : (encObj m.2).length ≤ 65536) : pMem okN (encMem m ++ r) = some (m, r) := by
  have hl : m.1.data.toList.length = m.1.size := by simp
  unfold pMem encMem
  rw [List.append_assoc, pTxt_print (by omega) (by omega)]
  simp only
  rw [pTxt_print h3 h3]
  simp only
  rw [decB_print okN hok h2 h3]
theorem unpB_read {l : Bs} {ms : List Mem} (h : unpB okN okP l = some ms) : l = encArc ms ∧ memsB okN okP ms = true ∧ l.length ≤ 65536 ∧ pArc okN l = some (ms, []) ∧ ms.all (fun m => decide ((encObj m.2).length ≤ 65536)) = true := by
  unfold unpB at h
  by_cases hl : l.length ≤ 65536
  · rw [if_pos hl] at h
    cases hp : pArc okN l with
    | none => rw [hp] at h; cases h
    | some x =>
      obtain ⟨p, r⟩ := x
      rw [hp] at h
      simp only at h
      by_cases hc : r = [] ∧ memsB okN okP p = true
      · rw [if_pos hc] at h
        cases h
        obtain ⟨rfl, hc⟩ := hc
        have hp' := hp
        unfold pArc at hp
        cases h0 : pTxt 7 l with
        | none => rw [h0] at hp; cases hp
        | some x0 =>
          obtain ⟨w, l0⟩ := x0
          rw [h0] at hp
          simp only at hp
          by_cases hw : w = wArchive
          · rw [if_pos hw] at hp
            cases h1 : pNum 0 64 l0 with
            | none => rw [h1] at hp; cases hp
            | some x1 =>
              obtain ⟨n, l1⟩ := x1
              rw [h1] at hp
              simp only at hp
              have e := pRep_read (pMem_read okN) n l1 ms [] hp
              have hlen : l = encArc ms := by
                rw [(pTxt_read h0).1, hw, (pNum_read h1).1, e.1]
                unfold encArc
                simp [e.2]
              refine ⟨hlen, hc, hl, rfl, ?_⟩
              rw [List.all_eq_true]
              intro m hm
              have hsub : (encObj m.2).length ≤ (ms.flatMap encMem).length := by
                obtain ⟨a, b, rfl⟩ := List.append_of_mem hm
                simp only [List.flatMap_append, List.flatMap_cons, List.length_append, encMem, txt, List.length_cons]
                omega
              have hlen2 := congrArg List.length hlen
              unfold encArc at hlen2
              simp only [List.length_append] at hlen2
              exact decide_eq_true (by omega)
          · rw [if_neg hw] at hp; cases hp
      · rw [if_neg hc] at h; cases h
  · rw [if_neg hl] at h; cases h
theorem pArc_print (hok : ∀ s, okN s = true → s.size ≤ 32) (hokP : ∀ s, okP s = true → s.size ≤ 128) {ms : List Mem} (h : memsB okN okP ms = true) (hs : ms.all (fun m => decide ((encObj m.2).length ≤ 65536)) = true) (r : Bs) : pArc okN (encArc ms ++ r) = some (ms, r) := by
  obtain ⟨h1, h2⟩ := (memsB_iff okN okP ms).1 h
  unfold pArc encArc
  rw [List.append_assoc, List.append_assoc, pTxt_print (by decide) (by decide)]
  simp only [if_true]
  rw [pNum_print (by omega) (by omega) (by omega)]
  simp only
  refine pRep_print ms r fun a ha r' => ?_
  obtain ⟨i, hi, rfl⟩ := List.getElem_of_mem ha
  exact pMem_print okN hok _ r' (hokP _ (h2 i hi).1) (h2 i hi).2.1 (by have := List.all_eq_true.1 hs _ ha; simpa using this)
theorem unpB_print (hok : ∀ s, okN s = true → s.size ≤ 32) (hokP : ∀ s, okP s = true → s.size ≤ 128) {ms : List Mem} (h : memsB okN okP ms = true) (hs : ms.all (fun m => decide ((encObj m.2).length ≤ 65536)) = true) (hl : (encArc ms).length ≤ 65536) : unpB okN okP (encArc ms) = some ms := by
  have hp := pArc_print okN okP hok hokP h hs []
  rw [List.append_nil] at hp
  unfold unpB
  rw [if_pos hl, hp]
  show (if ([] : Bs) = [] ∧ _ then _ else _) = _
  rw [if_pos ⟨rfl, h⟩]
theorem unpB_part (hok : ∀ s, okN s = true → s.size ≤ 32) (hokP : ∀ s, okP s = true → s.size ≤ 128) {x y : Bs} {o p : List Mem} (h : unpB okN okP (x ++ y) = some o) (k : unpB okN okP x = some p) : y = [] := by
  obtain ⟨_, _, _, h1, _⟩ := unpB_read okN okP h
  obtain ⟨k1, k2, _, _, k3⟩ := unpB_read okN okP k
  rw [k1, pArc_print okN okP hok hokP k2 k3 y] at h1
  cases h1
  rfl
/-- No string is the bytes of both. -/
theorem not_both {l : Bs} {o : Obj} {ms : List Mem} (h : decB okN l = some o) (k : unpB okN okP l = some ms) : False := by
  have h1 := (decB_read okN h).1
  have k1 := (unpB_read okN okP k).1
  rw [h1] at k1
  have e : ∀ (w : Bs) (r : Bs), (txt w ++ r)[0]? = (dec w.length ++ 58 :: (w ++ 44 :: r))[0]? := fun w r => by unfold txt; simp
  have e1 : (encObj o)[0]? = some 54 := by
    unfold encObj
    rw [e, show wObject.length = 6 from rfl, dec_small (by decide)]
    rfl
  have e2 : (encArc ms)[0]? = some 55 := by
    unfold encArc
    rw [e, show wArchive.length = 7 from rfl, dec_small (by decide)]
    rfl
  rw [k1, e2] at e1
  cases e1
end

end Go.Proofs.YtfbhchpbflaphaaGreatDoor.C

/- Slices that the call builds, of elements that may point to other blocks of the call. For any program. -/
namespace Go.Proofs.YtfbhchpbflaphaaGreatDoor
open Go.RowKit

/-- The blocks from base on that are there, but for the row of v. -/
def Bl (w : World) (base : Nat) (v : Value) : Nat → Prop := fun k => base ≤ k ∧ k < w.heap.size ∧ v.ownBlock ≠ some k
/-- The blocks that have come since w. -/
def New (w w' : World) : Nat → Prop := fun k => w.heap.size ≤ k ∧ k < w'.heap.size
/-- The slice v of n elements holds l, in a row of the call's own; what the elements point to lies in blocks from base on. -/
def OwnF {α : Type} (r : Rep α) (w : World) (base : Nat) (e : TypeId) (v : Value) (n : Nat) (l : List α) : Prop :=
  n = l.length ∧ ∃ xs, OwnAt w base e r.size v n xs ∧ Flat r w (Bl w base v) l xs
section
variable {α : Type} {r : Rep α} {w w' : World} {base n : Nat} {e : TypeId} {v : Value} {l : List α}
theorem OwnF.nil (r : Rep α) (w : World) (base : Nat) (e : TypeId) : OwnF r w base e (.slice none 0 0) 0 [] := ⟨rfl, [], OwnAt.nil _ _ _ _, rfl⟩
/-- Blocks below base are written, and new ones are made. -/
theorem OwnF.below (h : OwnF r w base e v n l) (hs : w.heap.size ≤ w'.heap.size) (hk : ∀ k, base ≤ k → k < w.heap.size → w'.heap[k]? = w.heap[k]?) : OwnF r w' base e v n l := by
  obtain ⟨hn, xs, ho, hf⟩ := h
  have hlow : ∀ g, v.ownBlock = some g → base ≤ g := by
    intro g hg
    obtain ⟨_, ⟨rfl, _⟩ | ⟨g', off, cap, cur, rfl, hb, _⟩⟩ := ho
    · simp [Value.ownBlock] at hg
    · simp [Value.ownBlock] at hg; omega
  exact ⟨hn, xs, ho.keep fun g hg hlt => hk g (hlow g hg) hlt, hf.keep (fun k hk => ⟨hk.1, Nat.lt_of_lt_of_le hk.2.1 hs, hk.2.2⟩) fun k hk' => hk k hk'.1 hk'.2.1⟩
theorem OwnF.ext (h : OwnF r w base e v n l) (he : Ext w w') : OwnF r w' base e v n l := h.below he.size fun k _ hk => he.block k hk
theorem OwnF.grownLow (h : OwnF r w base e v n l) {b : Nat} (hg : w.grownBy w' (some b)) (hb : b < base) : OwnF r w' base e v n l :=
  h.below hg.size fun k hk1 hk2 => hg.block k hk2 fun e => by have := Option.some.inj e; omega
/-- A row of a slice that was begun later is written. -/
theorem OwnF.grownHigh (h : OwnF r w base e v n l) {b : Nat} (hg : w.grownBy w' (some b)) (hb : w.heap.size ≤ b) : OwnF r w' base e v n l :=
  h.below hg.size fun k _ hk2 => hg.block k hk2 fun e => by have := Option.some.inj e; omega
theorem OwnF.form (h : OwnF r w base e v n l) : ∃ A c, v = .slice A n c ∧ n ≤ c ∧ c ≤ 9223372036854775807 := by
  obtain ⟨hn, xs, ⟨_, ⟨rfl, rfl⟩ | ⟨g, off, cap, cur, rfl, _, _, h1, h2, _⟩⟩, hf⟩ := h
  · exact ⟨none, 0, rfl, Nat.le_refl _, by decide⟩
  · exact ⟨_, cap, rfl, h1, h2⟩
/-- Its cells, in blocks from base on. -/
theorem OwnF.slice (h : OwnF r w base e v n l) : ∃ A c, v = .slice A n c ∧ SliceAt r w (fun k => base ≤ k ∧ k < w.heap.size) A c l := by
  obtain ⟨hn, xs, ho, hf⟩ := h
  have hf' : Flat r w (fun k => base ≤ k ∧ k < w.heap.size) l xs := hf.keep (fun k hk => ⟨hk.1, hk.2.1⟩) fun _ _ => rfl
  rcases Nat.eq_zero_or_pos n with h0 | h0
  · have hl : l = [] := List.eq_nil_of_length_eq_zero (by omega)
    subst hl
    obtain ⟨_, ⟨rfl, _⟩ | ⟨g, off, cap, cur, rfl, _, _, h1, h2, _⟩⟩ := ho
    · exact ⟨none, 0, by rw [h0], SliceAt.nil _ _ _ _ _ (by decide)⟩
    · exact ⟨_, cap, rfl, SliceAt.nil _ _ _ _ _ h2⟩
  · obtain ⟨g, off, cap, rfl, hb, hlt, hnc, hcap, hc⟩ := ho.cells h0
    exact ⟨_, cap, rfl, by omega, hcap, fun _ => ⟨g, off, rfl, ⟨hb, hlt⟩, hf'.row hc⟩⟩
/-- One element more, behind an append. -/
theorem OwnF.push {xs us : List Value} {v' : Value} {a : α} (hn : n = l.length) (hf : Flat r w (Bl w base v) l xs) (ha : r.is w (Bl w base v) a us)
    (ho : OwnAt w' base e r.size v' (n + 1) (xs ++ us)) (hg : w.grownBy w' v.ownBlock) (hv : v'.ownBlock = v.ownBlock ∨ ∃ g, v'.ownBlock = some g ∧ w.heap.size ≤ g ∧ g < w'.heap.size) : OwnF r w' base e v' (n + 1) (l ++ [a]) := by
  refine ⟨by simp [hn], xs ++ us, ho, ?_⟩
  have hs : ∀ k, Bl w base v k → Bl w' base v' k := by
    rintro k ⟨h1, h2, h3⟩
    refine ⟨h1, Nat.lt_of_lt_of_le h2 hg.size, ?_⟩
    rcases hv with hv | ⟨g, hv, h4, _⟩
    · rw [hv]; exact h3
    · rw [hv]
      intro e
      have := Option.some.inj e
      omega
  have hk : ∀ k, Bl w base v k → w'.heap[k]? = w.heap[k]? := fun k hk => hg.block k hk.2.1 fun e => hk.2.2 e.symm
  exact Flat.append (Flat.one (r.keep ha hs hk)) (hf.keep hs hk)
end
theorem SliceAt.sub {α : Type} {r : Rep α} {w : World} {B B' : Nat → Prop} {A : Option Addr} {c : Nat} {l : List α} (h : SliceAt r w B A c l) (hB : ∀ k, B k → B' k) : SliceAt r w B' A c l := h.keep hB fun _ _ => rfl
theorem SliceAt.grown {α : Type} {r : Rep α} {w w' : World} {b : Nat} {A : Option Addr} {c : Nat} {l : List α} (h : SliceAt r w (fun k => k < w.heap.size ∧ k ≠ b) A c l) (hg : w.grownBy w' (some b)) : SliceAt r w' (fun k => k < w'.heap.size ∧ k ≠ b) A c l :=
  h.keep (fun _ hk => ⟨Nat.lt_of_lt_of_le hk.1 hg.size, hk.2⟩) fun k hk => hg.block k hk.1 fun e => hk.2 (Option.some.inj e)
theorem Ext.grownNew {a b c : World} (h : Ext a b) {g : Nat} (hg : a.heap.size ≤ g) (k : b.grownBy c (some g)) : Ext a c := Below.grown h k h.size fun _ hk => by cases hk; exact hg

end Go.Proofs.YtfbhchpbflaphaaGreatDoor

/- Objects in memory; the map of names: object.index. -/
namespace Go.Proofs.YtfbhchpbflaphaaGreatDoor
open Go.RowKit Go.Maps Go.ChangeMaps

def symR : Rep C.Sym := prodR strR (prodR (intR .i64) (intR .i64))
def relR : Rep C.Rel := prodR (intR .i64) strR
def secR : Rep C.Sec := prodR (intR .i64) (prodR strR (sliceR relR))
def objR : Rep C.Obj := prodR (sliceR symR) (sliceR secR)
def memR : Rep C.Mem := prodR strR objR
/-- The cells of symbol k. -/
theorem sym_get {w : World} {A : Option Addr} {c k : Nat} {l : List C.Sym} (h : SliceAt symR w (Old w) A c l) (hk : k < l.length) :
    ∃ b off s m q, A = some ⟨b, off, none⟩ ∧ l[k]? = some (s, m, q) ∧ s.size ≤ 9223372036854775807 ∧ (Lit.int .i64 m).wf = true ∧ (Lit.int .i64 q).wf = true ∧
      ∀ w', Ext w w' → w'.cell? ⟨b, off + k * 3, none⟩ = some (.string s) ∧ w'.cell? ⟨b, off + k * 3 + 1, none⟩ = some (.int .i64 m) ∧ w'.cell? ⟨b, off + k * 3 + 1 + 1, none⟩ = some (.int .i64 q) := by
  obtain ⟨b, off, rfl, _, hr⟩ := h.2.2 (by intro h; rw [h] at hk; simp at hk)
  obtain ⟨us, ⟨x, y, rfl, ⟨rfl, hs⟩, x2, y2, rfl, ⟨rfl, hm⟩, rfl, hq⟩, hc⟩ := hr k hk
  refine ⟨b, off, l[k].1, l[k].2.1, l[k].2.2, rfl, by simp [List.getElem?_eq_getElem hk], hs, hm, hq, fun w' h' => ⟨h'.keepc (hc 0 _ rfl), h'.keepc (hc 1 _ rfl), h'.keepc (hc 2 _ rfl)⟩⟩

/-! ### The map of names -/
theorem idx_snoc (s : C.Sym) (x : List UInt8) : ∀ l : List C.Sym, C.idx (l ++ [s]) x = match C.idx l x with | some i => some i | none => if C.nm s = x then some l.length else none
  | [] => by simp [C.idx]
  | a :: l => by
    rw [List.cons_append, C.idx, C.idx]
    by_cases h : C.nm a = x
    · rw [if_pos h, if_pos h]
    · rw [if_neg h, if_neg h, idx_snoc s x l]
      cases C.idx l x with
      | some i => rfl
      | none =>
        by_cases h2 : C.nm s = x
        · simp [h2]
        · simp [h2]
def mapD (l : List C.Sym) : Nat → DataW Unit
  | 0 => .map []
  | k + 1 => match l[k]? with | some s => (mapD l k).put (.string (C.nm s)) (.lit (.int .i64 (k : Int))) | none => mapD l k
theorem mapD_map (l : List C.Sym) : ∀ k, IsMap (mapD l k)
  | 0 => isMap_empty
  | k + 1 => by
    rw [mapD]
    split
    · exact (mapD_map l k).put _ _
    · exact mapD_map l k
theorem mapD_succ (l : List C.Sym) (k : Nat) (s : C.Sym) (h : l[k]? = some s) : mapD l (k + 1) = (mapD l k).put (.string (C.nm s)) (.lit (.int .i64 (k : Int))) := by rw [mapD, h]
theorem has_mapD (l : List C.Sym) (x : List UInt8) : ∀ k, k ≤ l.length → Maps.has (mapD l k) (.string x) = (C.idx (l.take k) x).isSome
  | 0, _ => rfl
  | k + 1, h => by
    have hk : l[k]? = some l[k] := List.getElem?_eq_getElem (by omega)
    have ih := has_mapD l x k (by omega)
    rw [mapD_succ l k _ hk, List.take_succ_eq_append_getElem (by omega), idx_snoc]
    by_cases e : C.nm l[k] = x
    · subst e
      rw [Maps.has_put_same (mapD_map l k) (show Go.WideAt.IsKeyLit (Lit.string _) from trivial)]
      cases C.idx (l.take k) (C.nm l[k]) <;> simp
    · rw [Maps.has_put_other (by intro h'; cases h'; exact e rfl), ih]
      cases C.idx (l.take k) x <;> simp [e]
def okN (s : ByteArray) : Bool := K.name s.data.toList
/-- The first k names are different identifiers. -/
def okTo2 (l : List C.Sym) (k : Nat) : Prop := ∀ i (h : i < l.length), i < k → okN l[i].1 = true ∧ C.idx l (C.nm l[i]) = some i
theorem idx_take {l : List C.Sym} {x : List UInt8} {k i : Nat} (h : C.idx (l.take k) x = some i) : C.idx l x = some i ∧ i < k := by
  obtain ⟨h1, h2⟩ := C.idx_lt h
  have hl : i < l.length := by simp at h1; omega
  have hk : i < k := by simp at h1; omega
  refine ⟨C.idx_is hl (by simpa using h2) fun j hj hji => ?_, hk⟩
  have := C.idx_first h j (by simp; omega) hji
  simpa using this
theorem idx_at {l : List C.Sym} {k : Nat} (hk : k < l.length) (h : C.idx (l.take k) (C.nm l[k]) = none) : C.idx l (C.nm l[k]) = some k := by
  refine C.idx_is hk rfl fun j hj hji => ?_
  have := C.idx_none h j (by simp; omega)
  simpa using this
theorem names_twice {l : List C.Sym} {k : Nat} (hk : k < l.length) (h : (C.idx (l.take k) (C.nm l[k])).isSome = true) : C.namesB okN l = false := by
  obtain ⟨i, hi⟩ := Option.isSome_iff_exists.1 h
  obtain ⟨h1, h2⟩ := idx_take hi
  rw [Bool.eq_false_iff]
  intro hn
  have := ((C.namesB_iff okN l).1 hn k hk).2
  rw [h1] at this
  cases this
  omega
theorem names_bad {l : List C.Sym} {k : Nat} (hk : k < l.length) (h : okN l[k].1 = false) : C.namesB okN l = false := by
  rw [Bool.eq_false_iff]
  intro hn
  have := ((C.namesB_iff okN l).1 hn k hk).1
  rw [h] at this
  cases this
theorem names_end {l : List C.Sym} (h : okTo2 l l.length) : C.namesB okN l = true := (C.namesB_iff okN l).2 fun i hi => h i hi hi
theorem names_on {l : List C.Sym} {k : Nat} (h : okTo2 l k) (hk : k < l.length) (h1 : okN l[k].1 = true) (h2 : (C.idx (l.take k) (C.nm l[k])).isSome = false) : okTo2 l (k + 1) := by
  intro i hi hik
  by_cases e : i = k
  · subst e
    exact ⟨h1, idx_at hk (by simpa using h2)⟩
  · exact h i hi (by omega)
/-- The map at b leads from each name to its place. -/
def MapTo (w : World) (b : Nat) (l : List C.Sym) (k : Nat) : Prop := w.ownsMap (H := Unit) Tryz.prog 9 (plainElem Tryz.prog 3) b k (mapD l k)
theorem MapTo.ext {w w' : World} {b k : Nat} {l : List C.Sym} (h : MapTo w b l k) (he : Ext w w') : MapTo w' b l k := by
  obtain ⟨es, clock, hb, r⟩ := h
  refine ⟨es, clock, (he.block b ?_).trans hb, r⟩
  rcases Nat.lt_or_ge b w.heap.size with h' | h'
  · exact h'
  · rw [Array.getElem?_eq_none h'] at hb; cases hb
/-- What index gives. -/
def RetIdx (w : World) (l : List C.Sym) (B : Bool) (e : Ending) (w' : World) : Prop :=
  Ext w w' ∧ ((B = false ∧ e = .returned (.tuple #[.map none, .bool false])) ∨ (B = true ∧ ∃ b, w.heap.size ≤ b ∧ e = .returned (.tuple #[.map (some b), .bool true]) ∧ MapTo w' b l l.length))
theorem zero3 (w : World) : (zeroValue 3).run Tryz.prog w = .ok (.int .i64 0) w := by kernel_rfl
theorem Ext.mapBlock {a b c : World} {m : Nat} (h : Ext a b) (hm : a.heap.size ≤ m) (hg : b.grownBy c (some m)) : Ext a c :=
  Below.grown h hg h.size fun k hk => by cases hk; exact hm

set_option maxRecDepth 8000 in
set_option maxHeartbeats 2000000 in
theorem index_any (l : List C.Sym) (A B : Option Addr) (c d n m : Nat) (w : World) (hn : n = l.length) (hA : SliceAt symR w (Old w) A c l) (hs : ∀ s ∈ l, s.1.size ≤ 9000000) (hn2 : n ≤ 100000) :
    Calls Tryz.prog 127 #[.agg #[.slice A n c, .slice B m d]] w (RetIdx w l (C.namesB okN l)) := by
  have hmm := @run_makeMap Tryz.prog
  have h0 : okTo2 l 0 := fun _ _ h => absurd h (Nat.not_lt_zero _)
  have HN := Lib.hid hn
  have HA := Lib.hid hA
  have HS := Lib.hid hs
  have FT := Lib.hid (fun k hk => @names_twice l k hk)
  have FB := Lib.hid (fun k hk => @names_bad l k hk)
  have FE := Lib.hid (@names_end l)
  generalize C.namesB okN l = R at FT FB FE ⊢
  have hm0 : MapTo ((w.alloc (.cells #[.slice A n c, .slice B m d] 56)).alloc (.map #[] 0)) (w.heap.size + 1) l 0 := by
    have := World.ownsMap_made (H := Unit) (w.alloc (.cells #[.slice A n c, .slice B m d] 56)) Tryz.prog 9 (plainElem Tryz.prog 3)
    have e : (w.alloc (.cells #[.slice A n c, .slice B m d] 56)).heap.size = w.heap.size + 1 := by simp
    rw [e] at this
    exact this
  have HM0 := Lib.hid hm0
  have b0 : (w.alloc (.cells #[.slice A n c, .slice B m d] 56)).cell? ⟨w.heap.size, 0, none⟩ = some (.slice A n c) := cell_new w #[.slice A n c, .slice B m d] 56 0
  clear hn hA hs hm0
  go_enter Tryz.func127, Tryz.ntmps127
  go_wp2_with fail
  go_loopw [13] (fun i wr => ∃ k : Nat, k ≤ n ∧ i = .int .i64 k ∧ Hid (okTo2 l k ∧ MapTo wr (w.heap.size + 1) l k ∧ Ext w wr)) (fun i _ => n - (intOf i).toNat)
  case atStart => exact ⟨0, Nat.zero_le _, rfl, h0, HM0.out, ((Ext.refl w).alloc _).alloc _⟩
  case round =>
    obtain ⟨k, hk, rfl, HK⟩ := hrel
    by_cases hlt : k < n
    · have hkz : k < l.length := by rw [← HN.out]; exact hlt
      obtain ⟨b, off, s, md, sc, rfl, hg, hs, hwm, hws, hc⟩ := sym_get HA.out hkz
      have hs9 := HS.out _ (List.mem_of_getElem? hg)
      have hgk : l[k] = (s, md, sc) := by rw [List.getElem?_eq_getElem hkz] at hg; simpa using hg
      have HC := Lib.hid hc
      have HG := Lib.hid hg
      have HGK := Lib.hid hgk
      obtain ⟨c1, c2, c3⟩ := hc wr HK.out.2.2
      clear hc hg hgk
      have hkey : keyOf Tryz.prog 9 (.string s) = some (.string (C.nm (s, md, sc))) := WideMaps.keyOf_string_mk Tryz.underlying9 (by unfold maxLen; omega)
      have hh : Maps.has (mapD l k) (.string (C.nm (s, md, sc))) = (C.idx (l.take k) (C.nm (s, md, sc))).isSome := has_mapD l _ k (by have := HN.out; omega)
      have hft := FT.out k hkz
      have hfb := FB.out k hkz
      rw [HGK.out] at hft hfb
      rw [← hh] at hft
      have hon := names_on HK.out.1 hkz
      rw [HGK.out, ← hh] at hon
      have HFT := Lib.hid hft
      have HFB := Lib.hid hfb
      have HON := Lib.hid hon
      have hms := mapD_succ l k _ HG.out
      clear hft hfb hon hh
      generalize C.nm (s, md, sc) = key at hkey HFT HFB HON hms
      have HT := Lib.hid (fun w1 => Name_any s w1 (show s.size ≤ _ by have : s.size ≤ 9000000 := hs9; omega))
      have hown0 : World.ownsMap (wr.alloc (.cells #[.string s, .int .i64 md, .int .i64 sc] 60)) Tryz.prog 9 (plainElem Tryz.prog 3) (w.heap.size + 1) k (mapD l k) := HK.out.2.1.ext ((Ext.refl _).alloc _)
      rcases Bool.eq_false_or_eq_true (Maps.has (mapD l k) (.string key)) with htw | htw
      · go_wp2_with (at_lookup; refine wpList_lookup_own_ok_int _ rfl _ _ 206 rfl 9 3 .i64 (string_keyed Tryz.underlying9) Tryz.underlying206 Tryz.underlying3 (zero3 _) (w.heap.size + 1) k (mapD l k) rfl hown0 _ _ rfl hkey ?_; intro cz hat hwc; rw [htw])
        go_ret2
        exact ⟨HK.out.2.2.alloc _, Or.inl ⟨HFT.out htw, rfl⟩⟩
      · have HN1 : Hid (∃ x, x = K.name s.data.toList) := ⟨_, rfl⟩
        go_wp2_with (at_lookup; refine wpList_lookup_own_ok_int _ rfl _ _ 206 rfl 9 3 .i64 (string_keyed Tryz.underlying9) Tryz.underlying206 Tryz.underlying3 (zero3 _) (w.heap.size + 1) k (mapD l k) rfl hown0 _ _ rfl hkey ?_; intro cz hat hwc; rw [htw])
        refine (HT.out _).mono ?_
        rintro e w1 ⟨rfl, d1⟩
        have hown1 : World.ownsMap w1 Tryz.prog 9 (plainElem Tryz.prog 3) (w.heap.size + 1) k (mapD l k) := MapTo.ext hown0 d1
        have hwk : (Lit.int .i64 (k : Int)).wf = true := by simp [Lit.wf, IntKind.min, IntKind.max, IntKind.bits, IntKind.signed]; omega
        have cb : w1.cell? ⟨wr.heap.size, 0, none⟩ = some (.string s) := d1.keepc (cell_new wr #[.string s, .int .i64 md, .int .i64 sc] 60 0)
        rcases Bool.eq_false_or_eq_true (K.name s.data.toList) with hn1 | hn1
        · rw [hn1]
          have h1 := HON.out hn1 htw
          have H1 := Lib.hid h1
          clear h1
          go_wp2_with (at_mapUpdate; (refine wpList_mapUpdate_own _ rfl _ _ _ 206 rfl 9 3 (string_keyed Tryz.underlying9) Tryz.underlying206 _ (w.heap.size + 1) k _ rfl hown1 (by unfold maxLen; omega) _ _ _ rfl rfl hkey _ [] (plainElem_int Tryz.underlying3 hwk) ?_); intro w2 hown2 hgrow2)
          go_roundw
          case rel => exact ⟨k + 1, by omega, by go_num, H1.out, by rw [← hms] at hown2; exact hown2, ((HK.out.2.2.alloc _).trans d1).mapBlock (Nat.le_succ _) hgrow2⟩
          case measure => simp [intOf]; omega
        · rw [hn1]
          have hr := HFB.out hn1
          go_wp2_with fail
          go_ret2
          exact ⟨(HK.out.2.2.alloc _).trans d1, Or.inl ⟨hr, rfl⟩⟩
    · go_wp2_with fail
      go_ret2
      refine ⟨HK.out.2.2, Or.inr ⟨FE.out ?_, w.heap.size + 1, Nat.le_succ _, rfl, ?_⟩⟩
      · have := HK.out.1
        rwa [show k = l.length by have := HN.out; omega] at this
      · have := HK.out.2.1
        rwa [show k = l.length by have := HN.out; omega] at this

end Go.Proofs.YtfbhchpbflaphaaGreatDoor

/- The reference's index of a name; sections. -/
namespace Go.Proofs.YtfbhchpbflaphaaGreatDoor
open Go.RowKit Go.Maps Go.ChangeMaps
set_option linter.unusedVariables false

def idxI : Option Nat → Int
  | some i => (i : Int)
  | none => -1
/-- None of the first k names is x. -/
def notTo (l : List C.Sym) (x : List UInt8) (k : Nat) : Prop := ∀ i (h : i < l.length), i < k → C.nm l[i] ≠ x
theorem idx_yes {l : List C.Sym} {x : List UInt8} {k : Nat} (h : notTo l x k) (hk : k < l.length) (h1 : C.nm l[k] = x) : idxI (C.idx l x) = (k : Int) := by
  rw [C.idx_is hk h1 fun j hj hjk => h j hj hjk]
  rfl
theorem idx_no {l : List C.Sym} {x : List UInt8} (h : notTo l x l.length) : idxI (C.idx l x) = -1 := by
  cases e : C.idx l x with
  | none => rfl
  | some i =>
    obtain ⟨h1, h2⟩ := C.idx_lt e
    exact absurd h2 (h i h1 h1)
theorem notTo_succ {l : List C.Sym} {x : List UInt8} {k : Nat} (h : notTo l x k) (hk : k < l.length) (h1 : C.nm l[k] ≠ x) : notTo l x (k + 1) := by
  intro i hi hik
  by_cases e : i = k
  · subst e; exact h1
  · exact h i hi (by omega)

set_option maxRecDepth 8000 in
set_option maxHeartbeats 2000000 in
theorem Index_any (l : List C.Sym) (A B : Option Addr) (c d n m : Nat) (x : ByteArray) (w : World) (hn : n = l.length) (hA : SliceAt symR w (Old w) A c l) (hn2 : n ≤ 100000) (hx : x.size ≤ 9223372036854775807) :
    Calls Tryz.prog 69 #[.agg #[.slice A n c, .slice B m d], .string x] w (Al (.int .i64 (idxI (C.idx l x.data.toList))) w) := by
  have h0 : notTo l x.data.toList 0 := fun _ _ h => absurd h (Nat.not_lt_zero _)
  have HN := Lib.hid hn
  have HA := Lib.hid hA
  have FY := Lib.hid (fun k => @idx_yes l x.data.toList k)
  have FE := Lib.hid (@idx_no l x.data.toList)
  generalize idxI (C.idx l x.data.toList) = R at FY FE ⊢
  have b0 : (w.alloc (.cells #[.slice A n c, .slice B m d] 56)).cell? ⟨w.heap.size, 0, none⟩ = some (.slice A n c) := cell_new w #[.slice A n c, .slice B m d] 56 0
  clear hn hA
  go_enter Tryz.func69, Tryz.ntmps69
  go_wp2_with fail
  go_loopw [10] (fun i wr => ∃ k : Nat, k ≤ n ∧ i = .int .i64 k ∧ Hid (notTo l x.data.toList k ∧ Ext w wr)) (fun i _ => n - (intOf i).toNat)
  case atStart => exact ⟨0, Nat.zero_le _, rfl, h0, (Ext.refl w).alloc _⟩
  case round =>
    obtain ⟨k, hk, rfl, HK⟩ := hrel
    by_cases hlt : k < n
    · have hkz : k < l.length := by rw [← HN.out]; exact hlt
      obtain ⟨b, off, s, md, sc, rfl, hg, hs, hwm, hws, hc⟩ := sym_get HA.out hkz
      have hgk : l[k] = (s, md, sc) := by rw [List.getElem?_eq_getElem hkz] at hg; simpa using hg
      have HC := Lib.hid hc
      obtain ⟨c1, c2, c3⟩ := hc wr HK.out.2
      have hfy := FY.out k HK.out.1 hkz
      have hon := @notTo_succ l x.data.toList k HK.out.1 hkz
      rw [hgk] at hfy hon
      have HFY := Lib.hid hfy
      have HON := Lib.hid hon
      clear hc hg hgk hfy hon
      rcases Bool.eq_false_or_eq_true (s.toList == x.toList) with he | he
      · have hr := HFY.out (by have := eq_of_beq he; rwa [ByteArray.toList_eq, ByteArray.toList_eq] at this)
        go_wp2_with fail
        go_ret
        exact ⟨by rw [hr]; rfl, HK.out.2.alloc _⟩
      · have hr := HON.out (by intro h'; have : C.nm (s, md, sc) = s.data.toList := rfl; rw [this] at h'; rw [ByteArray.toList_eq, ByteArray.toList_eq, h'] at he; simp at he)
        have HR := Lib.hid hr
        clear hr
        go_wp2_with fail
        go_roundw
        case rel => exact ⟨k + 1, by omega, by go_num, HR.out, HK.out.2.alloc _⟩
        case measure => simp [intOf]; omega
    · have hr := FE.out (by have := HK.out.1; rwa [show k = l.length by have := HN.out; omega] at this)
      go_wp2_with fail
      go_ret
      exact ⟨by rw [hr]; rfl, HK.out.2⟩

end Go.Proofs.YtfbhchpbflaphaaGreatDoor

/- Sections: object.section and the reference's. -/
namespace Go.Proofs.YtfbhchpbflaphaaGreatDoor
open Go.RowKit Go.Maps Go.ChangeMaps
set_option linter.unusedVariables false

/-- One relocation behind the place e. -/
def relG (syms : List C.Sym) (d : List UInt8) (r : C.Rel) (e : Int) : Bool :=
  decide (e ≤ r.1) && decide (r.1 ≤ (d.length : Int) - 4) && decide ((d.drop r.1.toNat).take 4 = [0, 0, 0, 0]) && (C.idx syms r.2.data.toList).isSome
def endR : List C.Rel → Int → Int
  | [], e => e
  | r :: l, _ => endR l (r.1 + 4)
theorem relsB_cons (syms : List C.Sym) (d : List UInt8) (r : C.Rel) (l : List C.Rel) (e : Int) : C.relsB syms d (r :: l) e = (relG syms d r e && C.relsB syms d l (r.1 + 4)) := rfl
theorem relsB_append (syms : List C.Sym) (d : List UInt8) : ∀ (l1 l2 : List C.Rel) (e : Int), C.relsB syms d (l1 ++ l2) e = (C.relsB syms d l1 e && C.relsB syms d l2 (endR l1 e))
  | [], l2, e => by simp [C.relsB, endR]
  | r :: l1, l2, e => by rw [List.cons_append, relsB_cons, relsB_cons, relsB_append syms d l1 l2, endR, Bool.and_assoc]
theorem endR_append : ∀ (l : List C.Rel) (r : C.Rel) (e : Int), endR (l ++ [r]) e = r.1 + 4
  | [], _, _ => rfl
  | _ :: l, r, e => by rw [List.cons_append, endR, endR_append l r]
theorem rel_split {rs : List C.Rel} {k : Nat} (hk : k < rs.length) (syms : List C.Sym) (d : List UInt8) (h : C.relsB syms d (rs.take k) 0 = true) :
    C.relsB syms d rs 0 = (relG syms d rs[k] (endR (rs.take k) 0) && C.relsB syms d (rs.drop (k + 1)) (rs[k].1 + 4)) ∧
      C.relsB syms d (rs.take (k + 1)) 0 = relG syms d rs[k] (endR (rs.take k) 0) ∧ endR (rs.take (k + 1)) 0 = rs[k].1 + 4 := by
  refine ⟨?_, ?_, ?_⟩
  · conv => lhs; rw [← List.take_append_drop k rs, List.drop_eq_getElem_cons hk]
    rw [relsB_append, h, relsB_cons, Bool.true_and]
  · rw [List.take_succ_eq_append_getElem hk, relsB_append, h, relsB_cons]
    simp [C.relsB]
  · rw [List.take_succ_eq_append_getElem hk, endR_append]
/-- Up to relocation k all is right; the place behind. -/
def relTo (syms : List C.Sym) (d : List UInt8) (rs : List C.Rel) (k : Nat) (e : Int) : Prop := C.relsB syms d (rs.take k) 0 = true ∧ endR (rs.take k) 0 = e ∧ 0 ≤ e ∧ e ≤ 9223372036854775807
theorem relTo_zero (syms : List C.Sym) (d : List UInt8) (rs : List C.Rel) : relTo syms d rs 0 0 := ⟨rfl, rfl, by decide, by decide⟩
theorem relTo_bad {syms : List C.Sym} {d : List UInt8} {rs : List C.Rel} {k : Nat} {e : Int} (h : relTo syms d rs k e) (hk : k < rs.length) (hb : relG syms d rs[k] e = false) : C.relsB syms d rs 0 = false := by
  have := (rel_split hk syms d h.1).1
  rw [h.2.1, hb] at this
  exact this
theorem relTo_on {syms : List C.Sym} {d : List UInt8} {rs : List C.Rel} {k : Nat} {e : Int} (h : relTo syms d rs k e) (hk : k < rs.length) (hd : d.length ≤ 9223372036854775807) (hb : relG syms d rs[k] e = true) : relTo syms d rs (k + 1) (rs[k].1 + 4) := by
  obtain ⟨h1, h2, h3⟩ := rel_split hk syms d h.1
  rw [h.2.1, hb] at h2
  have : e ≤ rs[k].1 ∧ rs[k].1 ≤ (d.length : Int) - 4 := by
    unfold relG at hb
    simp only [Bool.and_eq_true, decide_eq_true_eq] at hb
    exact ⟨hb.1.1.1, hb.1.1.2⟩
  have := h.2.2.1
  exact ⟨h2, h3, by omega, by omega⟩
theorem relTo_end {syms : List C.Sym} {d : List UInt8} {rs : List C.Rel} {e : Int} (h : relTo syms d rs rs.length e) : C.relsB syms d rs 0 = true := by
  have := h.1
  rwa [List.take_length] at this
/-- The cells of relocation k. -/
theorem rel_get {w : World} {A : Option Addr} {c k : Nat} {l : List C.Rel} (h : SliceAt relR w (Old w) A c l) (hk : k < l.length) :
    ∃ b off a s, A = some ⟨b, off, none⟩ ∧ l[k] = (a, s) ∧ (Lit.int .i64 a).wf = true ∧ s.size ≤ 9223372036854775807 ∧
      ∀ w', Ext w w' → w'.cell? ⟨b, off + k * 2, none⟩ = some (.int .i64 a) ∧ w'.cell? ⟨b, off + k * 2 + 1, none⟩ = some (.string s) := by
  obtain ⟨b, off, rfl, _, hr⟩ := h.2.2 (by intro h; rw [h] at hk; simp at hk)
  obtain ⟨us, ⟨x, y, rfl, ⟨rfl, hm⟩, rfl, hs⟩, hc⟩ := hr k hk
  exact ⟨b, off, l[k].1, l[k].2, rfl, rfl, hm, hs, fun w' h' => ⟨h'.keepc (hc 0 _ rfl), h'.keepc (hc 1 _ rfl)⟩⟩

set_option maxRecDepth 8000 in
set_option maxHeartbeats 2000000 in
theorem section_any (syms : List C.Sym) (kd : Int) (d : ByteArray) (rs : List C.Rel) (A : Option Addr) (c n b : Nat) (w : World) (hn : n = rs.length) (hA : SliceAt relR w (Old w) A c rs) (hm : MapTo w b syms syms.length)
    (hd : d.size ≤ 9223372036854775807) (hkd : (Lit.int .i64 kd).wf = true) :
    Calls Tryz.prog 128 #[.agg #[.int .i64 kd, .string d, .slice A n c], .map (some b)] w (Al (.bool (C.secB syms (kd, d, rs))) w) := by
  have hdl : d.data.toList.length = d.size := by simp
  have hn2 : n ≤ 9223372036854775807 := by have := hA.1; have := hA.2.1; omega
  have hw4 : ∀ i : Int, 0 ≤ i → i ≤ 9223372036854775807 → IntKind.i64.wrap i = i := fun i _ _ => by unfold IntKind.wrap; simp [IntKind.bits, IntKind.signed]; omega
  rcases Bool.eq_false_or_eq_true (C.kindB kd d.size) with hk | hk
  · have hR : C.secB syms (kd, d, rs) = (C.relsB syms d.data.toList rs 0 && decide (d.size ≤ 8192)) := by
      unfold C.secB
      rw [hk]
      rfl
    have FT := Lib.hid (fun k e (hk : k < rs.length) (h : relTo syms d.data.toList rs k e) (hb : relG syms d.data.toList rs[k] e = false) => show C.secB syms (kd, d, rs) = false by rw [hR, relTo_bad h hk hb]; rfl)
    have FE := Lib.hid (fun e (h : relTo syms d.data.toList rs rs.length e) => show C.secB syms (kd, d, rs) = decide (d.size ≤ 8192) by rw [hR, relTo_end h]; rfl)
    generalize C.secB syms (kd, d, rs) = R at FT FE ⊢
    have HN := Lib.hid hn
    have HA := Lib.hid hA
    have HM := Lib.hid hm
    have hcs : (kd = 1 ∧ 2 ≤ (d.size : Int)) ∨ (kd = 2 ∧ (d.size : Int).tmod 4 = 0) := by
      rw [Int.tmod_eq_emod_of_nonneg (by omega)]
      simp [C.kindB] at hk
      omega
    clear hn hA hm hR hk
    rcases hcs with ⟨rfl, h4⟩ | ⟨rfl, h4⟩
    all_goals
      go_enter Tryz.func128, Tryz.ntmps128
      go_wp2_with fail
      go_loopw [33, 5] (fun i ee wr => ∃ (k : Nat) (e : Int), k ≤ n ∧ i = .int .i64 k ∧ ee = .int .i64 e ∧ Hid (relTo syms d.data.toList rs k e ∧ Ext w wr ∧ wr.cell? ⟨w.heap.size, 1, none⟩ = some (.string d))) (fun i _ _ => n - (intOf i).toNat)
      case atStart => exact ⟨0, 0, Nat.zero_le _, rfl, rfl, relTo_zero _ _ _, (Ext.refl w).alloc _, cell_new w _ 67 1⟩
      case round =>
        obtain ⟨k, e, hk, rfl, rfl, HK⟩ := hrel
        by_cases hlt : k < n
        · have hkz : k < rs.length := by rw [← HN.out]; exact hlt
          obtain ⟨bb, off, a, s, rfl, hgk, hwa, hs, hc⟩ := rel_get HA.out hkz
          have HC := Lib.hid hc
          obtain ⟨c1, c2⟩ := hc wr HK.out.2.1
          have hft := FT.out k e hkz HK.out.1
          have hon := relTo_on HK.out.1 hkz (by rw [hdl]; exact hd)
          rw [hgk] at hft hon
          have HFT := Lib.hid hft
          have HON := Lib.hid hon
          clear hc hgk hft hon
          have hq := HK.out.1.2.2
          have cd : (wr.alloc (.cells #[.int .i64 a, .string s] 151)).cell? ⟨w.heap.size, 1, none⟩ = some (.string d) := ((Ext.refl wr).alloc _).keepc HK.out.2.2
          by_cases ha1 : a < e
          · have hr := HFT.out (by unfold relG; rw [show decide (e ≤ a) = false by simp; omega]; rfl)
            go_wp2_with fail
            go_ret
            exact ⟨by first | rfl | (rw [hr]; rfl), HK.out.2.1.alloc _⟩
          · by_cases ha2 : a > (d.size : Int) - 4
            · have hr := HFT.out (by unfold relG; rw [show decide (a ≤ (d.data.toList.length : Int) - 4) = false by rw [hdl]; simp; omega]; simp)
              go_wp2_with fail
              go_ret
              exact ⟨by first | rfl | (rw [hr]; rfl), HK.out.2.1.alloc _⟩
            · have hex : (d.extract a.toNat (a + 4).toNat).toList = (d.data.toList.drop a.toNat).take 4 := by
                rw [ByteArray.toList_eq, Lib.extract_data, show (a + 4).toNat - a.toNat = 4 by omega]
              have hown : World.ownsMap (wr.alloc (.cells #[.int .i64 a, .string s] 151)) Tryz.prog 9 (plainElem Tryz.prog 3) b syms.length (mapD syms syms.length) := HM.out.ext (HK.out.2.1.alloc _)
              have hkey : keyOf Tryz.prog 9 (.string s) = some (.string s.data.toList) := WideMaps.keyOf_string_mk Tryz.underlying9 (by unfold maxLen; omega)
              have hh : Maps.has (mapD syms syms.length) (.string s.data.toList) = (C.idx syms s.data.toList).isSome := by
                rw [has_mapD syms _ _ (Nat.le_refl _), List.take_length]
              have hrel : relG syms d.data.toList (a, s) e = (decide ((d.data.toList.drop a.toNat).take 4 = [0, 0, 0, 0]) && (C.idx syms s.data.toList).isSome) := by
                unfold relG
                rw [show decide (e ≤ a) = true by simp; omega, show decide (a ≤ (d.data.toList.length : Int) - 4) = true by rw [hdl]; simp; omega]
                rfl
              have HR := Lib.hid hrel
              clear hrel
              rcases Bool.eq_false_or_eq_true ((d.data.toList.drop a.toNat).take 4 == [0, 0, 0, 0]) with hz | hz
              · have hz2 : (!((d.data.toList.drop a.toNat).take 4 == [0, 0, 0, 0])) = false := by rw [hz]; rfl
                rcases Bool.eq_false_or_eq_true ((C.idx syms s.data.toList).isSome) with hi | hi
                · have h9 := HON.out (by rw [HR.out, hi]; simpa using hz)
                  have H9 := Lib.hid h9
                  rw [hi] at hh
                  clear h9
                  go_wp2_with (at_lookup; refine wpList_lookup_own_ok_int _ rfl _ _ 206 rfl 9 3 .i64 (string_keyed Tryz.underlying9) Tryz.underlying206 Tryz.underlying3 (zero3 _) b syms.length (mapD syms syms.length) rfl hown _ _ rfl hkey ?_; intro cz hat hwc; rw [hh])
                  exact ⟨⟨k + 1, a + 4, by omega, by go_num, rfl, H9.out, HK.out.2.1.alloc _, cd⟩, by simp [intOf]; omega⟩
                · have hr := HFT.out (by rw [HR.out, hi]; simp)
                  rw [hi] at hh
                  go_wp2_with (at_lookup; refine wpList_lookup_own_ok_int _ rfl _ _ 206 rfl 9 3 .i64 (string_keyed Tryz.underlying9) Tryz.underlying206 Tryz.underlying3 (zero3 _) b syms.length (mapD syms syms.length) rfl hown _ _ rfl hkey ?_; intro cz hat hwc; rw [hh])
                  go_ret
                  exact ⟨by first | rfl | (rw [hr]; rfl), HK.out.2.1.alloc _⟩
              · have hz2 : (!((d.data.toList.drop a.toNat).take 4 == [0, 0, 0, 0])) = true := by rw [hz]; rfl
                have hr := HFT.out (by rw [HR.out]; simp at hz; simp [hz])
                go_wp2_with fail
                go_ret
                exact ⟨by first | rfl | (rw [hr]; rfl), HK.out.2.1.alloc _⟩
        · have hr := FE.out e (by have := HK.out.1; rwa [show k = rs.length by have := HN.out; omega] at this)
          have cd := HK.out.2.2
          go_wp2_with fail
          go_ret
          exact ⟨by rw [hr]; simp; omega, HK.out.2.1⟩
  · have hr : C.secB syms (kd, d, rs) = false := by
      unfold C.secB
      rw [hk]
      rfl
    rw [hr]
    have h1 : kd = 1 → ¬ 2 ≤ (d.size : Int) := by
      rintro rfl h
      simp [C.kindB] at hk
      omega
    have h2 : kd = 2 → ¬ (d.size : Int) % 4 = 0 := by
      rintro rfl h
      simp [C.kindB] at hk
      omega
    have h3 : kd = 2 → ¬ (d.size : Int).tmod 4 = 0 := by
      rw [Int.tmod_eq_emod_of_nonneg (by omega)]
      exact h2
    clear hr hk
    by_cases e1 : kd = 1
    · subst e1
      have h1 := h1 rfl
      go_enter Tryz.func128, Tryz.ntmps128
      go_wp2_with fail
      go_ret
      exact ⟨rfl, (Ext.refl w).alloc _⟩
    · by_cases e2 : kd = 2
      · subst e2
        have h2 := h2 rfl
        have h3 := h3 rfl
        go_enter Tryz.func128, Tryz.ntmps128
        go_wp2_with fail
        go_ret
        exact ⟨rfl, (Ext.refl w).alloc _⟩
      · clear h1 h2 h3
        go_enter Tryz.func128, Tryz.ntmps128
        go_wp2_with fail
        go_ret
        exact ⟨rfl, (Ext.refl w).alloc _⟩

end Go.Proofs.YtfbhchpbflaphaaGreatDoor
