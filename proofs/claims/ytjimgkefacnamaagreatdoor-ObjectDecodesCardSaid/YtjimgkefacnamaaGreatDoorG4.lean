/- The texts Pr Cod Obj Arc Oa Ob Oc Od of the seat, joined. -/
import Derived.Test.YtjimgkefacnamaaGreatDoorG3
import Derived.Lib.ItoaNum
import Derived.IntWalk
import Derived.Lib.AppendIntMem
import Derived.Lib.ConvBytes
import Derived.RegionTactic
import Derived.BigRegion
import Derived.Deep.RegionWith
import Derived.Shelf.Strings.Builder1
/- Strings of the call's own; the reference's Split and Path; they are the program's. -/
namespace Go.Proofs.YtjimgkefacnamaaGreatDoor
open Go.RowKit

theorem str_info : (Tryz.prog.info? 9).map (fun i => (i.zero, i.size, i.bytes)) = some (some (.string ⟨#[]⟩), 1, 16) := by kernel_rfl
def strs (l : List ByteArray) : List Value := l.map Value.string
theorem strs_one (l : List ByteArray) : ∀ u ∈ strs l, u.oneCell' = true := by intro u hu; obtain ⟨n, _, rfl⟩ := List.mem_map.1 hu; rfl
theorem strs_append (l m : List ByteArray) : strs (l ++ m) = strs l ++ strs m := List.map_append
theorem cells_new_strs (w : World) (l : List ByteArray) : ∀ j u, (strs l)[j]? = some u → (w.alloc (.cells (strs l).toArray 9)).cell? ((⟨w.heap.size, 0, none⟩ : Addr).add j) = some u := by
  intro j u hj
  rw [Addr.add_lit, Nat.zero_add, cell_new]
  simpa using hj
/-- A slice of the call's own holds these strings. -/
def OwnStrs (w : World) (base : Nat) (v : Value) (l : List ByteArray) : Prop := OwnAt w base 9 1 v l.length (strs l)
theorem own_strs_nil (w : World) (b : Nat) : OwnStrs w b (.slice none 0 0) [] := OwnAt.nil _ _ _ _
theorem own_strs_snoc {w : World} {base : Nat} {v : Value} {l : List ByteArray} {x : ByteArray} {n : Nat} (hn : n = l.length) (h : OwnAt w base 9 1 v (n + 1) (strs l ++ strs [x])) : OwnStrs w base v (l ++ [x]) := by
  subst hn
  unfold OwnStrs
  rw [strs_append, List.length_append]
  exact h
/-- n strings at A. -/
def StrsAt (w : World) (A : Option Addr) (n : Nat) (l : List ByteArray) : Prop :=
  n = l.length ∧ n ≤ 9223372036854775807 ∧ ∀ j (h : j < l.length), ∃ b off, A = some ⟨b, off, none⟩ ∧ ∀ w', Ext w w' → w'.cell? ⟨b, off + j, none⟩ = some (.string l[j])
theorem StrsAt.ext {w w' : World} {A : Option Addr} {n : Nat} {l : List ByteArray} (h : StrsAt w A n l) (he : Ext w w') : StrsAt w' A n l :=
  ⟨h.1, h.2.1, fun j hj => by obtain ⟨b, off, e, hc⟩ := h.2.2 j hj; exact ⟨b, off, e, fun w2 h2 => hc w2 (he.trans h2)⟩⟩
theorem StrsAt.of_own {w : World} {base : Nat} {v : Value} {l : List ByteArray} (h : OwnStrs w base v l) : ∃ A c, v = .slice A l.length c ∧ StrsAt w A l.length l := by
  by_cases hl : l = []
  · subst hl
    obtain ⟨_, ⟨rfl, _⟩ | ⟨g, off, cap, cur, rfl, _, _, hn, hc, _⟩⟩ := h
    · exact ⟨none, 0, rfl, rfl, by simp, fun j hj => by simp at hj⟩
    · exact ⟨_, cap, rfl, rfl, by simp, fun j hj => by simp at hj⟩
  · obtain ⟨g, off, cap, rfl, _, _, hn, hc, hcell⟩ := OwnAt.cells h (List.length_pos_iff.2 hl)
    exact ⟨_, cap, rfl, rfl, by omega, fun j hj => ⟨g, off, rfl, fun w' hw' => hw'.keepc (hcell j _ (by simp [strs, hj]))⟩⟩

/-- The parts of a string between bytes. -/
def mkB (l : List UInt8) : ByteArray := ⟨l.toArray⟩
theorem mkB_ext (s : ByteArray) (f k : Nat) : s.extract f k = mkB ((s.data.toList.drop f).take (k - f)) := by
  apply ByteArray.ext
  apply Array.toList_inj.1
  rw [Lib.extract_data]
  rfl
def partsB (c : UInt8) (s : ByteArray) : List ByteArray := (Seg.segs c s.data.toList).map mkB
/-- The loop's state: D is cut off, from place f on the byte has not stood. -/
def cutSt (c : UInt8) (s : ByteArray) (D : List ByteArray) (f k : Nat) : Prop :=
  f ≤ k ∧ k ≤ s.data.toList.length ∧ (∀ j (_ : j < s.data.toList.length), f ≤ j → j < k → s.data.toList[j] ≠ c) ∧ partsB c s = D ++ (Seg.segs c (s.data.toList.drop f)).map mkB ∧ D.length ≤ k
theorem cut_start (c : UInt8) (s : ByteArray) : cutSt c s [] 0 0 := ⟨Nat.le_refl _, Nat.zero_le _, fun _ _ _ h => absurd h (Nat.not_lt_zero _), rfl, Nat.zero_le _⟩
theorem cut_on {c : UInt8} {s : ByteArray} {D : List ByteArray} {f k : Nat} (h : cutSt c s D f k) (hk : k < s.data.toList.length) (hc : s.data.toList[k] ≠ c) : cutSt c s D f (k + 1) := by
  obtain ⟨h1, h2, h3, h4, h5⟩ := h
  refine ⟨by omega, by omega, fun j hj hfj hjk => ?_, h4, by omega⟩
  by_cases e : j = k
  · subst e; exact hc
  · exact h3 j hj hfj (by omega)
theorem cut_hit {c : UInt8} {s : ByteArray} {D : List ByteArray} {f k : Nat} (h : cutSt c s D f k) (hk : k < s.data.toList.length) (hc : s.data.toList[k] = c) : cutSt c s (D ++ [s.extract f k]) (k + 1) (k + 1) := by
  obtain ⟨h1, h2, h3, h4, h5⟩ := h
  refine ⟨Nat.le_refl _, by omega, fun _ _ h6 h7 => by omega, ?_, by simp; omega⟩
  rw [h4, Seg.segs_at c s.data.toList f k h1 hk h3 hc, mkB_ext]
  simp
theorem cut_end {c : UInt8} {s : ByteArray} {D : List ByteArray} {f : Nat} (h : cutSt c s D f s.size) : partsB c s = D ++ [s.extract f s.size] := by
  obtain ⟨h1, h2, h3, h4, h5⟩ := h
  have hl : s.data.toList.length = s.size := by simp
  rw [h4, Seg.segs_end c s.data.toList f (fun j hj hfj => h3 j hj hfj (by omega)), mkB_ext, List.take_of_length_le (by simp)]
  rfl
def RetStrs (w : World) (L : List ByteArray) (e : Ending) (w' : World) : Prop := ∃ v, e = .returned v ∧ OwnStrs w' w.heap.size v L ∧ Ext w w'

set_option maxRecDepth 8000 in
set_option maxHeartbeats 1000000 in
theorem refSplit_any (s : ByteArray) (c : UInt8) (w : World) (hs : s.size ≤ 9000000) : Calls Tryz.prog 101 #[.string s, .int .u8 (c.toNat : Int)] w (RetStrs w (partsB c s)) := by
  obtain ⟨i0, hi, hz0, hz1, hz2⟩ := info_parts str_info
  have hl : s.data.toList.length = s.size := by simp
  have HL := Lib.hid hl
  have hcb : c.toNat ≤ 255 := by have := c.toNat_lt; omega
  have H0 := cut_start c s
  clear hl
  go_enter Tryz.func101, Tryz.ntmps101
  go_wp2_with fail
  go_loopw [5, 6, 7] (fun v a i wr => ∃ (D : List ByteArray) (f k : Nat), f ≤ k ∧ k ≤ s.size ∧ a = .int .i64 f ∧ i = .int .i64 k ∧ cutSt c s D f k ∧ OwnStrs wr w.heap.size v D ∧ Ext w wr) (fun _ _ i _ => s.size - (intOf i).toNat)
  case atStart => exact ⟨[], 0, 0, Nat.le_refl _, Nat.zero_le _, rfl, rfl, H0, own_strs_nil _ _, Ext.refl _⟩
  case round =>
    obtain ⟨D, f, k, hfk, hk, rfl, rfl, HC, hown, hd⟩ := hrel
    have hdl : D.length ≤ k := HC.2.2.2.2
    unfold OwnStrs at hown
    by_cases hlt : k < s.size
    · have hb : s[k].toNat ≤ 255 := by have := s[k].toNat_lt; omega
      by_cases hc : s[k] = c
      · have e1 : ((s[k].toNat : Int) == (c.toNat : Int)) = true := by rw [hc]; simp
        have HH := cut_hit HC (by rw [HL.out]; exact hlt) hc
        obtain ⟨q, hq⟩ : ∃ q, q = D.length := ⟨_, rfl⟩
        rw [← hq] at hown hdl
        have HQ := Lib.hid hq
        have HBS : Hid (w.heap.size ≤ (wr.alloc (.cells #[.string (s.extract f k)] 9)).heap.size) := Nat.le_trans hd.size ((Ext.refl wr).alloc _).size
        clear hc hq
        go_wp2_with (at_builtin; refine wpList_append_ownAt _ rfl (.tmp 19) (.tmp 24) 35 rfl w.heap.size 9 i0 (.string ⟨#[]⟩) 1 16 Tryz.underlying35 hi hz0 hz1 hz2 rfl (by decide) _ _ _ rfl (hown.alloc _) ⟨wr.heap.size, 0, none⟩ 1 1 (strs [s.extract f k]) rfl rfl (cells_new_strs wr _) (strs_one _) (by unfold maxLen; omega) (by omega) HBS.out (by decide) ?_; intro v4 w4 hown4 hg4 _ _)
        go_roundw
        case rel => exact ⟨D ++ [s.extract f k], k + 1, k + 1, Nat.le_refl _, by omega, by go_num, by go_num, HH, own_strs_snoc HQ.out hown4, (hd.alloc _).grown hown hg4⟩
        case measure => simp [intOf]; omega
      · have e1 : ((s[k].toNat : Int) == (c.toNat : Int)) = false := by
          rw [beq_eq_false_iff_ne]
          intro e
          exact hc (UInt8.toNat_inj.1 (by omega))
        have HH := cut_on HC (by rw [HL.out]; exact hlt) hc
        clear hc
        go_wp2_with fail
        go_roundw
        case rel => exact ⟨D, f, k + 1, by omega, by omega, rfl, by go_num, HH, hown, hd⟩
        case measure => simp [intOf]; omega
    · obtain rfl : k = s.size := by omega
      have he := cut_end HC
      have HE := Lib.hid he
      obtain ⟨q, hq⟩ : ∃ q, q = D.length := ⟨_, rfl⟩
      rw [← hq] at hown hdl
      have HQ := Lib.hid hq
      have HBS : Hid (w.heap.size ≤ (wr.alloc (.cells #[.string (s.extract f s.size)] 9)).heap.size) := Nat.le_trans hd.size ((Ext.refl wr).alloc _).size
      clear he hq
      go_wp2_with (at_builtin; refine wpList_append_ownAt _ rfl (.tmp 28) (.tmp 32) 35 rfl w.heap.size 9 i0 (.string ⟨#[]⟩) 1 16 Tryz.underlying35 hi hz0 hz1 hz2 rfl (by decide) _ _ _ rfl (hown.alloc _) ⟨wr.heap.size, 0, none⟩ 1 1 (strs [s.extract f s.size]) rfl rfl (cells_new_strs wr _) (strs_one _) (by unfold maxLen; omega) (by omega) HBS.out (by decide) ?_; intro v4 w4 hown4 hg4 _ _)
      go_ret
      exact ⟨_, rfl, by rw [HE.out]; exact own_strs_snoc HQ.out hown4, (hd.alloc _).grown hown hg4⟩

/-- A path, by its bytes. -/
def pathL (l : List UInt8) : Bool := decide (l.length ≤ 128) && (Seg.segs 47 l).all nameB && decide ((Seg.segs 47 l).length ≤ 8)
theorem parts_path (s : ByteArray) : pathL s.data.toList = (decide (s.size ≤ 128) && decide ((partsB 47 s).length ≤ 8) && (partsB 47 s).all fun x => nameB x.data.toList) := by
  unfold pathL partsB
  rw [List.all_map, List.length_map]
  have e : ((fun x : ByteArray => nameB x.data.toList) ∘ mkB) = nameB := by funext x; rfl
  have hl : s.data.toList.length = s.size := by simp
  rw [e, hl]
  simp [Bool.and_assoc, Bool.and_comm, Bool.and_left_comm]
theorem parts_sizes (c : UInt8) (s : ByteArray) : ∀ x ∈ partsB c s, x.size ≤ s.size := by
  have key : ∀ l : List UInt8, ∀ x ∈ Seg.segs c l, x.length ≤ l.length := by
    intro l
    induction l with
    | nil => intro x hx; simp [Seg.segs] at hx; simp [hx]
    | cons a l ih =>
      intro x hx
      rw [Seg.segs_cons] at hx
      by_cases ha : a = c
      · rw [if_pos ha] at hx
        rcases List.mem_cons.1 hx with rfl | hx
        · simp
        · have := ih x hx; simp; omega
      · rw [if_neg ha] at hx
        cases hseg : Seg.segs c l with
        | nil => rw [hseg] at hx; simp at hx; simp [hx]
        | cons y r =>
          rw [hseg] at hx ih
          simp only at hx
          rcases List.mem_cons.1 hx with rfl | hx
          · have := ih y List.mem_cons_self; simp; omega
          · have := ih x (List.mem_cons_of_mem _ hx); simp; omega
  intro x hx
  obtain ⟨y, hy, rfl⟩ := List.mem_map.1 hx
  have := key _ y hy
  have hl : s.data.toList.length = s.size := by simp
  rw [hl] at this
  show (mkB y).size ≤ s.size
  have e : (mkB y).size = y.length := by simp [mkB, ByteArray.size]
  omega
theorem name_is (s : ByteArray) (b : Bool) (w : World) (hs : s.size ≤ 9223372036854775807) (h : nameB s.data.toList = b) : Calls Tryz.prog 102 #[.string s] w fun e w' => e = .returned (.bool b) ∧ w = w' := h ▸ name_any s w hs
def pathErr (b : Bool) : Int := if b then 0 else 2
def allTo (l : List ByteArray) (k : Nat) : Prop := (l.take k).all (fun x => nameB x.data.toList) = true

set_option maxRecDepth 8000 in
set_option maxHeartbeats 1000000 in
theorem refPath_any (s : ByteArray) (w : World) (hs : s.size ≤ 9000000) : Calls Tryz.prog 72 #[.string s] w (Al (.int .i64 (pathErr (pathL s.data.toList))) w) := by
  have hp := parts_path s
  by_cases h1 : s.size ≤ 128
  · rw [decide_eq_true h1, Bool.true_and] at hp
    have HS := Lib.hid (fun w' => refSplit_any s 47 w' hs)
    have hsz := parts_sizes 47 s
    generalize partsB 47 s = L at hp HS hsz
    have HSZ := Lib.hid hsz
    obtain ⟨n, hn⟩ : ∃ n, n = L.length := ⟨_, rfl⟩
    have HN := Lib.hid hn
    rw [← hn] at hp
    clear hsz hn
    by_cases h8 : n ≤ 8
    · rw [decide_eq_true h8, Bool.true_and] at hp
      generalize pathL s.data.toList = R at hp ⊢
      have HP := Lib.hid hp
      clear hp
      go_enter Tryz.func72, Tryz.ntmps72
      go_wp2_with fail
      refine (HS.out _).mono ?_
      rintro e w1 ⟨v1, rfl, o1, d1⟩
      obtain ⟨A1, c1, rfl, i1⟩ := StrsAt.of_own o1
      rw [← HN.out] at i1 ⊢
      have I1 := Lib.hid i1.2.2
      clear o1 i1
      go_wp2_with fail
      go_loopw [16] (fun i wr => ∃ k : Nat, k ≤ n ∧ i = .int .i64 k ∧ allTo L k ∧ Ext w1 wr) (fun i _ => n - (intOf i).toNat)
      case atStart => exact ⟨0, Nat.zero_le _, rfl, rfl, Ext.refl _⟩
      case round =>
        obtain ⟨k, hk, rfl, HA, hd⟩ := hrel
        by_cases hlt : k < n
        · have hkl : k < L.length := by rw [← HN.out]; exact hlt
          obtain ⟨b, off, rfl, hc⟩ := I1.out k hkl
          have c0 := hc wr hd
          have hx := HSZ.out L[k] (List.getElem_mem hkl)
          have ht : (L.take (k + 1)).all (fun x => nameB x.data.toList) = ((L.take k).all (fun x => nameB x.data.toList) && nameB L[k].data.toList) := by
            rw [List.take_succ_eq_append_getElem hkl, List.all_append]; simp
          have hm : nameB L[k].data.toList = false → L.all (fun x => nameB x.data.toList) = false := fun h => by
            rw [List.all_eq_false]
            exact ⟨L[k], List.getElem_mem hkl, by simp [h]⟩
          generalize L[k] = x at c0 hx ht hm
          obtain ⟨bb, hbb⟩ : ∃ bb, nameB x.data.toList = bb := ⟨_, rfl⟩
          have NM := Lib.hid (fun w' => name_is x bb w' (by omega) hbb)
          rw [hbb] at ht hm
          clear hbb hc
          cases bb
          · have HF : Hid (R = false) := by unfold Hid; rw [HP.out]; exact hm rfl
            clear ht hm
            go_wp2_with fail
            refine (NM.out _).mono ?_
            rintro e w' ⟨rfl, rfl⟩
            go_wp2_with fail
            go_ret
            exact ⟨ret_int (by rw [HF.out]; rfl), d1.trans hd⟩
          · have HT : allTo L (k + 1) := by unfold allTo at HA ⊢; rw [ht, HA]; rfl
            clear ht hm
            go_wp2_with fail
            refine (NM.out _).mono ?_
            rintro e w' ⟨rfl, rfl⟩
            go_wp2_with fail
            go_roundw
            case rel => exact ⟨k + 1, by omega, by go_num, HT, hd⟩
            case measure => simp [intOf]; omega
        · have HT : Hid (R = true) := by
            have h := HA
            unfold allTo at h
            show R = true
            rw [HP.out]
            rwa [List.take_of_length_le (by have := HN.out; omega)] at h
          go_wp2_with fail
          go_ret
          exact ⟨ret_int (by rw [HT.out]; rfl), d1.trans hd⟩
    · rw [decide_eq_false h8, Bool.false_and] at hp
      rw [hp]
      clear hp
      go_enter Tryz.func72, Tryz.ntmps72
      go_wp2_with fail
      refine (HS.out _).mono ?_
      rintro e w1 ⟨v1, rfl, o1, d1⟩
      obtain ⟨A1, c1, rfl, i1⟩ := StrsAt.of_own o1
      rw [← HN.out] at i1 ⊢
      have i12 := i1.2.1
      clear o1 i1
      go_wp2_with fail
      go_ret
      exact ⟨rfl, d1⟩
  · rw [decide_eq_false h1, Bool.false_and, Bool.false_and] at hp
    rw [hp]
    clear hp
    go_enter Tryz.func72, Tryz.ntmps72
    go_wp2_with fail
    go_ret
    exact ⟨rfl, Ext.refl _⟩

/-! ### The program's -/
theorem rune_high (n : Nat) (h : 128 ≤ n) : runeB (n : Int) = false := by unfold runeB; simp; omega
theorem allRunes_all (s : ByteArray) : allRunes s = s.data.toList.all okc := by
  unfold allRunes
  rw [Seg.idxFunc_all (fun r => !runeB (r : Int)) (fun n h => by simp [rune_high n h]) s, List.any_eq_not_all_not, Bool.not_not]
  congr 1
  funext c
  simp [okc]
theorem part_name (s : ByteArray) : partB s = nameB s.data.toList := by
  unfold partB
  by_cases h : 0 < s.size
  · rw [dif_pos h, name_of s h, allRunes_all]
    have h46 : s[0] = 46 ↔ (s[0].toNat : Int) = 46 := by
      rw [← UInt8.toNat_inj]; show s[0].toNat = 46 ↔ _; omega
    have h45 : s[0] = 45 ↔ (s[0].toNat : Int) = 45 := by
      rw [← UInt8.toNat_inj]; show s[0].toNat = 45 ↔ _; omega
    by_cases h1 : 32 < s.size
    · rw [if_pos h1]; simp [Nat.not_le.2 h1]
    · rw [if_neg h1]
      by_cases h2 : s[0] = 46
      · rw [if_pos h2]; simp [h46.1 h2]
      · rw [if_neg h2]
        by_cases h3 : s[0] = 45
        · rw [if_pos h3]; simp [h45.1 h3]
        · rw [if_neg h3]
          have g2 := mt h46.2 h2
          have g3 := mt h45.2 h3
          simp [g2, g3, Nat.not_lt.1 h1]
  · rw [dif_neg h]
    have : decide (1 ≤ s.data.toList.length) = false := by
      have hl : s.data.toList.length = s.size := by simp
      rw [hl]
      exact decide_eq_false (by omega)
    unfold nameB
    rw [this]
    rfl
theorem path_same (s : ByteArray) : pathB s = pathL s.data.toList := by
  have e := Seg.splitB_segs 47 s
  unfold pathB pathL
  have e1 : (pieces s).map (·.data.toList) = Seg.segs 47 s.data.toList := e
  have e2 : (pieces s).length = (Seg.segs 47 s.data.toList).length := by rw [← e1, List.length_map]
  have e3 : (!((pieces s).any fun x => !partB x)) = (Seg.segs 47 s.data.toList).all nameB := by
    rw [← e1, List.all_map, List.any_eq_not_all_not, Bool.not_not]
    congr 1
    funext x
    simp [part_name]
  rw [e2, e3]
  simp [Bool.and_assoc, Bool.and_comm, Bool.and_left_comm]
theorem path_is (s : ByteArray) (m : Int) (w : World) (hs : s.size ≤ 1000000) (hm : w.cell? ⟨1, 0, none⟩ = some (.int .i64 m)) : Calls Tryz.prog 95 #[.string s] w (Al (.int .i64 (pathErr (pathL s.data.toList))) w) := by
  have h := Path_any s m w hs hm
  have e : pathE s = pathErr (pathL s.data.toList) := by unfold pathE pathErr; rw [path_same]
  rwa [e] at h

end Go.Proofs.YtjimgkefacnamaaGreatDoor

/- Plain facts on encodings: numbers, texts; what is printed is read, what is read was printed. No program in sight. -/
namespace Go.Proofs.YtjimgkefacnamaaGreatDoor.C

abbrev Bs := List UInt8
/-- The bytes of a number, of a text. -/
def dec (n : Nat) : Bs := Lib.decDigits n
def num (n : Nat) : Bs := dec n ++ [59]
def txt (s : Bs) : Bs := dec s.length ++ 58 :: (s ++ [44])
theorem dec_small {n : Nat} (h : n < 10) : dec n = [UInt8.ofNat (48 + n)] := by unfold dec; rw [Lib.decDigits, dif_pos h]
theorem dec_big {n : Nat} (h : ¬ n < 10) : dec n = dec (n / 10) ++ [UInt8.ofNat (48 + n % 10)] := by unfold dec; rw [Lib.decDigits, dif_neg h]

/-- Reading a number that a byte ends: i bytes were read, of value n. -/
def cnt (e : UInt8) (most : Nat) : Bs → Nat → Nat → Option (Nat × Bs)
  | [], _, _ => none
  | c :: l, i, n => if c = e ∧ 0 < i then some (n, l) else if c.toNat < 48 ∨ 57 < c.toNat ∨ (i = 1 ∧ n = 0) then none else if most < 10 * n + (c.toNat - 48) then none else cnt e most l (i + 1) (10 * n + (c.toNat - 48))
def pNum (low high : Int) (l : Bs) : Option (Nat × Bs) :=
  match cnt 59 281474976710656 l 0 0 with
  | some (n, r) => if low ≤ (n : Int) ∧ (n : Int) ≤ high then some (n, r) else none
  | none => none
def pTxt (most : Nat) (l : Bs) : Option (Bs × Bs) :=
  match cnt 58 65536 l 0 0 with
  | some (n, r) => if r.length ≤ n then none else if r[n]? ≠ some 44 then none else if most < n then none else some (r.take n, r.drop (n + 1))
  | none => none

theorem digit_back {d : Nat} (h : d < 10) : (UInt8.ofNat (48 + d)).toNat = 48 + d := by
  simp [UInt8.toNat_ofNat']
  omega
theorem digit_of (c : UInt8) (h : ¬ (c.toNat < 48 ∨ 57 < c.toNat)) : UInt8.ofNat (48 + (c.toNat - 48)) = c := by
  apply UInt8.toNat_inj.1
  rw [digit_back (by omega)]
  omega

/-- What was read is the numeral, and what ends it. -/
theorem cnt_more {e : UInt8} {most : Nat} : ∀ (l : Bs) (i n m : Nat) (r : Bs), 0 < i → (i = 1 → True) → n ≤ most → (n = 0 → i = 1) → cnt e most l i n = some (m, r) → dec n ++ l = dec m ++ e :: r ∧ m ≤ most
  | [], i, n, m, r, _, _, _, _, h => by simp [cnt] at h
  | c :: l, i, n, m, r, hi, _, hn, h0, h => by
    rw [cnt] at h
    by_cases he : c = e ∧ 0 < i
    · rw [if_pos he] at h
      cases h
      rw [he.1]
      exact ⟨rfl, hn⟩
    · rw [if_neg he] at h
      by_cases hc : c.toNat < 48 ∨ 57 < c.toNat ∨ (i = 1 ∧ n = 0)
      · rw [if_pos hc] at h; cases h
      · rw [if_neg hc] at h
        by_cases hm : most < 10 * n + (c.toNat - 48)
        · rw [if_pos hm] at h; cases h
        · rw [if_neg hm] at h
          have hn0 : n ≠ 0 := fun hz => hc (.inr (.inr ⟨h0 hz, hz⟩))
          have ih := cnt_more l (i + 1) (10 * n + (c.toNat - 48)) m r (by omega) (fun _ => trivial) (by omega) (fun h => by omega) h
          have hd : dec (10 * n + (c.toNat - 48)) = dec n ++ [c] := by
            rw [dec_big (by omega), show (10 * n + (c.toNat - 48)) / 10 = n by omega, show (10 * n + (c.toNat - 48)) % 10 = c.toNat - 48 by omega, digit_of c (by omega)]
          rw [hd] at ih
          exact ⟨by rw [← ih.1]; simp, ih.2⟩
theorem cnt_read {e : UInt8} {most : Nat} {l : Bs} {m : Nat} {r : Bs} (h : cnt e most l 0 0 = some (m, r)) : l = dec m ++ e :: r ∧ m ≤ most := by
  cases l with
  | nil => simp [cnt] at h
  | cons c l =>
    rw [cnt, if_neg (by omega)] at h
    by_cases hc : c.toNat < 48 ∨ 57 < c.toNat ∨ ((0 : Nat) = 1 ∧ (0 : Nat) = 0)
    · rw [if_pos hc] at h; cases h
    · rw [if_neg hc] at h
      by_cases hm : most < 10 * 0 + (c.toNat - 48)
      · rw [if_pos hm] at h; cases h
      · rw [if_neg hm] at h
        have ih := cnt_more l (0 + 1) (10 * 0 + (c.toNat - 48)) m r (by omega) (fun _ => trivial) (by omega) (fun _ => rfl) h
        rw [show 10 * 0 + (c.toNat - 48) = c.toNat - 48 by omega, dec_small (by omega), digit_of c (by omega)] at ih
        exact ⟨ih.1, ih.2⟩
/-- The numeral, and a byte that is no digit behind it, is read. -/
theorem cnt_digits {e : UInt8} {most : Nat} (he : e.toNat < 48 ∨ 57 < e.toNat) (l : Bs) : ∀ (k m : Nat), m ≤ k → m ≤ most → (cnt e most (dec m ++ l) 0 0 = cnt e most l (dec m).length m) ∧ 0 < (dec m).length ∧ (1 < (dec m).length → m ≠ 0)
  | k, m, hk, hm => by
    by_cases h : m < 10
    · rw [dec_small h]
      have hb := digit_back h
      refine ⟨?_, by simp, by simp⟩
      show cnt e most (UInt8.ofNat (48 + m) :: l) 0 0 = _
      rw [cnt, if_neg (by omega), if_neg (by rw [hb]; omega), hb, if_neg (by omega)]
      congr 1
      omega
    · obtain ⟨k, rfl⟩ : ∃ q, k = q + 1 := ⟨k - 1, by omega⟩
      have ih := cnt_digits (most := most) he (UInt8.ofNat (48 + m % 10) :: l) k (m / 10) (by omega) (by omega)
      have hb := digit_back (show m % 10 < 10 by omega)
      rw [dec_big h]
      refine ⟨?_, by simp, fun _ => by omega⟩
      rw [List.append_assoc]
      show cnt e most (dec (m / 10) ++ UInt8.ofNat (48 + m % 10) :: l) 0 0 = _
      rw [ih.1, cnt, if_neg (by
        rintro ⟨h1, _⟩
        rw [← h1, hb] at he
        omega), if_neg (by
        rw [hb]
        rintro (h1 | h1 | ⟨h1, h2⟩) <;> omega), hb, if_neg (by omega), List.length_append, List.length_singleton, show 10 * (m / 10) + (48 + m % 10 - 48) = m by omega]
theorem cnt_print {e : UInt8} {most m : Nat} (he : e.toNat < 48 ∨ 57 < e.toNat) (hm : m ≤ most) (r : Bs) : cnt e most (dec m ++ e :: r) 0 0 = some (m, r) := by
  have h := cnt_digits he (e :: r) m m (Nat.le_refl _) hm (most := most)
  rw [h.1, cnt, if_pos ⟨rfl, h.2.1⟩]

theorem pNum_read {low high : Int} {l : Bs} {n : Nat} {r : Bs} (h : pNum low high l = some (n, r)) : l = num n ++ r ∧ low ≤ (n : Int) ∧ (n : Int) ≤ high := by
  unfold pNum at h
  cases hc : cnt 59 281474976710656 l 0 0 with
  | none => rw [hc] at h; cases h
  | some x =>
    obtain ⟨m, q⟩ := x
    rw [hc] at h
    simp only at h
    by_cases hb : low ≤ (m : Int) ∧ (m : Int) ≤ high
    · rw [if_pos hb] at h
      cases h
      have := (cnt_read hc).1
      exact ⟨by rw [this]; simp [num], hb.1, hb.2⟩
    · rw [if_neg hb] at h; cases h
theorem pNum_print {low high : Int} {n : Nat} (h1 : low ≤ (n : Int)) (h2 : (n : Int) ≤ high) (h3 : n ≤ 281474976710656) (r : Bs) : pNum low high (num n ++ r) = some (n, r) := by
  unfold pNum num
  rw [List.append_assoc, show ([59] : Bs) ++ r = 59 :: r from rfl, cnt_print (by decide) h3]
  simp only
  rw [if_pos ⟨h1, h2⟩]
theorem pTxt_read {most : Nat} {l s r : Bs} (h : pTxt most l = some (s, r)) : l = txt s ++ r ∧ s.length ≤ most ∧ s.length ≤ 65536 := by
  unfold pTxt at h
  cases hc : cnt 58 65536 l 0 0 with
  | none => rw [hc] at h; cases h
  | some x =>
    obtain ⟨m, q⟩ := x
    rw [hc] at h
    simp only at h
    by_cases h1 : q.length ≤ m
    · rw [if_pos h1] at h; cases h
    · rw [if_neg h1] at h
      by_cases h2 : q[m]? = some 44
      · rw [if_neg (by simpa using h2)] at h
        by_cases h3 : most < m
        · rw [if_pos h3] at h; cases h
        · rw [if_neg h3] at h
          cases h
          obtain ⟨hr, hm⟩ := cnt_read hc
          have hl : (q.take m).length = m := by simp; omega
          refine ⟨?_, by omega, by omega⟩
          unfold txt
          rw [hl, hr]
          have e : q = q.take m ++ 44 :: q.drop (m + 1) := by
            conv => lhs; rw [← List.take_append_drop m q]
            have hg : q[m]'(by omega) = 44 := by rw [List.getElem?_eq_getElem (by omega)] at h2; exact Option.some.inj h2
            rw [List.drop_eq_getElem_cons (show m < q.length by omega), hg]
          conv => lhs; rw [e]
          simp
      · rw [if_pos (by simpa using h2)] at h; cases h
theorem pTxt_print {most : Nat} {s : Bs} (h1 : s.length ≤ most) (h2 : s.length ≤ 65536) (r : Bs) : pTxt most (txt s ++ r) = some (s, r) := by
  unfold pTxt txt
  rw [List.append_assoc, show (58 :: (s ++ [44])) ++ r = 58 :: (s ++ 44 :: r) by simp, cnt_print (by decide) h2]
  simp only
  rw [if_neg (by simp), if_neg (by simp), if_neg (by omega)]
  simp

end Go.Proofs.YtjimgkefacnamaaGreatDoor.C

/- Plain facts on objects: when they are valid, their bytes; what is printed is read, what is read was printed. No program in sight. -/
namespace Go.Proofs.YtjimgkefacnamaaGreatDoor.C

/-- A symbol (name, mode, section), a relocation (place, symbol), a section (kind, data, relocations), an object. -/
abbrev Sym := ByteArray × (Int × Int)
abbrev Rel := Int × ByteArray
abbrev Sec := Int × (ByteArray × List Rel)
abbrev Obj := List Sym × List Sec
def nm (s : Sym) : Bs := s.1.data.toList
/-- The first symbol of a name. -/
def idx : List Sym → Bs → Option Nat
  | [], _ => none
  | s :: l, x => if nm s = x then some 0 else (idx l x).map (· + 1)
theorem idx_lt : ∀ {l : List Sym} {x : Bs} {i : Nat}, idx l x = some i → ∃ h : i < l.length, nm l[i] = x
  | [], x, i, h => by simp [idx] at h
  | s :: l, x, i, h => by
    rw [idx] at h
    by_cases hs : nm s = x
    · rw [if_pos hs] at h
      cases h
      exact ⟨by simp, hs⟩
    · rw [if_neg hs] at h
      cases hj : idx l x with
      | none => rw [hj] at h; cases h
      | some j =>
        rw [hj] at h
        cases h
        obtain ⟨h1, h2⟩ := idx_lt hj
        exact ⟨by simpa using h1, by simpa using h2⟩
theorem idx_first : ∀ {l : List Sym} {x : Bs} {i : Nat}, idx l x = some i → ∀ j (h : j < l.length), j < i → nm l[j] ≠ x
  | [], x, i, h, _, _, _ => by simp [idx] at h
  | s :: l, x, i, h, j, hj, hji => by
    rw [idx] at h
    by_cases hs : nm s = x
    · rw [if_pos hs] at h
      cases h
      omega
    · rw [if_neg hs] at h
      cases hk : idx l x with
      | none => rw [hk] at h; cases h
      | some k =>
        rw [hk] at h
        cases h
        cases j with
        | zero => exact hs
        | succ j => exact idx_first hk j (by simpa using hj) (by simpa using hji)
theorem idx_none : ∀ {l : List Sym} {x : Bs}, idx l x = none → ∀ j (h : j < l.length), nm l[j] ≠ x
  | [], x, _, j, h => by simp at h
  | s :: l, x, h, j, hj => by
    rw [idx] at h
    by_cases hs : nm s = x
    · rw [if_pos hs] at h; cases h
    · rw [if_neg hs] at h
      cases hk : idx l x with
      | some k => rw [hk] at h; cases h
      | none =>
        cases j with
        | zero => exact hs
        | succ j => exact idx_none hk j (by simpa using hj)
theorem idx_is {l : List Sym} {x : Bs} {i : Nat} (hi : i < l.length) (h : nm l[i] = x) (hf : ∀ j (h : j < l.length), j < i → nm l[j] ≠ x) : idx l x = some i := by
  cases hk : idx l x with
  | none => exact absurd h (idx_none hk i hi)
  | some k =>
    obtain ⟨h1, h2⟩ := idx_lt hk
    rcases Nat.lt_trichotomy k i with h3 | h3 | h3
    · exact absurd h2 (hf k h1 h3)
    · rw [h3]
    · exact absurd h (idx_first hk i hi h3)

section
variable (okN : ByteArray → Bool)
/-- The names are different identifiers. -/
def namesB (l : List Sym) : Bool := (List.range l.length).all fun i => match l[i]? with | some s => okN s.1 && decide (idx l (nm s) = some i) | none => true
theorem namesB_iff (l : List Sym) : namesB okN l = true ↔ ∀ i (h : i < l.length), okN l[i].1 = true ∧ idx l (nm l[i]) = some i := by
  unfold namesB
  rw [List.all_eq_true]
  constructor
  · intro h i hi
    have := h i (List.mem_range.2 hi)
    rw [List.getElem?_eq_getElem hi] at this
    simpa using this
  · intro h i hi
    have hi := List.mem_range.1 hi
    rw [List.getElem?_eq_getElem hi]
    simpa using h i hi
end
/-- A symbol fits n sections. -/
def symB (n : Nat) (s : Sym) : Bool := decide (0 ≤ s.2.1 ∧ s.2.1 ≤ 3) && decide (-1 ≤ s.2.2 ∧ s.2.2 < n) && !(decide (s.2.1 = 3) && decide (0 ≤ s.2.2)) && !(decide (s.2.2 < 0) && (decide (s.2.1 = 1) || decide (s.2.1 = 2)))
/-- How many symbols own section i. -/
def own (l : List Sym) (i : Nat) : Nat := (l.filter fun s => decide (s.2.2 = (i : Int))).length
def relsB (syms : List Sym) (d : Bs) : List Rel → Int → Bool
  | [], _ => true
  | r :: l, e => decide (e ≤ r.1) && decide (r.1 ≤ (d.length : Int) - 4) && decide ((d.drop r.1.toNat).take 4 = [0, 0, 0, 0]) && (idx syms r.2.data.toList).isSome && relsB syms d l (r.1 + 4)
def kindB (k : Int) (n : Nat) : Bool := (decide (k = 1) && decide (2 ≤ n)) || (decide (k = 2) && decide (n % 4 = 0))
def secB (syms : List Sym) (s : Sec) : Bool := kindB s.1 s.2.1.size && relsB syms s.2.1.data.toList s.2.2 0 && decide (s.2.1.size ≤ 8192)
def ownedB (o : Obj) : Bool := (List.range o.2.length).all fun i => decide (own o.1 i = 1) && match o.2[i]? with | some s => secB o.1 s | none => true
def checkB (okN : ByteArray → Bool) (o : Obj) : Bool := decide (o.1.length ≤ 128 ∧ o.2.length ≤ 128) && namesB okN o.1 && o.1.all (symB o.2.length) && ownedB o
theorem ownedB_iff (o : Obj) : ownedB o = true ↔ ∀ i (h : i < o.2.length), own o.1 i = 1 ∧ secB o.1 o.2[i] = true := by
  unfold ownedB
  rw [List.all_eq_true]
  constructor
  · intro h i hi
    have := h i (List.mem_range.2 hi)
    rw [List.getElem?_eq_getElem hi] at this
    simpa using this
  · intro h i hi
    have hi := List.mem_range.1 hi
    rw [List.getElem?_eq_getElem hi]
    simpa using h i hi

/-! ### Its bytes -/
def encSym (s : Sym) : Bs := txt (nm s) ++ (num s.2.1.toNat ++ num (s.2.2 + 1).toNat)
def encRel (syms : List Sym) (r : Rel) : Bs := num r.1.toNat ++ num ((idx syms r.2.data.toList).getD 0)
def encSec (syms : List Sym) (s : Sec) : Bs := num s.1.toNat ++ (txt s.2.1.data.toList ++ (num s.2.2.length ++ s.2.2.flatMap (encRel syms)))
def wObject : Bs := [111, 98, 106, 101, 99, 116]
def wArchive : Bs := [97, 114, 99, 104, 105, 118, 101]
def encObj (o : Obj) : Bs := txt wObject ++ (num o.1.length ++ (o.1.flatMap encSym ++ (num o.2.length ++ o.2.flatMap (encSec o.1))))

/-! ### Read again -/
def pRep {α : Type} (p : Bs → Option (α × Bs)) : Nat → Bs → Option (List α × Bs)
  | 0, l => some ([], l)
  | n + 1, l => match p l with
    | some (a, r) => match pRep p n r with
      | some (zs, q) => some (a :: zs, q)
      | none => none
    | none => none
def pSym (l : Bs) : Option (Sym × Bs) :=
  match pTxt 32 l with
  | some (s, l1) => match pNum 0 3 l1 with
    | some (m, l2) => match pNum 0 128 l2 with
      | some (k, l3) => some ((⟨s.toArray⟩, (m : Int), (k : Int) - 1), l3)
      | none => none
    | none => none
  | none => none
def pRel (syms : List Sym) (l : Bs) : Option (Rel × Bs) :=
  match pNum 0 8192 l with
  | some (m, l1) => match pNum 0 128 l1 with
    | some (k, l2) => match syms[k]? with
      | some s => some (((m : Int), s.1), l2)
      | none => none
    | none => none
  | none => none
def pSec (syms : List Sym) (l : Bs) : Option (Sec × Bs) :=
  match pNum 0 2 l with
  | some (k, l1) => match pTxt 8192 l1 with
    | some (d, l2) => match pNum 0 8192 l2 with
      | some (n, l3) => match pRep (pRel syms) n l3 with
        | some (rs, l4) => some (((k : Int), ⟨d.toArray⟩, rs), l4)
        | none => none
      | none => none
    | none => none
  | none => none
def pObj (l : Bs) : Option (Obj × Bs) :=
  match pTxt 6 l with
  | some (w, l0) => if w = wObject then match pNum 0 128 l0 with
    | some (n, l1) => match pRep pSym n l1 with
      | some (syms, l2) => match pNum 0 128 l2 with
        | some (m, l3) => match pRep (pSec syms) m l3 with
          | some (secs, l4) => some ((syms, secs), l4)
          | none => none
        | none => none
      | none => none
    | none => none
    else none
  | none => none

theorem pRep_read {α : Type} {p : Bs → Option (α × Bs)} {e : α → Bs} (he : ∀ l a r, p l = some (a, r) → l = e a ++ r) : ∀ (n : Nat) (l : Bs) (zs : List α) (r : Bs), pRep p n l = some (zs, r) → l = zs.flatMap e ++ r ∧ zs.length = n
  | 0, l, zs, r, h => by cases h; simp
  | n + 1, l, zs, r, h => by
    rw [pRep] at h
    cases h1 : p l with
    | none => rw [h1] at h; cases h
    | some x =>
      obtain ⟨a, q⟩ := x
      rw [h1] at h
      simp only at h
      cases h2 : pRep p n q with
      | none => rw [h2] at h; cases h
      | some y =>
        obtain ⟨bs, t⟩ := y
        rw [h2] at h
        cases h
        have ih := pRep_read he n q bs r h2
        refine ⟨?_, by simp [ih.2]⟩
        rw [he _ _ _ h1, ih.1]
        simp
theorem pRep_print {α : Type} {p : Bs → Option (α × Bs)} {e : α → Bs} : ∀ (zs : List α) (r : Bs), (∀ a ∈ zs, ∀ r, p (e a ++ r) = some (a, r)) → pRep p zs.length (zs.flatMap e ++ r) = some (zs, r)
  | [], r, _ => rfl
  | a :: zs, r, he => by
    rw [List.length_cons, pRep, List.flatMap_cons, List.append_assoc, he a List.mem_cons_self]
    simp only
    rw [pRep_print zs r fun b hb => he b (List.mem_cons_of_mem _ hb)]
theorem nm_mk (s : Bs) (x : Int × Int) : nm (⟨s.toArray⟩, x) = s := by simp [nm]
theorem pSym_read (l : Bs) (s : Sym) (r : Bs) (h : pSym l = some (s, r)) : l = encSym s ++ r := by
  unfold pSym at h
  cases h1 : pTxt 32 l with
  | none => rw [h1] at h; cases h
  | some x =>
    obtain ⟨t, l1⟩ := x
    rw [h1] at h
    simp only at h
    cases h2 : pNum 0 3 l1 with
    | none => rw [h2] at h; cases h
    | some y =>
      obtain ⟨m, l2⟩ := y
      rw [h2] at h
      simp only at h
      cases h3 : pNum 0 128 l2 with
      | none => rw [h3] at h; cases h
      | some z =>
        obtain ⟨k, l3⟩ := z
        rw [h3] at h
        cases h
        rw [(pTxt_read h1).1, (pNum_read h2).1, (pNum_read h3).1]
        unfold encSym
        rw [nm_mk]
        simp
theorem pSym_print (n : Nat) (s : Sym) (r : Bs) (h1 : s.1.size ≤ 32) (hs : symB n s = true) (hn : n ≤ 128) : pSym (encSym s ++ r) = some (s, r) := by
  have hb : (0 ≤ s.2.1 ∧ s.2.1 ≤ 3) ∧ (-1 ≤ s.2.2 ∧ s.2.2 < n) := by
    unfold symB at hs
    simp only [Bool.and_eq_true, decide_eq_true_eq] at hs
    exact ⟨hs.1.1.1, hs.1.1.2⟩
  have hl : (nm s).length = s.1.size := by simp [nm]
  unfold pSym encSym
  rw [List.append_assoc, List.append_assoc, pTxt_print (by omega) (by omega)]
  simp only
  rw [pNum_print (by omega) (by omega) (by omega)]
  simp only
  rw [pNum_print (by omega) (by omega) (by omega)]
  simp only
  congr 1
  obtain ⟨a, m, k⟩ := s
  simp only [Prod.mk.injEq, and_true]
  exact ⟨by simp [nm], by simp at hb ⊢; omega, by simp at hb ⊢; omega⟩
theorem pRel_read (okN : ByteArray → Bool) {syms : List Sym} (hn : namesB okN syms = true) (l : Bs) (x : Rel) (r : Bs) (h : pRel syms l = some (x, r)) : l = encRel syms x ++ r := by
  unfold pRel at h
  cases h1 : pNum 0 8192 l with
  | none => rw [h1] at h; cases h
  | some y =>
    obtain ⟨m, l1⟩ := y
    rw [h1] at h
    simp only at h
    cases h2 : pNum 0 128 l1 with
    | none => rw [h2] at h; cases h
    | some z =>
      obtain ⟨k, l2⟩ := z
      rw [h2] at h
      simp only at h
      cases h3 : syms[k]? with
      | none => rw [h3] at h; cases h
      | some s =>
        rw [h3] at h
        cases h
        have hk : k < syms.length := by
          rcases Nat.lt_or_ge k syms.length with h | h
          · exact h
          · rw [List.getElem?_eq_none h] at h3; cases h3
        have hs : syms[k] = s := by rw [List.getElem?_eq_getElem hk] at h3; exact Option.some.inj h3
        have hi := ((namesB_iff okN syms).1 hn k hk).2
        rw [hs] at hi
        rw [(pNum_read h1).1, (pNum_read h2).1]
        unfold encRel
        simp only
        rw [show s.1.data.toList = nm s from rfl, hi]
        simp
theorem pRel_print {syms : List Sym} (hl : syms.length ≤ 128) (x : Rel) (r : Bs) (h0 : 0 ≤ x.1) (h1 : x.1 ≤ 8192) (hs : (idx syms x.2.data.toList).isSome = true) : pRel syms (encRel syms x ++ r) = some (x, r) := by
  obtain ⟨k, hk⟩ := Option.isSome_iff_exists.1 hs
  obtain ⟨hlt, hnm⟩ := idx_lt hk
  unfold pRel encRel
  rw [hk, List.append_assoc, pNum_print (by omega) (by omega) (by omega)]
  simp only [Option.getD_some]
  rw [pNum_print (by omega) (by omega) (by omega)]
  simp only [List.getElem?_eq_getElem hlt]
  congr 1
  obtain ⟨a, b⟩ := x
  simp only [Prod.mk.injEq, and_true]
  refine ⟨by simp at h0 ⊢; omega, ?_⟩
  have : (syms[k]).1.data.toList = b.data.toList := hnm
  exact ByteArray.ext (Array.toList_inj.1 this)
theorem pSec_read (okN : ByteArray → Bool) {syms : List Sym} (hn : namesB okN syms = true) (l : Bs) (x : Sec) (r : Bs) (h : pSec syms l = some (x, r)) : l = encSec syms x ++ r := by
  unfold pSec at h
  cases h1 : pNum 0 2 l with
  | none => rw [h1] at h; cases h
  | some y =>
    obtain ⟨k, l1⟩ := y
    rw [h1] at h
    simp only at h
    cases h2 : pTxt 8192 l1 with
    | none => rw [h2] at h; cases h
    | some z =>
      obtain ⟨d, l2⟩ := z
      rw [h2] at h
      simp only at h
      cases h3 : pNum 0 8192 l2 with
      | none => rw [h3] at h; cases h
      | some u =>
        obtain ⟨n, l3⟩ := u
        rw [h3] at h
        simp only at h
        cases h4 : pRep (pRel syms) n l3 with
        | none => rw [h4] at h; cases h
        | some v =>
          obtain ⟨rs, l4⟩ := v
          rw [h4] at h
          cases h
          have hr := pRep_read (pRel_read okN hn) n l3 rs r h4
          rw [(pNum_read h1).1, (pTxt_read h2).1, (pNum_read h3).1, hr.1]
          unfold encSec
          simp [hr.2]
theorem rels_range {syms : List Sym} {d : Bs} : ∀ {l : List Rel} {e : Int}, relsB syms d l e = true → 0 ≤ e → (∀ x ∈ l, 0 ≤ x.1 ∧ x.1 ≤ (d.length : Int) - 4 ∧ (idx syms x.2.data.toList).isSome = true) ∧ (l.length : Int) * 4 + e ≤ max e d.length
  | [], e, _, h0 => by simp; omega
  | r :: l, e, h, h0 => by
    rw [relsB] at h
    simp only [Bool.and_eq_true, decide_eq_true_eq] at h
    obtain ⟨⟨⟨⟨h1, h2⟩, h3⟩, h4⟩, h5⟩ := h
    obtain ⟨ih1, ih2⟩ := rels_range h5 (by omega)
    refine ⟨fun x hx => ?_, ?_⟩
    · rcases List.mem_cons.1 hx with rfl | hx
      · exact ⟨by omega, h2, h4⟩
      · exact ih1 x hx
    · simp only [List.length_cons]
      omega
theorem pSec_print {syms : List Sym} (hl : syms.length ≤ 128) (x : Sec) (r : Bs) (h : secB syms x = true) : pSec syms (encSec syms x ++ r) = some (x, r) := by
  unfold secB at h
  simp only [Bool.and_eq_true, decide_eq_true_eq] at h
  obtain ⟨⟨hk, hr⟩, hd⟩ := h
  have hk' : x.1 = 1 ∨ x.1 = 2 := by
    unfold kindB at hk
    simp only [Bool.or_eq_true, Bool.and_eq_true, decide_eq_true_eq] at hk
    omega
  have hdl : x.2.1.data.toList.length = x.2.1.size := by simp
  obtain ⟨h1, h2⟩ := rels_range hr (Int.le_refl _)
  have hp : pRep (pRel syms) x.2.2.length (x.2.2.flatMap (encRel syms) ++ r) = some (x.2.2, r) :=
    pRep_print x.2.2 r fun a ha r' => pRel_print hl a r' (h1 a ha).1 (by have := (h1 a ha).2.1; omega) (h1 a ha).2.2
  unfold pSec encSec
  rw [List.append_assoc, List.append_assoc, List.append_assoc, pNum_print (by omega) (by omega) (by omega)]
  simp only
  rw [pTxt_print (by omega) (by omega)]
  simp only
  rw [pNum_print (by omega) (by omega) (by omega)]
  simp only
  rw [hp]
  simp only
  congr 1
  obtain ⟨a, b, c⟩ := x
  have ha : ((a.toNat : Nat) : Int) = a := by simp at hk'; omega
  simp [ha]
theorem pObj_read (okN : ByteArray → Bool) {l : Bs} {o : Obj} {r : Bs} (h : pObj l = some (o, r)) (hn : namesB okN o.1 = true) : l = encObj o ++ r := by
  unfold pObj at h
  cases h0 : pTxt 6 l with
  | none => rw [h0] at h; cases h
  | some x0 =>
    obtain ⟨w, l0⟩ := x0
    rw [h0] at h
    simp only at h
    by_cases hw : w = wObject
    · rw [if_pos hw] at h
      cases h1 : pNum 0 128 l0 with
      | none => rw [h1] at h; cases h
      | some x1 =>
        obtain ⟨n, l1⟩ := x1
        rw [h1] at h
        simp only at h
        cases h2 : pRep pSym n l1 with
        | none => rw [h2] at h; cases h
        | some x2 =>
          obtain ⟨syms, l2⟩ := x2
          rw [h2] at h
          simp only at h
          cases h3 : pNum 0 128 l2 with
          | none => rw [h3] at h; cases h
          | some x3 =>
            obtain ⟨m, l3⟩ := x3
            rw [h3] at h
            simp only at h
            cases h4 : pRep (pSec syms) m l3 with
            | none => rw [h4] at h; cases h
            | some x4 =>
              obtain ⟨secs, l4⟩ := x4
              rw [h4] at h
              cases h
              have e2 := pRep_read pSym_read n l1 syms l2 h2
              have e4 := pRep_read (pSec_read okN hn) m l3 secs r h4
              rw [(pTxt_read h0).1, hw, (pNum_read h1).1, e2.1, (pNum_read h3).1, e4.1]
              unfold encObj
              simp [e2.2, e4.2]
    · rw [if_neg hw] at h; cases h
theorem pObj_print (okN : ByteArray → Bool) (hok : ∀ s, okN s = true → s.size ≤ 32) {o : Obj} (h : checkB okN o = true) (r : Bs) : pObj (encObj o ++ r) = some (o, r) := by
  unfold checkB at h
  simp only [Bool.and_eq_true, decide_eq_true_eq] at h
  obtain ⟨⟨⟨hl, hn⟩, hs⟩, hw⟩ := h
  have hnm := (namesB_iff okN o.1).1 hn
  have hsec := (ownedB_iff o).1 hw
  have p1 : pRep pSym o.1.length (o.1.flatMap encSym ++ (num o.2.length ++ o.2.flatMap (encSec o.1) ++ r)) = some (o.1, num o.2.length ++ o.2.flatMap (encSec o.1) ++ r) :=
    pRep_print o.1 _ fun a ha r' => by
      obtain ⟨i, hi, rfl⟩ := List.getElem_of_mem ha
      exact pSym_print o.2.length _ r' (hok _ (hnm i hi).1) (List.all_eq_true.1 hs _ ha) hl.2
  have p2 : pRep (pSec o.1) o.2.length (o.2.flatMap (encSec o.1) ++ r) = some (o.2, r) :=
    pRep_print o.2 _ fun a ha r' => by
      obtain ⟨i, hi, rfl⟩ := List.getElem_of_mem ha
      exact pSec_print hl.1 _ r' (hsec i hi).2
  unfold pObj encObj
  rw [List.append_assoc, List.append_assoc, List.append_assoc, pTxt_print (by decide) (by decide)]
  simp only [if_true]
  rw [pNum_print (by omega) (by omega) (by omega)]
  simp only
  rw [p1]
  simp only
  rw [List.append_assoc, pNum_print (by omega) (by omega) (by omega)]
  simp only
  rw [p2]

end Go.Proofs.YtjimgkefacnamaaGreatDoor.C

/- Plain facts on archives, and on what is decoded. No program in sight. -/
namespace Go.Proofs.YtjimgkefacnamaaGreatDoor.C

abbrev Mem := ByteArray × Obj
section
variable (okN okP : ByteArray → Bool)
/-- What bytes decode to. -/
def decB (l : Bs) : Option Obj := if l.length ≤ 65536 then match pObj l with
    | some (o, r) => if r = [] ∧ checkB okN o = true then some o else none
    | none => none
  else none
theorem decB_read {l : Bs} {o : Obj} (h : decB okN l = some o) : l = encObj o ∧ checkB okN o = true ∧ l.length ≤ 65536 ∧ pObj l = some (o, []) := by
  unfold decB at h
  by_cases hl : l.length ≤ 65536
  · rw [if_pos hl] at h
    cases hp : pObj l with
    | none => rw [hp] at h; cases h
    | some x =>
      obtain ⟨p, r⟩ := x
      rw [hp] at h
      simp only at h
      by_cases hc : r = [] ∧ checkB okN p = true
      · rw [if_pos hc] at h
        cases h
        obtain ⟨rfl, hc⟩ := hc
        have hn : namesB okN o.1 = true := by
          unfold checkB at hc
          simp only [Bool.and_eq_true] at hc
          exact hc.1.1.2
        have := pObj_read okN hp hn
        rw [List.append_nil] at this
        exact ⟨this, hc, hl, rfl⟩
      · rw [if_neg hc] at h; cases h
  · rw [if_neg hl] at h; cases h
theorem decB_print (hok : ∀ s, okN s = true → s.size ≤ 32) {o : Obj} (h : checkB okN o = true) (hl : (encObj o).length ≤ 65536) : decB okN (encObj o) = some o := by
  have hp := pObj_print okN hok h []
  rw [List.append_nil] at hp
  unfold decB
  rw [if_pos hl, hp]
  show (if ([] : Bs) = [] ∧ _ then _ else _) = _
  rw [if_pos ⟨rfl, h⟩]
/-- No proper beginning of an object's bytes decodes. -/
theorem decB_part (hok : ∀ s, okN s = true → s.size ≤ 32) {x y : Bs} {o p : Obj} (h : decB okN (x ++ y) = some o) (k : decB okN x = some p) : y = [] := by
  obtain ⟨_, _, _, h1⟩ := decB_read okN h
  obtain ⟨k1, k2, _, _⟩ := decB_read okN k
  rw [k1, pObj_print okN hok k2 y] at h1
  cases h1
  rfl

/-- The members' names are different paths; their objects are valid. -/
def memsB (l : List Mem) : Bool := decide (l.length ≤ 64) && (List.range l.length).all fun i => match l[i]? with
  | some m => okP m.1 && checkB okN m.2 && (List.range i).all fun j => match l[j]? with | some q => decide (q.1.data.toList ≠ m.1.data.toList) | none => true
  | none => true
theorem memsB_iff (l : List Mem) : memsB okN okP l = true ↔ l.length ≤ 64 ∧ ∀ i (h : i < l.length), okP l[i].1 = true ∧ checkB okN l[i].2 = true ∧ ∀ j (h' : j < l.length), j < i → l[j].1.data.toList ≠ l[i].1.data.toList := by
  unfold memsB
  rw [Bool.and_eq_true, List.all_eq_true, decide_eq_true_iff]
  constructor
  · rintro ⟨h0, h⟩
    refine ⟨h0, fun i hi => ?_⟩
    have := h i (List.mem_range.2 hi)
    rw [List.getElem?_eq_getElem hi] at this
    simp only [Bool.and_eq_true, List.all_eq_true] at this
    refine ⟨this.1.1, this.1.2, fun j hj hji => ?_⟩
    have h2 := this.2 j (List.mem_range.2 hji)
    rw [List.getElem?_eq_getElem hj] at h2
    simpa using h2
  · rintro ⟨h0, h⟩
    refine ⟨h0, fun i hi => ?_⟩
    have hi := List.mem_range.1 hi
    rw [List.getElem?_eq_getElem hi]
    simp only [Bool.and_eq_true, List.all_eq_true]
    obtain ⟨h1, h2, h3⟩ := h i hi
    refine ⟨⟨h1, h2⟩, fun j hj => ?_⟩
    have hj := List.mem_range.1 hj
    rw [List.getElem?_eq_getElem (show j < l.length by omega)]
    simpa using h3 j (by omega) hj
def encMem (m : Mem) : Bs := txt m.1.data.toList ++ txt (encObj m.2)
def encArc (l : List Mem) : Bs := txt wArchive ++ (num l.length ++ l.flatMap encMem)
def pMem (l : Bs) : Option (Mem × Bs) :=
  match pTxt 128 l with
  | some (s, l1) => match pTxt 65536 l1 with
    | some (b, l2) => match decB okN b with
      | some o => some ((⟨s.toArray⟩, o), l2)
      | none => none
    | none => none
  | none => none
def pArc (l : Bs) : Option (List Mem × Bs) :=
  match pTxt 7 l with
  | some (w, l0) => if w = wArchive then match pNum 0 64 l0 with
    | some (n, l1) => pRep (pMem okN) n l1
    | none => none
    else none
  | none => none
/-- What bytes unpack to. -/
def unpB (l : Bs) : Option (List Mem) := if l.length ≤ 65536 then match pArc okN l with
    | some (ms, r) => if r = [] ∧ memsB okN okP ms = true then some ms else none
    | none => none
  else none
/-- What Pack gives: bytes, or an error. -/
def packB (l : List Mem) : Bs × Int := if memsB okN okP l then (if l.all fun m => decide ((encObj m.2).length ≤ 65536) then (if (encArc l).length ≤ 65536 then (encArc l, 0) else ([], 10)) else ([], 10)) else ([], 1)
theorem pMem_read (l : Bs) (m : Mem) (r : Bs) (h : pMem okN l = some (m, r)) : l = encMem m ++ r := by
  unfold pMem at h
  cases h1 : pTxt 128 l with
  | none => rw [h1] at h; cases h
  | some x =>
    obtain ⟨s, l1⟩ := x
    rw [h1] at h
    simp only at h
    cases h2 : pTxt 65536 l1 with
    | none => rw [h2] at h; cases h
    | some y =>
      obtain ⟨b, l2⟩ := y
      rw [h2] at h
      simp only at h
      cases h3 : decB okN b with
      | none => rw [h3] at h; cases h
      | some o =>
        rw [h3] at h
        cases h
        rw [(pTxt_read h1).1, (pTxt_read h2).1, (decB_read okN h3).1]
        unfold encMem
        simp
theorem pMem_print (hok : ∀ s, okN s = true → s.size ≤ 32) (m : Mem) (r : Bs) (h1 : m.1.size ≤ 128) (h2 : checkB okN m.2 = true) (h3 : (encObj m.2).length ≤ 65536) : pMem okN (encMem m ++ r) = some (m, r) := by
  have hl : m.1.data.toList.length = m.1.size := by simp
  unfold pMem encMem
  rw [List.append_assoc, pTxt_print (by omega) (by omega)]
  simp only
  rw [pTxt_print h3 h3]
  simp only
  rw [decB_print okN hok h2 h3]
theorem unpB_read {l : Bs} {ms : List Mem} (h : unpB okN okP l = some ms) : l = encArc ms ∧ memsB okN okP ms = true ∧ l.length ≤ 65536 ∧ pArc okN l = some (ms, []) ∧ ms.all (fun m => decide ((encObj m.2).length ≤ 65536)) = true := by
  unfold unpB at h
  by_cases hl : l.length ≤ 65536
  · rw [if_pos hl] at h
    cases hp : pArc okN l with
    | none => rw [hp] at h; cases h
    | some x =>
      obtain ⟨p, r⟩ := x
      rw [hp] at h
      simp only at h
      by_cases hc : r = [] ∧ memsB okN okP p = true
      · rw [if_pos hc] at h
        cases h
        obtain ⟨rfl, hc⟩ := hc
        have hp' := hp
        unfold pArc at hp
        cases h0 : pTxt 7 l with
        | none => rw [h0] at hp; cases hp
        | some x0 =>
          obtain ⟨w, l0⟩ := x0
          rw [h0] at hp
          simp only at hp
          by_cases hw : w = wArchive
          · rw [if_pos hw] at hp
            cases h1 : pNum 0 64 l0 with
            | none => rw [h1] at hp; cases hp
            | some x1 =>
              obtain ⟨n, l1⟩ := x1
              rw [h1] at hp
              simp only at hp
              have e := pRep_read (pMem_read okN) n l1 ms [] hp
              have hlen : l = encArc ms := by
                rw [(pTxt_read h0).1, hw, (pNum_read h1).1, e.1]
                unfold encArc
                simp [e.2]
              refine ⟨hlen, hc, hl, rfl, ?_⟩
              rw [List.all_eq_true]
              intro m hm
              have hsub : (encObj m.2).length ≤ (ms.flatMap encMem).length := by
                obtain ⟨a, b, rfl⟩ := List.append_of_mem hm
                simp only [List.flatMap_append, List.flatMap_cons, List.length_append, encMem, txt, List.length_cons]
                omega
              have hlen2 := congrArg List.length hlen
              unfold encArc at hlen2
              simp only [List.length_append] at hlen2
              exact decide_eq_true (by omega)
          · rw [if_neg hw] at hp; cases hp
      · rw [if_neg hc] at h; cases h
  · rw [if_neg hl] at h; cases h
theorem pArc_print (hok : ∀ s, okN s = true → s.size ≤ 32) (hokP : ∀ s, okP s = true → s.size ≤ 128) {ms : List Mem} (h : memsB okN okP ms = true) (hs : ms.all (fun m => decide ((encObj m.2).length ≤ 65536)) = true) (r : Bs) : pArc okN (encArc ms ++ r) = some (ms, r) := by
  obtain ⟨h1, h2⟩ := (memsB_iff okN okP ms).1 h
  unfold pArc encArc
  rw [List.append_assoc, List.append_assoc, pTxt_print (by decide) (by decide)]
  simp only [if_true]
  rw [pNum_print (by omega) (by omega) (by omega)]
  simp only
  refine pRep_print ms r fun a ha r' => ?_
  obtain ⟨i, hi, rfl⟩ := List.getElem_of_mem ha
  exact pMem_print okN hok _ r' (hokP _ (h2 i hi).1) (h2 i hi).2.1 (by have := List.all_eq_true.1 hs _ ha; simpa using this)
theorem unpB_print (hok : ∀ s, okN s = true → s.size ≤ 32) (hokP : ∀ s, okP s = true → s.size ≤ 128) {ms : List Mem} (h : memsB okN okP ms = true) (hs : ms.all (fun m => decide ((encObj m.2).length ≤ 65536)) = true) (hl : (encArc ms).length ≤ 65536) : unpB okN okP (encArc ms) = some ms := by
  have hp := pArc_print okN okP hok hokP h hs []
  rw [List.append_nil] at hp
  unfold unpB
  rw [if_pos hl, hp]
  show (if ([] : Bs) = [] ∧ _ then _ else _) = _
  rw [if_pos ⟨rfl, h⟩]
theorem unpB_part (hok : ∀ s, okN s = true → s.size ≤ 32) (hokP : ∀ s, okP s = true → s.size ≤ 128) {x y : Bs} {o p : List Mem} (h : unpB okN okP (x ++ y) = some o) (k : unpB okN okP x = some p) : y = [] := by
  obtain ⟨_, _, _, h1, _⟩ := unpB_read okN okP h
  obtain ⟨k1, k2, _, _, k3⟩ := unpB_read okN okP k
  rw [k1, pArc_print okN okP hok hokP k2 k3 y] at h1
  cases h1
  rfl
/-- No string is the bytes of both. -/
theorem not_both {l : Bs} {o : Obj} {ms : List Mem} (h : decB okN l = some o) (k : unpB okN okP l = some ms) : False := by
  have h1 := (decB_read okN h).1
  have k1 := (unpB_read okN okP k).1
  rw [h1] at k1
  have e : ∀ (w : Bs) (r : Bs), (txt w ++ r)[0]? = (dec w.length ++ 58 :: (w ++ 44 :: r))[0]? := fun w r => by unfold txt; simp
  have e1 : (encObj o)[0]? = some 54 := by
    unfold encObj
    rw [e, show wObject.length = 6 from rfl, dec_small (by decide)]
    rfl
  have e2 : (encArc ms)[0]? = some 55 := by
    unfold encArc
    rw [e, show wArchive.length = 7 from rfl, dec_small (by decide)]
    rfl
  rw [k1, e2] at e1
  cases e1
end

end Go.Proofs.YtjimgkefacnamaaGreatDoor.C

/- The library's variables; numbers and texts as bytes: codec and its reference. -/
namespace Go.Proofs.YtjimgkefacnamaaGreatDoor
open Go.RowKit

/-- The library's variables hold what they were laid. -/
def Gl (w : World) : Prop := (∃ m, w.cell? ⟨1, 0, none⟩ = some (.int .i64 m)) ∧ Lib.TabIs Tryz.prog w "internal/strconv.uint64pow10" .u64 Lib.pow10Tab
theorem tab_ext {w w' : World} {name : String} {k : IntKind} {zs : List Int} (h : Lib.TabIs Tryz.prog w name k zs) (he : Ext w w') : Lib.TabIs Tryz.prog w' name k zs := by
  unfold Lib.TabIs World.var? at *
  cases hg : Tryz.prog.globalNamed name with
  | none => rw [hg] at h; cases h
  | some g =>
    rw [hg] at h
    simp only [Option.bind_some] at h ⊢
    have hlt : g < w.heap.size := by
      rcases Nat.lt_or_ge g w.heap.size with h' | h'
      · exact h'
      · rw [Array.getElem?_eq_none h'] at h; cases h
    rw [he.block g hlt]
    exact h
theorem Gl.ext {w w' : World} (h : Gl w) (he : Ext w w') : Gl w' := by
  obtain ⟨⟨m, hm⟩, ht⟩ := h
  exact ⟨⟨m, he.keepc hm⟩, tab_ext ht he⟩
theorem Itoa_any (n : Int) (w : World) (h0 : 0 ≤ n) (h1 : n ≤ 9223372036854775807) (hg : Gl w) : Calls Tryz.prog 118 #[.int .i64 n] w (Al (.string (mkB (C.dec n.toNat))) w) := by
  refine (Tryz.strconv_Itoa n (by omega) h1 w hg.2).mono ?_
  rintro e w' ⟨rfl, k, os, rfl⟩
  refine ⟨?_, Lib.below_grow _ _ (Nat.le_refl _) k os⟩
  unfold Lib.itoa
  rw [if_neg (by omega)]
  rfl
theorem dec_len : ∀ (k n : Nat), n < 10 ^ (k + 1) → (C.dec n).length ≤ k + 1
  | 0, n, h => by rw [C.dec_small (by omega)]; simp
  | k + 1, n, h => by
    by_cases hn : n < 10
    · rw [C.dec_small hn]; simp
    · rw [C.dec_big hn, List.length_append]
      have := dec_len k (n / 10) (by rw [Nat.pow_succ] at h; omega)
      simp; omega
theorem mkB_size (l : List UInt8) : (mkB l).size = l.length := by simp [mkB, ByteArray.size]
theorem mkB_data (l : List UInt8) : (mkB l).data.toList = l := rfl
theorem mkB_self (s : ByteArray) : mkB s.data.toList = s := by cases s; rfl
theorem mkB_add (l m : List UInt8) : mkB l ++ mkB m = mkB (l ++ m) := by
  apply ByteArray.ext
  apply Array.toList_inj.1
  rw [ByteArray.data_append, Array.toList_append]
  rfl

/-- What Number gives, what Text gives. -/
def numV (n : Int) : Value := if 0 ≤ n ∧ n ≤ 281474976710656 then .tuple #[.string (mkB (C.num n.toNat)), .int .i64 0] else .tuple #[.string ⟨#[]⟩, .int .i64 3]
def txtV (s : ByteArray) : Value := if s.size ≤ 65536 then .tuple #[.string (mkB (C.txt s.data.toList)), .int .i64 0] else .tuple #[.string ⟨#[]⟩, .int .i64 10]
theorem numS (n : Nat) : mkB (C.dec n) ++ ⟨#[59]⟩ = mkB (C.num n) := mkB_add _ [59]
theorem txtS (s : ByteArray) : mkB (C.dec s.size) ++ ⟨#[58]⟩ ++ s ++ ⟨#[44]⟩ = mkB (C.txt s.data.toList) := by
  have e1 : mkB (C.dec s.size) ++ ⟨#[58]⟩ = mkB (C.dec s.size ++ [58]) := mkB_add _ [58]
  have e2 : mkB (C.dec s.size ++ [58]) ++ s = mkB (C.dec s.size ++ [58] ++ s.data.toList) := by
    have := mkB_add (C.dec s.size ++ [58]) s.data.toList
    rwa [mkB_self] at this
  have e3 : mkB (C.dec s.size ++ [58] ++ s.data.toList) ++ ⟨#[44]⟩ = mkB (C.dec s.size ++ [58] ++ s.data.toList ++ [44]) := mkB_add _ [44]
  have hl : s.data.toList.length = s.size := by simp
  rw [e1, e2, e3]
  unfold C.txt
  rw [hl]
  simp

set_option maxHeartbeats 400000 in
theorem Number_any' (n : Int) (w : World) (hg : Gl w) : Calls Tryz.prog 87 #[.int .i64 n] w (Al (numV n) w) := by
  unfold numV
  by_cases h0 : 0 ≤ n
  · by_cases h1 : n ≤ 281474976710656
    · rw [if_pos ⟨h0, h1⟩, ← numS]
      have HI := Lib.hid (Itoa_any n w h0 (by omega) hg)
      have hl : (mkB (C.dec n.toNat)).size ≤ 16 := by rw [mkB_size]; exact dec_len 15 _ (by omega)
      generalize mkB (C.dec n.toNat) = t at HI hl ⊢
      clear hg
      go_enter Tryz.func87, Tryz.ntmps87
      go_wp2_with fail
      refine HI.out.mono ?_
      rintro e w1 ⟨rfl, d1⟩
      go_wp2_with fail
      go_ret2
      exact ⟨rfl, d1⟩
    · rw [if_neg (by omega)]
      go_enter Tryz.func87, Tryz.ntmps87
      go_wp2_with fail
      go_ret2
      exact ⟨rfl, Ext.refl _⟩
  · rw [if_neg (by omega)]
    go_enter Tryz.func87, Tryz.ntmps87
    go_wp2_with fail
    go_ret2
    exact ⟨rfl, Ext.refl _⟩
set_option maxHeartbeats 400000 in
theorem Text_any' (s : ByteArray) (w : World) (hs : s.size ≤ 9223372036854775807) (hg : Gl w) : Calls Tryz.prog 85 #[.string s] w (Al (txtV s) w) := by
  unfold txtV
  by_cases h1 : s.size ≤ 65536
  · rw [if_pos h1, ← txtS]
    have HI := Lib.hid (Itoa_any (s.size : Int) w (by omega) (by omega) hg)
    rw [Int.toNat_natCast] at HI
    have hl : (mkB (C.dec s.size)).size ≤ 16 := by rw [mkB_size]; exact dec_len 15 _ (by omega)
    generalize mkB (C.dec s.size) = t at HI hl ⊢
    clear hg
    go_enter Tryz.func85, Tryz.ntmps85
    go_wp2_with fail
    refine HI.out.mono ?_
    rintro e w1 ⟨rfl, d1⟩
    go_wp2_with fail
    go_ret2
    exact ⟨rfl, d1⟩
  · rw [if_neg h1]
    go_enter Tryz.func85, Tryz.ntmps85
    go_wp2_with fail
    go_ret2
    exact ⟨rfl, Ext.refl _⟩

end Go.Proofs.YtjimgkefacnamaaGreatDoor

/- The reference's numbers and texts. -/
namespace Go.Proofs.YtjimgkefacnamaaGreatDoor
open Go.RowKit

/-- A digit's string. -/
def chr (d : Nat) : ByteArray := mkB [UInt8.ofNat (48 + d)]
theorem chr_size (d : Nat) : (chr d).size = 1 := rfl
theorem one_byte (d : Nat) (hd : d < 10) (w' : World) (v : Int) (hv : v = 48 + (d : Int)) (p : Addr) (hc : w'.cell? p = some (.int .u8 v)) : (convert 103 9 (.slice (some p) 1 1)).run Tryz.prog w' = .ok (.string (chr d)) w' := by
  subst hv
  have hb := C.digit_back hd
  have := run_convert_bytes_back (P := Tryz.prog) w' 103 9 5 p 1 [UInt8.ofNat (48 + d)] Tryz.underlying103 Tryz.underlying5 Tryz.underlying9 (by
    intro i hi
    have : i = 0 := by simp at hi; omega
    subst this
    simp only [List.getElem_cons_zero]
    rw [hb]
    simpa [Addr.add] using hc)
  exact this
set_option maxRecDepth 4000 in
set_option maxHeartbeats 400000 in
theorem Decimal_one (n : Nat) (w : World) (h : n < 10) : Calls Tryz.prog 120 #[.int .i64 (n : Int)] w (Al (.string (mkB (C.dec n))) w) := by
  have hd : Hid (mkB (C.dec n) = chr n) := by unfold Hid; rw [C.dec_small h]; rfl
  have hcv : ∀ w' : World, (convert 103 9 (.slice (some ⟨w'.heap.size, 0, none⟩) 1 1)).run Tryz.prog (w'.alloc (.cells #[.int .u8 (48 + (n : Int))] 5)) = .ok (.string (chr n)) (w'.alloc (.cells #[.int .u8 (48 + (n : Int))] 5)) :=
    fun w' => one_byte n h _ _ rfl _ (cell_new w' _ 5 0)
  go_enter Tryz.func120, Tryz.ntmps120
  go_wp2_with fail
  go_ret
  exact ⟨by rw [hd.out]; rfl, (Ext.refl w).alloc _⟩

set_option maxRecDepth 4000 in
set_option maxHeartbeats 800000 in
theorem Decimal_step (n : Nat) (w : World) (h : ¬ n < 10) (hn : n ≤ 9223372036854775807) (ih : ∀ w', Calls Tryz.prog 120 #[.int .i64 ((n / 10 : Nat) : Int)] w' (Al (.string (mkB (C.dec (n / 10)))) w')) : Calls Tryz.prog 120 #[.int .i64 (n : Int)] w (Al (.string (mkB (C.dec n))) w) := by
  have IH := Lib.hid ih
  clear ih
  have hd : Hid (mkB (C.dec n) = mkB (C.dec (n / 10)) ++ chr (n % 10)) := by unfold Hid; rw [C.dec_big h]; exact (mkB_add _ [UInt8.ofNat (48 + n % 10)]).symm
  have hl : (mkB (C.dec (n / 10))).size ≤ 19 := by
    rw [mkB_size]
    exact dec_len 18 (n / 10) (by omega)
  have q1 : (n : Int).tdiv 10 = ((n / 10 : Nat) : Int) := by rw [Int.tdiv_eq_ediv_of_nonneg (by omega)]; omega
  have q5 : (n : Int) / 10 = ((n / 10 : Nat) : Int) := by omega
  have q6 : (n : Int) % 10 = ((n % 10 : Nat) : Int) := by omega
  have q2 : (n : Int).tmod 10 = ((n % 10 : Nat) : Int) := by rw [Int.tmod_eq_emod_of_nonneg (by omega)]; omega
  have q3 : IntKind.i64.wrap (48 + ((n % 10 : Nat) : Int)) = 48 + ((n % 10 : Nat) : Int) := IntWalk.i64_in _ (by omega)
  have q4 : IntKind.u8.wrap (48 + ((n % 10 : Nat) : Int)) = 48 + ((n % 10 : Nat) : Int) := IntWalk.u8_in _ (by omega)
  have q7 : IntKind.i64.wrap ((n / 10 : Nat) : Int) = ((n / 10 : Nat) : Int) := IntWalk.i64_in _ (by omega)
  have hm : n % 10 < 10 := by omega
  have OB := Lib.hid (one_byte (n % 10) hm)
  go_enter Tryz.func120, Tryz.ntmps120
  go_wp2_with fail
  generalize mkB (C.dec (n / 10)) = t at IH hd hl
  generalize n / 10 = a at IH q1 q5 q7
  generalize n % 10 = b at hd q2 q3 q4 q6 hm OB
  have hcv : ∀ w' : World, (convert 103 9 (.slice (some ⟨w'.heap.size, 0, none⟩) 1 1)).run Tryz.prog (w'.alloc (.cells #[.int .u8 (48 + (b : Int))] 5)) = .ok (.string (chr b)) (w'.alloc (.cells #[.int .u8 (48 + (b : Int))] 5)) :=
    fun w' => OB.out _ _ rfl _ (cell_new w' _ 5 0)
  have hcd : ∀ w' : World, (convert 103 9 (.slice (some ⟨w'.heap.size, 0, none⟩) 1 1)).run Tryz.prog (w'.alloc (.cells #[.int .u8 (48 + (b : Int))] 5)).drew = .ok (.string (chr b)) (w'.alloc (.cells #[.int .u8 (48 + (b : Int))] 5)).drew :=
    fun w' => OB.out _ _ rfl _ (cell_new w' _ 5 0)
  have hcs := chr_size b
  go_region_with (go_at_call 120; ((with_reducible refine (IH.out _).mono ?_); rintro e w1 ⟨rfl, d1⟩; first | (have hc1 := OB.out w1 _ rfl ⟨w.heap.size, 0, none⟩ (d1.keepc (p := ⟨w.heap.size, 0, none⟩) (v := .int .u8 (48 + (b : Int))) (cell_new w #[.int .u8 (48 + (b : Int))] 5 0))) | skip))
  all_goals
    go_wp2_with fail
    go_ret
    refine ⟨by rw [hd.out]; rfl, ?_⟩
    first
      | exact (((Ext.refl w).alloc _).drew).trans (by assumption)
      | exact ((Ext.refl w).drew.trans (by assumption)).alloc _
      | exact (Ext.refl w).drew.trans (by assumption)

theorem Decimal_any : ∀ (k n : Nat) (w : World), n < 10 ^ (k + 1) → n ≤ 9223372036854775807 → Calls Tryz.prog 120 #[.int .i64 (n : Int)] w (Al (.string (mkB (C.dec n))) w) := by
  intro k
  induction k with
  | zero => intro n w hk hn; exact Decimal_one n w (by simpa using hk)
  | succ k ih =>
    intro n w hk hn
    by_cases h : n < 10
    · exact Decimal_one n w h
    · exact Decimal_step n w h hn fun w' => ih (n / 10) w' (by rw [Nat.pow_succ] at hk; omega) (by omega)
theorem Dec_any (n : Nat) (w : World) (hn : n ≤ 9223372036854775807) : Calls Tryz.prog 120 #[.int .i64 (n : Int)] w (Al (.string (mkB (C.dec n))) w) :=
  Decimal_any 18 n w (by omega) hn

set_option maxHeartbeats 400000 in
theorem refNumber_any' (n : Int) (w : World) : Calls Tryz.prog 89 #[.int .i64 n] w (Al (numV n) w) := by
  unfold numV
  by_cases h0 : 0 ≤ n
  · by_cases h1 : n ≤ 281474976710656
    · obtain ⟨m, rfl⟩ := Int.eq_ofNat_of_zero_le h0
      rw [if_pos ⟨h0, h1⟩, ← numS, Int.toNat_natCast]
      have HI := Lib.hid (Dec_any m w (by omega))
      have hl : (mkB (C.dec m)).size ≤ 16 := by rw [mkB_size]; exact dec_len 15 _ (by omega)
      generalize mkB (C.dec m) = t at HI hl ⊢
      go_enter Tryz.func89, Tryz.ntmps89
      go_wp2_with fail
      refine HI.out.mono ?_
      rintro e w1 ⟨rfl, d1⟩
      go_wp2_with fail
      go_ret2
      exact ⟨rfl, d1⟩
    · rw [if_neg (by omega)]
      go_enter Tryz.func89, Tryz.ntmps89
      go_wp2_with fail
      go_ret2
      exact ⟨rfl, Ext.refl _⟩
  · rw [if_neg (by omega)]
    go_enter Tryz.func89, Tryz.ntmps89
    go_wp2_with fail
    go_ret2
    exact ⟨rfl, Ext.refl _⟩
set_option maxHeartbeats 400000 in
theorem refText_any' (s : ByteArray) (w : World) (hs : s.size ≤ 9223372036854775807) : Calls Tryz.prog 88 #[.string s] w (Al (txtV s) w) := by
  unfold txtV
  by_cases h1 : s.size ≤ 65536
  · rw [if_pos h1, ← txtS]
    have HI := Lib.hid (Dec_any s.size w (by omega))
    have hl : (mkB (C.dec s.size)).size ≤ 16 := by rw [mkB_size]; exact dec_len 15 _ (by omega)
    generalize mkB (C.dec s.size) = t at HI hl ⊢
    go_enter Tryz.func88, Tryz.ntmps88
    go_wp2_with fail
    refine HI.out.mono ?_
    rintro e w1 ⟨rfl, d1⟩
    go_wp2_with fail
    go_ret2
    exact ⟨rfl, d1⟩
  · rw [if_neg h1]
    go_enter Tryz.func88, Tryz.ntmps88
    go_wp2_with fail
    go_ret2
    exact ⟨rfl, Ext.refl _⟩
/-- What the words of the encodings are. -/
def numB (n : Int) : ByteArray := if 0 ≤ n ∧ n ≤ 281474976710656 then mkB (C.num n.toNat) else ⟨#[]⟩
def txtB (s : ByteArray) : ByteArray := if s.size ≤ 65536 then mkB (C.txt s.data.toList) else ⟨#[]⟩
def numE (n : Int) : Int := if 0 ≤ n ∧ n ≤ 281474976710656 then 0 else 3
def txtE (s : ByteArray) : Int := if s.size ≤ 65536 then 0 else 10
theorem numV_is (n : Int) : numV n = .tuple #[.string (numB n), .int .i64 (numE n)] := by unfold numV numB numE; split <;> rfl
theorem txtV_is (s : ByteArray) : txtV s = .tuple #[.string (txtB s), .int .i64 (txtE s)] := by unfold txtV txtB txtE; split <;> rfl
set_option maxHeartbeats 400000 in
theorem text_ref (s : ByteArray) (w : World) (hs : s.size ≤ 9223372036854775807) : Calls Tryz.prog 53 #[.string s] w (Al (.string (txtB s)) w) := by
  have h := refText_any' s w hs
  rw [txtV_is] at h
  have H := Lib.hid h
  clear h
  generalize txtB s = t at H ⊢
  generalize txtE s = x at H
  go_enter Tryz.func53, Tryz.ntmps53
  go_wp2_with fail
  refine H.out.mono ?_
  rintro e w1 ⟨rfl, d1⟩
  go_wp2_with fail
  go_ret
  exact ⟨rfl, d1⟩
set_option maxHeartbeats 400000 in
theorem number_ref (n : Int) (w : World) : Calls Tryz.prog 54 #[.int .i64 n] w (Al (.string (numB n)) w) := by
  have h := refNumber_any' n w
  rw [numV_is] at h
  have H := Lib.hid h
  clear h
  generalize numB n = t at H ⊢
  generalize numE n = x at H
  go_enter Tryz.func54, Tryz.ntmps54
  go_wp2_with fail
  refine H.out.mono ?_
  rintro e w1 ⟨rfl, d1⟩
  go_wp2_with fail
  go_ret
  exact ⟨rfl, d1⟩

end Go.Proofs.YtjimgkefacnamaaGreatDoor

/- A builder that lies in a writer: copyCheck, WriteString, Len, String; the writer's text and number. -/
namespace Go.Proofs.YtjimgkefacnamaaGreatDoor
open Go.RowKit

theorem ptr_info : ∃ j, Tryz.prog.info? 105 = some j ∧ j.size = 2 := Option.map_eq_some_iff.1 (show (Tryz.prog.info? 105).map (·.size) = some 2 by kernel_rfl)
set_option maxHeartbeats 1000000 in
set_option maxRecDepth 100000 in
theorem copyCheck_used (b : Nat) (w : World) (h0 : w.cell? ⟨b, 0, none⟩ = some (.pointer (some ⟨b, 0, none⟩))) :
    Calls Tryz.prog 119 #[.pointer (some ⟨b, 0, none⟩)] w fun e w' => e = .returned (.tuple #[]) ∧ w' = w := by
  obtain ⟨j, hj, _⟩ := ptr_info
  go_enter Tryz.func119, Tryz.ntmps119
  go_wp2
  rw [Lib.run_neq_ptr_same w _ Tryz.underlying102 hj]
  go_wp2
  go_end0
  exact ⟨rfl, rfl⟩
set_option maxHeartbeats 1000000 in
set_option maxRecDepth 100000 in
theorem copyCheck_fresh (b : Nat) (w : World) (h0 : w.cell? ⟨b, 0, none⟩ = some (.pointer none)) (hsh : w.shape? b = some (107, 2)) (hfz : w.frozen? ⟨b, 0, none⟩ = false) :
    Calls Tryz.prog 119 #[.pointer (some ⟨b, 0, none⟩)] w fun e w' => e = .returned (.tuple #[]) ∧ w' = w.setCell ⟨b, 0, none⟩ (.pointer (some ⟨b, 0, none⟩)) := by
  obtain ⟨j, hj, hjs⟩ := ptr_info
  go_enter Tryz.func119, Tryz.ntmps119
  go_wp2
  rw [Lib.run_to_unsafe w ⟨b, 0, none⟩ Tryz.underlying102 Tryz.underlying213 hj (by rw [hjs]; decide) hsh (Nat.zero_lt_succ 1)]
  simp only [Result.andThen]
  rw [Oper.upon_value]
  go_wp2
  rw [run_callFunc_extern Tryz.func147 (by kernel_rfl) (by kernel_rfl) (by kernel_rfl) (e := Extern.AbiNoEscape.same) (by kernel_rfl)]
  rw [Lib.run_noEscape]
  simp only [Result.andThen]
  rw [Oper.upon_value]
  go_wp2
  rw [Lib.run_from_unsafe w ⟨b, 0, none⟩ Tryz.underlying213 Tryz.underlying102 hj hsh (by kernel_rfl)]
  simp only [Result.andThen]
  rw [Oper.upon_value]
  go_wp2
  go_end0
  exact ⟨rfl, rfl⟩
/-- What is neither the writer nor a row of bytes is as it was. -/
def WKeep (b : Nat) (w w' : World) : Prop := w.heap.size ≤ w'.heap.size ∧ ∀ k, k < w.heap.size → k ≠ b → (∀ cur fz, w.heap[k]? ≠ some (.cells cur 5 fz)) → w'.heap[k]? = w.heap[k]?
theorem WKeep.refl (b : Nat) (w : World) : WKeep b w w := ⟨Nat.le_refl _, fun _ _ _ _ => rfl⟩
theorem WKeep.trans {b : Nat} {w w' w'' : World} (h : WKeep b w w') (k : WKeep b w' w'') : WKeep b w w'' := by
  refine ⟨Nat.le_trans h.1 k.1, fun j hj hb ht => ?_⟩
  have h1 := h.2 j hj hb ht
  rw [k.2 j (Nat.lt_of_lt_of_le hj h.1) hb (by rw [h1]; exact ht), h1]
theorem Ext.wkeep {w w' : World} (h : Ext w w') (b : Nat) : WKeep b w w' := ⟨h.size, fun k hk _ _ => h.block k hk⟩
theorem WKeep.setCell (b : Nat) (w : World) (o : Nat) (u : Value) : WKeep b w (w.setCell ⟨b, o, none⟩ u) :=
  ⟨by simp [World.setCell], fun k _ hb _ => Below.heap_setCell _ _ _ _ (fun e => hb e)⟩
theorem WKeep.grown {b B n : Nat} {w w' : World} {v : Value} {xs : List Value} (ho : w.ownsRow B 5 1 v n xs) (hg : w.grownBy w' v.ownBlock) : WKeep b w w' := by
  refine ⟨hg.size, fun k hk _ ht => hg.block k hk fun e => ?_⟩
  rcases ho.2 with ⟨rfl, _⟩ | ⟨g, cap, cur, rfl, _, hh, _⟩
  · simp [Value.ownBlock] at e
  · simp [Value.ownBlock] at e
    subst e
    exact ht _ _ hh
theorem WKeep.cell {b : Nat} {w w' : World} (h : WKeep b w w') {p : Addr} {x : Value} (hc : w.cell? p = some x) (hb : p.block ≠ b) (ht : ∀ cur fz, w.heap[p.block]? ≠ some (.cells cur 5 fz)) : w'.cell? p = some x :=
  (World.cell?_of_block (h.2 p.block (World.block_lt_of_cell? w _ hc) hb ht)).trans hc
/-- A writer that the call made holds these bytes. -/
def IsW (B b : Nat) (l : List UInt8) (w : World) : Prop := Lib.IsBuilder 107 5 B b (Lib.byteCells l) w
theorem IsW.ext {B b : Nat} {l : List UInt8} {w w' : World} (h : IsW B b l w) (d : Ext w w') : IsW B b l w' := by
  have key : ∀ p, Lib.BuilderAt 107 5 B b p (Lib.byteCells l) w → Lib.BuilderAt 107 5 B b p (Lib.byteCells l) w' := by
    rintro p ⟨h0, v, h1, h2, h3⟩
    have hb : b < w.heap.size := by
      rcases Nat.lt_or_ge b w.heap.size with h' | h'
      · exact h'
      · rw [Array.getElem?_eq_none h'] at h1; cases h1
    exact ⟨h0, v, (d.block b hb).trans h1, h2.kept (row := none) ⟨d.os, d.tape, d.output, d.size, fun k hk _ => d.block k hk⟩ (by cases v.ownBlock <;> simp), h3⟩
  rcases h with h | h
  · exact .inl (key _ h)
  · exact .inr (key _ h)
theorem copyCheck_w (B b : Nat) (bs : List Value) (w : World) (h : Lib.IsBuilder 107 5 B b bs w) :
    Calls Tryz.prog 119 #[.pointer (some ⟨b, 0, none⟩)] w fun e w' => e = .returned (.tuple #[]) ∧ (Lib.BuilderAt 107 5 B b (.pointer (some ⟨b, 0, none⟩)) bs w' ∧ Below B w w' ∧ WKeep b w w') := by
  rcases h with h | h
  · refine (copyCheck_fresh b w h.cell0 h.shape h.frozen0).mono ?_
    rintro e w' ⟨rfl, rfl⟩
    exact ⟨rfl, h.used _, (Below.refl B w).setCell (p := ⟨b, 0, none⟩) h.1 _, WKeep.setCell b w 0 _⟩
  · refine (copyCheck_used b w h.cell0).mono ?_
    rintro e w' ⟨rfl, rfl⟩
    exact ⟨rfl, h, Below.refl B _, WKeep.refl b _⟩
theorem byte_info : (Tryz.prog.info? 5).map (fun i => (i.zero, i.size, i.bytes)) = some (some (.int .u8 0), 1, 1) := by kernel_rfl

set_option maxHeartbeats 2000000 in
set_option maxRecDepth 100000 in
theorem WriteString_w (B b : Nat) (bs : List Value) (s : ByteArray) (w : World) (h : Lib.IsBuilder 107 5 B b bs w) (hlen : bs.length + s.size ≤ 140737488355328) (hBw : B ≤ w.heap.size) :
    Calls Tryz.prog 86 #[.pointer (some ⟨b, 0, none⟩), .string s] w fun e w' => e = .returned (.tuple #[.int .i64 s.size, .nilIface]) ∧ (Lib.BuilderAt 107 5 B b (.pointer (some ⟨b, 0, none⟩)) (bs ++ Lib.strCells s) w' ∧ Below B w w' ∧ WKeep b w w') := by
  obtain ⟨i0, hi, hz0, hz1, hz2⟩ := info_parts byte_info
  go_enter Tryz.func86, Tryz.ntmps86
  go_wp2_with (go_at_call 119; refine (copyCheck_w B b bs _ h).mono ?_)
  rintro e w1 ⟨rfl, h1, hb1, hk1⟩
  obtain ⟨hB, v, hbk, hown, hne⟩ := h1
  have c0 : w1.cell? ⟨b, 0, none⟩ = some (.pointer (some ⟨b, 0, none⟩)) := by rw [Lib.cell_of_heap hbk]; rfl
  have c1 : w1.cell? ⟨b, 1, none⟩ = some v := by rw [Lib.cell_of_heap hbk]; rfl
  go_wp2_with (at_builtin; refine Lib.wpList_append_own_string _ rfl _ _ 103 9 rfl B 5 i0 Tryz.underlying103 Tryz.underlying9 hi hz0 hz1 hz2 _ _ _ rfl hown s rfl ?c3 ?c4 ?c5 ?_)
  case c3 => unfold maxLen; omega
  case c4 => omega
  case c5 => have := hb1.size; omega
  intro v' w2 hown' hgrow _
  have hlt : b < w1.heap.size := by
    rcases Nat.lt_or_ge b w1.heap.size with h' | h'
    · exact h'
    · simp [Array.getElem?_eq_none h'] at hbk
  have hb2 : w2.heap[b]? = some (.cells #[.pointer (some ⟨b, 0, none⟩), v] 107 (0, 0)) := by
    rw [hgrow.block b hlt (fun e => hne e.symm)]
    exact hbk
  have d0 : w2.cell? ⟨b, 0, none⟩ = some (.pointer (some ⟨b, 0, none⟩)) := by rw [Lib.cell_of_heap hb2]; rfl
  have d1 : w2.cell? ⟨b, 1, none⟩ = some v := by rw [Lib.cell_of_heap hb2]; rfl
  have f1 : w2.frozen? ⟨b, 1, none⟩ = false := Lib.frozen_of_heap hb2 1
  obtain ⟨ao, n', cap, rfl⟩ : ∃ ao n' cap, v' = .slice ao n' cap := by
    rcases hown'.2 with ⟨hv, _⟩ | ⟨g, cap, cur, hv, _⟩
    · exact ⟨_, _, _, hv⟩
    · exact ⟨_, _, _, hv⟩
  go_wp2
  go_ret2
  refine ⟨rfl, ?_, ?_, (hk1.trans (WKeep.grown hown hgrow)).trans (WKeep.setCell b _ 1 _)⟩
  · exact Lib.BuilderAt.put (T := 107) (e := 5) hB hb2 (bs' := bs ++ Lib.strCells s) (by simpa [Lib.strCells_length] using hown') (by decide)
  · exact (hb1.grown hgrow (by have := hb1.size; omega) (fun k hk => (hown.lt k hk).1)).setCell (p := ⟨b, 1, none⟩) hB _

set_option maxHeartbeats 1000000 in
set_option maxRecDepth 100000 in
theorem Len_w (B b : Nat) (bs : List Value) (w : World) (h : Lib.IsBuilder 107 5 B b bs w) :
    Calls Tryz.prog 51 #[.pointer (some ⟨b, 0, none⟩)] w fun e w' => e = .returned (.int .i64 bs.length) ∧ w' = w := by
  obtain ⟨p, hB, v, hbk, hown, hne⟩ : ∃ p, Lib.BuilderAt 107 5 B b p bs w := by
    rcases h with h | h
    · exact ⟨_, h⟩
    · exact ⟨_, h⟩
  obtain ⟨ao, cap, rfl⟩ : ∃ ao cap, v = .slice ao bs.length cap := by
    rcases hown.2 with ⟨hv, h0⟩ | ⟨g, cap, cur, hv, _⟩
    · exact ⟨none, 0, by rw [hv, h0]⟩
    · exact ⟨_, _, hv⟩
  have c1 : w.cell? ⟨b, 1, none⟩ = some (.slice ao bs.length cap) := by rw [Lib.cell_of_heap hbk]; rfl
  clear hown hbk hne
  go_enter Tryz.func51, Tryz.ntmps51
  go_wp2
  go_ret
  exact ⟨rfl, rfl⟩

set_option maxHeartbeats 1000000 in
set_option maxRecDepth 100000 in
theorem String_w (B b : Nat) (l : List UInt8) (w : World) (h : Lib.IsBuilder 107 5 B b (Lib.byteCells l) w) (h0 : l ≠ []) :
    Calls Tryz.prog 52 #[.pointer (some ⟨b, 0, none⟩)] w fun e w' => e = .returned (.string (mkB l)) ∧ Below B w w' := by
  obtain ⟨p, hB, v, hbk, hown, hne⟩ : ∃ p, Lib.BuilderAt 107 5 B b p (Lib.byteCells l) w := by
    rcases h with h | h
    · exact ⟨_, h⟩
    · exact ⟨_, h⟩
  have hl0 : l.length ≠ 0 := by simpa using h0
  rw [Lib.byteCells_length] at hown
  obtain ⟨g, cap, cur, rfl, hbg, hg, hnc, hcm, hcs, htake⟩ : ∃ g cap cur, v = .slice (some ⟨g, 0, none⟩) l.length cap ∧ B ≤ g ∧ w.heap[g]? = some (.cells cur 5 (0, 0)) ∧ l.length ≤ cap ∧ cap ≤ maxLen ∧ cur.size = cap * 1 ∧ cur.toList.take (l.length * 1) = Lib.byteCells l := by
    rcases hown.2 with ⟨_, hz⟩ | ⟨g, cap, cur, hv, r⟩
    · exact absurd hz hl0
    · exact ⟨g, cap, cur, hv, r⟩
  have c1 : w.drew.cell? ⟨b, 1, none⟩ = some (.slice (some ⟨g, 0, none⟩) l.length cap) := by
    have : w.drew.heap[b]? = some (.cells #[p, .slice (some ⟨g, 0, none⟩) l.length cap] 107 (0, 0)) := hbk
    rw [Lib.cell_of_heap this]; rfl
  have hSD : (Builtin.unsafeSliceData_ #[103] 150 #[.slice (some ⟨g, 0, none⟩) l.length cap]).run Tryz.prog w.drew = .ok (.pointer (some ⟨g, 0, none⟩)) w.drew :=
    Lib.run_unsafeSliceData_row _ _ _ _ _ _ (by omega)
  have hUS : (Builtin.unsafeString_ #[150, 3] 9 #[.pointer (some ⟨g, 0, none⟩), .int .i64 l.length]).run Tryz.prog w.drew = .ok (.string ⟨l.toArray⟩) (w.drew.freeze ⟨g, 0, none⟩ l.length) := by
    refine Lib.run_unsafeString_row w.drew 150 3 9 5 Tryz.underlying150 (by kernel_rfl) g cur.size (by have hg' : w.drew.heap[g]? = some (.cells cur 5 (0, 0)) := hg; simp [World.shape?, hg']) l h0 (by omega) (by unfold maxLen at hcm; omega) ?_
    intro j x hx
    have := hown.cells (g := g) rfl j (.int .u8 x.toNat) (by simp [Lib.byteCells, hx])
    exact this
  go_enter Tryz.func52, Tryz.ntmps52
  go_wp2
  go_region
  all_goals (go_wp2; go_ret; exact ⟨rfl, Lib.below_freeze (Below.drew (Below.refl B w)) (p := ⟨g, 0, none⟩) hbg _⟩)

theorem bytes_str (l : List UInt8) (s : ByteArray) : Lib.byteCells l ++ Lib.strCells s = Lib.byteCells (l ++ s.data.toList) := by
  unfold Lib.byteCells Lib.strCells
  rw [List.map_append]
set_option maxHeartbeats 800000 in
/-- w.text(s). -/
theorem text_w (B b : Nat) (l : List UInt8) (s : ByteArray) (w : World) (h : IsW B b l w) (hl : l.length ≤ 100000000) (hs : s.size ≤ 9223372036854775807) (hBw : B ≤ w.heap.size) (hg : Gl w) :
    Calls Tryz.prog 49 #[.pointer (some ⟨b, 0, none⟩), .string s] w fun e w' => e = .returned (.tuple #[]) ∧ IsW B b (l ++ (txtB s).data.toList) w' ∧ Below B w w' ∧ WKeep b w w' := by
  have ht := Text_any' s w hs hg
  rw [txtV_is] at ht
  have HT := Lib.hid ht
  have hsz : (txtB s).size ≤ 70000 := by
    unfold txtB
    split
    · rw [mkB_size]
      unfold C.txt
      have := dec_len 15 s.data.toList.length (by have hl' : s.data.toList.length = s.size := by simp
                                                  rw [hl']; omega)
      have hl' : s.data.toList.length = s.size := by simp
      simp at this ⊢
      omega
    · decide
  have hw := fun (w1 : World) (d : Ext w w1) => WriteString_w B b (Lib.byteCells l) (txtB s) w1 (h.ext d) (by rw [Lib.byteCells_length]; omega) (Nat.le_trans hBw d.size)
  have HW := Lib.hid hw
  have hbe := bytes_str l (txtB s)
  have HBE := Lib.hid hbe
  clear ht hw h hbe hg
  generalize txtB s = t at *
  generalize txtE s = x at *
  go_enter Tryz.func49, Tryz.ntmps49
  go_wp2_with fail
  refine HT.out.mono ?_
  rintro e w1 ⟨rfl, d1⟩
  go_wp2_with fail
  refine (HW.out _ d1).mono ?_
  rintro e w2 ⟨rfl, h2, hb2, hk2⟩
  go_wp2_with fail
  go_end0
  exact ⟨rfl, by unfold IsW; rw [← HBE.out]; exact .inr h2, (Below.mono d1 hBw).trans hb2, (d1.wkeep b).trans hk2⟩

end Go.Proofs.YtjimgkefacnamaaGreatDoor

/- The writer's text and number, over a world that stays. -/
namespace Go.Proofs.YtjimgkefacnamaaGreatDoor
open Go.RowKit

/-- The writer at b holds these bytes; w0 is there still. -/
def Wst (w0 : World) (b : Nat) (l : List UInt8) (w : World) : Prop := Ext w0 w ∧ IsW w0.heap.size b l w
theorem Wst.ext {w0 : World} {b : Nat} {l : List UInt8} {w w' : World} (h : Wst w0 b l w) (d : Ext w w') : Wst w0 b l w' := ⟨h.1.trans d, h.2.ext d⟩
theorem text_st (w0 : World) (b : Nat) (l : List UInt8) (s : ByteArray) (w : World) (h : Wst w0 b l w) (hg : Gl w0) (hl : l.length ≤ 100000000) (hs : s.size ≤ 9223372036854775807) :
    Calls Tryz.prog 49 #[.pointer (some ⟨b, 0, none⟩), .string s] w fun e w' => e = .returned (.tuple #[]) ∧ Wst w0 b (l ++ (txtB s).data.toList) w' ∧ WKeep b w w' := by
  refine (text_w w0.heap.size b l s w h.2 hl hs h.1.size (hg.ext h.1)).mono ?_
  rintro e w' ⟨rfl, h1, h2, h3⟩
  exact ⟨rfl, ⟨Below.trans h.1 h2, h1⟩, h3⟩
def numsL (zs : List Int) : List UInt8 := zs.flatMap fun n => (numB n).data.toList
theorem numB_size (n : Int) : (numB n).size ≤ 17 := by
  unfold numB
  split
  · rw [mkB_size]
    unfold C.num
    have := dec_len 15 n.toNat (by omega)
    simp
    omega
  · decide
theorem nums_len : ∀ zs : List Int, (numsL zs).length ≤ zs.length * 17
  | [] => by simp [numsL]
  | z :: zs => by
    have := nums_len zs
    have h := numB_size z
    have hl : (numB z).data.toList.length = (numB z).size := by simp
    unfold numsL at *
    rw [List.flatMap_cons, List.length_append, List.length_cons]
    omega
/-- One number more. -/
theorem num_st (w0 : World) (b : Nat) (l : List UInt8) (n : Int) (w : World) (h : Wst w0 b l w) (hl : l.length ≤ 200000000) :
    Calls Tryz.prog 86 #[.pointer (some ⟨b, 0, none⟩), .string (numB n)] w fun e w' => e = .returned (.tuple #[.int .i64 (numB n).size, .nilIface]) ∧ Wst w0 b (l ++ (numB n).data.toList) w' ∧ WKeep b w w' := by
  have hs := numB_size n
  refine (WriteString_w w0.heap.size b (Lib.byteCells l) (numB n) w h.2 (by rw [Lib.byteCells_length]; omega) h.1.size).mono ?_
  rintro e w' ⟨rfl, h1, h2, h3⟩
  rw [bytes_str] at h1
  exact ⟨rfl, ⟨Below.trans h.1 h2, .inr h1⟩, h3⟩

set_option maxRecDepth 8000 in
set_option maxHeartbeats 1000000 in
/-- w.number(l...). -/
theorem number_st (w0 : World) (b : Nat) (l : List UInt8) (zs : List Int) (g o c n : Nat) (w : World) (hn : n = zs.length) (h : Wst w0 b l w) (hg : Gl w0) (hl : l.length ≤ 100000000) (hz : n ≤ 1000)
    (hc : ∀ j (h : j < zs.length), w.cell? ⟨g, o + j, none⟩ = some (.int .i64 zs[j])) (hgb : g ≠ b) (ht : ∀ cur fz, w.heap[g]? ≠ some (.cells cur 5 fz)) :
    Calls Tryz.prog 50 #[.pointer (some ⟨b, 0, none⟩), .slice (some ⟨g, o, none⟩) n c] w fun e w' => e = .returned (.tuple #[]) ∧ Wst w0 b (l ++ numsL zs) w' ∧ WKeep b w w' := by
  have HN := Lib.hid hn
  have hcell : ∀ j (h : j < zs.length) (w' : World), WKeep b w w' → w'.cell? ⟨g, o + j, none⟩ = some (.int .i64 zs[j]) := fun j h w' k => k.cell (hc j h) hgb ht
  have HC := Lib.hid hcell
  have HG := Lib.hid hg
  have H := Lib.hid h
  clear hn hc hgb ht hcell hg h
  go_enter Tryz.func50, Tryz.ntmps50
  go_wp2_with fail
  go_loopw [10] (fun i wr => ∃ k : Nat, k ≤ n ∧ i = .int .i64 k ∧ Hid (Wst w0 b (l ++ numsL (zs.take k)) wr ∧ WKeep b w wr)) (fun i _ => n - (intOf i).toNat)
  case atStart => exact ⟨0, Nat.zero_le _, rfl, by rw [List.take_zero]; show Wst w0 b (l ++ []) w ∧ _; rw [List.append_nil]; exact ⟨H.out, WKeep.refl _ _⟩⟩
  case round =>
    obtain ⟨k, hk, rfl, HK⟩ := hrel
    by_cases hlt : k < n
    · have hkz : k < zs.length := by rw [← HN.out]; exact hlt
      have c0 := HC.out k hkz wr HK.out.2
      have hsn : numsL (zs.take (k + 1)) = numsL (zs.take k) ++ (numB zs[k]).data.toList := by
        rw [List.take_succ_eq_append_getElem hkz]
        unfold numsL
        rw [List.flatMap_append]
        simp
      have hlen : (l ++ numsL (zs.take k)).length ≤ 200000000 := by
        have := nums_len (zs.take k)
        rw [List.length_append]
        simp only [List.length_take] at this
        omega
      have HSN := Lib.hid hsn
      have NB := Lib.hid (Number_any' zs[k])
      have NS := Lib.hid (num_st w0 b (l ++ numsL (zs.take k)) zs[k])
      rw [List.append_assoc, ← hsn] at NS
      rw [numV_is] at NB
      clear hsn
      generalize zs[k] = z at *
      generalize numE z = x at NB
      have hw1 := fun (w1 : World) (d : Ext wr w1) => NS.out w1 (HK.out.1.ext d) hlen
      have HW := Lib.hid hw1
      have GG := HG.out.ext HK.out.1.1
      have HGG := Lib.hid GG
      generalize numB z = t at *
      clear hw1 hlen GG NS
      go_wp2_with fail
      refine (NB.out _ HGG.out).mono ?_
      rintro e w1 ⟨rfl, d1⟩
      go_wp2_with fail
      refine (HW.out _ d1).mono ?_
      rintro e w2 ⟨rfl, h2, hk2⟩
      have HR : Hid (Wst w0 b (l ++ numsL (zs.take (k + 1))) w2 ∧ WKeep b w w2) := ⟨h2, (HK.out.2.trans (d1.wkeep b)).trans hk2⟩
      clear h2 hk2
      go_wp2_with fail
      go_roundw
      case rel => exact ⟨k + 1, by omega, by go_num, HR⟩
      case measure => simp [intOf]; omega
    · have hr : Wst w0 b (l ++ numsL zs) wr ∧ WKeep b w wr := by
        have := HK.out
        rwa [List.take_of_length_le (by have := HN.out; omega)] at this
      have HR := Lib.hid hr
      clear hr
      go_wp2_with fail
      go_end0
      exact ⟨rfl, HR.out.1, HR.out.2⟩

end Go.Proofs.YtjimgkefacnamaaGreatDoor
