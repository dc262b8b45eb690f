/- The texts Mk Ml Mm Mn Mo Mp Mq of the seat, joined. -/
import Derived.Test.YtclhbcicbnoohaaGreatDoorG7
import Derived.Deep.Upon
import Derived.Lib.SliceRun
/- The reference's Drop. -/
namespace Go.Proofs.YtclhbcicbnoohaaGreatDoor
open Go.RowKit

theorem drop_keep {t : T.Tr} {p : T.Bs} {k : Nat} (h : k < t.length) (hq : T.pth t[k] ≠ p) : T.dropT (t.take (k + 1)) p = T.dropT (t.take k) p ++ [t[k]] := by
  unfold T.dropT
  rw [List.take_succ_eq_append_getElem h, List.filter_append, List.filter_cons, if_pos (by simpa using hq)]
  rfl
theorem drop_leave {t : T.Tr} {p : T.Bs} {k : Nat} (h : k < t.length) (hq : T.pth t[k] = p) : T.dropT (t.take (k + 1)) p = T.dropT (t.take k) p := by
  unfold T.dropT
  rw [List.take_succ_eq_append_getElem h, List.filter_append, List.filter_cons, if_neg (by simpa using hq)]
  simp
theorem drop_len (t : T.Tr) (p : T.Bs) (k : Nat) : (T.dropT (t.take k) p).length ≤ k := by
  unfold T.dropT
  exact Nat.le_trans (List.length_filter_le _ _) (by rw [List.length_take]; omega)
set_option maxRecDepth 100000 in
set_option maxHeartbeats 2000000 in
theorem rDrop_any (t : T.Tr) (A : Option Addr) (c n : Nat) (p : ByteArray) (w : World) (hn : n = t.length) (hA : SliceAt fileR w (Old w) A c t) (hp : ∀ f ∈ t, f.1.size ≤ 9000000) :
    Calls Tryz.prog 18 #[.slice A n c, .string p] w (RetTr w (T.dropE okB t p.data.toList)) := by
  obtain ⟨i0, hi, hz0, hz1, hz2⟩ := info_parts file_info
  have hck : Hid (Calls Tryz.prog 29 #[.slice A n c] w (Al (.int .i64 (T.checkE okB t)) w)) := rCheck_any t A c n w hn hA hp
  have hn63 : n ≤ 9223372036854775807 := by have := hA.1; have := hA.2.1; omega
  obtain ⟨Z, hZ⟩ : ∃ Z, Z = T.dropE okB t p.data.toList := ⟨_, rfl⟩
  rw [← hZ]
  have HZ := Lib.hid hZ
  have HN := Lib.hid hn
  have HA := Lib.hid hA
  clear hZ hn hA hp
  by_cases h0 : T.checkE okB t = 0
  · rw [h0] at hck
    have hok := checkE_ok h0
    have hn64 : n ≤ 64 := by rw [HN.out]; exact hok.few
    have HZ2 : Hid (Z = if T.findT t p.data.toList = none then ([], 7) else (T.dropT t p.data.toList, 0)) := by unfold Hid; rw [HZ.out, T.dropE, if_neg (by rw [h0]; simp)]
    clear HZ hok h0
    go_enter Tryz.func18, Tryz.ntmps18
    go_wp2_with fail
    refine hck.out.mono ?_
    rintro e w1 ⟨rfl, d1⟩
    have X1 := Lib.hid d1
    clear d1
    go_wp2_with fail
    go_loopw [14, 6] (fun i v wr => ∃ k : Nat, k ≤ n ∧ i = .int .i64 k ∧ OwnFiles wr w.heap.size v (T.dropT (t.take k) p.data.toList) ∧ Hid (Ext w wr)) (fun i _ _ => n - (intOf i).toNat)
    case atStart => exact ⟨0, Nat.zero_le _, rfl, own_files_nil _ _, X1.out⟩
    case round =>
      obtain ⟨k, hk, rfl, hown, HX⟩ := hrel
      by_cases hlt : k < n
      · have hkl : k < t.length := by rw [← HN.out]; exact hlt
        obtain ⟨b, off, hAe, hb, c0, c1, h1, h2⟩ := file_get (HA.out.ext HX.out) hkl
        subst hAe
        rw [← Nat.add_assoc] at c1
        obtain ⟨q, Ao, co, hq, rfl, hown'⟩ := own_files_q hown
        have hql : q ≤ 64 := by rw [hq]; have := drop_len t p.data.toList k; omega
        have HQ := Lib.hid hq
        have hk1 := @drop_keep t p.data.toList k hkl
        have hk2 := @drop_leave t p.data.toList k hkl
        have HK1 := Lib.hid hk1
        have HK2 := Lib.hid hk2
        clear hk1 hk2 hown hq
        have HBS : Hid (w.heap.size ≤ (wr.alloc (.cells #[.string t[k].1, .string t[k].2] 25)).heap.size) := Nat.le_trans HX.out.size ((Ext.refl wr).alloc _).size
        have hed := eq_dec t[k].1 p
        cases he : (t[k].1.toList == p.toList)
        · have hne : (!(t[k].1.toList == p.toList)) = true := by rw [he]; rfl
          have HF := Lib.hid (HK1.out (by rw [he] at hed; exact of_decide_eq_false hed.symm))
          clear HK1 HK2 hed
          generalize t[k] = f at *
          obtain ⟨fp, fd⟩ := f
          simp only at c0 c1 h1 h2 he hne HF
          rw [show wr.alloc (.cells #[.string (fp, fd).1, .string (fp, fd).2] 25) = wr.alloc (.cells #[.string fp, .string fd] 25) from rfl] at HBS
          go_wp2_with (at_builtin; refine wpList_append_ownAt _ rfl (.tmp 22) (.tmp 24) 23 rfl w.heap.size 25 i0 (.agg #[.string ⟨#[]⟩, .string ⟨#[]⟩]) 2 32 Tryz.underlying23 hi hz0 hz1 hz2 rfl (by decide) _ _ _ rfl ((hown'.alloc _).alloc _) ⟨_, 0, none⟩ 1 1 (fcells [(fp, fd)]) rfl rfl (cells_file_at _ _ _ _ (by simp)) (fcells_one _) (by unfold maxLen; omega) (by omega) (Nat.le_trans HBS.out (by simp)) (by decide) ?_; intro v4 w4 hown4 hg4 _ _)
          go_roundw
          case rel => exact ⟨k + 1, by omega, by go_num, by rw [HF.out]; exact own_files_snoc HQ.out hown4, ((HX.out.alloc _).alloc _).grown hown' hg4⟩
          case measure => simp [intOf]; omega
        · have hne : (!(t[k].1.toList == p.toList)) = false := by rw [he]; rfl
          have HF := Lib.hid (HK2.out (by rw [he] at hed; exact of_decide_eq_true hed.symm))
          clear HK1 HK2 hed
          generalize t[k] = f at *
          obtain ⟨fp, fd⟩ := f
          simp only at c0 c1 h1 h2 he hne HF
          go_wp2_with fail
          go_roundw
          case rel => exact ⟨k + 1, by omega, by go_num, by unfold OwnFiles; rw [HF.out, ← HQ.out]; exact hown'.alloc _, HX.out.alloc _⟩
          case measure => simp [intOf]; omega
      · obtain rfl : k = n := by omega
        have htk : t.take k = t := by rw [HN.out, List.take_length]
        rw [htk] at hown
        obtain ⟨q, Ao, co, hq, rfl, hown'⟩ := own_files_q hown
        have hsame := @T.dropT_same t p.data.toList
        rw [← hq, ← HN.out] at hsame
        clear hown
        by_cases hqk : q = k
        · have HF : Hid (Z = ([], 7)) := by unfold Hid; rw [HZ2.out, if_pos (hsame.1 hqk)]
          have hd : ((q : Int) == (k : Int)) = true := by simp [hqk]
          clear HZ2 hsame
          go_wp2_with fail
          go_ret2
          exact ⟨_, by rw [HF.out]; rfl, by rw [HF.out]; exact own_files_nil _ _, HX.out⟩
        · have HF : Hid (Z = (T.dropT t p.data.toList, 0)) := by unfold Hid; rw [HZ2.out, if_neg fun h => hqk (hsame.2 h)]
          have hd : ((q : Int) == (k : Int)) = false := by simp; omega
          have HQ := Lib.hid hq
          clear HZ2 hsame hq
          go_wp2_with fail
          go_ret2
          exact ⟨_, by rw [HF.out]; rfl, by rw [HF.out]; unfold OwnFiles; rw [← HQ.out]; exact hown', HX.out⟩
  · have HF : Hid (Z = ([], 1)) := by unfold Hid; rw [HZ.out, T.dropE, if_pos h0]
    have hd : ((T.checkE okB t) == 0) = false := by simp [h0]
    generalize T.checkE okB t = x at hck h0 hd
    have hd2 : (!(x == 0)) = true := by rw [hd]; rfl
    clear HZ
    go_enter Tryz.func18, Tryz.ntmps18
    go_wp2_with fail
    refine hck.out.mono ?_
    rintro e w1 ⟨rfl, d1⟩
    go_wp2_with fail
    go_ret2
    exact ⟨_, by rw [HF.out]; rfl, by rw [HF.out]; exact own_files_nil _ _, d1⟩
end Go.Proofs.YtclhbcicbnoohaaGreatDoor

/- The reference's Mount. -/
namespace Go.Proofs.YtclhbcicbnoohaaGreatDoor
open Go.RowKit

theorem okB_size {s : ByteArray} (h : okB s = true) : s.size ≤ 128 := by
  unfold okB pathL at h
  simp only [Bool.and_eq_true, decide_eq_true_eq] at h
  exact h.1.1
/-- A path in a directory. -/
def inB (d p : ByteArray) : ByteArray := d ++ ⟨#[47]⟩ ++ p
theorem inB_size (d p : ByteArray) : (inB d p).size = d.size + 1 + p.size := by
  unfold inB
  rw [ByteArray.size_append, ByteArray.size_append]
  rfl
theorem inB_is (d : ByteArray) (f : T.File) : T.inD d.data.toList f = (inB d f.1, f.2) := by
  unfold T.inD inB T.mkF T.pth
  congr 1
  apply ByteArray.ext
  apply Array.toList_inj.1
  rw [ByteArray.data_append, Array.toList_append, ByteArray.data_append, Array.toList_append]
  simp
theorem mount_snoc {t : T.Tr} {d : ByteArray} {k : Nat} (h : k < t.length) : T.mountT (t.take (k + 1)) d.data.toList = T.mountT (t.take k) d.data.toList ++ [(inB d t[k].1, t[k].2)] := by
  unfold T.mountT
  rw [List.take_succ_eq_append_getElem h, List.map_append, List.map_cons, inB_is]
  rfl
theorem mount_len (t : T.Tr) (d : ByteArray) (k : Nat) : (T.mountT (t.take k) d.data.toList).length ≤ k := by
  unfold T.mountT
  rw [List.length_map, List.length_take]
  omega
/-- The first k paths are right there. -/
def mntTo (t : T.Tr) (d : ByteArray) (k : Nat) : Prop := ∀ i (h : i < t.length), i < k → okB (inB d t[i].1) = true
theorem mntTo_succ {t : T.Tr} {d : ByteArray} {k : Nat} (h : mntTo t d k) (hk : k < t.length) (h1 : okB (inB d t[k].1) = true) : mntTo t d (k + 1) := by
  intro i hi hik
  by_cases e : i = k
  · subst e; exact h1
  · exact h i hi (by omega)
theorem mountE_end {t : T.Tr} {d : ByteArray} (h0 : T.checkE okB t = 0) (h1 : okB d = true) (h : mntTo t d t.length) : T.mountE okB t d = (T.mountT t d.data.toList, 0) := by
  unfold T.mountE
  rw [if_neg (by rw [h0]; simp), if_neg (by rw [h1]; simp), if_pos]
  rw [List.all_eq_true]
  intro f hf
  obtain ⟨i, hi, rfl⟩ := List.getElem_of_mem hf
  rw [inB_is]
  exact h i hi hi
theorem mountE_no {t : T.Tr} {d : ByteArray} {k : Nat} (h0 : T.checkE okB t = 0) (h1 : okB d = true) (hk : k < t.length) (h : okB (inB d t[k].1) = false) : T.mountE okB t d = ([], 2) := by
  unfold T.mountE
  rw [if_neg (by rw [h0]; simp), if_neg (by rw [h1]; simp), if_neg]
  intro ha
  have := List.all_eq_true.1 ha t[k] (List.getElem_mem hk)
  rw [inB_is] at this
  rw [this] at h
  cases h
set_option maxRecDepth 100000 in
set_option maxHeartbeats 2000000 in
theorem rMount_any (t : T.Tr) (A : Option Addr) (c n : Nat) (d : ByteArray) (w : World) (hn : n = t.length) (hA : SliceAt fileR w (Old w) A c t) (hp : ∀ f ∈ t, f.1.size ≤ 9000000) (hd : d.size ≤ 9000000) :
    Calls Tryz.prog 20 #[.slice A n c, .string d] w (RetTr w (T.mountE okB t d)) := by
  obtain ⟨i0, hi, hz0, hz1, hz2⟩ := info_parts file_info
  have hck : Hid (Calls Tryz.prog 29 #[.slice A n c] w (Al (.int .i64 (T.checkE okB t)) w)) := rCheck_any t A c n w hn hA hp
  have hcp : Hid (∀ W, Calls Tryz.prog 28 #[.string d] W (Al (.int .i64 (pathErr (okB d))) W)) := fun W => refPath_any d W hd
  have hn63 : n ≤ 9223372036854775807 := by have := hA.1; have := hA.2.1; omega
  obtain ⟨Z, hZ⟩ : ∃ Z, Z = T.mountE okB t d := ⟨_, rfl⟩
  rw [← hZ]
  have HZ := Lib.hid hZ
  have HN := Lib.hid hn
  have HA := Lib.hid hA
  clear hZ hn hA hp
  by_cases h0 : T.checkE okB t = 0
  · rw [h0] at hck
    have hok := checkE_ok h0
    have hn64 : n ≤ 64 := by rw [HN.out]; exact hok.few
    cases hod : okB d
    · have HF : Hid (Z = ([], 2)) := by unfold Hid; rw [HZ.out, T.mountE, if_neg (by rw [h0]; simp), if_pos hod]
      rw [hod] at hcp
      have hv : pathErr false = 2 := rfl
      rw [hv] at hcp
      clear HZ hok h0 hod hv
      go_enter Tryz.func20, Tryz.ntmps20
      go_wp2_with fail
      refine hck.out.mono ?_
      rintro e w1 ⟨rfl, d1⟩
      go_wp2_with fail
      refine (hcp.out _).mono ?_
      rintro e w2 ⟨rfl, d2⟩
      go_wp2_with fail
      go_ret2
      exact ⟨_, by rw [HF.out]; rfl, by rw [HF.out]; exact own_files_nil _ _, d1.trans d2⟩
    · rw [hod] at hcp
      have hv : pathErr true = 0 := rfl
      rw [hv] at hcp
      have hds : d.size ≤ 128 := okB_size hod
      have HEND : Hid (mntTo t d t.length → Z = (T.mountT t d.data.toList, 0)) := fun h => by rw [HZ.out]; exact mountE_end h0 hod h
      have HNO : Hid (∀ k (hk : k < t.length), okB (inB d t[k].1) = false → Z = ([], 2)) := fun k hk h => by rw [HZ.out]; exact mountE_no h0 hod hk h
      have HPS : Hid (∀ f ∈ t, f.1.size ≤ 128) := fun f hf => okB_size (hok.path f hf)
      have hs1 : (d ++ ⟨#[47]⟩ : ByteArray).size = d.size + 1 := by rw [ByteArray.size_append]; rfl
      clear HZ hok h0 hod hv hd
      go_enter Tryz.func20, Tryz.ntmps20
      go_wp2_with fail
      refine hck.out.mono ?_
      rintro e w1 ⟨rfl, d1⟩
      go_wp2_with fail
      refine (hcp.out _).mono ?_
      rintro e w2 ⟨rfl, d2⟩
      have X1 : Hid (Ext w w2) := d1.trans d2
      clear d1 d2
      go_wp2_with fail
      go_loopw [17, 6] (fun i v wr => ∃ k : Nat, k ≤ n ∧ i = .int .i64 k ∧ OwnFiles wr w.heap.size v (T.mountT (t.take k) d.data.toList) ∧ Hid (mntTo t d k ∧ Ext w wr)) (fun i _ _ => n - (intOf i).toNat)
      case atStart => exact ⟨0, Nat.zero_le _, rfl, own_files_nil _ _, fun _ _ h => absurd h (Nat.not_lt_zero _), X1.out⟩
      case round =>
        obtain ⟨k, hk, rfl, hown, HX⟩ := hrel
        by_cases hlt : k < n
        · have hkl : k < t.length := by rw [← HN.out]; exact hlt
          obtain ⟨b, off, hAe, hb, c0, c1, h1, h2⟩ := file_get (HA.out.ext HX.out.2) hkl
          subst hAe
          rw [← Nat.add_assoc] at c1
          have hps := HPS.out t[k] (List.getElem_mem hkl)
          obtain ⟨q, Ao, co, hq, rfl, hown'⟩ := own_files_q hown
          have hql : q ≤ 64 := by rw [hq]; have := mount_len t d k; omega
          have HQ := Lib.hid hq
          have HSN := Lib.hid (@mount_snoc t d k hkl)
          have HN1 := Lib.hid (HNO.out k hkl)
          have HS1 : Hid (okB (inB d t[k].1) = true → mntTo t d (k + 1)) := fun h => mntTo_succ HX.out.1 hkl h
          have HE := Lib.hid HX.out.2
          have HBS : Hid (w.heap.size ≤ (wr.alloc (.cells #[.string t[k].1, .string t[k].2] 25)).heap.size) := Nat.le_trans HE.out.size ((Ext.refl wr).alloc _).size
          have HCP : Hid (∀ W, Calls Tryz.prog 28 #[.string (inB d t[k].1)] W (Al (.int .i64 (pathErr (okB (inB d t[k].1)))) W)) := fun W => refPath_any _ W (by rw [inB_size]; omega)
          clear hown hq HX
          generalize t[k] = f at *
          obtain ⟨fp, fd⟩ := f
          simp only at c0 c1 h1 h2 hps HSN HN1 HS1 HCP
          rw [show wr.alloc (.cells #[.string (fp, fd).1, .string (fp, fd).2] 25) = wr.alloc (.cells #[.string fp, .string fd] 25) from rfl] at HBS
          have hs2 : (inB d fp).size = d.size + 1 + fp.size := inB_size d fp
          have hib : inB d fp = d ++ ⟨#[47]⟩ ++ fp := rfl
          rw [hib] at HCP HSN hs2 HN1 HS1
          clear hib
          generalize okB (d ++ ⟨#[47]⟩ ++ fp) = bb at HCP HN1 HS1
          cases bb
          · have HF := Lib.hid (HN1.out rfl)
            have hv : pathErr false = 2 := rfl
            rw [hv] at HCP
            clear HN1 HS1 hv
            go_wp2_with fail
            refine (HCP.out _).mono ?_
            rintro e w5 ⟨rfl, d5⟩
            go_wp2_with fail
            go_ret2
            exact ⟨_, by rw [HF.out]; rfl, by rw [HF.out]; exact own_files_nil _ _, (HE.out.alloc _).trans d5⟩
          · have HF := Lib.hid (HS1.out rfl)
            have hv : pathErr true = 0 := rfl
            rw [hv] at HCP
            clear HN1 HS1 hv
            go_wp2_with fail
            refine (HCP.out _).mono ?_
            rintro e w5 ⟨rfl, d5⟩
            have e0 := d5.keepc (cell_new wr #[.string fp, .string fd] 25 0)
            have e1 := d5.keepc (cell_new wr #[.string fp, .string fd] 25 1)
            have hown5 := (hown'.alloc (.cells #[.string fp, .string fd] 25)).ext d5
            have HE5 : Hid (Ext w w5) := (HE.out.alloc _).trans d5
            go_wp2_with (at_builtin; refine wpList_append_ownAt _ rfl (.tmp 28) (.tmp 37) 23 rfl w.heap.size 25 i0 (.agg #[.string ⟨#[]⟩, .string ⟨#[]⟩]) 2 32 Tryz.underlying23 hi hz0 hz1 hz2 rfl (by decide) _ _ _ rfl (hown5.alloc _) ⟨_, 0, none⟩ 1 1 (fcells [(d ++ ⟨#[47]⟩ ++ fp, fd)]) rfl rfl (cells_file_at _ _ _ _ (by simp)) (fcells_one _) (by unfold maxLen; omega) (by omega) (Nat.le_trans HE5.out.size (by simp)) (by decide) ?_; intro v4 w4 hown4 hg4 _ _)
            go_roundw
            case rel => exact ⟨k + 1, by omega, by go_num, by rw [HSN.out]; exact own_files_snoc HQ.out hown4, HF.out, (HE5.out.alloc _).grown hown5 hg4⟩
            case measure => simp [intOf]; omega
        · obtain rfl : k = n := by omega
          have htk : t.take k = t := by rw [HN.out, List.take_length]
          have HF : Hid (Z = (T.mountT t d.data.toList, 0)) := HEND.out (by rw [← HN.out]; exact HX.out.1)
          have HE := Lib.hid HX.out.2
          rw [htk] at hown
          clear HX HEND HNO htk
          go_wp2_with fail
          go_ret2
          exact ⟨_, by rw [HF.out]; rfl, by rw [HF.out]; exact hown, HE.out⟩
  · have HF : Hid (Z = ([], 1)) := by unfold Hid; rw [HZ.out, T.mountE, if_pos h0]
    have hd0 : ((T.checkE okB t) == 0) = false := by simp [h0]
    generalize T.checkE okB t = x at hck h0 hd0
    have hd2 : (!(x == 0)) = true := by rw [hd0]; rfl
    clear HZ
    go_enter Tryz.func20, Tryz.ntmps20
    go_wp2_with fail
    refine hck.out.mono ?_
    rintro e w1 ⟨rfl, d1⟩
    go_wp2_with fail
    go_ret2
    exact ⟨_, by rw [HF.out]; rfl, by rw [HF.out]; exact own_files_nil _ _, d1⟩
end Go.Proofs.YtclhbcicbnoohaaGreatDoor

/- The reference's Under. -/
namespace Go.Proofs.YtclhbcicbnoohaaGreatDoor
open Go.RowKit

/-- What Under makes of a file. -/
def underF (d : ByteArray) (f : T.File) : Option T.File := if d.size = 0 then some f else if okB d then T.cutF d.data.toList f else none
theorem empty_data {d : ByteArray} (h : d.size = 0) : d.data.toList = [] := List.eq_nil_of_length_eq_zero (by rw [Array.length_toList]; exact h)
theorem underE_is {t : T.Tr} {d : ByteArray} (h0 : T.checkE okB t = 0) : T.underE okB t d = t.filterMap (underF d) := by
  unfold T.underE
  rw [if_neg (by rw [h0]; simp)]
  unfold underF
  by_cases hd : d.size = 0
  · rw [if_pos hd]
    have : (fun f : T.File => if d.size = 0 then some f else if okB d = true then T.cutF d.data.toList f else none) = some := funext fun f => if_pos hd
    rw [this, List.filterMap_some]
  · rw [if_neg hd]
    cases hok : okB d with
    | true =>
      rw [if_pos rfl]
      have : (fun f : T.File => if d.size = 0 then some f else if true = true then T.cutF d.data.toList f else none) = T.cutF d.data.toList := funext fun f => by rw [if_neg hd, if_pos rfl]
      rw [this]
      unfold T.underT
      rw [if_neg]
      intro e
      have := congrArg List.length e
      rw [Array.length_toList] at this
      exact hd this
    | false =>
      have : (fun f : T.File => if d.size = 0 then some f else if false = true then T.cutF d.data.toList f else none) = fun _ => none := funext fun f => by rw [if_neg hd, if_neg (by simp)]
      rw [this]
      simp
theorem fm_snoc {q : T.File → Option T.File} {t : T.Tr} {k : Nat} (h : k < t.length) : (t.take (k + 1)).filterMap q = (t.take k).filterMap q ++ (q t[k]).toList := by
  rw [List.take_succ_eq_append_getElem h, List.filterMap_append]
  congr 1
theorem fm_len (q : T.File → Option T.File) (t : T.Tr) (k : Nat) : ((t.take k).filterMap q).length ≤ k := Nat.le_trans (List.length_filterMap_le _ _) (by rw [List.length_take]; omega)
theorem cut_is {d p : ByteArray} {x : ByteArray} (h : T.below p.data.toList d.data.toList = true) : T.cutF d.data.toList (p, x) = some (p.extract (d.size + 1) p.size, x) ∧ d.size + 1 ≤ p.size := by
  obtain ⟨r, hr⟩ := T.below_iff.1 h
  have hpl : p.data.toList.length = p.size := Array.length_toList
  have hdl : d.data.toList.length = d.size := Array.length_toList
  have hlen := congrArg List.length hr
  rw [List.length_append, List.length_cons, hpl, hdl] at hlen
  refine ⟨?_, by omega⟩
  unfold T.cutF T.pth
  rw [if_pos h, hdl, mkB_ext]
  congr 2
  try unfold T.mkF mkB
  rw [List.take_of_length_le (by rw [List.length_drop, hpl]; omega)]
theorem cut_no {d p x : ByteArray} (h : T.below p.data.toList d.data.toList = false) : T.cutF d.data.toList (p, x) = none := by
  unfold T.cutF T.pth
  rw [if_neg (by rw [h]; simp)]
set_option maxRecDepth 100000 in
set_option maxHeartbeats 2000000 in
theorem rUnder_any (t : T.Tr) (A : Option Addr) (c n : Nat) (d : ByteArray) (w : World) (hn : n = t.length) (hA : SliceAt fileR w (Old w) A c t) (hp : ∀ f ∈ t, f.1.size ≤ 9000000) (hd : d.size ≤ 9000000) :
    Calls Tryz.prog 23 #[.slice A n c, .string d] w (RetT w (T.underE okB t d)) := by
  obtain ⟨i0, hi, hz0, hz1, hz2⟩ := info_parts file_info
  have hck : Hid (Calls Tryz.prog 29 #[.slice A n c] w (Al (.int .i64 (T.checkE okB t)) w)) := rCheck_any t A c n w hn hA hp
  have hcp : Hid (∀ W, Calls Tryz.prog 28 #[.string d] W (Al (.int .i64 (pathErr (okB d))) W)) := fun W => refPath_any d W hd
  have hn63 : n ≤ 9223372036854775807 := by have := hA.1; have := hA.2.1; omega
  obtain ⟨Z, hZ⟩ : ∃ Z, Z = T.underE okB t d := ⟨_, rfl⟩
  rw [← hZ]
  have HZ := Lib.hid hZ
  have HN := Lib.hid hn
  have HA := Lib.hid hA
  clear hZ hn hA hp
  by_cases h0 : T.checkE okB t = 0
  · rw [h0] at hck
    have hok := checkE_ok h0
    have hn64 : n ≤ 64 := by rw [HN.out]; exact hok.few
    have HZ2 : Hid (Z = t.filterMap (underF d)) := by unfold Hid; rw [HZ.out, underE_is h0]
    have HPS : Hid (∀ f ∈ t, f.1.size ≤ 128) := fun f hf => okB_size (hok.path f hf)
    clear HZ hok h0
    go_enter Tryz.func23, Tryz.ntmps23
    go_wp2_with fail
    refine hck.out.mono ?_
    rintro e w1 ⟨rfl, d1⟩
    have X1 := Lib.hid d1
    clear d1
    go_wp2_with fail
    go_loopw [13, 5] (fun i v wr => ∃ k : Nat, k ≤ n ∧ i = .int .i64 k ∧ OwnFiles wr w.heap.size v ((t.take k).filterMap (underF d)) ∧ Hid (Ext w wr)) (fun i _ _ => n - (intOf i).toNat)
    case atStart => exact ⟨0, Nat.zero_le _, rfl, own_files_nil _ _, X1.out⟩
    case round =>
      obtain ⟨k, hk, rfl, hown, HX⟩ := hrel
      by_cases hlt : k < n
      · have hkl : k < t.length := by rw [← HN.out]; exact hlt
        obtain ⟨b, off, hAe, hb, c0, c1, h1, h2⟩ := file_get (HA.out.ext HX.out) hkl
        subst hAe
        rw [← Nat.add_assoc] at c1
        have hps := HPS.out t[k] (List.getElem_mem hkl)
        obtain ⟨q, Ao, co, hq, rfl, hown'⟩ := own_files_q hown
        have hql : q ≤ 64 := by rw [hq]; have := fm_len (underF d) t k; omega
        have HQ := Lib.hid hq
        have HSN := Lib.hid (@fm_snoc (underF d) t k hkl)
        have HBS : Hid (w.heap.size ≤ (wr.alloc (.cells #[.string t[k].1, .string t[k].2] 25)).heap.size) := Nat.le_trans HX.out.size ((Ext.refl wr).alloc _).size
        clear hown hq
        generalize t[k] = f at *
        obtain ⟨fp, fd⟩ := f
        simp only at c0 c1 h1 h2 hps
        rw [show wr.alloc (.cells #[.string (fp, fd).1, .string (fp, fd).2] 25) = wr.alloc (.cells #[.string fp, .string fd] 25) from rfl] at HBS
        by_cases hd0 : d.size = 0
        · have hde : (d.toList == (⟨#[]⟩ : ByteArray).toList) = true := by rw [eq_dec, empty_data hd0]; rfl
          have HF : Hid ((t.take (k + 1)).filterMap (underF d) = (t.take k).filterMap (underF d) ++ [(fp, fd)]) := by
            unfold Hid
            rw [HSN.out, underF, if_pos hd0]
            rfl
          have hd00 : (d.toList == []) = true := by
            have e : (⟨#[]⟩ : ByteArray).toList = [] := by rw [ByteArray.toList_eq]
            rwa [e] at hde
          clear HSN
          go_wp2_with (at_builtin; refine wpList_append_ownAt _ rfl (.tmp 19) (.tmp 21) 23 rfl w.heap.size 25 i0 (.agg #[.string ⟨#[]⟩, .string ⟨#[]⟩]) 2 32 Tryz.underlying23 hi hz0 hz1 hz2 rfl (by decide) _ _ _ rfl ((hown'.alloc _).alloc _) ⟨_, 0, none⟩ 1 1 (fcells [(fp, fd)]) rfl rfl (cells_file_at _ _ _ _ (by simp)) (fcells_one _) (by unfold maxLen; omega) (by omega) (Nat.le_trans HBS.out (by simp)) (by decide) ?_; intro v4 w4 hown4 hg4 _ _)
          go_roundw
          case rel => exact ⟨k + 1, by omega, by go_num, by rw [HF.out]; exact own_files_snoc HQ.out hown4, ((HX.out.alloc _).alloc _).grown hown' hg4⟩
          case measure => simp [intOf]; omega
        · have hde : (d.toList == (⟨#[]⟩ : ByteArray).toList) = false := by
            rw [eq_dec]
            refine decide_eq_false fun e => hd0 ?_
            have := congrArg List.length e
            rw [Array.length_toList] at this
            exact this
          have hd00 : (d.toList == []) = false := by
            have e : (⟨#[]⟩ : ByteArray).toList = [] := by rw [ByteArray.toList_eq]
            rwa [e] at hde
          cases hod : okB d
          · have HF : Hid ((t.take (k + 1)).filterMap (underF d) = (t.take k).filterMap (underF d)) := by
              unfold Hid
              rw [HSN.out, underF, if_neg hd0, hod]
              simp
            rw [hod] at hcp
            have hv : pathErr false = 2 := rfl
            rw [hv] at hcp
            clear HSN hod hv
            go_wp2_with fail
            refine (hcp.out _).mono ?_
            rintro e w5 ⟨rfl, d5⟩
            go_wp2_with fail
            go_roundw
            case rel => exact ⟨k + 1, by omega, by go_num, by unfold OwnFiles; rw [HF.out, ← HQ.out]; exact (hown'.alloc _).ext d5, (HX.out.alloc _).trans d5⟩
            case measure => simp [intOf]; omega
          · rw [hod] at hcp
            have hv : pathErr true = 0 := rfl
            rw [hv] at hcp
            have HBC : Hid (∀ W, Calls Tryz.prog 53 #[.string fp, .string d] W fun e w' => e = .returned (.bool (T.below fp.data.toList d.data.toList)) ∧ W = w') := fun W => refBelow_any fp d W
            cases hbe : T.below fp.data.toList d.data.toList
            · have HF : Hid ((t.take (k + 1)).filterMap (underF d) = (t.take k).filterMap (underF d)) := by
                unfold Hid
                rw [HSN.out, underF, if_neg hd0, hod, if_pos rfl, cut_no hbe]
                simp
              rw [hbe] at HBC
              clear HSN hod hv hbe
              go_wp2_with fail
              refine (hcp.out _).mono ?_
              rintro e w5 ⟨rfl, d5⟩
              have e0 := d5.keepc (cell_new wr #[.string fp, .string fd] 25 0)
              go_wp2_with fail
              refine (HBC.out _).mono ?_
              rintro e w6 ⟨rfl, rfl⟩
              go_wp2_with fail
              go_roundw
              case rel => exact ⟨k + 1, by omega, by go_num, by unfold OwnFiles; rw [HF.out, ← HQ.out]; exact (hown'.alloc _).ext d5, (HX.out.alloc _).trans d5⟩
              case measure => simp [intOf]; omega
            · obtain ⟨hcut, hle⟩ := @cut_is d fp fd hbe
              have HF : Hid ((t.take (k + 1)).filterMap (underF d) = (t.take k).filterMap (underF d) ++ [(fp.extract (d.size + 1) fp.size, fd)]) := by
                unfold Hid
                rw [HSN.out, underF, if_neg hd0, hod, if_pos rfl, hcut]
                rfl
              rw [hbe] at HBC
              clear HSN hod hv hbe hcut
              go_wp2_with fail
              refine (hcp.out _).mono ?_
              rintro e w5 ⟨rfl, d5⟩
              have e0 := d5.keepc (cell_new wr #[.string fp, .string fd] 25 0)
              have e1 := d5.keepc (cell_new wr #[.string fp, .string fd] 25 1)
              have hown5 := (hown'.alloc (.cells #[.string fp, .string fd] 25)).ext d5
              have HE5 : Hid (Ext w w5) := (HX.out.alloc _).trans d5
              go_wp2_with fail
              refine (HBC.out _).mono ?_
              rintro e w6 ⟨rfl, rfl⟩
              go_wp2_with fail
              obtain ⟨Φ, hΦ⟩ : ∃ Φ : World → Prop, ∀ x, Φ x ↔ Ext w x ∧ x.cell? ⟨wr.heap.size, 0, none⟩ = some (.string fp) ∧ x.cell? ⟨wr.heap.size, 1, none⟩ = some (.string fd) := ⟨_, fun _ => Iff.rfl⟩
              have h0 : Φ w5.drew := (hΦ _).2 ⟨HE5.out.drew, e0, e1⟩
              have fx0 : ∀ x : Lat Φ, x.w'.cell? ⟨wr.heap.size, 0, none⟩ = some (.string fp) := fun x => ((hΦ _).1 x.h).2.1
              have fx1 : ∀ x : Lat Φ, x.w'.cell? ⟨wr.heap.size, 1, none⟩ = some (.string fd) := fun x => ((hΦ _).1 x.h).2.2
              have hne' := Lat.some h0
              have HΦ := Lib.hid hΦ
              have HOB : Hid (∀ g, (Value.slice Ao q co).ownBlock = some g → g < wr.heap.size) := fun g hg => (own_at_lt hown' hg).2
              clear hΦ
              refine wp_region_lat [10, 11] Φ h0 (by kernel_rfl) (by kernel_rfl) (by kernel_rfl) ?_
              iterate 10 (refine lex_pure rfl rfl rfl ?_; intro K hK; go_big_quiet_op; go_big_quiet_on)
              refine lex_eff rfl ?_
              have HE6 : Hid (Ext w5 w5.drew) := (Ext.refl w5).drew
              have E0 := Lib.hid e0
              have E1 := Lib.hid e1
              have hown6 : OwnAt w5.drew w.heap.size 25 2 (.slice Ao q co) q (fcells ((t.take k).filterMap (underF d))) := hown5.dr ⟨1, rfl⟩
              generalize w5.drew = w6 at hown6 HE6 h0 ⊢
              go_wp2_with fail
              have hΦ1 := (HΦ.out (w6.alloc (.cells #[.string (fp.extract (d.size + 1) fp.size), .string fd] 25))).2 ⟨((HE5.out.trans HE6.out).alloc _), alloc_keepc _ (HE6.out.keepc E0.out), alloc_keepc _ (HE6.out.keepc E1.out)⟩
              refine ⟨⟨⟨_, hΦ1⟩, rfl⟩, ?_⟩
              refine lex_eff rfl ?_
              refine wpList_append_ownAt _ rfl (.tmp 32) (.tmp 42) 23 rfl w.heap.size 25 i0 (.agg #[.string ⟨#[]⟩, .string ⟨#[]⟩]) 2 32 Tryz.underlying23 hi hz0 hz1 hz2 rfl (by decide) _ _ _ rfl (hown6.alloc _) ⟨_, 0, none⟩ 1 1 (fcells [(fp.extract (d.size + 1) fp.size, fd)]) rfl rfl (cells_file_at _ _ _ _ (by simp)) (fcells_one _) (by unfold maxLen; omega) (by omega) (Nat.le_trans (HE5.out.trans HE6.out).size (by simp)) (by decide) ?_
              intro v4 w4 hown4 hg4 hold4 _
              go_wp2_with fail
              have e4 : Ext w w4 := ((HE5.out.trans HE6.out).alloc _).grown hold4 hg4
              have hΦ2 := (HΦ.out w4).2 ⟨e4, grown_keepc hg4 ((HΦ.out _).1 hΦ1).2.1 (fun e => by have := HOB.out _ e; simp at this), grown_keepc hg4 ((HΦ.out _).1 hΦ1).2.2 (fun e => by have := HOB.out _ e; simp at this)⟩
              refine ⟨⟨⟨_, hΦ2⟩, rfl⟩, ?_⟩
              repeat (refine lex_pure rfl rfl rfl ?_; intro K hK; go_big_quiet_op; go_big_quiet_on)
              refine lex_nil ?_
              clear fx0 fx1 hne'
              go_wp2_with fail
              go_roundw
              case rel => exact ⟨k + 1, by omega, by go_num, by rw [HF.out]; exact own_files_snoc HQ.out hown4, e4⟩
              case measure => simp [intOf]; omega
      · obtain rfl : k = n := by omega
        have htk : t.take k = t := by rw [HN.out, List.take_length]
        rw [htk] at hown
        clear htk
        go_wp2_with fail
        go_ret
        exact ⟨_, rfl, by rw [HZ2.out]; exact hown, HX.out⟩
  · have HF : Hid (Z = []) := by unfold Hid; rw [HZ.out, T.underE, if_pos h0]
    have hd0 : ((T.checkE okB t) == 0) = false := by simp [h0]
    generalize T.checkE okB t = x at hck h0 hd0
    have hd2 : (!(x == 0)) = true := by rw [hd0]; rfl
    clear HZ
    go_enter Tryz.func23, Tryz.ntmps23
    go_wp2_with fail
    refine hck.out.mono ?_
    rintro e w1 ⟨rfl, d1⟩
    go_wp2_with fail
    go_ret
    exact ⟨_, rfl, by rw [HF.out]; exact own_files_nil _ _, d1⟩
end Go.Proofs.YtclhbcicbnoohaaGreatDoor

/- The reference's Put. -/
namespace Go.Proofs.YtclhbcicbnoohaaGreatDoor
open Go.RowKit

theorem putK_step {t : T.Tr} {f : T.File} {k : Nat} (h : k < t.length) : T.putK t f (k + 1) =
    (if T.pth t[k] ≠ T.pth f then (if !(T.putK t f k).2 && decide (T.pth f ≤ T.pth t[k]) then (T.putK t f k).1 ++ [f] else (T.putK t f k).1) ++ [t[k]] else (if !(T.putK t f k).2 && decide (T.pth f ≤ T.pth t[k]) then (T.putK t f k).1 ++ [f] else (T.putK t f k).1), (T.putK t f k).2 || decide (T.pth f ≤ T.pth t[k])) := by
  rw [T.putK, List.getElem?_eq_getElem h]
theorem putK_len (t : T.Tr) (f : T.File) : ∀ k, (T.putK t f k).1.length ≤ k + (if (T.putK t f k).2 then 1 else 0)
  | 0 => Nat.zero_le _
  | k + 1 => by
    have ih := putK_len t f k
    rcases Nat.lt_or_ge k t.length with h | h
    · rw [putK_step h]
      cases hd : (T.putK t f k).2 <;> rw [hd] at ih <;> by_cases h1 : T.pth f ≤ T.pth t[k] <;> by_cases h2 : T.pth t[k] = T.pth f <;> simp [h1, h2] at ih ⊢ <;> omega
    · have e : T.putK t f (k + 1) = T.putK t f k := by rw [T.putK, List.getElem?_eq_none h]
      rw [e]
      omega
/-- The ways of a round of Put. -/
theorem put_ways {t : T.Tr} {fp fd xp xd : ByteArray} {k : Nat} (h : k < t.length) (hx : t[k] = (xp, xd)) {L : T.Tr} {d : Bool} (hL : L = (T.putK t (fp, fd) k).1) (hd : d = (T.putK t (fp, fd) k).2) :
    (d = true ∧ (xp.toList == fp.toList) = true ∧ (!(xp.toList == fp.toList)) = false ∧ Hid (T.putK t (fp, fd) (k + 1) = (L, true))) ∨
    (d = true ∧ (xp.toList == fp.toList) = false ∧ (!(xp.toList == fp.toList)) = true ∧ Hid (T.putK t (fp, fd) (k + 1) = (L ++ [(xp, xd)], true))) ∨
    (d = false ∧ (Op.bytesLess xp.toList fp.toList = false ∧ (!Op.bytesLess xp.toList fp.toList) = true) ∧ ((xp.toList == fp.toList) = true ∧ (!(xp.toList == fp.toList)) = false) ∧ Hid (T.putK t (fp, fd) (k + 1) = (L ++ [(fp, fd)], true))) ∨
    (d = false ∧ (Op.bytesLess xp.toList fp.toList = false ∧ (!Op.bytesLess xp.toList fp.toList) = true) ∧ ((xp.toList == fp.toList) = false ∧ (!(xp.toList == fp.toList)) = true) ∧ Hid (T.putK t (fp, fd) (k + 1) = (L ++ [(fp, fd)] ++ [(xp, xd)], true))) ∨
    (d = false ∧ (Op.bytesLess xp.toList fp.toList = true ∧ (!Op.bytesLess xp.toList fp.toList) = false) ∧ ((xp.toList == fp.toList) = false ∧ (!(xp.toList == fp.toList)) = true) ∧ Hid (T.putK t (fp, fd) (k + 1) = (L ++ [(xp, xd)], false))) := by
  have hst := putK_step (f := (fp, fd)) h
  rw [hx, ← hL, ← hd] at hst
  have hl := less_le xp fp
  have hb : Op.bytesLess xp.toList fp.toList = !(decide (fp.data.toList ≤ xp.data.toList)) := by rw [← hl]; simp
  have e1 : T.pth (xp, xd) = xp.data.toList := rfl
  have e2 : T.pth (fp, fd) = fp.data.toList := rfl
  rw [e1, e2] at hst
  rw [hl, hb, eq_dec]
  unfold Hid
  rw [hst]
  by_cases hE : xp.data.toList = fp.data.toList
  · have hA : fp.data.toList ≤ xp.data.toList := by rw [hE]; exact List.le_refl _
    cases d
    · simp [hE]
    · simp [hE]
  · by_cases hA : fp.data.toList ≤ xp.data.toList
    · cases d <;> simp [hE, hA]
    · cases d <;> simp [hE, hA]
/-- The first k files do not clash with f. -/
def noCl (t : T.Tr) (f : T.File) (k : Nat) : Prop := ∀ i (h : i < t.length), i < k → (T.below (T.pth f) (T.pth t[i]) || T.below (T.pth t[i]) (T.pth f)) = false
theorem noCl_succ {t : T.Tr} {f : T.File} {k : Nat} (h : noCl t f k) (hk : k < t.length) (h1 : (T.below (T.pth f) (T.pth t[k]) || T.below (T.pth t[k]) (T.pth f)) = false) : noCl t f (k + 1) := by
  intro i hi hik
  by_cases e : i = k
  · subst e; exact h1
  · exact h i hi (by omega)
theorem noCl_clash {t : T.Tr} {f : T.File} (h : noCl t f t.length) : T.clash t f = false := by
  unfold T.clash
  rw [List.any_eq_false]
  intro g hg
  obtain ⟨i, hi, rfl⟩ := List.getElem_of_mem hg
  rw [h i hi hi]
  exact Bool.false_ne_true
theorem clash_at {t : T.Tr} {f : T.File} {k : Nat} (hk : k < t.length) (h1 : (T.below (T.pth f) (T.pth t[k]) || T.below (T.pth t[k]) (T.pth f)) = true) : T.clash t f = true := by
  unfold T.clash
  rw [List.any_eq_true]
  exact ⟨_, List.getElem_mem hk, h1⟩
set_option maxRecDepth 100000 in
set_option maxHeartbeats 4000000 in
theorem rPut_any (t : T.Tr) (A : Option Addr) (c n : Nat) (fp fd : ByteArray) (w : World) (hn : n = t.length) (hA : SliceAt fileR w (Old w) A c t) (hp : ∀ f ∈ t, f.1.size ≤ 9000000) (hfp : fp.size ≤ 9000000) (hfd : fd.size ≤ 9223372036854775807) :
    Calls Tryz.prog 16 #[.slice A n c, .agg #[.string fp, .string fd]] w (RetTr w (T.putE okB t (fp, fd))) := by
  obtain ⟨i0, hi, hz0, hz1, hz2⟩ := info_parts file_info
  have hX0 : Ext w (w.alloc (.cells #[.string fp, .string fd] 25)) := (Ext.refl w).alloc _
  have hck : Hid (Calls Tryz.prog 29 #[.slice A n c] (w.alloc (.cells #[.string fp, .string fd] 25)) (Al (.int .i64 (T.checkE okB t)) (w.alloc (.cells #[.string fp, .string fd] 25)))) := rCheck_any t A c n _ hn (hA.ext hX0) hp
  have hcp : Hid (∀ W, Calls Tryz.prog 28 #[.string fp] W (Al (.int .i64 (pathErr (okB fp))) W)) := fun W => refPath_any fp W hfp
  have hn63 : n ≤ 9223372036854775807 := by have := hA.1; have := hA.2.1; omega
  obtain ⟨Z, hZ⟩ : ∃ Z, Z = T.putE okB t (fp, fd) := ⟨_, rfl⟩
  rw [← hZ]
  have HZ := Lib.hid hZ
  have HN := Lib.hid hn
  have HA := Lib.hid (hA.ext hX0)
  have HX0 := Lib.hid hX0
  clear hZ hn hA hp hX0
  by_cases h0 : T.checkE okB t = 0
  · rw [h0] at hck
    have hok := checkE_ok h0
    have hn64 : n ≤ 64 := by rw [HN.out]; exact hok.few
    cases hod : okB fp
    · have HF : Hid (Z = ([], 2)) := by unfold Hid; rw [HZ.out, T.putE, if_neg (by rw [h0]; simp), if_pos hod]
      rw [hod] at hcp
      have hv : pathErr false = 2 := rfl
      rw [hv] at hcp
      clear HZ hok h0 hod hv
      go_enter Tryz.func16, Tryz.ntmps16
      go_wp2_with fail
      refine hck.out.mono ?_
      rintro e w1 ⟨rfl, d1⟩
      have e0 := d1.keepc (cell_new w #[.string fp, .string fd] 25 0)
      go_wp2_with fail
      refine (hcp.out _).mono ?_
      rintro e w2 ⟨rfl, d2⟩
      go_wp2_with fail
      go_ret2
      exact ⟨_, by rw [HF.out]; rfl, by rw [HF.out]; exact own_files_nil _ _, HX0.out.trans (d1.trans d2)⟩
    · rw [hod] at hcp
      have hv : pathErr true = 0 := rfl
      rw [hv] at hcp
      have hfs : fp.size ≤ 128 := okB_size hod
      by_cases hsz : 65536 < fd.size
      · have HF : Hid (Z = ([], 10)) := by unfold Hid; rw [HZ.out, T.putE, if_neg (by rw [h0]; simp), if_neg (by rw [hod]; simp), if_pos hsz]
        have hds : decide (65536 < fd.size) = true := decide_eq_true hsz
        clear HZ hok h0 hod hv
        go_enter Tryz.func16, Tryz.ntmps16
        go_wp2_with fail
        refine hck.out.mono ?_
        rintro e w1 ⟨rfl, d1⟩
        have e0 := d1.keepc (cell_new w #[.string fp, .string fd] 25 0)
        have e1 := d1.keepc (cell_new w #[.string fp, .string fd] 25 1)
        go_wp2_with fail
        refine (hcp.out _).mono ?_
        rintro e w2 ⟨rfl, d2⟩
        replace e0 := d2.keepc e0
        replace e1 := d2.keepc e1
        go_wp2_with fail
        go_ret2
        exact ⟨_, by rw [HF.out]; rfl, by rw [HF.out]; exact own_files_nil _ _, HX0.out.trans (d1.trans d2)⟩
      · have hds : decide (65536 < fd.size) = false := decide_eq_false hsz
        have HCL : Hid (T.clash t (fp, fd) = true → Z = ([], 6)) := fun h => by rw [HZ.out, T.putE, if_neg (by rw [h0]; simp), if_neg (by rw [hod]; simp), if_neg hsz, if_pos h]
        have HEND : Hid (T.clash t (fp, fd) = false → Z = if 64 < (T.insT t (fp, fd)).length then ([], 10) else (T.insT t (fp, fd), 0)) := fun h => by rw [HZ.out, T.putE, if_neg (by rw [h0]; simp), if_neg (by rw [hod]; simp), if_neg hsz, if_neg (by rw [h]; simp)]
        have HINS := Lib.hid (T.putK_end hok.sorted (fp, fd))
        rw [← HN.out] at HINS
        clear HZ hok h0 hod hv
        go_enter Tryz.func16, Tryz.ntmps16
        go_wp2_with fail
        refine hck.out.mono ?_
        rintro e w1 ⟨rfl, d1⟩
        have e0 := d1.keepc (cell_new w #[.string fp, .string fd] 25 0)
        have e1 := d1.keepc (cell_new w #[.string fp, .string fd] 25 1)
        go_wp2_with fail
        refine (hcp.out _).mono ?_
        rintro e w2 ⟨rfl, d2⟩
        replace e0 := d2.keepc e0
        replace e1 := d2.keepc e1
        obtain ⟨W0, hW0⟩ : ∃ W0, W0 = w.alloc (.cells #[.string fp, .string fd] 25) := ⟨_, rfl⟩
        have B0 : Hid (W0.cell? ⟨w.heap.size, 0, none⟩ = some (.string fp)) := by unfold Hid; rw [hW0]; exact cell_new w #[.string fp, .string fd] 25 0
        have B1 : Hid (W0.cell? ⟨w.heap.size, 1, none⟩ = some (.string fd)) := by unfold Hid; rw [hW0]; exact cell_new w #[.string fp, .string fd] 25 1
        have HS0 : Hid (W0.heap.size = w.heap.size + 1) := by unfold Hid; rw [hW0]; simp
        have X2 : Hid (Ext W0 w2) := by unfold Hid; rw [hW0]; exact d1.trans d2
        rw [← hW0] at HA HX0
        clear d1 d2 hW0
        go_wp2_with fail
        clear e0 e1
        go_loopw [23, 6, 7] (fun i v dn wr => ∃ (k : Nat) (d : Bool), k ≤ n ∧ i = .int .i64 k ∧ dn = .bool d ∧ OwnFiles wr (w.heap.size + 1) v (T.putK t (fp, fd) k).1 ∧ Hid (d = (T.putK t (fp, fd) k).2) ∧ Hid (noCl t (fp, fd) k ∧ Ext W0 wr)) (fun i _ _ _ => n - (intOf i).toNat)
        case atStart => exact ⟨0, false, Nat.zero_le _, rfl, rfl, own_files_nil _ _, rfl, fun _ _ h => absurd h (Nat.not_lt_zero _), X2.out⟩
        case round =>
          obtain ⟨k, d, hk, rfl, rfl, hown, HD, HX⟩ := hrel
          have HE := Lib.hid HX.out.2
          have e0 := HE.out.keepc B0.out
          have e1 := HE.out.keepc B1.out
          by_cases hlt : k < n
          · have hkl : k < t.length := by rw [← HN.out]; exact hlt
            obtain ⟨b, off, hAe, hb, c0, c1, h1, h2⟩ := file_get (HA.out.ext HE.out) hkl
            subst hAe
            rw [← Nat.add_assoc] at c1
            obtain ⟨q, Ao, co, hq, rfl, hown'⟩ := own_files_q hown
            have hql : q ≤ 65 := by rw [hq]; have := putK_len t (fp, fd) k; revert this; cases (T.putK t (fp, fd) k).2 <;> simp <;> omega
            have HQ := Lib.hid hq
            have HB1 : Hid (w.heap.size + 1 ≤ wr.heap.size) := by have := HE.out.size; rw [HS0.out] at this; exact this
            have HBX : Hid (w.heap.size + 1 ≤ wr.heap.size) := HB1
            have HW := @put_ways t fp fd t[k].1 t[k].2 k hkl rfl _ d rfl HD.out
            have HB1c : Hid (∀ W, Calls Tryz.prog 53 #[.string t[k].1, .string fp] W fun e w' => e = .returned (.bool (T.below t[k].1.data.toList fp.data.toList)) ∧ W = w') := fun W => refBelow_any t[k].1 fp W
            have HB2c : Hid (∀ W, Calls Tryz.prog 53 #[.string fp, .string t[k].1] W fun e w' => e = .returned (.bool (T.below fp.data.toList t[k].1.data.toList)) ∧ W = w') := fun W => refBelow_any fp t[k].1 W
            have HC1 : Hid ((T.below fp.data.toList t[k].1.data.toList || T.below t[k].1.data.toList fp.data.toList) = true → Z = ([], 6)) := fun h => HCL.out (clash_at hkl h)
            have HC2 : Hid ((T.below fp.data.toList t[k].1.data.toList || T.below t[k].1.data.toList fp.data.toList) = false → noCl t (fp, fd) (k + 1)) := fun h => noCl_succ HX.out.1 hkl h
            have k0 := alloc_keepc (.cells #[.string t[k].1, .string t[k].2] 25) e0
            have k1 := alloc_keepc (.cells #[.string t[k].1, .string t[k].2] 25) e1
            clear hown hq HD HX
            generalize (T.putK t (fp, fd) k).1 = L at *
            generalize t[k] = f at *
            obtain ⟨xp, xd⟩ := f
            simp only at c0 c1 h1 h2 HB1c HB2c HC1 HC2 HW k0 k1
            generalize T.below xp.data.toList fp.data.toList = b1 at HB1c HC1 HC2
            generalize T.below fp.data.toList xp.data.toList = b2 at HB2c HC1 HC2
            cases b1
            · cases b2
              · have HCC := Lib.hid (HC2.out rfl)
                clear HC1 HC2
                rcases HW with ⟨rfl, g1, g2, HF⟩ | ⟨rfl, g1, g2, HF⟩ | ⟨rfl, ⟨g1, g2⟩, ⟨g3, g4⟩, HF⟩ | ⟨rfl, ⟨g1, g2⟩, ⟨g3, g4⟩, HF⟩ | ⟨rfl, ⟨g1, g2⟩, ⟨g3, g4⟩, HF⟩
                · go_wp2_with fail
                  refine (HB1c.out _).mono ?_
                  rintro e w5 ⟨rfl, rfl⟩
                  go_wp2_with fail
                  refine (HB2c.out _).mono ?_
                  rintro e w5 ⟨rfl, rfl⟩
                  go_wp2_with fail
                  go_roundw
                  case rel => exact ⟨k + 1, true, by omega, by go_num, rfl, by unfold OwnFiles; rw [HF.out, ← HQ.out]; exact hown'.alloc _, by unfold Hid; rw [HF.out], HCC.out, HE.out.alloc _⟩
                  case measure => simp [intOf]; omega
                · go_wp2_with fail
                  refine (HB1c.out _).mono ?_
                  rintro e w5 ⟨rfl, rfl⟩
                  go_wp2_with fail
                  refine (HB2c.out _).mono ?_
                  rintro e w5 ⟨rfl, rfl⟩
                  go_wp2_with (at_builtin; refine wpList_append_ownAt _ rfl (.tmp 57) (.tmp 59) 23 rfl (w.heap.size + 1) 25 i0 (.agg #[.string ⟨#[]⟩, .string ⟨#[]⟩]) 2 32 Tryz.underlying23 hi hz0 hz1 hz2 rfl (by decide) _ _ _ rfl ((hown'.alloc _).alloc _) ⟨_, 0, none⟩ 1 1 (fcells [(xp, xd)]) rfl rfl (cells_file_at _ _ _ _ (by simp)) (fcells_one _) (by unfold maxLen; omega) (by omega) (by have := HBX.out; simp; omega) (by decide) ?_; intro v4 w4 hown4 hg4 _ _)
                  go_roundw
                  case rel => exact ⟨k + 1, true, by omega, by go_num, rfl, by rw [HF.out]; exact own_files_snoc HQ.out hown4, by unfold Hid; rw [HF.out], HCC.out, ((HE.out.alloc _).alloc _).grown (by rw [HS0.out]; exact hown') hg4⟩
                  case measure => simp [intOf]; omega
                · go_wp2_with fail
                  refine (HB1c.out _).mono ?_
                  rintro e w5 ⟨rfl, rfl⟩
                  go_wp2_with fail
                  refine (HB2c.out _).mono ?_
                  rintro e w5 ⟨rfl, rfl⟩
                  go_wp2_with (at_builtin; refine wpList_append_ownAt _ rfl (.tmp 48) (.tmp 50) 23 rfl (w.heap.size + 1) 25 i0 (.agg #[.string ⟨#[]⟩, .string ⟨#[]⟩]) 2 32 Tryz.underlying23 hi hz0 hz1 hz2 rfl (by decide) _ _ _ rfl ((hown'.alloc _).alloc _) ⟨_, 0, none⟩ 1 1 (fcells [(fp, fd)]) rfl rfl (cells_file_at _ _ _ _ (by simp)) (fcells_one _) (by unfold maxLen; omega) (by omega) (by have := HBX.out; simp; omega) (by decide) ?_; intro v4 w4 hown4 hg4 _ _; have HX4 : Hid (Ext W0 w4) := ((HE.out.alloc _).alloc _).grown (by rw [HS0.out]; exact hown') hg4; have m0 := HX4.out.keepc B0.out; have HNE : Hid (∀ g, (Value.slice Ao q co).ownBlock = some g → g < wr.heap.size) := fun g hg => (own_at_lt hown' hg).2; have m1 := grown_keepc hg4 (alloc_keepc (.cells #[.string fp, .string fd] 25) (cell_new wr #[.string xp, .string xd] 25 0)) (fun e => by have := HNE.out _ e; simp at this))
                  go_roundw
                  case rel => exact ⟨k + 1, true, by omega, by go_num, rfl, by rw [HF.out]; exact own_files_snoc HQ.out hown4, by unfold Hid; rw [HF.out], HCC.out, HX4.out⟩
                  case measure => simp [intOf]; omega
                · go_wp2_with fail
                  refine (HB1c.out _).mono ?_
                  rintro e w5 ⟨rfl, rfl⟩
                  go_wp2_with fail
                  refine (HB2c.out _).mono ?_
                  rintro e w5 ⟨rfl, rfl⟩
                  go_wp2_with (first | (at_builtin; refine wpList_append_ownAt _ rfl (.tmp 48) (.tmp 50) 23 rfl (w.heap.size + 1) 25 i0 (.agg #[.string ⟨#[]⟩, .string ⟨#[]⟩]) 2 32 Tryz.underlying23 hi hz0 hz1 hz2 rfl (by decide) _ _ _ rfl ((hown'.alloc _).alloc _) ⟨_, 0, none⟩ 1 1 (fcells [(fp, fd)]) rfl rfl (cells_file_at _ _ _ _ (by simp)) (fcells_one _) (by unfold maxLen; omega) (by omega) (by have := HBX.out; simp; omega) (by decide) ?_; intro v4 w4 hown4 hg4 _ hv4; have HX4 : Hid (Ext W0 w4) := ((HE.out.alloc _).alloc _).grown (by rw [HS0.out]; exact hown') hg4; have m0 := HX4.out.keepc B0.out; have HNE : Hid (∀ g, (Value.slice Ao q co).ownBlock = some g → g < wr.heap.size) := fun g hg => (own_at_lt hown' hg).2; have m1 := grown_keepc hg4 (alloc_keepc (.cells #[.string fp, .string fd] 25) (cell_new wr #[.string xp, .string xd] 25 0)) (fun e => by have := HNE.out _ e; simp at this); have m2 := grown_keepc hg4 (alloc_keepc (.cells #[.string fp, .string fd] 25) (cell_new wr #[.string xp, .string xd] 25 1)) (fun e => by have := HNE.out _ e; simp at this); obtain ⟨A4, c4, rfl, _, _⟩ := own_files_form hown4; have HB4 : Hid (w.heap.size + 1 ≤ w4.heap.size) := (by unfold Hid; have := HX4.out.size; rw [HS0.out] at this; exact this); clear hg4 hv4) | (at_builtin; refine wpList_append_ownAt _ rfl (.tmp 57) (.tmp 59) 23 rfl (w.heap.size + 1) 25 i0 (.agg #[.string ⟨#[]⟩, .string ⟨#[]⟩]) 2 32 Tryz.underlying23 hi hz0 hz1 hz2 rfl (by decide) _ _ _ rfl (hown4.alloc _) ⟨_, 0, none⟩ 1 1 (fcells [(xp, xd)]) rfl rfl (cells_file_at _ _ _ _ (by simp)) (fcells_one _) (by unfold maxLen; omega) (by omega) (by have := HB4.out; simp; omega) (by decide) ?_; intro v6 w6 hown6 hg6 _ _))
                  go_roundw
                  case rel => exact ⟨k + 1, true, by omega, by go_num, rfl, by rw [HF.out]; exact own_files_snoc (by rw [List.length_append, ← HQ.out, List.length_singleton]) (by rw [fcells_append]; exact hown6), by unfold Hid; rw [HF.out], HCC.out, (HX4.out.alloc _).grown (by rw [HS0.out]; exact hown4) hg6⟩
                  case measure => simp [intOf]; omega
                · go_wp2_with fail
                  refine (HB1c.out _).mono ?_
                  rintro e w5 ⟨rfl, rfl⟩
                  go_wp2_with fail
                  refine (HB2c.out _).mono ?_
                  rintro e w5 ⟨rfl, rfl⟩
                  go_wp2_with (at_builtin; refine wpList_append_ownAt _ rfl (.tmp 57) (.tmp 59) 23 rfl (w.heap.size + 1) 25 i0 (.agg #[.string ⟨#[]⟩, .string ⟨#[]⟩]) 2 32 Tryz.underlying23 hi hz0 hz1 hz2 rfl (by decide) _ _ _ rfl ((hown'.alloc _).alloc _) ⟨_, 0, none⟩ 1 1 (fcells [(xp, xd)]) rfl rfl (cells_file_at _ _ _ _ (by simp)) (fcells_one _) (by unfold maxLen; omega) (by omega) (by have := HBX.out; simp; omega) (by decide) ?_; intro v4 w4 hown4 hg4 _ _)
                  go_roundw
                  case rel => exact ⟨k + 1, false, by omega, by go_num, rfl, by rw [HF.out]; exact own_files_snoc HQ.out hown4, by unfold Hid; rw [HF.out], HCC.out, ((HE.out.alloc _).alloc _).grown (by rw [HS0.out]; exact hown') hg4⟩
                  case measure => simp [intOf]; omega
              · have HF := Lib.hid (HC1.out rfl)
                clear HC1 HC2 HW
                go_wp2_with fail
                refine (HB1c.out _).mono ?_
                rintro e w5 ⟨rfl, rfl⟩
                go_wp2_with fail
                refine (HB2c.out _).mono ?_
                rintro e w5 ⟨rfl, rfl⟩
                go_wp2_with fail
                go_ret2
                exact ⟨_, by rw [HF.out]; rfl, by rw [HF.out]; exact own_files_nil _ _, HX0.out.trans (HE.out.alloc _)⟩
            · have HF := Lib.hid (HC1.out (by simp))
              clear HC1 HC2 HW
              go_wp2_with fail
              refine (HB1c.out _).mono ?_
              rintro e w5 ⟨rfl, rfl⟩
              go_wp2_with fail
              go_ret2
              exact ⟨_, by rw [HF.out]; rfl, by rw [HF.out]; exact own_files_nil _ _, HX0.out.trans (HE.out.alloc _)⟩
          · obtain rfl : k = n := by omega
            have HC0 : Hid (T.clash t (fp, fd) = false) := noCl_clash (by rw [← HN.out]; exact HX.out.1)
            have HZ2 := Lib.hid (HEND.out HC0.out)
            have HI := HINS.out
            obtain ⟨q, Ao, co, hq, rfl, hown'⟩ := own_files_q hown
            have hql : q ≤ 65 := by rw [hq]; have := putK_len t (fp, fd) k; revert this; cases (T.putK t (fp, fd) k).2 <;> simp <;> omega
            have HQ := Lib.hid hq
            have HBX : Hid (w.heap.size + 1 ≤ wr.heap.size) := by have := HE.out.size; rw [HS0.out] at this; exact this
            clear hown hq HEND HCL HC0 HINS
            rw [← HD.out] at HI
            clear HD
            generalize (T.putK t (fp, fd) k).1 = L at *
            generalize T.insT t (fp, fd) = I at *
            cases d
            · have HI2 : Hid (I = L ++ [(fp, fd)]) := by rw [if_neg (by simp)] at HI; exact HI.symm
              clear HI
              have HIL : Hid (I.length = q + 1) := by unfold Hid; rw [HI2.out, List.length_append, ← HQ.out]; rfl
              by_cases hbig : 64 < q + 1
              · have HF : Hid (Z = ([], 10)) := by unfold Hid; rw [HZ2.out, if_pos (by rw [HIL.out]; exact hbig)]
                have hd1 : decide (64 < q + 1) = true := decide_eq_true hbig
                clear HZ2
                go_wp2_with (at_builtin; refine wpList_append_ownAt _ rfl (.tmp 64) (.tmp 66) 23 rfl (w.heap.size + 1) 25 i0 (.agg #[.string ⟨#[]⟩, .string ⟨#[]⟩]) 2 32 Tryz.underlying23 hi hz0 hz1 hz2 rfl (by decide) _ _ _ rfl (hown'.alloc _) ⟨_, 0, none⟩ 1 1 (fcells [(fp, fd)]) rfl rfl (cells_file_at _ _ _ _ (by simp)) (fcells_one _) (by unfold maxLen; omega) (by omega) (by have := HBX.out; simp; omega) (by decide) ?_; intro v4 w4 hown4 hg4 _ _; have HX4 : Hid (Ext W0 w4) := (HE.out.alloc _).grown (by rw [HS0.out]; exact hown') hg4; obtain ⟨A4, c4, rfl, _, _⟩ := own_files_form hown4)
                go_ret2
                exact ⟨_, by rw [HF.out]; rfl, by rw [HF.out]; exact own_files_nil _ _, HX0.out.trans HX4.out⟩
              · have HF : Hid (Z = (I, 0)) := by unfold Hid; rw [HZ2.out, if_neg (by rw [HIL.out]; exact hbig)]
                have hd1 : decide (64 < q + 1) = false := decide_eq_false hbig
                clear HZ2
                go_wp2_with (at_builtin; refine wpList_append_ownAt _ rfl (.tmp 64) (.tmp 66) 23 rfl (w.heap.size + 1) 25 i0 (.agg #[.string ⟨#[]⟩, .string ⟨#[]⟩]) 2 32 Tryz.underlying23 hi hz0 hz1 hz2 rfl (by decide) _ _ _ rfl (hown'.alloc _) ⟨_, 0, none⟩ 1 1 (fcells [(fp, fd)]) rfl rfl (cells_file_at _ _ _ _ (by simp)) (fcells_one _) (by unfold maxLen; omega) (by omega) (by have := HBX.out; simp; omega) (by decide) ?_; intro v4 w4 hown4 hg4 _ _; have HX4 : Hid (Ext W0 w4) := (HE.out.alloc _).grown (by rw [HS0.out]; exact hown') hg4; obtain ⟨A4, c4, rfl, _, _⟩ := own_files_form hown4)
                go_ret2
                exact ⟨_, by rw [HF.out]; rfl, by rw [HF.out, HI2.out]; exact (own_files_snoc HQ.out hown4).mono (by omega), HX0.out.trans HX4.out⟩
            · have HI2 : Hid (I = L) := by rw [if_pos rfl] at HI; exact HI.symm
              clear HI
              have HIL : Hid (I.length = q) := by unfold Hid; rw [HI2.out, ← HQ.out]
              by_cases hbig : 64 < q
              · have HF : Hid (Z = ([], 10)) := by unfold Hid; rw [HZ2.out, if_pos (by rw [HIL.out]; exact hbig)]
                have hd1 : decide (64 < q) = true := decide_eq_true hbig
                clear HZ2
                go_wp2_with fail
                go_ret2
                exact ⟨_, by rw [HF.out]; rfl, by rw [HF.out]; exact own_files_nil _ _, HX0.out.trans HE.out⟩
              · have HF : Hid (Z = (I, 0)) := by unfold Hid; rw [HZ2.out, if_neg (by rw [HIL.out]; exact hbig)]
                have hd1 : decide (64 < q) = false := decide_eq_false hbig
                clear HZ2
                go_wp2_with fail
                go_ret2
                exact ⟨_, by rw [HF.out]; rfl, by rw [HF.out, HI2.out]; unfold OwnFiles; rw [← HQ.out]; exact hown'.mono (by omega), HX0.out.trans HE.out⟩
  · have HF : Hid (Z = ([], 1)) := by unfold Hid; rw [HZ.out, T.putE, if_pos h0]
    have hd0 : ((T.checkE okB t) == 0) = false := by simp [h0]
    generalize T.checkE okB t = x at hck h0 hd0
    have hd2 : (!(x == 0)) = true := by rw [hd0]; rfl
    clear HZ
    go_enter Tryz.func16, Tryz.ntmps16
    go_wp2_with fail
    refine hck.out.mono ?_
    rintro e w1 ⟨rfl, d1⟩
    go_wp2_with fail
    go_ret2
    exact ⟨_, by rw [HF.out]; rfl, by rw [HF.out]; exact own_files_nil _ _, HX0.out.trans d1⟩
end Go.Proofs.YtclhbcicbnoohaaGreatDoor

/- Copies of lists of files: slices.Clone. -/
namespace Go.Proofs.YtclhbcicbnoohaaGreatDoor
open Go.RowKit

theorem wpList_wanted {P : Program} {ops : Array Oper} {rest : List Oper} {o : Oper} {a : Act} {w : World} {Q : Exit → Act → World → Prop} (hw : Region.wanted o (yielded ops a.tmps) = true) (h : o.wp P a w (wpList P ops Q rest) Q) : wpList P ops Q (o :: rest) a w := by
  unfold wpList
  rw [if_pos hw]
  exact .inl h
theorem files_cells {w : World} {B : Nat → Prop} {A : Option Addr} {c : Nat} {y : T.Tr} (hy : SliceAt fileR w B A c y) (hn : y ≠ []) : ∃ b off, A = some ⟨b, off, none⟩ ∧ B b ∧ ∀ j u, (fcells y)[j]? = some u → w.cell? ((⟨b, off, none⟩ : Addr).add j) = some u := by
  obtain ⟨b, off, hA, hb, hr⟩ := hy.2.2 hn
  refine ⟨b, off, hA, hb, fun j u hj => ?_⟩
  rw [Addr.add_lit]
  have hjl : j < y.length * 2 := by
    rcases Nat.lt_or_ge j (fcells y).length with h | h
    · rwa [fcells_len] at h
    · rw [List.getElem?_eq_none h] at hj; cases hj
  obtain ⟨b', off', hA', _, h1, h2, _, _⟩ := file_get hy (k := j / 2) (by omega)
  have hA'' := hA.symm.trans hA'
  simp only [Option.some.injEq, Addr.mk.injEq] at hA''
  obtain ⟨rfl, rfl, _⟩ := hA''
  have h3 := fcells_get y (j / 2) (by omega)
  rcases Nat.mod_two_eq_zero_or_one j with e | e
  · have e2 : j / 2 * 2 = j := by omega
    rw [e2] at h1 h3
    rw [h3.1] at hj
    cases hj
    exact h1
  · have e2 : j / 2 * 2 + 1 = j := by omega
    rw [e2] at h2 h3
    rw [h3.2] at hj
    cases hj
    exact h2
/-- append(v, y...) of files, none too. -/
theorem wpList_append_files {ops : Array Oper} {rest : List Oper} {o : Oper} {a : Act} {w : World} {Q : Exit → Act → World → Prop} (hw : Region.wanted o (yielded ops a.tmps) = true) (s x : Operand)
    (ho : o.op = .call { callee := .builtin .append, args := #[s, x], argTypes := #[23, 23] })
    (base : Nat) (v : Value) (l y : T.Tr) (hs : a.eval s = v) (hown : OwnFiles w base v l) (A : Option Addr) (m c : Nat) (hx : a.eval x = .slice A m c) (hm1 : m = y.length) (B : Nat → Prop) (hy : SliceAt fileR w B A c y)
    (h63 : l.length + y.length ≤ 1000) (hbase : base ≤ w.heap.size)
    (h : ∀ v' w', OwnFiles w' base v' (l ++ y) → Below base w w' → wpList Tryz.prog ops Q rest (a.put o.dst v') w') : wpList Tryz.prog ops Q (o :: rest) a w := by
  obtain ⟨i0, hi, hz0, hz1, hz2⟩ := info_parts file_info
  refine wpList_wanted hw ?_
  by_cases hm : y = []
  · subst hm
    have hm0 : m = 0 := hm1
    subst hm0
    have hsrc : Src Tryz.prog i0.size 23 (.slice A 0 c) 0 [] w := by
      cases A with
      | none => exact Src.ofNil w Tryz.underlying23 c
      | some ad => exact Src.ofSlice w Tryz.underlying23 ad 0 c [] (by simp) (fun j u hj => by simp at hj) (fun u hu => by simp at hu)
    have hrun : ∃ (b : Option Addr) (n cp : Nat), v = .slice b n cp ∧ n ≤ cp := by
      obtain ⟨A', c', rfl, h1, _⟩ := own_files_form hown
      exact ⟨_, _, _, rfl, h1⟩
    obtain ⟨b, n, cp, rfl, hle⟩ := hrun
    have hr := run_append_nothing (P := Tryz.prog) w 23 23 o.type 25 i0 Tryz.underlying23 hi b n cp hle _ hsrc
    unfold Oper.wp execOp
    simp only [ho, resolve, invoke, builtin, Sem.run_bind, Sem.run_pure, Result.andThen_ok, List.map_toArray, List.map_cons, List.map_nil, hs, hx, hr]
    exact h _ _ (by rw [List.append_nil]; exact hown) (Below.refl _ _)
  · have hpos : 0 < y.length := List.length_pos_iff.2 hm
    obtain ⟨b, off, rfl, _, hcc⟩ := files_cells hy hm
    subst hm1
    refine wp_append_ownAt w s x 23 ho base 25 i0 (.agg #[.string ⟨#[]⟩, .string ⟨#[]⟩]) 2 32 Tryz.underlying23 hi hz0 hz1 hz2 rfl (by decide) v l.length (fcells l) hs hown ⟨b, off, none⟩ y.length c (fcells y) hx (fcells_len y) hcc (fcells_one y) (by unfold maxLen; omega) (by omega) hbase hpos ?_
    intro v' w' h2 h3 _ _
    refine h v' w' ?_ ?_
    · unfold OwnFiles
      rw [fcells_append, List.length_append]
      exact h2
    · refine Below.grown (Below.refl _ _) h3 hbase fun k hk => ?_
      exact (own_at_lt hown hk).1
theorem own_files_empty (w : World) (g : Nat) (hg : g = w.heap.size) : OwnFiles (w.alloc (.cells #[] 25)) w.heap.size (.slice (some ⟨g, 0, none⟩) 0 0) [] := by
  subst hg
  exact ⟨by simp [fcells], .inr ⟨w.heap.size, 0, 0, #[], rfl, Nat.le_refl _, heap_alloc_new _ _, Nat.le_refl _, by omega, by simp, fun j hj => by simp at hj⟩⟩
set_option maxRecDepth 8000 in
theorem CloneF_any (t : T.Tr) (A : Option Addr) (c n : Nat) (w : World) (hn : n = t.length) (hA : SliceAt fileR w (Old w) A c t) (hl : n ≤ 1000) : Calls Tryz.prog 48 #[.slice A n c] w (RetT w t) := by
  have HN := Lib.hid hn
  have HA := Lib.hid hA
  have HL := Lib.hid hl
  clear hl
  cases A with
  | none =>
    have ht : t = [] := by
      by_cases h : t = []
      · exact h
      · obtain ⟨b, off, e, _⟩ := hA.2.2 h; cases e
    subst ht
    obtain rfl : n = 0 := hn
    clear hA
    have q23 : ∀ W : World, (binOp .eql 23 (.slice none 0 c) (.slice none 0 0)).run Tryz.prog W = .ok (.bool true) W := fun W => Lib.run_eql_slice_nil W _ _ none 0 c 0 0 Tryz.underlying23
    go_enter Tryz.func48, Tryz.ntmps48
    go_wp2_with fail
    go_ret
    exact ⟨_, rfl, own_files_nil _ _, Ext.refl _⟩
  | some ad =>
    obtain ⟨b, off, sp⟩ := ad
    clear hA hn
    have q23 : ∀ W : World, (binOp .eql 23 (.slice (some ⟨b, off, sp⟩) n c) (.slice none 0 0)).run Tryz.prog W = .ok (.bool false) W := fun W => Lib.run_eql_slice_nil W _ _ (some ⟨b, off, sp⟩) n c 0 0 Tryz.underlying23
    go_enter Tryz.func48, Tryz.ntmps48
    go_wp2_with (at_builtin; refine wpList_append_files rfl (.tmp 5) (.tmp 6) rfl w.heap.size _ [] t rfl (own_files_empty w _ rfl) _ n c rfl HN.out _ (HA.out.ext ((Ext.refl w).alloc _)) (by have := HL.out; have := HN.out; simp; omega) (by simp) ?_; intro v' w' hown hb)
    go_ret
    exact ⟨_, rfl, hown, Below.trans ((Ext.refl w).alloc (.cells #[] 25)) hb⟩
end Go.Proofs.YtclhbcicbnoohaaGreatDoor

/- tree.Mount. -/
namespace Go.Proofs.YtclhbcicbnoohaaGreatDoor
open Go.RowKit

theorem path_at (s : ByteArray) (w : World) (hs : s.size ≤ 1000000) (hg : Gl w) : Calls Tryz.prog 27 #[.string s] w (Al (.int .i64 (pathErr (okB s))) w) := by
  obtain ⟨⟨m, hm⟩, _⟩ := hg
  exact path_is s m w hs hm
set_option maxRecDepth 100000 in
set_option maxHeartbeats 2000000 in
theorem Mount_any (t : T.Tr) (A : Option Addr) (c n : Nat) (d : ByteArray) (w : World) (hn : n = t.length) (hA : SliceAt fileR w (Old w) A c t) (hp : ∀ f ∈ t, f.1.size ≤ 1000000) (hd : d.size ≤ 1000000) (hg : Gl w) :
    Calls Tryz.prog 19 #[.slice A n c, .string d] w (RetTr w (T.mountE okB t d)) := by
  obtain ⟨i0, hi, hz0, hz1, hz2⟩ := info_parts file_info
  have hck : Hid (Calls Tryz.prog 24 #[.slice A n c] w (Al (.int .i64 (T.checkE okB t)) w)) := Check_any t A c n w hn hA hp hg
  have HG := Lib.hid hg
  have hcp : Hid (∀ W, Ext w W → Calls Tryz.prog 27 #[.string d] W (Al (.int .i64 (pathErr (okB d))) W)) := fun W hW => path_at d W hd (hg.ext hW)
  have hn63 : n ≤ 9223372036854775807 := by have := hA.1; have := hA.2.1; omega
  obtain ⟨Z, hZ⟩ : ∃ Z, Z = T.mountE okB t d := ⟨_, rfl⟩
  rw [← hZ]
  have HZ := Lib.hid hZ
  have HN := Lib.hid hn
  have HA := Lib.hid hA
  clear hZ hn hA hp hg
  by_cases h0 : T.checkE okB t = 0
  · rw [h0] at hck
    have hok := checkE_ok h0
    have hn64 : n ≤ 64 := by rw [HN.out]; exact hok.few
    cases hod : okB d
    · have HF : Hid (Z = ([], 2)) := by unfold Hid; rw [HZ.out, T.mountE, if_neg (by rw [h0]; simp), if_pos hod]
      rw [hod] at hcp
      have hv : pathErr false = 2 := rfl
      rw [hv] at hcp
      clear HZ hok h0 hod hv
      go_enter Tryz.func19, Tryz.ntmps19
      go_wp2_with fail
      refine hck.out.mono ?_
      rintro e w1 ⟨rfl, d1⟩
      go_wp2_with fail
      refine (hcp.out _ d1).mono ?_
      rintro e w2 ⟨rfl, d2⟩
      go_wp2_with fail
      go_ret2
      exact ⟨_, by rw [HF.out]; rfl, by rw [HF.out]; exact own_files_nil _ _, d1.trans d2⟩
    · rw [hod] at hcp
      have hv : pathErr true = 0 := rfl
      rw [hv] at hcp
      have hds : d.size ≤ 128 := okB_size hod
      have HEND : Hid (mntTo t d t.length → Z = (T.mountT t d.data.toList, 0)) := fun h => by rw [HZ.out]; exact mountE_end h0 hod h
      have HNO : Hid (∀ k (hk : k < t.length), okB (inB d t[k].1) = false → Z = ([], 2)) := fun k hk h => by rw [HZ.out]; exact mountE_no h0 hod hk h
      have HPS : Hid (∀ f ∈ t, f.1.size ≤ 128) := fun f hf => okB_size (hok.path f hf)
      have hs1 : (d ++ ⟨#[47]⟩ : ByteArray).size = d.size + 1 := by rw [ByteArray.size_append]; rfl
      clear HZ hok h0 hod hv hd
      go_enter Tryz.func19, Tryz.ntmps19
      go_wp2_with fail
      refine hck.out.mono ?_
      rintro e w1 ⟨rfl, d1⟩
      go_wp2_with fail
      refine (hcp.out _ d1).mono ?_
      rintro e w2 ⟨rfl, d2⟩
      have X1 : Hid (Ext w w2) := d1.trans d2
      clear d1 d2
      go_wp2_with fail
      go_loopw [18, 6] (fun i v wr => ∃ k : Nat, k ≤ n ∧ i = .int .i64 k ∧ OwnFiles wr w.heap.size v (T.mountT (t.take k) d.data.toList) ∧ Hid (mntTo t d k ∧ Ext w wr)) (fun i _ _ => n - (intOf i).toNat)
      case atStart => exact ⟨0, Nat.zero_le _, rfl, own_files_nil _ _, fun _ _ h => absurd h (Nat.not_lt_zero _), X1.out⟩
      case round =>
        obtain ⟨k, hk, rfl, hown, HX⟩ := hrel
        by_cases hlt : k < n
        · have hkl : k < t.length := by rw [← HN.out]; exact hlt
          obtain ⟨b, off, hAe, hb, c0, c1, h1, h2⟩ := file_get (HA.out.ext HX.out.2) hkl
          subst hAe
          rw [← Nat.add_assoc] at c1
          have hps := HPS.out t[k] (List.getElem_mem hkl)
          obtain ⟨q, Ao, co, hq, rfl, hown'⟩ := own_files_q hown
          have hql : q ≤ 64 := by rw [hq]; have := mount_len t d k; omega
          have HQ := Lib.hid hq
          have HSN := Lib.hid (@mount_snoc t d k hkl)
          have HN1 := Lib.hid (HNO.out k hkl)
          have HS1 : Hid (okB (inB d t[k].1) = true → mntTo t d (k + 1)) := fun h => mntTo_succ HX.out.1 hkl h
          have HE := Lib.hid HX.out.2
          have HBS : Hid (w.heap.size ≤ (wr.alloc (.cells #[.string t[k].1, .string t[k].2] 25)).heap.size) := Nat.le_trans HE.out.size ((Ext.refl wr).alloc _).size
          have HCP : Hid (∀ W, Ext w W → Calls Tryz.prog 27 #[.string (inB d t[k].1)] W (Al (.int .i64 (pathErr (okB (inB d t[k].1)))) W)) := fun W hW => path_at _ W (by rw [inB_size]; omega) (HG.out.ext hW)
          clear hown hq HX
          generalize t[k] = f at *
          obtain ⟨fp, fd⟩ := f
          simp only at c0 c1 h1 h2 hps HSN HN1 HS1 HCP
          rw [show wr.alloc (.cells #[.string (fp, fd).1, .string (fp, fd).2] 25) = wr.alloc (.cells #[.string fp, .string fd] 25) from rfl] at HBS
          have hs2 : (inB d fp).size = d.size + 1 + fp.size := inB_size d fp
          have hib : inB d fp = d ++ ⟨#[47]⟩ ++ fp := rfl
          rw [hib] at HCP HSN hs2 HN1 HS1
          clear hib
          generalize okB (d ++ ⟨#[47]⟩ ++ fp) = bb at HCP HN1 HS1
          cases bb
          · have HF := Lib.hid (HN1.out rfl)
            have hv : pathErr false = 2 := rfl
            rw [hv] at HCP
            clear HN1 HS1 hv
            go_wp2_with fail
            refine (HCP.out _ (HE.out.alloc _)).mono ?_
            rintro e w5 ⟨rfl, d5⟩
            go_wp2_with fail
            go_ret2
            exact ⟨_, by rw [HF.out]; rfl, by rw [HF.out]; exact own_files_nil _ _, (HE.out.alloc _).trans d5⟩
          · have HF := Lib.hid (HS1.out rfl)
            have hv : pathErr true = 0 := rfl
            rw [hv] at HCP
            clear HN1 HS1 hv
            go_wp2_with fail
            refine (HCP.out _ (HE.out.alloc _)).mono ?_
            rintro e w5 ⟨rfl, d5⟩
            have e0 := d5.keepc (cell_new wr #[.string fp, .string fd] 25 0)
            have e1 := d5.keepc (cell_new wr #[.string fp, .string fd] 25 1)
            have hown5 := (hown'.alloc (.cells #[.string fp, .string fd] 25)).ext d5
            have HE5 : Hid (Ext w w5) := (HE.out.alloc _).trans d5
            go_wp2_with (at_builtin; refine wpList_append_ownAt _ rfl (.tmp 30) (.tmp 35) 23 rfl w.heap.size 25 i0 (.agg #[.string ⟨#[]⟩, .string ⟨#[]⟩]) 2 32 Tryz.underlying23 hi hz0 hz1 hz2 rfl (by decide) _ _ _ rfl (hown5.alloc _) ⟨_, 0, none⟩ 1 1 (fcells [(d ++ ⟨#[47]⟩ ++ fp, fd)]) rfl rfl (cells_file_at _ _ _ _ (by simp)) (fcells_one _) (by unfold maxLen; omega) (by omega) (Nat.le_trans HE5.out.size (by simp)) (by decide) ?_; intro v4 w4 hown4 hg4 _ _)
            go_roundw
            case rel => exact ⟨k + 1, by omega, by go_num, by rw [HSN.out]; exact own_files_snoc HQ.out hown4, HF.out, (HE5.out.alloc _).grown hown5 hg4⟩
            case measure => simp [intOf]; omega
        · obtain rfl : k = n := by omega
          have htk : t.take k = t := by rw [HN.out, List.take_length]
          have HF : Hid (Z = (T.mountT t d.data.toList, 0)) := HEND.out (by rw [← HN.out]; exact HX.out.1)
          have HE := Lib.hid HX.out.2
          rw [htk] at hown
          clear HX HEND HNO htk
          go_wp2_with fail
          go_ret2
          exact ⟨_, by rw [HF.out]; rfl, by rw [HF.out]; exact hown, HE.out⟩
  · have HF : Hid (Z = ([], 1)) := by unfold Hid; rw [HZ.out, T.mountE, if_pos h0]
    have hd0 : ((T.checkE okB t) == 0) = false := by simp [h0]
    generalize T.checkE okB t = x at hck h0 hd0
    have hd2 : (!(x == 0)) = true := by rw [hd0]; rfl
    clear HZ
    go_enter Tryz.func19, Tryz.ntmps19
    go_wp2_with fail
    refine hck.out.mono ?_
    rintro e w1 ⟨rfl, d1⟩
    go_wp2_with fail
    go_ret2
    exact ⟨_, by rw [HF.out]; rfl, by rw [HF.out]; exact own_files_nil _ _, d1⟩
end Go.Proofs.YtclhbcicbnoohaaGreatDoor

/- tree.Under. -/
namespace Go.Proofs.YtclhbcicbnoohaaGreatDoor
open Go.RowKit

theorem trim_cut {d p : ByteArray} (x : ByteArray) : T.cutF d.data.toList (p, x) = if Lib.hasPrefix p.data.toList (d ++ ⟨#[47]⟩ : ByteArray).data.toList then some (⟨(Lib.trimPrefix p.data.toList (d ++ ⟨#[47]⟩ : ByteArray).data.toList).toArray⟩, x) else none := by
  have e : (d ++ ⟨#[47]⟩ : ByteArray).data.toList = d.data.toList ++ [47] := by
    rw [ByteArray.data_append, Array.toList_append]
  rw [e]
  unfold T.cutF T.pth T.below Lib.trimPrefix Lib.hasPrefix
  by_cases h : (d.data.toList ++ [47]).isPrefixOf p.data.toList = true
  · rw [if_pos h, if_pos h, if_pos h]
    simp [T.mkF]
  · rw [if_neg h, if_neg h]
theorem empty_beq {d : ByteArray} : (d.toList == []) = decide (d.size = 0) := by
  rw [ByteArray.toList_eq]
  by_cases h : d.size = 0
  · rw [empty_data h, decide_eq_true h]; rfl
  · rw [decide_eq_false h, beq_eq_false_iff_ne]
    intro e
    have := congrArg List.length e
    rw [Array.length_toList] at this
    exact h this
set_option maxRecDepth 100000 in
set_option maxHeartbeats 2000000 in
theorem Under_any (t : T.Tr) (A : Option Addr) (c n : Nat) (d : ByteArray) (w : World) (hn : n = t.length) (hA : SliceAt fileR w (Old w) A c t) (hp : ∀ f ∈ t, f.1.size ≤ 1000000) (hd : d.size ≤ 1000000) (hg : Gl w) :
    Calls Tryz.prog 22 #[.slice A n c, .string d] w (RetT w (T.underE okB t d)) := by
  obtain ⟨i0, hi, hz0, hz1, hz2⟩ := info_parts file_info
  have hck : Hid (Calls Tryz.prog 24 #[.slice A n c] w (Al (.int .i64 (T.checkE okB t)) w)) := Check_any t A c n w hn hA hp hg
  have hcp : Hid (∀ W, Ext w W → Calls Tryz.prog 27 #[.string d] W (Al (.int .i64 (pathErr (okB d))) W)) := fun W hW => path_at d W hd (hg.ext hW)
  have hn63 : n ≤ 9223372036854775807 := by have := hA.1; have := hA.2.1; omega
  obtain ⟨Z, hZ⟩ : ∃ Z, Z = T.underE okB t d := ⟨_, rfl⟩
  rw [← hZ]
  have HZ := Lib.hid hZ
  have HN := Lib.hid hn
  have HA := Lib.hid hA
  clear hZ hn hA hp hg
  by_cases h0 : T.checkE okB t = 0
  · rw [h0] at hck
    have hok := checkE_ok h0
    have hn64 : n ≤ 64 := by rw [HN.out]; exact hok.few
    by_cases hd0 : d.size = 0
    · have e1 : (d.toList == []) = true := by rw [empty_beq]; exact decide_eq_true hd0
      have e2 : (!(d.toList == [])) = false := by rw [e1]; rfl
      have HF : Hid (Z = t) := by unfold Hid; rw [HZ.out, T.underE, if_neg (by rw [h0]; simp), if_pos hd0]
      have HCL : Hid (∀ W, Ext w W → Calls Tryz.prog 48 #[.slice A n c] W (RetT W t)) := fun W hW => CloneF_any t A c n W HN.out (HA.out.ext hW) (by omega)
      clear HZ hok h0 hcp
      go_enter Tryz.func22, Tryz.ntmps22
      go_wp2_with fail
      refine hck.out.mono ?_
      rintro e w1 ⟨rfl, d1⟩
      go_wp2_with fail
      refine (HCL.out _ d1).mono ?_
      rintro e w2 ⟨v, rfl, ho, d2⟩
      go_wp2_with fail
      go_ret
      exact ⟨_, rfl, by rw [HF.out]; exact ho.mono d1.size, d1.trans d2⟩
    · have e1 : (d.toList == []) = false := by rw [empty_beq]; exact decide_eq_false hd0
      have e2 : (!(d.toList == [])) = true := by rw [e1]; rfl
      cases hod : okB d
      · have HF : Hid (Z = []) := by unfold Hid; rw [HZ.out, T.underE, if_neg (by rw [h0]; simp), if_neg hd0, hod]; rfl
        rw [hod] at hcp
        have hv : pathErr false = 2 := rfl
        rw [hv] at hcp
        clear HZ hok h0 hod hv
        go_enter Tryz.func22, Tryz.ntmps22
        go_wp2_with fail
        refine hck.out.mono ?_
        rintro e w1 ⟨rfl, d1⟩
        go_wp2_with fail
        refine (hcp.out _ d1).mono ?_
        rintro e w2 ⟨rfl, d2⟩
        go_wp2_with fail
        go_ret
        exact ⟨_, rfl, by rw [HF.out]; exact own_files_nil _ _, d1.trans d2⟩
      · rw [hod] at hcp
        have hv : pathErr true = 0 := rfl
        rw [hv] at hcp
        have HZ2 : Hid (Z = t.filterMap (T.cutF d.data.toList)) := by
          unfold Hid
          rw [HZ.out, underE_is h0]
          congr 1
          exact funext fun f => by rw [underF, if_neg hd0, hod, if_pos rfl]
        have hds : d.size ≤ 128 := okB_size hod
        have HPS : Hid (∀ f ∈ t, f.1.size ≤ 128) := fun f hf => okB_size (hok.path f hf)
        have hs1 : (d ++ ⟨#[47]⟩ : ByteArray).size = d.size + 1 := by rw [ByteArray.size_append]; rfl
        clear HZ hok h0 hod hv hd
        go_enter Tryz.func22, Tryz.ntmps22
        go_wp2_with fail
        refine hck.out.mono ?_
        rintro e w1 ⟨rfl, d1⟩
        go_wp2_with fail
        refine (hcp.out _ d1).mono ?_
        rintro e w2 ⟨rfl, d2⟩
        have X1 : Hid (Ext w w2) := d1.trans d2
        clear d1 d2 hck hcp
        go_wp2_with fail
        go_loopw [28, 5] (fun i v wr => ∃ k : Nat, k ≤ n ∧ i = .int .i64 k ∧ OwnFiles wr w.heap.size v ((t.take k).filterMap (T.cutF d.data.toList)) ∧ Hid (Ext w wr)) (fun i _ _ => n - (intOf i).toNat)
        case atStart => exact ⟨0, Nat.zero_le _, rfl, own_files_nil _ _, X1.out⟩
        case round =>
          obtain ⟨k, hk, rfl, hown, HX⟩ := hrel
          by_cases hlt : k < n
          · have hkl : k < t.length := by rw [← HN.out]; exact hlt
            obtain ⟨b, off, hAe, hb, c0, c1, h1, h2⟩ := file_get (HA.out.ext HX.out) hkl
            subst hAe
            rw [← Nat.add_assoc] at c1
            have hps := HPS.out t[k] (List.getElem_mem hkl)
            obtain ⟨q, Ao, co, hq, rfl, hown'⟩ := own_files_q hown
            have hql : q ≤ 64 := by rw [hq]; have := fm_len (T.cutF d.data.toList) t k; omega
            have HQ := Lib.hid hq
            have HSN := Lib.hid (@fm_snoc (T.cutF d.data.toList) t k hkl)
            have HBS : Hid (w.heap.size ≤ wr.heap.size) := HX.out.size
            clear hown hq
            generalize t[k] = f at *
            obtain ⟨fp, fd⟩ := f
            simp only at c0 c1 h1 h2 hps
            have HCU : Hid (∀ W, Calls Tryz.prog 55 #[.string fp, .string (d ++ ⟨#[47]⟩)] W fun e w' => e = .returned (.tuple #[.string ⟨(Lib.trimPrefix fp.data.toList (d ++ ⟨#[47]⟩ : ByteArray).data.toList).toArray⟩, .bool (Lib.hasPrefix fp.data.toList (d ++ ⟨#[47]⟩ : ByteArray).data.toList)]) ∧ w' = W) := fun W => Tryz.strings_CutPrefix _ _ W
            have htc := @trim_cut d fp fd
            generalize (⟨(Lib.trimPrefix fp.data.toList (d ++ ⟨#[47]⟩ : ByteArray).data.toList).toArray⟩ : ByteArray) = rp at HCU htc
            generalize Lib.hasPrefix fp.data.toList (d ++ ⟨#[47]⟩ : ByteArray).data.toList = bb at HCU htc
            cases bb
            · have HF : Hid ((t.take (k + 1)).filterMap (T.cutF d.data.toList) = (t.take k).filterMap (T.cutF d.data.toList)) := by
                unfold Hid
                rw [HSN.out, htc]
                simp
              clear HSN htc
              go_wp2_with fail
              refine (HCU.out _).mono ?_
              rintro e w5 ⟨rfl, rfl⟩
              go_wp2_with fail
              go_roundw
              case rel => exact ⟨k + 1, by omega, by go_num, by unfold OwnFiles; rw [HF.out, ← HQ.out]; exact hown'.alloc _, HX.out.alloc _⟩
              case measure => simp [intOf]; omega
            · have HF : Hid ((t.take (k + 1)).filterMap (T.cutF d.data.toList) = (t.take k).filterMap (T.cutF d.data.toList) ++ [(rp, fd)]) := by
                unfold Hid
                rw [HSN.out, htc]
                rfl
              clear HSN htc
              go_wp2_with fail
              refine (HCU.out _).mono ?_
              rintro e w5 ⟨rfl, rfl⟩
              go_wp2_with (at_builtin; refine wpList_append_ownAt _ rfl (.tmp 41) (.tmp 46) 23 rfl w.heap.size 25 i0 (.agg #[.string ⟨#[]⟩, .string ⟨#[]⟩]) 2 32 Tryz.underlying23 hi hz0 hz1 hz2 rfl (by decide) _ _ _ rfl ((hown'.alloc _).alloc _) ⟨_, 0, none⟩ 1 1 (fcells [(rp, fd)]) rfl rfl (cells_file_at _ _ _ _ (by simp)) (fcells_one _) (by unfold maxLen; omega) (by omega) (by have := HBS.out; simp; omega) (by decide) ?_; intro v4 w4 hown4 hg4 _ _)
              go_roundw
              case rel => exact ⟨k + 1, by omega, by go_num, by rw [HF.out]; exact own_files_snoc HQ.out hown4, ((HX.out.alloc _).alloc _).grown hown' hg4⟩
              case measure => simp [intOf]; omega
          · obtain rfl : k = n := by omega
            have htk : t.take k = t := by rw [HN.out, List.take_length]
            rw [htk] at hown
            clear htk
            go_wp2_with fail
            go_ret
            exact ⟨_, rfl, by rw [HZ2.out]; exact hown, HX.out⟩
  · have HF : Hid (Z = []) := by unfold Hid; rw [HZ.out, T.underE, if_pos h0]
    have hd0 : ((T.checkE okB t) == 0) = false := by simp [h0]
    generalize T.checkE okB t = x at hck h0 hd0
    have hd2 : (!(x == 0)) = true := by rw [hd0]; rfl
    clear HZ
    go_enter Tryz.func22, Tryz.ntmps22
    go_wp2_with fail
    refine hck.out.mono ?_
    rintro e w1 ⟨rfl, d1⟩
    go_wp2_with fail
    go_ret
    exact ⟨_, rfl, by rw [HF.out]; exact own_files_nil _ _, d1⟩
end Go.Proofs.YtclhbcicbnoohaaGreatDoor
