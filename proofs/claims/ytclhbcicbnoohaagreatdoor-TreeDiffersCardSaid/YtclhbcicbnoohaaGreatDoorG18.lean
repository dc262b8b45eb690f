/- The texts Nh Xc Nf of the seat, joined. -/
import Derived.Test.YtclhbcicbnoohaaGreatDoorG17
import Derived.BigQuiet
import Derived.Laws.StructEq
/- slices.Equal of changes. -/
namespace Go.Proofs.YtclhbcicbnoohaaGreatDoor
open Go.RowKit

set_option maxRecDepth 100000 in
theorem EqCh_any (t s : List T.Ch) (A B : Option Addr) (c c' n m : Nat) (w : World) (hn : n = t.length) (hm : m = s.length) (hA : SliceAt chR w (Old w) A c t) (hB : SliceAt chR w (Old w) B c' s) :
    Calls Tryz.prog 40 #[.slice A n c, .slice B m c'] w (Al (.bool (decide (t = s))) w) := by
  have hn63 : n ≤ 9223372036854775807 := by have := hA.1; have := hA.2.1; omega
  have hm63 : m ≤ 9223372036854775807 := by have := hB.1; have := hB.2.1; omega
  obtain ⟨R, hR⟩ : ∃ R, R = decide (t = s) := ⟨_, rfl⟩
  rw [← hR]
  have HR := Lib.hid hR
  have HN := Lib.hid hn
  have HM := Lib.hid hm
  have HA := Lib.hid hA
  have HB := Lib.hid hB
  clear hR hn hA hm hB
  by_cases hnm : n = m
  · subst hnm
    go_enter Tryz.func40, Tryz.ntmps40
    go_wp2_with fail
    go_loopw [13] (fun i wr => ∃ k : Nat, k ≤ n ∧ i = .int .i64 k ∧ Hid (t.take k = s.take k) ∧ Hid (Ext w wr)) (fun i _ => n - (intOf i).toNat)
    case atStart => exact ⟨0, Nat.zero_le _, rfl, rfl, Ext.refl _⟩
    case round =>
      obtain ⟨k, hk, rfl, HK, HX⟩ := hrel
      by_cases hlt : k < n
      · have hkl : k < t.length := by rw [← HN.out]; exact hlt
        have hll : k < s.length := by rw [← HM.out]; exact hlt
        obtain ⟨b, off, hAe, hb, ca0, ca1, ca2, ca3⟩ := ch_get (HA.out.ext HX.out) hkl
        obtain ⟨b2, off2, hBe, hb2, cb0, cb1, cb2, cb3⟩ := ch_get (HB.out.ext HX.out) hll
        subst hAe hBe
        rw [← Nat.add_assoc] at ca1 ca2 ca3 cb1 cb2 cb3
        have ht1 := List.take_succ_eq_append_getElem hkl
        have ht2 := List.take_succ_eq_append_getElem hll
        have HT1 := Lib.hid ht1
        have HT2 := Lib.hid ht2
        clear ht1 ht2
        generalize t[k] = f at *
        generalize s[k] = g at *
        obtain ⟨fp, fk, fo, fn⟩ := f
        obtain ⟨gp, gk, go, gn⟩ := g
        simp only at ca0 ca1 ca2 ca3 cb0 cb1 cb2 cb3
        have hne := fun W => neq_ch W fp gp fk gk fo fn go gn
        by_cases he : fp = gp ∧ fk = gk ∧ fo = go ∧ fn = gn
        · obtain ⟨rfl, rfl, rfl, rfl⟩ := he
          have hbb : ((fp.toList == fp.toList) && ((fk == fk) && ((fo.toList == fo.toList) && (fn.toList == fn.toList)))) = true := by simp
          simp only [hbb, Bool.not_true] at hne
          clear hbb
          have HK2 : Hid (t.take (k + 1) = s.take (k + 1)) := by unfold Hid; rw [HT1.out, HT2.out, HK.out]
          go_wp2_with fail
          go_quiet (fail)
          go_wp2_with fail
          go_roundw
          case rel => exact ⟨k + 1, by omega, by go_num, HK2.out, HX.out.drewN _⟩
          case measure => simp [intOf]; omega
        · have hbb : ((fp.toList == gp.toList) && ((fk == gk) && ((fo.toList == go.toList) && (fn.toList == gn.toList)))) = false := by
            cases h : ((fp.toList == gp.toList) && ((fk == gk) && ((fo.toList == go.toList) && (fn.toList == gn.toList)))) with
            | false => rfl
            | true =>
              rw [Bool.and_eq_true, Bool.and_eq_true, Bool.and_eq_true] at h
              obtain ⟨h1, h2, h3, h4⟩ := h
              rw [eq_dec] at h1 h3 h4
              exact absurd ⟨bytes_of (of_decide_eq_true h1), eq_of_beq h2, bytes_of (of_decide_eq_true h3), bytes_of (of_decide_eq_true h4)⟩ he
          simp only [hbb, Bool.not_false] at hne
          clear hbb
          have HF : Hid (R = false) := by
            unfold Hid
            rw [HR.out]
            refine decide_eq_false fun e => he ?_
            have h1 := HT1.out
            rw [e, HT2.out, ← e, HK.out] at h1
            have h2 := List.append_cancel_left h1
            simp at h2
            exact ⟨h2.1.symm, h2.2.1.symm, h2.2.2.1.symm, h2.2.2.2.symm⟩
          go_wp2_with fail
          go_quiet (fail)
          go_wp2_with fail
          go_ret
          exact ⟨by rw [HF.out]; rfl, HX.out.drewN _⟩
      · obtain rfl : k = n := by omega
        have HT : Hid (R = true) := by
          have := HK.out
          rw [HN.out, List.take_length, ← HN.out, HM.out, List.take_length] at this
          unfold Hid
          rw [HR.out, this]
          simp
        go_wp2_with fail
        go_ret
        exact ⟨by rw [HT.out]; rfl, HX.out⟩
  · have HF : Hid (R = false) := by
      unfold Hid
      rw [HR.out]
      exact decide_eq_false fun e => hnm (by rw [HN.out, HM.out, e])
    have hd : ((n : Int) == (m : Int)) = false := by simp; omega
    have hd2 : (!((n : Int) == (m : Int))) = true := by rw [hd]; rfl
    go_enter Tryz.func40, Tryz.ntmps40
    go_wp2_with fail
    go_ret
    exact ⟨by rw [HF.out]; rfl, Ext.refl _⟩
end Go.Proofs.YtclhbcicbnoohaaGreatDoor

/- The walks of TreeIDs, TreePaths, TreeDiffers. -/
namespace Go.Proofs.YtclhbcicbnoohaaGreatDoor
open Go.RowKit

theorem FewT.paths {t : T.Tr} (h : FewT t) : ∀ f ∈ t, f.1.size ≤ 1000000 := fun f hf => by have := (h.2 f hf).1; omega
theorem FewT.paths9 {t : T.Tr} (h : FewT t) : ∀ f ∈ t, f.1.size ≤ 9000000 := fun f hf => by have := (h.2 f hf).1; omega
theorem few_one (t : T.Tr) (A : Option Addr) (n c : Nat) (W : World) (hn : n = t.length) (hA : SliceAt fileR W (Old W) A c t) (hb : BdT t) :
    Calls Tryz.prog 12 #[.slice (some ⟨W.heap.size, 0, none⟩) 1 1] (W.alloc (.cells #[.slice A n c] 23)) (RetB W (FewT t)) :=
  (few_any [t] _ 1 1 _ rfl (by decide) (trees_one rfl hn hA (Ext.refl _)) (fun t' h => by rw [List.mem_singleton.1 h]; exact hb)).mono
    fun _ _ ⟨h1, b, h2, h3⟩ => ⟨((Ext.refl W).alloc _).trans h1, b, h2, fun e => h3 e t (List.mem_singleton_self t)⟩
theorem few_two (t s : T.Tr) (A B : Option Addr) (n c m d : Nat) (W : World) (hn : n = t.length) (hA : SliceAt fileR W (Old W) A c t) (hb : BdT t) (hm : m = s.length) (hB : SliceAt fileR W (Old W) B d s) (hbs : BdT s) :
    Calls Tryz.prog 12 #[.slice (some ⟨W.heap.size, 0, none⟩) 2 2] (W.alloc (.cells #[.slice A n c, .slice B m d] 23)) (RetB W (FewT t ∧ FewT s)) :=
  (few_any [t, s] _ 2 2 _ rfl (by decide) (trees_two rfl hn hA hm hB (Ext.refl _)) (fun t' h => by simp only [List.mem_cons, List.not_mem_nil, or_false] at h; rcases h with rfl | rfl <;> assumption)).mono
    fun _ _ ⟨h1, b, h2, h3⟩ => ⟨((Ext.refl W).alloc _).trans h1, b, h2, fun e => ⟨h3 e t (by simp), h3 e s (by simp)⟩⟩

set_option maxRecDepth 100000 in
set_option maxHeartbeats 2000000 in
theorem treeIDs_walk (v : Value) (t : T.Tr) (w : World) (hg : Gl w) (r : (sliceR fileR).val w t v) (hb : BdT t) : Calls Tryz.prog 6 #[v] w (Al (.bool true) w) := by
  obtain ⟨A, c, rfl, hS⟩ := val_slice r
  obtain ⟨n, hn⟩ : ∃ n, n = t.length := ⟨_, rfl⟩
  rw [← hn]
  obtain ⟨s, e, hse⟩ : ∃ s e, idV t = .tuple #[.string s, .int .i64 e] := ⟨_, _, rfl⟩
  have HAW := Lib.hid (awake_any w hg)
  have HFW := Lib.hid (fun W (h : Ext w W) => few_one t A n c W hn (hS.ext h) hb)
  have HI1 := Lib.hid (fun (hf : FewT t) W (h : Ext w W) => ID_any t A c n W hn (hS.ext h) hf.paths (hg.ext h))
  have HI2 := Lib.hid (fun (hf : FewT t) W (h : Ext w W) => rID_any t A c n W hn (hS.ext h) hf.paths9)
  rw [hse] at HI1 HI2
  clear hn hS hse r hg hb
  go_enter Tryz.func6, Tryz.ntmps6
  go_wp2_with fail
  refine HAW.out.mono ?_
  rintro e2 w2 ⟨rfl, d2⟩
  have HD2 := Lib.hid d2
  clear d2
  go_wp2_with fail
  refine (HFW.out _ HD2.out).mono ?_
  rintro e3 w3 ⟨d3, b, rfl, hb⟩
  have HD3 := Lib.hid (HD2.out.trans d3)
  clear d3 HD2
  cases b with
  | false =>
    clear hb
    go_wp2_with fail
    go_ret
    exact ⟨rfl, HD3.out⟩
  | true =>
    have HFO := Lib.hid (hb rfl)
    clear hb
    go_wp2_with fail
    refine (HI1.out HFO.out _ HD3.out).mono ?_
    rintro e4 w4 ⟨rfl, d4⟩
    have HD4 := Lib.hid (HD3.out.trans d4)
    clear d4 HD3
    go_wp2_with fail
    refine (HI2.out HFO.out _ HD4.out).mono ?_
    rintro e5 w5 ⟨rfl, d5⟩
    have HD5 := Lib.hid (HD4.out.trans d5)
    clear d5 HD4
    go_wp2_with fail
    go_ret
    exact ⟨rfl, HD5.out⟩

set_option maxRecDepth 100000 in
set_option maxHeartbeats 2000000 in
theorem treePaths_walk (v0 v1 : Value) (x : ByteArray) (t : T.Tr) (w : World) (hg : Gl w) (r0 : strR.val w x v0) (r1 : (sliceR fileR).val w t v1) (hb : BdT t) : Calls Tryz.prog 5 #[v0, v1] w (Al (.bool true) w) := by
  obtain ⟨rfl, hx⟩ := val_str r0
  obtain ⟨A, c, rfl, hS⟩ := val_slice r1
  obtain ⟨n, hn⟩ : ∃ n, n = t.length := ⟨_, rfl⟩
  rw [← hn]
  have HAW := Lib.hid (awake_any w hg)
  have HFW := Lib.hid (fun W (h : Ext w W) => few_one t A n c W hn (hS.ext h) hb)
  have HP1 := Lib.hid (fun (hf : x.size ≤ 300) W (h : Ext w W) => path_at x W (by omega) (hg.ext h))
  have HP2 : Hid (∀ (_ : x.size ≤ 300) W, Calls Tryz.prog 28 #[.string x] W (Al (.int .i64 (pathErr (okB x))) W)) := fun hf W => refPath_any x W (by omega)
  have HC1 := Lib.hid (fun (hf : FewT t) W (h : Ext w W) => Check_any t A c n W hn (hS.ext h) hf.paths (hg.ext h))
  have HC2 := Lib.hid (fun (hf : FewT t) W (h : Ext w W) => rCheck_any t A c n W hn (hS.ext h) hf.paths9)
  generalize pathErr (okB x) = pe at HP1 HP2
  generalize T.checkE okB t = ce at HC1 HC2
  clear hn hS r0 r1 hg hb
  go_enter Tryz.func5, Tryz.ntmps5
  go_wp2_with fail
  refine HAW.out.mono ?_
  rintro e2 w2 ⟨rfl, d2⟩
  have HD2 := Lib.hid d2
  clear d2
  by_cases hbig : 300 < x.size
  · go_wp2_with fail
    go_ret
    exact ⟨rfl, HD2.out⟩
  have hxs : x.size ≤ 300 := by omega
  go_wp2_with fail
  refine (HFW.out _ HD2.out).mono ?_
  rintro e3 w3 ⟨d3, b, rfl, hb⟩
  have HD3 := Lib.hid (HD2.out.trans d3)
  clear d3 HD2
  cases b with
  | false =>
    clear hb
    go_wp2_with fail
    go_ret
    exact ⟨rfl, HD3.out⟩
  | true =>
    have HFO := Lib.hid (hb rfl)
    clear hb
    go_wp2_with fail
    refine (HP1.out hxs _ HD3.out).mono ?_
    rintro e4 w4 ⟨rfl, d4⟩
    have HD4 := Lib.hid (HD3.out.trans d4)
    clear d4 HD3
    go_wp2_with fail
    refine (HP2.out hxs _).mono ?_
    rintro e5 w5 ⟨rfl, d5⟩
    have HD5 := Lib.hid (HD4.out.trans d5)
    clear d5 HD4
    go_wp2_with fail
    refine (HC1.out HFO.out _ HD5.out).mono ?_
    rintro e6 w6 ⟨rfl, d6⟩
    have HD6 := Lib.hid (HD5.out.trans d6)
    clear d6 HD5
    go_wp2_with fail
    refine (HC2.out HFO.out _ HD6.out).mono ?_
    rintro e7 w7 ⟨rfl, d7⟩
    have HD7 := Lib.hid (HD6.out.trans d7)
    clear d7 HD6
    go_wp2_with fail
    go_ret
    exact ⟨rfl, HD7.out⟩

set_option maxRecDepth 100000 in
set_option maxHeartbeats 2000000 in
theorem treeDiffers_walk (v0 v1 : Value) (t s : T.Tr) (w : World) (hg : Gl w) (r0 : (sliceR fileR).val w t v0) (r1 : (sliceR fileR).val w s v1) (hb : BdT t) (hbs : BdT s) : Calls Tryz.prog 8 #[v0, v1] w (Al (.bool true) w) := by
  obtain ⟨A, c, rfl, hS⟩ := val_slice r0
  obtain ⟨B, d, rfl, hT⟩ := val_slice r1
  obtain ⟨n, hn⟩ : ∃ n, n = t.length := ⟨_, rfl⟩
  obtain ⟨m, hm⟩ : ∃ m, m = s.length := ⟨_, rfl⟩
  rw [← hn, ← hm]
  have HAW := Lib.hid (awake_any w hg)
  have HFW := Lib.hid (fun W (h : Ext w W) => few_two t s A B n c m d W hn (hS.ext h) hb hm (hT.ext h) hbs)
  have HD1 := Lib.hid (fun (hf : FewT t ∧ FewT s) W (h : Ext w W) => Differ_any t s A B c d n m W hn hm (hS.ext h) (hT.ext h) hf.1.paths hf.2.paths (hg.ext h))
  have HD2' := Lib.hid (fun (hf : FewT t ∧ FewT s) W (h : Ext w W) => rDiffer_any t s A B c d n m W hn hm (hS.ext h) (hT.ext h) hf.1.paths9 hf.2.paths9)
  have HZ := Lib.hid (differ_szC t s)
  generalize T.differE t s = Z at HD1 HD2' HZ
  obtain ⟨L, ze⟩ := Z
  clear hn hm hS hT r0 r1 hg hb hbs
  go_enter Tryz.func8, Tryz.ntmps8
  go_wp2_with fail
  refine HAW.out.mono ?_
  rintro e2 w2 ⟨rfl, d2⟩
  have HD2 := Lib.hid d2
  clear d2
  go_wp2_with fail
  refine (HFW.out _ HD2.out).mono ?_
  rintro e3 w3 ⟨d3, b, rfl, hb⟩
  have HD3 := Lib.hid (HD2.out.trans d3)
  clear d3 HD2
  cases b with
  | false =>
    clear hb
    go_wp2_with fail
    go_ret
    exact ⟨rfl, HD3.out⟩
  | true =>
    have HFO := Lib.hid (hb rfl)
    clear hb
    go_wp2_with fail
    refine (HD1.out HFO.out _ HD3.out).mono ?_
    intro e4 w4 hr
    obtain ⟨A4, n4, c4, rfl, hn4, hS4, d4⟩ := retCh_any hr HZ.out
    have HD4 := Lib.hid (HD3.out.trans d4)
    have HS4 := Lib.hid hS4
    have HN4 := Lib.hid hn4
    clear hr d4 hS4 hn4 HD3
    go_wp2_with fail
    refine (HD2'.out HFO.out _ HD4.out).mono ?_
    intro e5 w5 hr
    obtain ⟨A5, n5, c5, rfl, hn5, hS5, d5⟩ := retCh_any hr HZ.out
    have HD5 := Lib.hid (HD4.out.trans d5)
    have HEQ := Lib.hid (EqCh_any L L A4 A5 c4 c5 n4 n5 w5 HN4.out hn5 (HS4.out.ext d5) hS5)
    rw [decide_eq_true (rfl : L = L)] at HEQ
    clear hr d5 hS5 hn5 HD4
    go_wp2_with fail
    refine HEQ.out.mono ?_
    rintro e6 w6 ⟨rfl, d6⟩
    have HD6 := Lib.hid (HD5.out.trans d6)
    clear d6 HD5
    go_wp2_with fail
    go_ret
    exact ⟨rfl, HD6.out⟩
end Go.Proofs.YtclhbcicbnoohaaGreatDoor

/- slices.Equal of trees. -/
namespace Go.Proofs.YtclhbcicbnoohaaGreatDoor
open Go.RowKit

set_option maxRecDepth 100000 in
theorem EqTree_any (t s : T.Tr) (A B : Option Addr) (c c' n m : Nat) (w : World) (hn : n = t.length) (hm : m = s.length) (hA : SliceAt fileR w (Old w) A c t) (hB : SliceAt fileR w (Old w) B c' s) :
    Calls Tryz.prog 25 #[.slice A n c, .slice B m c'] w (Al (.bool (decide (t = s))) w) := by
  have hn63 : n ≤ 9223372036854775807 := by have := hA.1; have := hA.2.1; omega
  have hm63 : m ≤ 9223372036854775807 := by have := hB.1; have := hB.2.1; omega
  obtain ⟨R, hR⟩ : ∃ R, R = decide (t = s) := ⟨_, rfl⟩
  rw [← hR]
  have HR := Lib.hid hR
  have HN := Lib.hid hn
  have HM := Lib.hid hm
  have HA := Lib.hid hA
  have HB := Lib.hid hB
  clear hR hn hA hm hB
  by_cases hnm : n = m
  · subst hnm
    go_enter Tryz.func25, Tryz.ntmps25
    go_wp2_with fail
    go_loopw [13] (fun i wr => ∃ k : Nat, k ≤ n ∧ i = .int .i64 k ∧ Hid (t.take k = s.take k) ∧ Hid (Ext w wr)) (fun i _ => n - (intOf i).toNat)
    case atStart => exact ⟨0, Nat.zero_le _, rfl, rfl, Ext.refl _⟩
    case round =>
      obtain ⟨k, hk, rfl, HK, HX⟩ := hrel
      by_cases hlt : k < n
      · have hkl : k < t.length := by rw [← HN.out]; exact hlt
        have hll : k < s.length := by rw [← HM.out]; exact hlt
        obtain ⟨b, off, hAe, hb, ca0, ca1, za1, za2⟩ := file_get (HA.out.ext HX.out) hkl
        obtain ⟨b2, off2, hBe, hb2, cb0, cb1, zb1, zb2⟩ := file_get (HB.out.ext HX.out) hll
        subst hAe hBe
        rw [← Nat.add_assoc] at ca1 cb1
        have ht1 := List.take_succ_eq_append_getElem hkl
        have ht2 := List.take_succ_eq_append_getElem hll
        have HT1 := Lib.hid ht1
        have HT2 := Lib.hid ht2
        clear ht1 ht2
        generalize t[k] = f at *
        generalize s[k] = g at *
        obtain ⟨fp, fd⟩ := f
        obtain ⟨gp, gd⟩ := g
        simp only at ca0 ca1 cb0 cb1 za1 za2 zb1 zb2
        have hne := fun W => neq_file W fp fd gp gd
        by_cases he : fp = gp ∧ fd = gd
        · obtain ⟨rfl, rfl⟩ := he
          have hbb : ((fp.toList == fp.toList) && (fd.toList == fd.toList)) = true := by simp
          simp only [hbb, Bool.not_true] at hne
          clear hbb
          have HK2 : Hid (t.take (k + 1) = s.take (k + 1)) := by unfold Hid; rw [HT1.out, HT2.out, HK.out]
          go_wp2_with fail
          go_quiet (fail)
          go_wp2_with fail
          go_roundw
          case rel => exact ⟨k + 1, by omega, by go_num, HK2.out, HX.out.drewN _⟩
          case measure => simp [intOf]; omega
        · have hbb : ((fp.toList == gp.toList) && (fd.toList == gd.toList)) = false := by
            cases h : ((fp.toList == gp.toList) && (fd.toList == gd.toList)) with
            | false => rfl
            | true =>
              rw [Bool.and_eq_true] at h
              refine absurd ⟨?_, ?_⟩ he
              · have := h.1; rw [eq_dec] at this; exact bytes_of (of_decide_eq_true this)
              · have := h.2; rw [eq_dec] at this; exact bytes_of (of_decide_eq_true this)
          simp only [hbb, Bool.not_false] at hne
          clear hbb
          have HF : Hid (R = false) := by
            unfold Hid
            rw [HR.out]
            refine decide_eq_false fun e => he ?_
            have h1 := HT1.out
            rw [e, HT2.out, ← e, HK.out] at h1
            have h2 := List.append_cancel_left h1
            simp at h2
            exact ⟨h2.1.symm, h2.2.symm⟩
          go_wp2_with fail
          go_quiet (fail)
          go_wp2_with fail
          go_ret
          exact ⟨by rw [HF.out]; rfl, HX.out.drewN _⟩
      · obtain rfl : k = n := by omega
        have HT : Hid (R = true) := by
          have := HK.out
          rw [HN.out, List.take_length, ← HN.out, HM.out, List.take_length] at this
          unfold Hid
          rw [HR.out, this]
          simp
        go_wp2_with fail
        go_ret
        exact ⟨by rw [HT.out]; rfl, HX.out⟩
  · have HF : Hid (R = false) := by
      unfold Hid
      rw [HR.out]
      exact decide_eq_false fun e => hnm (by rw [HN.out, HM.out, e])
    have hd : ((n : Int) == (m : Int)) = false := by simp; omega
    have hd2 : (!((n : Int) == (m : Int))) = true := by rw [hd]; rfl
    go_enter Tryz.func25, Tryz.ntmps25
    go_wp2_with fail
    go_ret
    exact ⟨by rw [HF.out]; rfl, Ext.refl _⟩
end Go.Proofs.YtclhbcicbnoohaaGreatDoor
