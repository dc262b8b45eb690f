/- The texts Xd of the seat, joined. -/
import Derived.Test.YtclhbcicbnoohaaGreatDoorG18
/- The walk of TreeFiles. -/
namespace Go.Proofs.YtclhbcicbnoohaaGreatDoor
open Go.RowKit

theorem file_val {w : World} {v : Value} {f : T.File} (hs : ∃ cs, v = .agg cs) (h : fileR.val w f v) : v = .agg #[.string f.1, .string f.2] ∧ f.1.size ≤ 9223372036854775807 ∧ f.2.size ≤ 9223372036854775807 := by
  obtain ⟨cs, rfl⟩ := hs
  obtain ⟨h1, _⟩ := h
  obtain ⟨he, h2, h3⟩ := fileR_is h1
  have he : cs.toList = [.string f.1, .string f.2] := he
  refine ⟨?_, h2, h3⟩
  rw [show cs = cs.toList.toArray from Array.toArray_toList.symm, he]
theorem findV_form (t : T.Tr) (x : ByteArray) : ∃ s b, findV t x = .tuple #[.string s, .bool b] := by
  unfold findV
  split
  · exact ⟨_, _, rfl⟩
  · exact ⟨_, _, rfl⟩
/-- Same of trees that read alike. -/
theorem same_self (t : T.Tr) (A B : Option Addr) (c c' n m : Nat) (w : World) (hn : n = t.length) (hm : m = t.length) (hA : SliceAt fileR w (Old w) A c t) (hB : SliceAt fileR w (Old w) B c' t) :
    Calls Tryz.prog 21 #[.slice A n c, .slice B m c'] w (Al (.bool true) w) := by
  have := rSame_any t t A B c c' n m w hn hm hA hB
  rwa [decide_eq_true (rfl : t = t)] at this
theorem eq_self (t : T.Tr) (A B : Option Addr) (c c' n m : Nat) (w : World) (hn : n = t.length) (hm : m = t.length) (hA : SliceAt fileR w (Old w) A c t) (hB : SliceAt fileR w (Old w) B c' t) :
    Calls Tryz.prog 25 #[.slice A n c, .slice B m c'] w (Al (.bool true) w) := by
  have := EqTree_any t t A B c c' n m w hn hm hA hB
  rwa [decide_eq_true (rfl : t = t)] at this

set_option maxRecDepth 100000 in
set_option maxHeartbeats 8000000 in
theorem treeFiles_walk (v0 v1 v2 : Value) (t : T.Tr) (f : T.File) (x : ByteArray) (w : World) (hg : Gl w) (h1 : ∃ cs, v1 = .agg cs) (r0 : (sliceR fileR).val w t v0) (r1 : fileR.val w f v1) (r2 : strR.val w x v2) (hb : BdT t) :
    Calls Tryz.prog 3 #[v0, v1, v2] w (Al (.bool true) w) := by
  obtain ⟨A, c, rfl, hS⟩ := val_slice r0
  obtain ⟨rfl, hfp, hfd⟩ := file_val h1 r1
  obtain ⟨rfl, hx⟩ := val_str r2
  obtain ⟨n, hn⟩ : ∃ n, n = t.length := ⟨_, rfl⟩
  rw [← hn]
  obtain ⟨fp, fd⟩ := f
  simp only at hfp hfd
  simp only
  obtain ⟨fs, fb, hfv⟩ := findV_form t x
  have HAW := Lib.hid (fun W (h : Ext w W) => awake_any W (hg.ext h))
  have HFW := Lib.hid (fun W (h : Ext w W) => few_one t A n c W hn (hS.ext h) hb)
  have HF1 := Lib.hid (fun W (h : Ext w W) => Find_any t A c n x W hn (hS.ext h))
  have HF2 := Lib.hid (fun W (h : Ext w W) => rFind_any t A c n x W hn (hS.ext h))
  rw [hfv] at HF1 HF2
  have HP1 := Lib.hid (fun (hf : FewT t) (hp : fp.size ≤ 300) W (h : Ext w W) => Put_any t A c n fp fd W hn (hS.ext h) hf.paths (by omega) hfd (hg.ext h))
  have HP2 := Lib.hid (fun (hf : FewT t) (hp : fp.size ≤ 300) W (h : Ext w W) => rPut_any t A c n fp fd W hn (hS.ext h) hf.paths9 (by omega) hfd)
  have HPZ := Lib.hid (put_szF t (fp, fd))
  generalize T.putE okB t (fp, fd) = ZP at HP1 HP2 HPZ
  have HD1 := Lib.hid (fun (hf : FewT t) W (h : Ext w W) => Drop_any t A c n x W hn (hS.ext h) hf.paths (hg.ext h))
  have HD2' := Lib.hid (fun (hf : FewT t) W (h : Ext w W) => rDrop_any t A c n x W hn (hS.ext h) hf.paths9)
  have HDZ := Lib.hid (drop_szF t x.data.toList)
  generalize T.dropE okB t x.data.toList = ZD at HD1 HD2' HDZ
  have HM1 := Lib.hid (fun (hf : FewT t) (hp : x.size ≤ 300) W (h : Ext w W) => Mount_any t A c n x W hn (hS.ext h) hf.paths (by omega) (hg.ext h))
  have HM2 := Lib.hid (fun (hf : FewT t) (hp : x.size ≤ 300) W (h : Ext w W) => rMount_any t A c n x W hn (hS.ext h) hf.paths9 (by omega))
  have HMZ := Lib.hid (mount_szF t x)
  generalize T.mountE okB t x = ZM at HM1 HM2 HMZ
  have HU1 := Lib.hid (fun (hf : FewT t) (hp : x.size ≤ 300) W (h : Ext w W) => Under_any t A c n x W hn (hS.ext h) hf.paths (by omega) (hg.ext h))
  have HU2 := Lib.hid (fun (hf : FewT t) (hp : x.size ≤ 300) W (h : Ext w W) => rUnder_any t A c n x W hn (hS.ext h) hf.paths9 (by omega))
  have HUZ := Lib.hid (under_szF t x (SzF.of_slice hS))
  generalize T.underE okB t x = ZU at HU1 HU2 HUZ
  obtain ⟨PL, pe⟩ := ZP
  obtain ⟨DL, de⟩ := ZD
  obtain ⟨ML, me⟩ := ZM
  obtain ⟨W1, hW1⟩ : ∃ W1, W1 = w.alloc (.cells #[.string fp, .string fd] 25) := ⟨_, rfl⟩
  have a0 : W1.cell? ⟨w.heap.size, 0, none⟩ = some (.string fp) := by rw [hW1]; exact cell_new w #[.string fp, .string fd] 25 0
  have a1 : W1.cell? ⟨w.heap.size, 1, none⟩ = some (.string fd) := by rw [hW1]; exact cell_new w #[.string fp, .string fd] 25 1
  have X1 : Ext w W1 := by rw [hW1]; exact (Ext.refl w).alloc _
  have HX1 := Lib.hid X1
  have KA0 := Lib.hid a0
  have KA1 := Lib.hid a1
  clear hn hS hfv h1 r0 r1 r2 hg hb X1
  go_enter Tryz.func3, Tryz.ntmps3
  go_wp2_with fail
  rw [← hW1]
  clear hW1 a0 a1
  refine (HAW.out _ HX1.out).mono ?_
  rintro e2 w2 ⟨rfl, d2⟩
  have HD2 := Lib.hid d2
  clear d2
  go_wp2_with fail
  refine (HFW.out _ (HX1.out.trans HD2.out)).mono ?_
  rintro e3 w3 ⟨d3, b, rfl, hb⟩
  have HD3 := Lib.hid (HD2.out.trans d3)
  clear d3 HD2
  cases b with
  | false =>
    clear hb
    go_wp2_with fail
    go_ret
    exact ⟨rfl, HX1.out.trans HD3.out⟩
  | true =>
    have HFO := Lib.hid (hb rfl)
    have a0 := HD3.out.keepc KA0.out
    have a1 := HD3.out.keepc KA1.out
    clear hb
    by_cases hp3 : 300 < fp.size
    · go_wp2_with fail
      go_ret
      exact ⟨rfl, HX1.out.trans HD3.out⟩
    have hps : fp.size ≤ 300 := by omega
    have hway : (1000 < fd.size ∧ fd.size < 65536) ∨ 65538 < fd.size ∨ ¬ 1000 < fd.size ∨ (1000 < fd.size ∧ ¬ fd.size < 65536 ∧ ¬ 65538 < fd.size) := by omega
    rcases hway with ⟨hq1, hq2⟩ | hq | hq | ⟨hq1, hq2, hq3⟩
    · go_wp2_with fail
      go_ret
      exact ⟨rfl, HX1.out.trans HD3.out⟩
    · have hq1 : 1000 < fd.size := by omega
      have hq2 : ¬ fd.size < 65536 := by omega
      go_wp2_with fail
      go_ret
      exact ⟨rfl, HX1.out.trans HD3.out⟩
    all_goals (try have hq3 : ¬ 65538 < fd.size := by omega)
    all_goals
      by_cases hx3 : 300 < x.size
      · go_wp2_with fail
        go_ret
        exact ⟨rfl, HX1.out.trans HD3.out⟩
      have hxs : x.size ≤ 300 := by omega
      go_wp2_with fail
      refine (HF1.out _ (HX1.out.trans HD3.out)).mono ?_
      rintro e4 w4 ⟨rfl, d4⟩
      have HD4 := Lib.hid (HD3.out.trans d4)
      clear d4 a0 a1 HD3 HF1
      go_wp2_with fail
      refine (HF2.out _ (HX1.out.trans HD4.out)).mono ?_
      rintro e5 w5 ⟨rfl, d5⟩
      have HD5 := Lib.hid (HD4.out.trans d5)
      clear d5 HD4 HF2
      have a0 := HD5.out.keepc KA0.out
      have a1 := HD5.out.keepc KA1.out
      go_wp2_with fail
      refine (HP1.out HFO.out hps _ (HX1.out.trans HD5.out)).mono ?_
      intro e6 w6 hr
      obtain ⟨A6, n6, c6, rfl, hn6, hS6, d6⟩ := retTr_any hr HPZ.out
      have HD6 := Lib.hid (HD5.out.trans d6)
      have HS6 := Lib.hid hS6
      have HN6 := Lib.hid hn6
      clear hr d6 hS6 hn6 HD5 a0 a1 HP1
      have a0 := HD6.out.keepc KA0.out
      have a1 := HD6.out.keepc KA1.out
      go_wp2_with fail
      refine (HP2.out HFO.out hps _ (HX1.out.trans HD6.out)).mono ?_
      intro e7 w7 hr
      obtain ⟨A7, n7, c7, rfl, hn7, hS7, d7⟩ := retTr_any hr HPZ.out
      have HD7 := Lib.hid (HD6.out.trans d7)
      have HSM := Lib.hid (fun W (h : Ext w7 W) => same_self PL A6 A7 c6 c7 n6 n7 W HN6.out hn7 ((HS6.out.ext d7).ext h) (hS7.ext h))
      clear hr d7 hS7 hn7 HD6 a0 a1 HP2 HS6 HN6
      go_wp2_with fail
      refine (HD1.out HFO.out _ (HX1.out.trans HD7.out)).mono ?_
      intro e8 w8 hr
      obtain ⟨A8, n8, c8, rfl, hn8, hS8, d8⟩ := retTr_any hr HDZ.out
      have HD8 := Lib.hid (HD7.out.trans d8)
      have HE8 := Lib.hid d8
      have HS8 := Lib.hid hS8
      have HN8 := Lib.hid hn8
      clear hr d8 hS8 hn8 HD7 HD1
      go_wp2_with fail
      refine (HD2'.out HFO.out _ (HX1.out.trans HD8.out)).mono ?_
      intro e9 w9 hr
      obtain ⟨A9, n9, c9, rfl, hn9, hS9, d9⟩ := retTr_any hr HDZ.out
      have HD9 := Lib.hid (HD8.out.trans d9)
      have HE9 := Lib.hid (HE8.out.trans d9)
      have HSD := Lib.hid (fun W (h : Ext w9 W) => same_self DL A8 A9 c8 c9 n8 n9 W HN8.out hn9 ((HS8.out.ext d9).ext h) (hS9.ext h))
      clear hr d9 hS9 hn9 HD8 HD2' HS8 HN8 HE8
      go_wp2_with fail
      refine (HM1.out HFO.out hxs _ (HX1.out.trans HD9.out)).mono ?_
      intro e10 w10 hr
      obtain ⟨A10, n10, c10, rfl, hn10, hS10, d10⟩ := retTr_any hr HMZ.out
      have HD10 := Lib.hid (HD9.out.trans d10)
      have HE10 := Lib.hid d10
      have HS10 := Lib.hid hS10
      have HN10 := Lib.hid hn10
      clear hr d10 hS10 hn10 HD9 HM1
      go_wp2_with fail
      refine (HM2.out HFO.out hxs _ (HX1.out.trans HD10.out)).mono ?_
      intro e11 w11 hr
      obtain ⟨A11, n11, c11, rfl, hn11, hS11, d11⟩ := retTr_any hr HMZ.out
      have HD11 := Lib.hid (HD10.out.trans d11)
      have HE11 := Lib.hid (HE10.out.trans d11)
      have HSN := Lib.hid (fun W (h : Ext w11 W) => same_self ML A10 A11 c10 c11 n10 n11 W HN10.out hn11 ((HS10.out.ext d11).ext h) (hS11.ext h))
      clear hr d11 hS11 hn11 HD10 HM2 HS10 HN10 HE10
      go_wp2_with fail
      refine (HSM.out _ (HE9.out.trans HE11.out)).mono ?_
      rintro e12 w12 ⟨rfl, d12⟩
      have HD12 := Lib.hid (HD11.out.trans d12)
      have HE12 := Lib.hid d12
      clear d12 HD11 HSM
      go_wp2_with fail
      refine (HSD.out _ (HE11.out.trans HE12.out)).mono ?_
      rintro e13 w13 ⟨rfl, d13⟩
      have HD13 := Lib.hid (HD12.out.trans d13)
      have HE13 := Lib.hid (HE12.out.trans d13)
      clear d13 HD12 HE12 HSD
      go_wp2_with fail
      refine (HSN.out _ HE13.out).mono ?_
      rintro e14 w14 ⟨rfl, d14⟩
      have HD14 := Lib.hid (HD13.out.trans d14)
      clear d14 HD13 HE13 HSN
      go_wp2_with fail
      refine (HU1.out HFO.out hxs _ (HX1.out.trans HD14.out)).mono ?_
      intro e15 w15 hr
      obtain ⟨A15, n15, c15, rfl, hn15, hS15, d15⟩ := retT_any hr HUZ.out
      have HD15 := Lib.hid (HD14.out.trans d15)
      have HS15 := Lib.hid hS15
      have HN15 := Lib.hid hn15
      clear hr d15 hS15 hn15 HD14 HU1
      go_wp2_with fail
      refine (HU2.out HFO.out hxs _ (HX1.out.trans HD15.out)).mono ?_
      intro e16 w16 hr
      obtain ⟨A16, n16, c16, rfl, hn16, hS16, d16⟩ := retT_any hr HUZ.out
      have HD16 := Lib.hid (HD15.out.trans d16)
      have HSU := Lib.hid (same_self ZU A15 A16 c15 c16 n15 n16 w16 HN15.out hn16 (HS15.out.ext d16) hS16)
      clear hr d16 hS16 hn16 HD15 HU2 HS15 HN15
      go_wp2_with fail
      refine HSU.out.mono ?_
      rintro e17 w17 ⟨rfl, d17⟩
      have HD17 := Lib.hid (HD16.out.trans d17)
      clear d17 HD16 HSU
      go_wp2_with fail
      go_ret
      exact ⟨rfl, HX1.out.trans HD17.out⟩
end Go.Proofs.YtclhbcicbnoohaaGreatDoor
