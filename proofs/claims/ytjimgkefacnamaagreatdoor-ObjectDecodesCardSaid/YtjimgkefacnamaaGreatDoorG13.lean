/- The texts Dd Me Mf Pk Pkr Ua of the seat, joined. -/
import Derived.Test.YtjimgkefacnamaaGreatDoorG12
/- The reference's Decode. -/
namespace Go.Proofs.YtjimgkefacnamaaGreatDoor
open Go.RowKit Go.Maps Go.ChangeMaps

set_option maxRecDepth 100000 in
set_option maxHeartbeats 8000000 in
theorem rDecode_any (data : ByteArray) (w : World) (hds : data.size ≤ 9000000000000000000) :
    Calls Tryz.prog 24 #[.string data] w (RetObj w (C.decB okN data.data.toList)) := by
  have hdl : data.data.toList.length = data.size := by simp
  obtain ⟨R, hR⟩ : ∃ R, R = C.decB okN data.data.toList := ⟨_, rfl⟩
  rw [← hR]
  have HDL := Lib.hid hdl
  have FLong := Lib.hid (fun h => hR.trans (dec_long h))
  have FHead := Lib.hid (fun h => hR.trans (dec_head h))
  have FNone := Lib.hid (fun h => hR.trans (dec_none h))
  have FBad := Lib.hid (fun st o h he => hR.trans (dec_bad (st := st) (o := o) h he))
  have FGood := Lib.hid (fun st o hl h he hc => show R = some o from hR.trans (dec_good (st := st) (o := o) hl h he hc).1)
  have HSTEPS := Lib.hid (fun st2 st4 syms secs hw => obj_steps data.data.toList st2 st4 syms secs hw)
  clear hdl hR
  rcases Nat.lt_or_ge 65536 data.size with hbig | hbig
  · have HR := Lib.hid (FLong.out (by have := HDL.out; omega))
    go_enter Tryz.func24, Tryz.ntmps24
    go_wp2_with fail
    exact bodyPost_ret (v := .tuple #[.agg #[.slice none 0 0, .slice none 0 0], .int .i64 17]) (by simp [results, Tryz.results24, go_sem]) rfl (retObj_none HR.out (((Ext.refl w).alloc _).alloc _))
  obtain ⟨W0, hW0⟩ : ∃ W0, W0 = (((w.alloc (.cells #[.slice none 0 0, .slice none 0 0] 25)).alloc (.cells #[.slice none 0 0, .slice none 0 0] 25)).alloc (.cells #[.string data, .int .i64 0] 122)).alloc (.cells #[.slice none 0 0, .slice none 0 0] 25) := ⟨_, rfl⟩
  have hd0 : Rfx w (w.heap.size + 4) (.slice none 0 0) (.slice none 0 0) (some data.data.toList) W0 := by
    have e1 : (w.alloc (.cells #[.slice none 0 0, .slice none 0 0] 25)).heap.size = w.heap.size + 1 := by simp
    have e2 : ((w.alloc (.cells #[.slice none 0 0, .slice none 0 0] 25)).alloc (.cells #[.slice none 0 0, .slice none 0 0] 25)).heap.size = w.heap.size + 1 + 1 := by simp
    have e3 : (((w.alloc (.cells #[.slice none 0 0, .slice none 0 0] 25)).alloc (.cells #[.slice none 0 0, .slice none 0 0] 25)).alloc (.cells #[.string data, .int .i64 0] 122)).heap.size = w.heap.size + 1 + 1 + 1 := by simp
    have h1 := heap_alloc_new w (.cells #[.slice none 0 0, .slice none 0 0] 25)
    have h2 := heap_alloc_new (w.alloc (.cells #[.slice none 0 0, .slice none 0 0] 25)) (.cells #[.slice none 0 0, .slice none 0 0] 25)
    have h3 := heap_alloc_new ((w.alloc (.cells #[.slice none 0 0, .slice none 0 0] 25)).alloc (.cells #[.slice none 0 0, .slice none 0 0] 25)) (.cells #[.string data, .int .i64 0] 122)
    have h4 := heap_alloc_new (((w.alloc (.cells #[.slice none 0 0, .slice none 0 0] 25)).alloc (.cells #[.slice none 0 0, .slice none 0 0] 25)).alloc (.cells #[.string data, .int .i64 0] 122)) (.cells #[.slice none 0 0, .slice none 0 0] 25)
    rw [e1] at h2
    rw [e2] at h3
    rw [e3] at h4
    rw [hW0]
    refine ⟨⟨data, 0, ((Ext.refl _).alloc _).heap h3, hds, rfl, rfl⟩, ⟨_, _, ((((Ext.refl _).alloc _).alloc _).alloc _).heap h1⟩, (((Ext.refl _).alloc _).alloc _).heap h2, h4, ((((Ext.refl w).alloc _).alloc _).alloc _).alloc _, by omega, by simp⟩
  have HD0 := Lib.hid hd0
  have HW0 := Lib.hid hW0
  have HDS := Lib.hid hds
  clear hd0 hW0 hds
  go_enter Tryz.func24, Tryz.ntmps24
  go_wp2_with fail
  rw [← HW0.out]
  refine (Text_ar 6 6 rfl (by decide) (some data.data.toList) _ W0 HD0.out.1).mono ?_
  rintro e w1 ⟨rfl, h1, g1⟩
  have HD1 := Lib.hid (HD0.out.reader h1 g1)
  clear h1 g1
  obtain ⟨hd, hhd⟩ : ∃ hd, hd = (nT 6 (some data.data.toList)).1 := ⟨_, rfl⟩
  have hhl : hd.length ≤ 6 := by rw [hhd]; exact nT_len 6 _
  rw [← hhd] at FHead HSTEPS ⊢
  obtain ⟨st0, hst0⟩ : ∃ x, x = (nT 6 (some data.data.toList)).2 := ⟨_, rfl⟩
  rw [← hst0] at HD1 HSTEPS
  have HMB := Lib.hid (show (mkB hd).toList = hd by rw [ByteArray.toList_eq, mkB_data])
  obtain ⟨hb, hhb⟩ : ∃ hb, hb = mkB hd := ⟨_, rfl⟩
  rw [← hhb] at HMB ⊢
  clear hhd hst0 hhb hhl
  go_wp2_with fail
  refine (Number_rr 0 128 st0 _ w1 HD1.out.1).mono ?_
  rintro e w2 ⟨rfl, h2, g2⟩
  have hn0 := nN_range 0 128 (by decide) (by decide) st0
  obtain ⟨N0, hN0⟩ : ∃ N0 : Nat, (nN 0 128 st0).1 = (N0 : Int) := ⟨(nN 0 128 st0).1.toNat, by omega⟩
  have hd2 := HD1.out.reader h2 g2
  rw [hN0] at hn0 HSTEPS ⊢
  rw [Int.toNat_natCast] at HSTEPS
  obtain ⟨st1, hst1⟩ : ∃ x, x = (nN 0 128 st0).2 := ⟨_, rfl⟩
  rw [← hst1] at hd2 HSTEPS
  obtain ⟨X, hX⟩ : ∃ X, X = pMore C.pSym N0 st1 [] := ⟨_, rfl⟩
  rw [← hX] at HSTEPS
  have hN8 : N0 ≤ 128 := by omega
  have HST := Lib.hid (show Rfx w (w.heap.size + 4) (.slice none 0 0) (.slice none 0 0) st1 w2 ∧ OwnF symR w2 (w.heap.size + 4) 29 (.slice none 0 0) 0 [] ∧ pMore C.pSym N0 st1 [] = X ∧ Shorts [] from ⟨hd2, OwnF.nil _ _ _ _, hX.symm, fun _ h => by cases h⟩)
  clear h2 g2 hd2 hX hN0 hn0 hst1 HD0 HD1 HW0
  go_upto_block 0 with fail
  go_cut [9] (fun _ wx => ∃ (n : Nat) (A : Option Addr) (c : Nat) (st : Option C.Bs) (syms : List C.Sym), n ≤ 128 ∧ Hid (Rfx w (w.heap.size + 4) (.slice A n c) (.slice none 0 0) st wx ∧ OwnF symR wx (w.heap.size + 4) 29 (.slice A n c) n syms ∧ st.map (fun q => (syms, q)) = X ∧ Shorts syms))
  case first =>
    go_wp2_with fail
    go_loopw [9] (fun iv wr => ∃ (i n : Nat) (A : Option Addr) (c : Nat) (st : Option C.Bs) (syms : List C.Sym), iv = .int .i64 i ∧ i ≤ N0 ∧ n ≤ i ∧ Hid (Rfx w (w.heap.size + 4) (.slice A n c) (.slice none 0 0) st wr ∧ OwnF symR wr (w.heap.size + 4) 29 (.slice A n c) n syms ∧ pMore C.pSym (N0 - i) st syms = X ∧ Shorts syms)) (fun iv _ => N0 - (intOf iv).toNat)
    case atStart => exact ⟨0, 0, none, 0, st1, [], rfl, Nat.zero_le _, Nat.le_refl _, HST⟩
    case round =>
      clear HST
      obtain ⟨i, n, A, c, st, syms, rfl, hi, hni, HK⟩ := hrel
      obtain ⟨er, her, hst⟩ := HK.out.1.1.err
      by_cases hin : i < N0
      · rcases hst with ⟨hst, rfl⟩ | ⟨rfl, hst⟩
        · obtain ⟨j, hj⟩ : ∃ j, N0 - i = j + 1 := ⟨N0 - i - 1, by omega⟩
          have HJ := Lib.hid hj
          have hj2 : N0 - (i + 1) = j := by omega
          have HJ2 := Lib.hid hj2
          clear hst hj hj2
          have HP := Lib.hid HK.out.2.2.1
          have HF := Lib.hid HK.out.2.1
          have HSH := Lib.hid HK.out.2.2.2
          have HRB := Lib.hid HK.out.1.1.lt
          have HSY := Lib.hid (sym_steps st)
          have N1 := Lib.hid (fun W h => Text_ar 32 32 rfl (by decide) st (w.heap.size + 1 + 1) W h)
          have hl1 := nT_len 32 st
          have hs32 : (mkB (nT 32 st).1).size ≤ 32 := by rw [mkB_size]; exact hl1
          unfold RetT at N1
          obtain ⟨sy, hsy⟩ : ∃ x, x = mkB (nT 32 st).1 := ⟨_, rfl⟩
          obtain ⟨s1, hs1⟩ : ∃ x, x = (nT 32 st).2 := ⟨_, rfl⟩
          rw [← hsy] at N1 hs32 HSY
          rw [← hs1] at N1 HSY
          have N2 := Lib.hid (fun W h => Number_rr 0 3 s1 (w.heap.size + 1 + 1) W h)
          have hr2 := nN_range 0 3 (by decide) (by decide) s1
          unfold RetN at N2
          obtain ⟨md, hmd⟩ : ∃ x, x = (nN 0 3 s1).1 := ⟨_, rfl⟩
          obtain ⟨s2, hs2⟩ : ∃ x, x = (nN 0 3 s1).2 := ⟨_, rfl⟩
          rw [← hmd] at N2 HSY hr2
          rw [← hs2] at N2 HSY
          have N3 := Lib.hid (fun W h => Number_rr 0 128 s2 (w.heap.size + 1 + 1) W h)
          have hr3 := nN_range 0 128 (by decide) (by decide) s2
          unfold RetN at N3
          obtain ⟨q, hq⟩ : ∃ x, x = (nN 0 128 s2).1 := ⟨_, rfl⟩
          obtain ⟨s3, hs3⟩ : ∃ x, x = (nN 0 128 s2).2 := ⟨_, rfl⟩
          rw [← hq] at N3 HSY hr3
          rw [← hs3] at N3 HSY
          have HNX := Lib.hid ((pMore_step C.pSym j st s3 syms _ HSY.out).trans (HJ.out ▸ HP.out))
          have hwm : (Lit.int .i64 md).wf = true := wf_small (by omega)
          have hwq : (Lit.int .i64 (q - 1)).wf = true := wf_small (by omega)
          have RD := Lib.hid (HK.out.1.ext ((Ext.refl wr).alloc (.cells #[.string ⟨#[]⟩, .int .i64 0, .int .i64 0] 29)))
          have KB1 := Lib.hid ((KB.refl (w.heap.size + 4) wr).ext ((Ext.refl wr).alloc (.cells #[.string ⟨#[]⟩, .int .i64 0, .int .i64 0] 29)))
          have hbz : w.heap.size + 4 ≤ wr.heap.size := HK.out.1.2.2.2.2.2.2
          clear hl1 hsy hs1 hmd hs2 hq hs3 HK
          go_wp2_with fail
          refine (N1.out _ RD.out.1).mono ?_
          rintro e w7 ⟨rfl, h7, g7⟩
          have RD7 := Lib.hid (RD.out.reader h7 g7)
          have KB7 := Lib.hid (KB1.out.low g7 (by omega))
          have K7 := keep3 g7 (b := wr.heap.size) (by omega) (heap_alloc_new wr (.cells #[.string ⟨#[]⟩, .int .i64 0, .int .i64 0] 29))
          have HK7 := Lib.hid K7.1
          obtain ⟨_, ⟨k0, k1, k2⟩, f0, f1, f2⟩ := K7
          have RD7' := Lib.hid (RD7.out.set wr.heap.size 0 (.string sy) hbz)
          clear h7 g7
          go_wp2_with fail
          refine (N2.out _ RD7'.out.1).mono ?_
          rintro e w8 ⟨rfl, h8, g8⟩
          have RD8 := Lib.hid (RD7'.out.reader h8 g8)
          have KB8 := Lib.hid ((KB7.out.high wr.heap.size 0 (.string sy) (Nat.le_refl _)).low g8 (by omega))
          have K8 := keep3 g8 (b := wr.heap.size) (by omega) (heap3_set0 HK7.out (.string sy))
          have HK8 := Lib.hid K8.1
          clear k0 k1 k2 f0 f1 f2
          obtain ⟨_, ⟨k0, k1, k2⟩, f0, f1, f2⟩ := K8
          have RD8' := Lib.hid (RD8.out.set wr.heap.size 1 (.int .i64 md) hbz)
          clear h8 g8
          go_wp2_with fail
          refine (N3.out _ RD8'.out.1).mono ?_
          rintro e w9 ⟨rfl, h9, g9⟩
          have RD9 := Lib.hid (RD8'.out.reader h9 g9)
          have KB9 := Lib.hid ((KB8.out.high wr.heap.size 1 (.int .i64 md) (Nat.le_refl _)).low g9 (by omega))
          have K9 := keep3 g9 (b := wr.heap.size) (by omega) (heap3_set1 HK8.out (.int .i64 md))
          have HK9 := Lib.hid K9.1
          clear k0 k1 k2 f0 f1 f2
          obtain ⟨_, ⟨k0, k1, k2⟩, f0, f1, f2⟩ := K9
          clear h9 g9
          obtain ⟨W9, hW9⟩ : ∃ W9, W9 = w9.setCell ⟨wr.heap.size, 2, none⟩ (.int .i64 (q - 1)) := ⟨_, rfl⟩
          have RD9' : Hid (Rfx w (w.heap.size + 4) (.slice A n c) (.slice none 0 0) s3 W9) := by unfold Hid; rw [hW9]; exact RD9.out.set wr.heap.size 2 (.int .i64 (q - 1)) hbz
          have HF9 : Hid (OwnF symR W9 (w.heap.size + 4) 29 (.slice A n c) n syms) := by
            unfold Hid
            have hk := KB9.out.high wr.heap.size 2 (.int .i64 (q - 1)) (Nat.le_refl _)
            rw [hW9]
            exact HF.out.below hk.1 hk.2
          have HW9 := Lib.hid hW9
          have e0 := RD9'.out.fld0
          rw [hW9] at e0
          obtain ⟨e0, e00⟩ := e0
          obtain ⟨i1, hi1, hz10, hz11, hz12⟩ := info_parts sym_info
          obtain ⟨hnn, xs, hoa, hfl⟩ := HF9.out
          have HNN := Lib.hid hnn
          have HOA := Lib.hid hoa
          have HFL := Lib.hid hfl
          have hbz9 : w.heap.size + 4 ≤ W9.heap.size := RD9'.out.2.2.2.2.2.2
          have E9 : Ext W9 (W9.alloc (.cells #[.string sy, .int .i64 md, .int .i64 (q - 1)] 29)) := (Ext.refl W9).alloc _
          have HE9 := Lib.hid E9
          have hoaE := hoa.ext E9
          have hz9 : W9.heap.size = w9.heap.size := by rw [hW9]; simp [World.setCell]
          rw [hW9] at hoaE hbz9
          have HEL : Hid (symR.is (W9.alloc (.cells #[.string sy, .int .i64 md, .int .i64 (q - 1)] 29)) (Bl (W9.alloc (.cells #[.string sy, .int .i64 md, .int .i64 (q - 1)] 29)) (w.heap.size + 4) (.slice A n c)) ((sy, md, q - 1) : C.Sym) [.string sy, .int .i64 md, .int .i64 (q - 1)]) :=
            ⟨[.string sy], [.int .i64 md, .int .i64 (q - 1)], rfl, ⟨rfl, by show sy.size ≤ _; omega⟩, [.int .i64 md], [.int .i64 (q - 1)], rfl, ⟨rfl, hwm⟩, rfl, hwq⟩
          clear hW9 hnn hfl E9 hoa hz9
          go_wp2_with (at_builtin; (refine wpList_append_ownAt _ rfl (.tmp 46) (.tmp 48) 22 rfl (w.heap.size + 4) 29 i1 (.agg #[.string ⟨#[]⟩, .int .i64 0, .int .i64 0]) 3 32 Tryz.underlying22 hi1 hz10 hz11 hz12 rfl (by decide) _ _ _ rfl hoaE ⟨w9.heap.size, 0, none⟩ 1 1 [.string sy, .int .i64 md, .int .i64 (q - 1)] rfl rfl (cells_new_list (w9.setCell ⟨wr.heap.size, 2, none⟩ (.int .i64 (q - 1))) [.string sy, .int .i64 md, .int .i64 (q - 1)] 29 _ (by simp)) (by intro u hu; simp at hu; rcases hu with rfl | rfl | rfl <;> rfl) (by unfold maxLen; omega) (by omega) (by simp at hbz9 ⊢; omega) (by decide) ?_); intro v' w10 hown' hgrow _ hloc; rw [← HW9.out] at hgrow hloc; have hpu := rfx_push (r := symR) (a := ((sy, md, q - 1) : C.Sym)) RD9'.out HNN.out HOA.out HFL.out (Nat.le_refl _) HE9.out HEL.out hown' hgrow hloc; obtain ⟨A3, c3, rfl⟩ := own_form2 hown'; have HPD := Lib.hid hpu.1; have HPF := Lib.hid hpu.2; obtain ⟨f10, f11⟩ := hpu.1.fld0; clear hown' hgrow hloc hpu)
          exact ⟨⟨i + 1, n + 1, A3, c3, s3, syms ++ [(sy, md, q - 1)], by go_num, by omega, by omega, HPD.out.set0 _, HPF.out.grownLow (grown_set _ _ _ _) (by omega), by rw [HJ2.out]; exact HNX.out, HSH.out.push hs32⟩, by simp [intOf]; omega⟩
        · go_wp2_with fail
          go_meet
          exact ⟨n, A, c, none, syms, by omega, HK.out.1, HK.out.2.1, pMore_or HK.out.2.2.1 (.inr rfl), HK.out.2.2.2⟩
      · go_wp2_with fail
        go_meet
        exact ⟨n, A, c, st, syms, by omega, HK.out.1, HK.out.2.1, pMore_or HK.out.2.2.1 (.inl (by omega)), HK.out.2.2.2⟩
  case rest =>
    clear HST hN8
    obtain ⟨n, A, c, st, syms, hn, hcut⟩ := hcut
    have HD := Lib.hid hcut.out.1
    have HF := Lib.hid hcut.out.2.1
    have HXE := Lib.hid hcut.out.2.2.1
    have HSH := Lib.hid hcut.out.2.2.2
    clear hcut
    go_wp2_with fail
    refine (Number_rr 0 128 st _ _ HD.out.1).mono ?_
    rintro e w6 ⟨rfl, h6, g6⟩
    have HD6 := Lib.hid (HD.out.reader h6 g6)
    have HF6 := Lib.hid (HF.out.grownLow g6 (by omega))
    have hn0 := nN_range 0 128 (by decide) (by decide) st
    have hsteps := fun st4 secs hw => HSTEPS.out st st4 syms secs hw HXE.out
    obtain ⟨N1, hN1⟩ : ∃ N1 : Nat, (nN 0 128 st).1 = (N1 : Int) := ⟨(nN 0 128 st).1.toNat, by omega⟩
    rw [hN1] at hn0 hsteps ⊢
    rw [Int.toNat_natCast] at hsteps
    obtain ⟨st2, hst2⟩ : ∃ x, x = (nN 0 128 st).2 := ⟨_, rfl⟩
    rw [← hst2] at HD6 hsteps
    obtain ⟨Y, hY⟩ : ∃ Y, Y = pMore (C.pSec syms) N1 st2 [] := ⟨_, rfl⟩
    rw [← hY] at hsteps
    have HSTP := Lib.hid hsteps
    have hN8 : N1 ≤ 128 := by omega
    obtain ⟨base, hbase⟩ : ∃ base, base = w6.heap.size := ⟨_, rfl⟩
    have hob6 : w.heap.size + 4 ≤ base := by rw [hbase]; exact HD6.out.2.2.2.2.2.2
    have hsl : SliceAt symR w6 (fun k => w.heap.size + 4 ≤ k ∧ k < base) A c syms := by
      obtain ⟨A', c', h1, h2⟩ := HF6.out.slice
      cases h1
      rw [hbase]
      exact h2
    have HNS := Lib.hid HF6.out.1
    have FN2 : Hid (Y = none → R = none) := fun hy => by
      by_cases hw : hd = C.wObject
      · exact FNone.out ((HSTP.out none [] hw (by rw [hy]; rfl)).symm)
      · exact FHead.out hw
    have HST := Lib.hid (show Rfx w (w.heap.size + 4) (.slice A n c) (.slice none 0 0) st2 w6 ∧ SliceAt symR w6 (fun k => w.heap.size + 4 ≤ k ∧ k < base) A c syms ∧ OwnF secR w6 base 85 (.slice none 0 0) 0 [] ∧ pMore (C.pSec syms) N1 st2 [] = Y ∧ base ≤ w6.heap.size
      from ⟨HD6.out, hsl, OwnF.nil _ _ _ _, hY.symm, by rw [hbase]; exact Nat.le_refl _⟩)
    clear hsl h6 g6 hY hN1 hn0 hst2 hsteps hbase HD HF HD6 HF6
    go_upto_block 2 with fail
    go_cut [11] (fun _ wx => ∃ (m : Nat) (B : Option Addr) (d : Nat) (st4 : Option C.Bs) (secs : List C.Sec), m ≤ 128 ∧ Hid (Rfx w (w.heap.size + 4) (.slice A n c) (.slice B m d) st4 wx ∧ SliceAt symR wx (fun k => w.heap.size + 4 ≤ k ∧ k < base) A c syms ∧ OwnF secR wx base 85 (.slice B m d) m secs ∧ st4.map (fun q => (secs, q)) = Y ∧ base ≤ wx.heap.size))
    case first =>
      go_wp2_with fail
      go_loopw [11] (fun iv wr => ∃ (i m : Nat) (B : Option Addr) (d : Nat) (st : Option C.Bs) (secs : List C.Sec), iv = .int .i64 i ∧ i ≤ N1 ∧ m ≤ i ∧ Hid (Rfx w (w.heap.size + 4) (.slice A n c) (.slice B m d) st wr ∧ SliceAt symR wr (fun k => w.heap.size + 4 ≤ k ∧ k < base) A c syms ∧ OwnF secR wr base 85 (.slice B m d) m secs ∧ pMore (C.pSec syms) (N1 - i) st secs = Y ∧ base ≤ wr.heap.size)) (fun iv _ => N1 - (intOf iv).toNat)
      case atStart => exact ⟨0, 0, none, 0, st2, [], rfl, Nat.zero_le _, Nat.le_refl _, HST⟩
      case round =>
        clear HST
        obtain ⟨i, m, B, d, st, secs, rfl, hi, hmi, HK⟩ := hrel
        obtain ⟨er, her, hst⟩ := HK.out.1.1.err
        by_cases hin : i < N1
        · rcases hst with ⟨hst, rfl⟩ | ⟨rfl, hst⟩
          · obtain ⟨j, hj⟩ : ∃ j, N1 - i = j + 1 := ⟨N1 - i - 1, by omega⟩
            have HJ := Lib.hid hj
            have hj2 : N1 - (i + 1) = j := by omega
            have HJ2 := Lib.hid hj2
            clear hst hj hj2
            have HP := Lib.hid HK.out.2.2.2.1
            have HSS := Lib.hid HK.out.2.1
            have HFS := Lib.hid HK.out.2.2.1
            have HBZ := Lib.hid HK.out.2.2.2.2
            have hbz : w.heap.size + 4 ≤ wr.heap.size := HK.out.1.2.2.2.2.2.2
            have HSEC := Lib.hid (fun o rs => sec_steps syms st o rs)
            have hkd := nN_range 0 2 (by decide) (by decide) st
            have hdl := nT_len 8192 (nN 0 2 st).2
            have hdd : (mkB (nT 8192 (nN 0 2 st).2).1).size ≤ 8192 := by rw [mkB_size]; exact hdl
            have Q1 := Lib.hid (fun W h => Number_rr 0 2 st (w.heap.size + 1 + 1) W h)
            have Q2 := Lib.hid (fun W h => Text_ar 8192 8192 rfl (by decide) (nN 0 2 st).2 (w.heap.size + 1 + 1) W h)
            have Q3 := Lib.hid (fun W h => Number_rr 0 8192 (nT 8192 (nN 0 2 st).2).2 (w.heap.size + 1 + 1) W h)
            have hk3 := nN_range 0 8192 (by decide) (by decide) (nT 8192 (nN 0 2 st).2).2
            unfold RetN at Q1 Q3
            unfold RetT at Q2
            obtain ⟨N3, hN3⟩ : ∃ N3 : Nat, (nN 0 8192 (nT 8192 (nN 0 2 st).2).2).1 = (N3 : Int) := ⟨(nN 0 8192 (nT 8192 (nN 0 2 st).2).2).1.toNat, by omega⟩
            rw [hN3] at Q3 HSEC hk3
            rw [Int.toNat_natCast] at HSEC
            obtain ⟨st5, hst5⟩ : ∃ x, x = (nN 0 8192 (nT 8192 (nN 0 2 st).2).2).2 := ⟨_, rfl⟩
            rw [← hst5] at Q3 HSEC
            generalize mkB (nT 8192 (nN 0 2 st).2).1 = dd at hdd Q2 HSEC
            generalize (nT 8192 (nN 0 2 st).2).2 = st4 at Q2 Q3 hN3 hst5
            obtain ⟨kd, hkk⟩ : ∃ x, x = (nN 0 2 st).1 := ⟨_, rfl⟩
            rw [← hkk] at hkd Q1 HSEC
            generalize (nN 0 2 st).2 = st3 at Q1 Q2
            obtain ⟨X3, hX3⟩ : ∃ X3, X3 = pMore (C.pRel syms) N3 st5 [] := ⟨_, rfl⟩
            rw [← hX3] at HSEC
            have HX3 := Lib.hid hX3
            have hN3b : N3 ≤ 8192 := by omega
            have HKD := Lib.hid (show 0 ≤ kd ∧ kd ≤ 2 from ⟨hkd.1, hkd.2.1⟩)
            have HDD := Lib.hid hdd
            have RD := Lib.hid (HK.out.1.ext ((Ext.refl wr).alloc (.cells #[.int .i64 0, .string ⟨#[]⟩, .slice none 0 0] 85)))
            have KB1 := Lib.hid ((KB.refl (w.heap.size + 4) wr).ext ((Ext.refl wr).alloc (.cells #[.int .i64 0, .string ⟨#[]⟩, .slice none 0 0] 85)))
            clear hX3 hkk hst5 hN3 hkd hdl hdd hk3 HK
            go_wp2_with fail
            refine (Q1.out _ RD.out.1).mono ?_
            rintro e w7 ⟨rfl, h7, g7⟩
            have RD7 := Lib.hid (RD.out.reader h7 g7)
            have KB7 := Lib.hid (KB1.out.low g7 (by omega))
            have K7 := keep3 g7 (b := wr.heap.size) (by omega) (heap_alloc_new wr (.cells #[.int .i64 0, .string ⟨#[]⟩, .slice none 0 0] 85))
            have HK7 := Lib.hid K7.1
            obtain ⟨_, ⟨k0, k1, k2⟩, f0, f1, f2⟩ := K7
            have RD7' := Lib.hid (RD7.out.set wr.heap.size 0 (.int .i64 kd) hbz)
            clear h7 g7
            go_wp2_with fail
            refine (Q2.out _ RD7'.out.1).mono ?_
            rintro e w8 ⟨rfl, h8, g8⟩
            have RD8 := Lib.hid (RD7'.out.reader h8 g8)
            have KB8 := Lib.hid ((KB7.out.high wr.heap.size 0 (.int .i64 kd) (Nat.le_refl _)).low g8 (by omega))
            have K8 := keep3 g8 (b := wr.heap.size) (by omega) (heap3_set0 HK7.out (.int .i64 kd))
            have HK8 := Lib.hid K8.1
            clear k0 k1 k2 f0 f1 f2
            obtain ⟨_, ⟨k0, k1, k2⟩, f0, f1, f2⟩ := K8
            have RD8' := Lib.hid (RD8.out.set wr.heap.size 1 (.string dd) hbz)
            clear h8 g8
            go_wp2_with fail
            refine (Q3.out _ RD8'.out.1).mono ?_
            rintro e w9 ⟨rfl, h9, g9⟩
            have RD9 := Lib.hid (RD8'.out.reader h9 g9)
            have KB9 := Lib.hid ((KB8.out.high wr.heap.size 1 (.string dd) (Nat.le_refl _)).low g9 (by omega))
            have K9 := keep3 g9 (b := wr.heap.size) (by omega) (heap3_set1 HK8.out (.string dd))
            have HK9 := Lib.hid K9.1
            clear k0 k1 k2 f0 f1 f2 K9 h9 g9
            obtain ⟨base3, hb3⟩ : ∃ b, b = w9.heap.size := ⟨_, rfl⟩
            have HS0 := Lib.hid (show SecR w wr base3 (.slice A n c) (.slice B m d) st5 kd dd none 0 0 [] w9 ∧ pMore (C.pRel syms) N3 st5 [] = X3 from
              ⟨⟨RD9.out, KB9.out, HK9.out, OwnF.nil _ _ _ _, by rw [hb3]; exact (Array.getElem?_eq_some_iff.1 HK9.out).1, by rw [hb3]; exact Nat.le_refl _⟩, HX3.out.symm⟩)
            clear hb3
            go_upto_block 4 with fail
            go_cut [14] (fun _ wx => ∃ (nr : Nat) (A2 : Option Addr) (c2 : Nat) (st6 : Option C.Bs) (rs : List C.Rel), nr ≤ 8192 ∧ Hid (SecR w wr base3 (.slice A n c) (.slice B m d) st6 kd dd A2 nr c2 rs wx ∧ st6.map (fun q => (rs, q)) = X3))
            case first =>
              obtain ⟨WO, rfl⟩ : ∃ W, W = wr := ⟨wr, rfl⟩
              go_wp2_with fail
              go_loopw [14] (fun jv V => ∃ (a nr : Nat) (A2 : Option Addr) (c2 : Nat) (st6 : Option C.Bs) (rs : List C.Rel), jv = .int .i64 a ∧ a ≤ N3 ∧ nr ≤ a ∧ Hid (SecR w WO base3 (.slice A n c) (.slice B m d) st6 kd dd A2 nr c2 rs V ∧ pMore (C.pRel syms) (N3 - a) st6 rs = X3)) (fun jv _ => N3 - (intOf jv).toNat)
              case atStart => exact ⟨0, 0, none, 0, st5, [], rfl, Nat.zero_le _, Nat.le_refl _, HS0⟩
              case round =>
                clear HS0
                obtain ⟨a, nr, A2, c2, st6, rs, rfl, ha, hna, HM⟩ := hrel
                obtain ⟨er, her, hst⟩ := HM.out.1.1.1.err
                by_cases hin2 : a < N3
                · rcases hst with ⟨hst, rfl⟩ | ⟨rfl, hst⟩
                  · obtain ⟨j3, hj3⟩ : ∃ j3, N3 - a = j3 + 1 := ⟨N3 - a - 1, by omega⟩
                    have HJ3 := Lib.hid hj3
                    have hj4 : N3 - (a + 1) = j3 := by omega
                    have HJ4 := Lib.hid hj4
                    clear hst hj3 hj4
                    have HMP := Lib.hid HM.out.2
                    have HM1 := Lib.hid HM.out.1
                    have P1 := Lib.hid (fun W h => Number_rr 0 8192 st6 (w.heap.size + 1 + 1) W h)
                    have P2 := Lib.hid (fun W h => Number_rr 0 128 (nN 0 8192 st6).2 (w.heap.size + 1 + 1) W h)
                    have h1r := nN_range 0 8192 (by decide) (by decide) st6
                    have h2r := nN_range 0 128 (by decide) (by decide) (nN 0 8192 st6).2
                    have HREL := Lib.hid (fun s hs => rel_steps syms st6 (s := s) hs)
                    have HNO := Lib.hid (fun hs => rel_steps_no syms st6 hs)
                    unfold RetN at P1 P2
                    obtain ⟨kk, hkk⟩ : ∃ x : Nat, (nN 0 128 (nN 0 8192 st6).2).1 = (x : Int) := ⟨(nN 0 128 (nN 0 8192 st6).2).1.toNat, by omega⟩
                    rw [hkk] at P2 h2r HREL HNO
                    rw [Int.toNat_natCast] at HREL HNO
                    obtain ⟨s8, hs8⟩ : ∃ x, x = (nN 0 128 (nN 0 8192 st6).2).2 := ⟨_, rfl⟩
                    rw [← hs8] at P2 HREL
                    clear hkk hs8
                    generalize (nN 0 8192 st6).2 = s7 at P1 P2
                    obtain ⟨at1, hat1⟩ : ∃ x, x = (nN 0 8192 st6).1 := ⟨_, rfl⟩
                    rw [← hat1] at P1 h1r HREL
                    have hwa : (Lit.int .i64 at1).wf = true := wf_small (by omega)
                    have RE := Lib.hid (HM.out.1.1.ext ((Ext.refl wr).alloc (.cells #[.int .i64 0, .string ⟨#[]⟩] 87)))
                    have KE := Lib.hid ((KB.refl (w.heap.size + 4) wr).ext ((Ext.refl wr).alloc (.cells #[.int .i64 0, .string ⟨#[]⟩] 87)))
                    have hyz : w.heap.size + 4 ≤ wr.heap.size := HM.out.1.1.2.2.2.2.2.2
                    clear hat1 HM
                    go_wp2_with fail
                    refine (P1.out _ RE.out.1).mono ?_
                    rintro e w10 ⟨rfl, h10, g10⟩
                    have RE10 := Lib.hid (RE.out.reader h10 g10)
                    have KE10 := Lib.hid (KE.out.low g10 (by omega))
                    have y10 := (g10.block wr.heap.size (by simp) fun e => by have := Option.some.inj e; omega).trans (heap_alloc_new wr (.cells #[.int .i64 0, .string ⟨#[]⟩] 87))
                    have HY10 := Lib.hid y10
                    obtain ⟨⟨k0, k1⟩, f0, f1⟩ := at2 y10
                    have RE10' := Lib.hid (RE10.out.set wr.heap.size 0 (.int .i64 at1) hyz)
                    clear h10 g10 y10
                    go_wp2_with fail
                    refine (P2.out _ RE10'.out.1).mono ?_
                    rintro e w11 ⟨rfl, h11, g11⟩
                    have RE11 := Lib.hid (RE10'.out.reader h11 g11)
                    have KE11 := Lib.hid ((KE10.out.high wr.heap.size 0 (.int .i64 at1) (Nat.le_refl _)).low g11 (by omega))
                    have y11 := (g11.block wr.heap.size (by have := (Array.getElem?_eq_some_iff.1 HY10.out).1; simpa [World.setCell] using this) fun e => by have := Option.some.inj e; omega).trans (heap_set0 HY10.out (.int .i64 at1))
                    have HY11 := Lib.hid y11
                    clear k0 k1 f0 f1
                    obtain ⟨⟨k0, k1⟩, f0, f1⟩ := at2 y11
                    obtain ⟨e0, _⟩ := RE11.out.fld0
                    clear h11 g11 y11
                    by_cases hkn : kk < n
                    · have HS11 := Lib.hid (KB.range (HM1.out.2.1.trans KE11.out) (Nat.le_refl _) HBZ.out HSS.out)
                      obtain ⟨b, off, nm, mq, qq, rfl, hB, hgs, hns, hcs⟩ := sym_getB HS11.out (k := kk) (by have := HNS.out; omega)
                      have HB := Lib.hid hB
                      have HNX := Lib.hid ((pMore_step (C.pRel syms) j3 st6 s8 rs _ (HREL.out _ hgs)).trans (HJ3.out ▸ HMP.out))
                      have hxb := HM1.out.2.2.2.2.1
                      have X11 := Lib.hid (KE11.out.heap hbz HM1.out.2.2.1)
                      obtain ⟨W12, hW12⟩ : ∃ W, W = w11.setCell ⟨wr.heap.size, 1, none⟩ (.string nm) := ⟨_, rfl⟩
                      have hxy : WO.heap.size < wr.heap.size := (Array.getElem?_eq_some_iff.1 HM1.out.2.2.1).1
                      have RE12 : Hid (Rfx w (w.heap.size + 4) (.slice (some ⟨b, off, none⟩) n c) (.slice B m d) s8 W12) := by unfold Hid; rw [hW12]; exact RE11.out.set wr.heap.size 1 (.string nm) hyz
                      have KE12 : Hid (KB (w.heap.size + 4) wr W12) := by unfold Hid; rw [hW12]; exact KE11.out.high wr.heap.size 1 (.string nm) (Nat.le_refl _)
                      have X12 := Lib.hid (KE12.out.heap hbz HM1.out.2.2.1)
                      have HF12 := Lib.hid (KB.own KE12.out (show w.heap.size + 4 ≤ base3 by omega) HM1.out.2.2.2.1)
                      obtain ⟨hnn, xs, hoa, hfl⟩ := HF12.out
                      have HNN := Lib.hid hnn
                      have HOA := Lib.hid hoa
                      have HFL := Lib.hid hfl
                      have HLOW := Lib.hid (own_low hoa)
                      have E13 : Ext W12 (W12.alloc (.cells #[.int .i64 at1, .string nm] 87)) := (Ext.refl W12).alloc _
                      have HE13 := Lib.hid E13
                      have hoaE := hoa.ext E13
                      have hb3 : base3 ≤ W12.heap.size := Nat.le_trans HM1.out.2.2.2.2.2 KE12.out.1
                      obtain ⟨⟨_, _, z2⟩, _⟩ := at3 X12.out
                      obtain ⟨i1, hi1, hz10, hz11, hz12⟩ := info_parts rel_info
                      have HEL : Hid (relR.is (W12.alloc (.cells #[.int .i64 at1, .string nm] 87)) (Bl (W12.alloc (.cells #[.int .i64 at1, .string nm] 87)) base3 (.slice A2 nr c2)) ((at1, nm) : C.Rel) [.int .i64 at1, .string nm]) :=
                        ⟨[.int .i64 at1], [.string nm], rfl, ⟨rfl, hwa⟩, rfl, hns⟩
                      have HW12 := Lib.hid hW12
                      rw [hW12] at hoaE hb3 z2
                      clear hW12 hnn hoa hfl hgs hB E13
                      go_wp2_with (at_builtin; (refine wpList_append_ownAt _ rfl (.tmp 96) (.tmp 98) 83 rfl base3 87 i1 (.agg #[.int .i64 0, .string ⟨#[]⟩]) 2 24 Tryz.underlying83 hi1 hz10 hz11 hz12 rfl (by decide) _ _ _ rfl hoaE ⟨w11.heap.size, 0, none⟩ 1 1 [.int .i64 at1, .string nm] rfl rfl (cells_new_list (w11.setCell ⟨wr.heap.size, 1, none⟩ (.string nm)) [.int .i64 at1, .string nm] 87 _ (by simp)) (by intro u hu; simp at hu; rcases hu with rfl | rfl <;> rfl) (by unfold maxLen; omega) (by omega) (by simp at hb3 ⊢; omega) (by decide) ?_); intro v' w13 hown' hgrow _ hloc; rw [← HW12.out] at hgrow hloc; have hpu := rfx_push (r := relR) (a := ((at1, nm) : C.Rel)) RE12.out HNN.out HOA.out HFL.out (show w.heap.size + 4 ≤ base3 by omega) HE13.out HEL.out hown' hgrow hloc; obtain ⟨A3, c3, rfl⟩ := own_form2 hown'; have HPD := Lib.hid hpu.1; have HPF := Lib.hid hpu.2; have HGR := Lib.hid hgrow; have X13 := Lib.hid ((hgrow.block WO.heap.size (Array.getElem?_eq_some_iff.1 (HE13.out.heap X12.out)).1 (fun e => by have := HLOW.out _ e.symm; omega)).trans (HE13.out.heap X12.out)); obtain ⟨⟨_, _, m2⟩, _, _, p2⟩ := at3 X13.out; clear hown' hgrow hloc hpu)
                      have hfin : SecR w WO base3 (.slice (some ⟨b, off, none⟩) n c) (.slice B m d) s8 kd dd A3 (nr + 1) c3 (rs ++ [(at1, nm)]) (w13.setCell ⟨WO.heap.size, 2, none⟩ (.slice A3 (nr + 1) c3)) :=
                        ⟨HPD.out.set _ _ _ hbz, (((HM1.out.2.1.trans KE12.out).ext HE13.out).step HGR.out fun k e => .inr (by have := HLOW.out k e; omega)).high _ _ _ (Nat.le_refl _), heap_set2 X13.out _, HPF.out.grownLow (grown_set _ _ _ _) hxb, hxb, by
                          have h1 := HM1.out.2.2.2.2.2
                          have h2 := KE12.out.1
                          have h3 := HE13.out.size
                          have h4 := HGR.out.size
                          have h5 := (grown_set w13 WO.heap.size 2 (.slice A3 (nr + 1) c3)).size
                          omega⟩
                      exact ⟨⟨a + 1, nr + 1, A3, c3, s8, rs ++ [(at1, nm)], by go_num, by omega, by omega, hfin, by rw [HJ4.out]; exact HNX.out⟩, by simp [intOf]; omega⟩
                    · have HX := Lib.hid (show X3 = none by rw [← HMP.out, HJ3.out]; exact pMore_stop (HNO.out (List.getElem?_eq_none (by have := HNS.out; omega))))
                      have HR := Lib.hid (FN2.out (by
                        have h1 := HSEC.out none [] (by rw [HX.out]; rfl)
                        rw [← HP.out, HJ.out]
                        exact pMore_stop h1.symm))
                      obtain ⟨n0, n1⟩ := RE11.out.non
                      obtain ⟨x, y, ⟨t0, q0⟩, t1, q1⟩ := RE11.out.res
                      go_wp2_with fail
                      exact bodyPost_ret (v := .tuple #[.agg #[.slice none 0 0, .slice none 0 0], .int .i64 17]) (by simp [results, Tryz.results24, go_sem, t0, t1]) rfl (retObj_none HR.out ((RE11.out.2.2.2.2.1.setCell (p := ⟨w.heap.size, 0, none⟩) (Nat.le_refl _) _).setCell (p := ⟨w.heap.size, 1, none⟩) (Nat.le_refl _) _))
                  · go_wp2_with fail
                    go_meet
                    exact ⟨nr, A2, c2, none, rs, by omega, HM.out.1, pMore_or HM.out.2 (.inr rfl)⟩
                · go_wp2_with fail
                  go_meet
                  exact ⟨nr, A2, c2, st6, rs, by omega, HM.out.1, pMore_or HM.out.2 (.inl (by omega))⟩
            case rest =>
              obtain ⟨nr, A2, c2, st6, rs, hnr, hcut⟩ := hcut
              have HS := Lib.hid hcut.out.1
              have HNX := Lib.hid ((pMore_step (C.pSec syms) j st st6 secs _ (HSEC.out st6 rs hcut.out.2)).trans (HJ.out ▸ HP.out))
              obtain ⟨e1, e2⟩ := hcut.out.1.1.fld1
              obtain ⟨⟨z0, z1, z2⟩, _⟩ := at3 hcut.out.1.2.2.1
              have HFC := Lib.hid (KB.own hcut.out.1.2.1 hob6 HFS.out)
              have HSC := Lib.hid (KB.range hcut.out.1.2.1 (Nat.le_refl _) HBZ.out HSS.out)
              obtain ⟨i1, hi1, hz10, hz11, hz12⟩ := info_parts sec_info
              obtain ⟨hmm, xs, hoa, hfl⟩ := HFC.out
              have HMM := Lib.hid hmm
              have HFL := Lib.hid hfl
              have HOA := Lib.hid hoa
              have E9 : Ext wc (wc.alloc (.cells #[.int .i64 kd, .string dd, .slice A2 nr c2] 85)) := (Ext.refl wc).alloc _
              have HE9 := Lib.hid E9
              have hwk : (Lit.int .i64 kd).wf = true := wf_small (by have := HKD.out; omega)
              have hlow := own_low hoa
              have HLOW := Lib.hid hlow
              obtain ⟨hmz, xs0, ho0, hfz⟩ := HFS.out
              have hold := own_old ho0
              have hb3 := hcut.out.1.2.2.2.2
              have hzc : base ≤ wc.heap.size := by have := HBZ.out; omega
              obtain ⟨A2', c2', hv2, hsl⟩ := hcut.out.1.2.2.2.1.slice
              cases hv2
              have hels := secR_is hcut.out.1.2.2.2.1.1 hwk (show dd.size ≤ 9223372036854775807 by have := HDD.out; omega) (hsl.sub (B' := Bl wc base (.slice B m d)) fun k hk => ⟨by have := HBZ.out; omega, hk.2, fun e => by have := hold k e; omega⟩)
              have HEL := Lib.hid (secR.keep hels (fun k (hk : Bl wc base (.slice B m d) k) => show Bl (wc.alloc (.cells #[.int .i64 kd, .string dd, .slice A2 nr c2] 85)) base (.slice B m d) k from ⟨hk.1, Nat.lt_of_lt_of_le hk.2.1 E9.size, hk.2.2⟩) fun k hk => E9.block k hk.2.1)
              have hoaE := hoa.ext E9
              clear hcut hmm hfl hoa hlow hold ho0 hels hsl hb3 E9 hmz hfz
              go_wp2_with (at_builtin; (refine wpList_append_ownAt _ rfl (.tmp 102) (.tmp 104) 23 rfl base 85 i1 (.agg #[.int .i64 0, .string ⟨#[]⟩, .slice none 0 0]) 3 48 Tryz.underlying23 hi1 hz10 hz11 hz12 rfl (by decide) _ _ _ rfl hoaE ⟨wc.heap.size, 0, none⟩ 1 1 [.int .i64 kd, .string dd, .slice A2 nr c2] rfl rfl (cells_new_list wc [.int .i64 kd, .string dd, .slice A2 nr c2] 85 _ rfl) (by intro u hu; simp at hu; rcases hu with rfl | rfl | rfl <;> rfl) (by unfold maxLen; omega) (by omega) (by simp; omega) (by decide) ?_); intro v' w10 hown' hgrow _ hloc; have hpu := rfx_push (r := secR) (a := ((kd, dd, rs) : C.Sec)) HS.out.1 HMM.out HOA.out HFL.out hob6 HE9.out HEL.out hown' hgrow hloc; obtain ⟨A3, c3, rfl⟩ := own_form2 hown'; have HPD := Lib.hid hpu.1; have HPF := Lib.hid hpu.2; have HGR := Lib.hid hgrow; obtain ⟨f10, f11⟩ := hpu.1.fld1; clear hown' hgrow hloc hpu)
              exact ⟨⟨i + 1, m + 1, A3, c3, st6, secs ++ [(kd, dd, rs)], by go_num, by omega, by omega, HPD.out.set1 _, ((HSC.out.rangeExt HE9.out hzc).range HGR.out (fun k e => .inr (HLOW.out k e)) (Nat.le_trans hzc HE9.out.size)).range (grown_set _ _ _ _) (fun k e => by have := Option.some.inj e; omega) (Nat.le_trans hzc (Nat.le_trans HE9.out.size HGR.out.size)), HPF.out.grownLow (grown_set _ _ _ _) (by omega), by rw [HJ2.out]; exact HNX.out, Nat.le_trans hzc (Nat.le_trans HE9.out.size (Nat.le_trans HGR.out.size (grown_set _ _ _ _).size))⟩, by simp [intOf]; omega⟩
          · go_wp2_with fail
            go_meet
            exact ⟨m, B, d, none, secs, by omega, HK.out.1, HK.out.2.1, HK.out.2.2.1, pMore_or HK.out.2.2.2.1 (.inr rfl), HK.out.2.2.2.2⟩
        · go_wp2_with fail
          go_meet
          exact ⟨m, B, d, st, secs, by omega, HK.out.1, HK.out.2.1, HK.out.2.2.1, pMore_or HK.out.2.2.2.1 (.inl (by omega)), HK.out.2.2.2.2⟩
    case rest =>
      clear HST hN8
      obtain ⟨m, B, d, st4, secs, hm, hcut⟩ := hcut
      have HD := Lib.hid hcut.out.1
      have HSS := Lib.hid hcut.out.2.1
      have HFS := Lib.hid hcut.out.2.2.1
      have HYE := Lib.hid hcut.out.2.2.2.1
      have HBZ := Lib.hid hcut.out.2.2.2.2
      have HX8 := Lib.hid hcut.out.1.2.2.2.2.1
      obtain ⟨c0, _⟩ := hcut.out.1.fld0
      obtain ⟨c1, _⟩ := hcut.out.1.fld1
      obtain ⟨n0, n1⟩ := hcut.out.1.non
      obtain ⟨x, y, ⟨t0, q0⟩, t1, q1⟩ := hcut.out.1.res
      clear hcut
      by_cases hw : ¬ hd = C.wObject
      · have HR := Lib.hid (FHead.out hw)
        have e1 : ¬ hb.toList = [111, 98, 106, 101, 99, 116] := by rw [HMB.out]; exact hw
        clear hw
        go_wp2_with fail
        exact bodyPost_ret (v := .tuple #[.agg #[.slice none 0 0, .slice none 0 0], .int .i64 17]) (by simp [results, Tryz.results24, go_sem, t0, t1]) rfl (retObj_none HR.out ((HX8.out.setCell (p := ⟨w.heap.size, 0, none⟩) (Nat.le_refl _) _).setCell (p := ⟨w.heap.size, 1, none⟩) (Nat.le_refl _) _))
      · have hw' := Classical.not_not.1 hw
        have e1 : hb.toList = [111, 98, 106, 101, 99, 116] := by rw [HMB.out]; exact hw'
        have HP := Lib.hid (HSTP.out st4 secs hw' HYE.out)
        obtain ⟨B', d', hv, hsec⟩ := HFS.out.slice
        cases hv
        have HSEC := Lib.hid hsec
        have HCK := Lib.hid (rCheck_any (syms, secs) A B c d n m wc HNS.out (HSS.out.sub fun k hk => by have := HBZ.out; show k < _; omega) HFS.out.1 (hsec.sub fun k hk => hk.2) (fun s hs => by have := HSH.out s hs; omega))
        clear hsec hw hw'
        go_wp2_with fail
        refine (Close_rr st4 _ wc HD.out.1).mono ?_
        rintro e w8 ⟨⟨er, rfl, her⟩, rfl⟩
        by_cases hend : rdEnd st4 = true
        · have he0 : er = 0 := by
            rcases her with ⟨h, _⟩ | ⟨_, h⟩
            · exact h
            · rw [hend] at h; cases h
          subst he0
          clear her
          go_wp2_with fail
          refine HCK.out.mono ?_
          rintro e w9 ⟨rfl, d9⟩
          have HD9 := Lib.hid (HD.out.ext d9)
          have HE9 := Lib.hid d9
          obtain ⟨x', y', ⟨t0', q0'⟩, t1', q1'⟩ := HD9.out.res
          obtain ⟨c0', _⟩ := HD9.out.fld0
          obtain ⟨c1', _⟩ := HD9.out.fld1
          obtain ⟨n0', n1'⟩ := HD9.out.non
          have HX9 := Lib.hid HD9.out.2.2.2.2.1
          clear d9 t0 q0 t1 q1 c0 c1 n0 n1
          rcases Bool.eq_false_or_eq_true (C.checkB okN (syms, secs)) with hck | hck
          · have HR := Lib.hid (FGood.out st4 (syms, secs) (by have := HDL.out; omega) HP.out hend hck)
            rw [hck, show chk true = 0 from rfl]
            clear hck hend
            go_wp2_with fail
            have hss := HSS.out.rangeExt HE9.out HBZ.out
            have hsec7 := HSEC.out.rangeExt HE9.out (Nat.le_refl _)
            have hz7 := HE9.out.size
            have hbz := HBZ.out
            exact bodyPost_ret (v := .tuple #[.agg #[.slice A n c, .slice B m d], .int .i64 0]) (by simp [results, Tryz.results24, go_sem, t0', t1']) rfl (retObj_some (o := (syms, secs)) HR.out HX9.out HNS.out HFS.out.1 (hss.sub fun k hk => ⟨by omega, by omega⟩) (hsec7.sub fun k hk => ⟨by omega, by omega⟩) _ _)
          · have HR := Lib.hid (FBad.out st4 (syms, secs) HP.out (.inr hck))
            rw [hck, show chk false = 1 from rfl]
            clear hck hend
            go_wp2_with fail
            exact bodyPost_ret (v := .tuple #[.agg #[.slice none 0 0, .slice none 0 0], .int .i64 17]) (by simp [results, Tryz.results24, go_sem, t0', t1']) rfl (retObj_none HR.out ((HX9.out.setCell (p := ⟨w.heap.size, 0, none⟩) (Nat.le_refl _) _).setCell (p := ⟨w.heap.size, 1, none⟩) (Nat.le_refl _) _))
        · have hend' : rdEnd st4 = false := by simpa using hend
          have HR := Lib.hid (FBad.out st4 (syms, secs) HP.out (.inl hend'))
          have he1 : (er != 0) = true := by
            rcases her with ⟨_, h⟩ | ⟨h, _⟩
            · rw [hend'] at h; cases h
            · simpa using h
          clear her hend' hend
          go_wp2_with fail
          exact bodyPost_ret (v := .tuple #[.agg #[.slice none 0 0, .slice none 0 0], .int .i64 17]) (by simp [results, Tryz.results24, go_sem, t0, t1]) rfl (retObj_none HR.out ((HX8.out.setCell (p := ⟨w.heap.size, 0, none⟩) (Nat.le_refl _) _).setCell (p := ⟨w.heap.size, 1, none⟩) (Nat.le_refl _) _))

end Go.Proofs.YtjimgkefacnamaaGreatDoor

/- Members: object.members, the reference's CheckMembers. -/
namespace Go.Proofs.YtjimgkefacnamaaGreatDoor
open Go.RowKit Go.Maps Go.ChangeMaps

def okP (s : ByteArray) : Bool := pathL s.data.toList
def mnm (m : C.Mem) : C.Bs := m.1.data.toList
def memGood (l : List C.Mem) (k : Nat) (h : k < l.length) : Prop := okP l[k].1 = true ∧ C.checkB okN l[k].2 = true ∧ ¬ mnm l[k] ∈ (l.take k).map mnm
def memTo (l : List C.Mem) (k : Nat) : Prop := ∀ i (h : i < l.length), i < k → memGood l i h
theorem mem_in_take {l : List C.Mem} {k : Nat} {x : C.Bs} : x ∈ (l.take k).map mnm ↔ ∃ j, ∃ h : j < l.length, j < k ∧ mnm l[j] = x := by
  constructor
  · intro hx
    obtain ⟨m, hm, rfl⟩ := List.mem_map.1 hx
    obtain ⟨j, hj, rfl⟩ := List.getElem_of_mem hm
    simp only [List.length_take] at hj
    exact ⟨j, by omega, by omega, by simp⟩
  · rintro ⟨j, h, hjk, rfl⟩
    refine List.mem_map.2 ⟨l[j], ?_, rfl⟩
    have : (l.take k)[j]'(by simp; omega) = l[j] := by simp
    rw [← this]
    exact List.getElem_mem _
theorem mems_bad {l : List C.Mem} {k : Nat} (hk : k < l.length) (h : ¬ memGood l k hk) : C.memsB okN okP l = false := by
  rw [Bool.eq_false_iff]
  intro h'
  obtain ⟨_, h2⟩ := (C.memsB_iff okN okP l).1 h'
  obtain ⟨a, b, c⟩ := h2 k hk
  refine h ⟨a, b, fun hm => ?_⟩
  obtain ⟨j, hj, hjk, e⟩ := mem_in_take.1 hm
  exact c j hj hjk e
theorem mems_long {l : List C.Mem} (h : ¬ l.length ≤ 64) : C.memsB okN okP l = false := by
  rw [Bool.eq_false_iff]
  intro h'
  exact h ((C.memsB_iff okN okP l).1 h').1
theorem mems_end {l : List C.Mem} (h : memTo l l.length) : C.memsB okN okP l = decide (l.length ≤ 64) := by
  by_cases hl : l.length ≤ 64
  · rw [decide_eq_true hl]
    refine (C.memsB_iff okN okP l).2 ⟨hl, fun i hi => ?_⟩
    obtain ⟨a, b, c⟩ := h i hi hi
    exact ⟨a, b, fun j hj hji e => c (mem_in_take.2 ⟨j, hj, hji, e⟩)⟩
  · rw [decide_eq_false hl, mems_long hl]
theorem memTo_succ {l : List C.Mem} {k : Nat} (h : memTo l k) (hk : k < l.length) (h1 : memGood l k hk) : memTo l (k + 1) := by
  intro i hi hik
  by_cases e : i = k
  · subst e; exact h1
  · exact h i hi (by omega)
theorem mem_take_snoc {l : List C.Mem} {k : Nat} (hk : k < l.length) : (l.take (k + 1)).map mnm = (l.take k).map mnm ++ [mnm l[k]] := by
  rw [List.take_succ_eq_append_getElem hk, List.map_append]
  rfl
/-- The cells of member k. -/
theorem mem_getB {w : World} {B : Nat → Prop} {A : Option Addr} {c k : Nat} {l : List C.Mem} (h : SliceAt memR w B A c l) (hk : k < l.length) :
    ∃ b off s SA sc SB sd, A = some ⟨b, off, none⟩ ∧ B b ∧ l[k].1 = s ∧ s.size ≤ 9223372036854775807 ∧ SliceAt symR w B SA sc l[k].2.1 ∧ SliceAt secR w B SB sd l[k].2.2 ∧
      (w.cell? ⟨b, off + k * 3, none⟩ = some (.string s) ∧ w.cell? ⟨b, off + k * 3 + 1, none⟩ = some (.slice SA l[k].2.1.length sc) ∧ w.cell? ⟨b, off + k * 3 + 1 + 1, none⟩ = some (.slice SB l[k].2.2.length sd)) := by
  obtain ⟨b, off, rfl, hb, hr⟩ := h.2.2 (by intro h; rw [h] at hk; simp at hk)
  obtain ⟨us, ⟨x, y, rfl, ⟨rfl, hs⟩, x2, y2, rfl, ⟨SA, sc, rfl, hSA⟩, SB, sd, rfl, hSB⟩, hc⟩ := hr k hk
  exact ⟨b, off, l[k].1, SA, sc, SB, sd, rfl, hb, rfl, hs, hSA, hSB, hc 0 _ rfl, hc 1 _ rfl, hc 2 _ rfl⟩
/-- Members whose names are not too long. -/
def MemSizes (l : List C.Mem) : Prop := ∀ m ∈ l, m.1.size ≤ 1000000 ∧ ∀ s ∈ m.2.1, s.1.size ≤ 9000000
theorem memGood_iff {l : List C.Mem} {k : Nat} (hk : k < l.length) : memGood l k hk ↔ (¬ mnm l[k] ∈ (l.take k).map mnm) ∧ okP l[k].1 = true ∧ C.checkB okN l[k].2 = true := by
  unfold memGood
  constructor
  · rintro ⟨a, b, c⟩; exact ⟨c, a, b⟩
  · rintro ⟨c, a, b⟩; exact ⟨a, b, c⟩

set_option maxRecDepth 8000 in
set_option maxHeartbeats 4000000 in
theorem members_any (l : List C.Mem) (A : Option Addr) (c n : Nat) (w : World) (hn : n = l.length) (hA : SliceAt memR w (Old w) A c l) (hz : MemSizes l) (hn2 : n ≤ 100000) (hg : Gl w) :
    Calls Tryz.prog 65 #[.slice A n c] w (Al (.bool (C.memsB okN okP l)) w) := by
  have hmm := @run_makeMap Tryz.prog
  have HN := Lib.hid hn
  have HA := Lib.hid hA
  have HZ := Lib.hid hz
  have HG := Lib.hid hg
  have FB := Lib.hid (fun k hk => @mems_bad l k hk)
  have FE := Lib.hid (@mems_end l)
  generalize C.memsB okN okP l = R at FB FE ⊢
  have HS0 := Lib.hid (SetTo.made Tryz.prog 9 4 w)
  clear hn hA hz hg
  go_enter Tryz.func65, Tryz.ntmps65
  go_wp2_with fail
  go_loopw [9] (fun i wr => ∃ k : Nat, k ≤ n ∧ i = .int .i64 k ∧ Hid (memTo l k ∧ SetTo Tryz.prog 9 4 wr w.heap.size k ((l.take k).map mnm) ∧ Ext w wr)) (fun i _ => n - (intOf i).toNat)
  case atStart => exact ⟨0, Nat.zero_le _, rfl, fun _ _ h => absurd h (Nat.not_lt_zero _), HS0.out, (Ext.refl w).alloc _⟩
  case round =>
    obtain ⟨k, hk, rfl, HK⟩ := hrel
    by_cases hlt : k < n
    · have hkz : k < l.length := by rw [← HN.out]; exact hlt
      obtain ⟨b, off, s, SA, sc, SB, sd, rfl, hB, hgk, hs, hSA, hSB, c0, c1, c2⟩ := mem_getB (HA.out.ext HK.out.2.2) hkz
      have hgi := memGood_iff hkz
      have hfb := FB.out k hkz
      have hon := memTo_succ HK.out.1 hkz
      have htk := mem_take_snoc hkz
      have hzz := HZ.out _ (List.getElem_mem hkz)
      have hmn : mnm l[k] = s.data.toList := by unfold mnm; rw [hgk]
      rw [hgi] at hfb hon
      rw [hmn] at hfb hon htk
      rw [hgk] at hfb hon hzz
      generalize l[k].2 = o at hSA hSB c1 c2 hfb hon hzz
      obtain ⟨sn, hsn⟩ : ∃ x, x = o.1.length := ⟨_, rfl⟩
      obtain ⟨sm, hsm⟩ : ∃ x, x = o.2.length := ⟨_, rfl⟩
      rw [← hsn] at c1
      rw [← hsm] at c2
      have HFB := Lib.hid hfb
      have HON := Lib.hid hon
      have HTK := Lib.hid htk
      have E1 : Ext wr (wr.alloc (.cells #[.string s, .slice SA sn sc, .slice SB sm sd] 52)) := (Ext.refl wr).alloc _
      have hset1 := HK.out.2.1.ext E1
      have HPA := Lib.hid (fun W (h : Ext w W) (m : Int) (hm : W.cell? ⟨1, 0, none⟩ = some (.int .i64 m)) => path_is s m W hzz.1 hm)
      have HCK := Lib.hid (fun W (h : Ext wr W) => Check_any o SA SB sc sd sn sm W hsn (hSA.ext h) hsm (hSB.ext h) hzz.2)
      have HX1 := Lib.hid (HK.out.2.2.trans E1)
      have HE1 := Lib.hid E1
      have HS1 := Lib.hid hset1
      have HM := Lib.hid HK.out.1
      have hsz := hzz.1
      obtain ⟨ns, hns⟩ : ∃ x, x = (l.take k).map mnm := ⟨_, rfl⟩
      rw [← hns] at hset1 HS1 HFB HON HTK
      clear hgi hfb hon htk hzz hmn hgk hsn hsm hSA hSB E1 HK hns
      by_cases hin : s.data.toList ∈ ns
      · have HR := Lib.hid (HFB.out (fun h => h.1 hin))
        have hdd : decide (s.data.toList ∈ ns) = true := decide_eq_true hin
        clear hin
        go_wp2_with (at_lookup; refine wpList_lookup_set _ rfl _ _ 100 rfl 9 4 Tryz.underlying9 Tryz.underlying100 Tryz.underlying4 zero4 w.heap.size k ns rfl hset1 s rfl (by unfold maxLen; omega) ?_; rw [hdd])
        go_ret
        exact ⟨by rw [HR.out]; rfl, HX1.out⟩
      · have hdd : decide (s.data.toList ∈ ns) = false := decide_eq_false hin
        obtain ⟨m, hm⟩ := (HG.out.ext HX1.out).1
        have HPM := Lib.hid (HPA.out _ HX1.out m hm)
        have hpe : pathL s.data.toList = okP s := rfl
        rw [hpe] at HPM
        clear hm hpe
        go_wp2_with (at_lookup; refine wpList_lookup_set _ rfl _ _ 100 rfl 9 4 Tryz.underlying9 Tryz.underlying100 Tryz.underlying4 zero4 w.heap.size k ns rfl hset1 s rfl (by unfold maxLen; omega) ?_; rw [hdd])
        refine HPM.out.mono ?_
        rintro e w2 ⟨rfl, d2⟩
        have x0 := d2.keepc (cell_new wr #[.string s, .slice SA sn sc, .slice SB sm sd] 52 0)
        have x1 := d2.keepc (cell_new wr #[.string s, .slice SA sn sc, .slice SB sm sd] 52 1)
        have x2 := d2.keepc (cell_new wr #[.string s, .slice SA sn sc, .slice SB sm sd] 52 2)
        have HE2 := Lib.hid (HE1.out.trans d2)
        have HX2 := Lib.hid (HX1.out.trans d2)
        have HS2 := Lib.hid (HS1.out.ext d2)
        clear d2 hset1
        rcases Bool.eq_false_or_eq_true (okP s) with hp | hp
        · rw [hp, show pathErr true = 0 from rfl]
          go_wp2_with fail
          refine (HCK.out _ HE2.out).mono ?_
          rintro e w3 ⟨rfl, d3⟩
          have y0 := d3.keepc x0
          have HX3 := Lib.hid (HX2.out.trans d3)
          have hset3 := HS2.out.ext d3
          clear d3 x0 x1 x2
          rcases Bool.eq_false_or_eq_true (C.checkB okN o) with hc | hc
          · rw [hc, show chk true = 0 from rfl]
            have H9 := Lib.hid (HON.out ⟨hin, hp, hc⟩)
            clear hin hp hc
            go_wp2_with (at_mapUpdate; (refine wpList_put_set _ rfl _ _ _ 100 rfl 9 4 Tryz.underlying9 Tryz.underlying100 Tryz.underlying4 w.heap.size k ns rfl hset3 (by unfold maxLen; omega) s rfl rfl (by unfold maxLen; omega) ?_); intro w4 hs4 hg4)
            go_roundw
            case rel => exact ⟨k + 1, by omega, by go_num, H9.out, by rw [HTK.out]; exact hs4, HX3.out.own (Nat.le_refl _) hg4⟩
            case measure => simp [intOf]; omega
          · rw [hc, show chk false = 1 from rfl]
            have HR := Lib.hid (HFB.out (fun h => by rw [hc] at h; cases h.2.2))
            clear hin hp hc
            go_wp2_with fail
            go_ret
            exact ⟨by rw [HR.out]; rfl, HX3.out⟩
        · rw [hp, show pathErr false = 2 from rfl]
          have HR := Lib.hid (HFB.out (fun h => by rw [hp] at h; cases h.2.1))
          clear hin hp
          go_wp2_with fail
          go_ret
          exact ⟨by rw [HR.out]; rfl, HX2.out⟩
    · have HE := Lib.hid (FE.out (by have := HK.out.1; rwa [show k = l.length by have := HN.out; omega] at this))
      have hnl : n = l.length := HN.out
      have HNL : Hid (R = decide ((n : Int) ≤ 64)) := by
        unfold Hid
        rw [HE.out, hnl]
        by_cases h : l.length ≤ 64
        · rw [decide_eq_true h, decide_eq_true (by omega)]
        · rw [decide_eq_false h, decide_eq_false (by omega)]
      clear hnl HE
      go_wp2_with fail
      go_ret
      exact ⟨by rw [HNL.out]; rfl, HK.out.2.2⟩

end Go.Proofs.YtjimgkefacnamaaGreatDoor

/- The reference's CheckMembers. -/
namespace Go.Proofs.YtjimgkefacnamaaGreatDoor
open Go.RowKit Go.Maps Go.ChangeMaps

set_option maxRecDepth 8000 in
set_option maxHeartbeats 4000000 in
theorem CheckMembers_any (l : List C.Mem) (A : Option Addr) (c n : Nat) (w : World) (hn : n = l.length) (hA : SliceAt memR w (Old w) A c l) (hz : MemSizes l) :
    Calls Tryz.prog 66 #[.slice A n c] w (Al (.bool (C.memsB okN okP l)) w) := by
  obtain ⟨i0, hi0, hz0, hz1, hz2⟩ := info_parts str_info
  rcases Nat.lt_or_ge 64 n with hbig | hbig
  · rw [mems_long (by omega)]
    clear hn hA hz
    go_enter Tryz.func66, Tryz.ntmps66
    go_wp2_with fail
    go_ret
    exact ⟨rfl, Ext.refl w⟩
  have HN := Lib.hid hn
  have HA := Lib.hid hA
  have HZ := Lib.hid hz
  have FB := Lib.hid (fun k hk => @mems_bad l k hk)
  have FE := Lib.hid (@mems_end l)
  generalize C.memsB okN okP l = R at FB FE ⊢
  clear hn hA hz
  go_enter Tryz.func66, Tryz.ntmps66
  go_wp2_with fail
  go_loopw [3, 11] (fun v i wr => ∃ k : Nat, k ≤ n ∧ i = .int .i64 k ∧ Hid (memTo l k ∧ OwnS wr w.heap.size v k ((l.take k).map mnm) ∧ Ext w wr)) (fun _ i _ => n - (intOf i).toNat)
  case atStart => exact ⟨0, Nat.zero_le _, rfl, fun _ _ h => absurd h (Nat.not_lt_zero _), OwnS.nil _ _, Ext.refl w⟩
  case round =>
    obtain ⟨k, hk, rfl, HK⟩ := hrel
    by_cases hlt : k < n
    · have hkz : k < l.length := by rw [← HN.out]; exact hlt
      obtain ⟨b, off, s, SA, sc, SB, sd, rfl, hB, hgk, hs, hSA, hSB, c0, c1, c2⟩ := mem_getB (HA.out.ext HK.out.2.2) hkz
      have hgi := memGood_iff hkz
      have hfb := FB.out k hkz
      have hon := memTo_succ HK.out.1 hkz
      have htk := mem_take_snoc hkz
      have hzz := HZ.out _ (List.getElem_mem hkz)
      have hmn : mnm l[k] = s.data.toList := by unfold mnm; rw [hgk]
      rw [hgi] at hfb hon
      rw [hmn] at hfb hon htk
      rw [hgk] at hfb hon hzz
      generalize l[k].2 = o at hSA hSB c1 c2 hfb hon hzz
      obtain ⟨sn, hsn⟩ : ∃ x, x = o.1.length := ⟨_, rfl⟩
      obtain ⟨sm, hsm⟩ : ∃ x, x = o.2.length := ⟨_, rfl⟩
      rw [← hsn] at c1
      rw [← hsm] at c2
      have HFB := Lib.hid hfb
      have HON := Lib.hid hon
      have HTK := Lib.hid htk
      have E1 : Ext wr (wr.alloc (.cells #[.string s, .slice SA sn sc, .slice SB sm sd] 52)) := (Ext.refl wr).alloc _
      have HPA := Lib.hid (fun W => refPath_any s W (by have := hzz.1; omega))
      have hpe : pathL s.data.toList = okP s := rfl
      rw [hpe] at HPA
      have HCK := Lib.hid (fun W (h : Ext wr W) => rCheck_any o SA SB sc sd sn sm W hsn (hSA.ext h) hsm (hSB.ext h) hzz.2)
      have HX1 := Lib.hid (HK.out.2.2.trans E1)
      have HE1 := Lib.hid E1
      have HO1 := Lib.hid (HK.out.2.1.ext E1)
      have hsz := hzz.1
      obtain ⟨ns, hns⟩ : ∃ x, x = (l.take k).map mnm := ⟨_, rfl⟩
      rw [← hns] at HO1 HFB HON HTK
      clear hgi hfb hon htk hzz hmn hgk hsn hsm hSA hSB E1 HK hns hpe
      go_wp2_with fail
      refine (HPA.out _).mono ?_
      rintro e w2 ⟨rfl, d2⟩
      have x0 := d2.keepc (cell_new wr #[.string s, .slice SA sn sc, .slice SB sm sd] 52 0)
      have x1 := d2.keepc (cell_new wr #[.string s, .slice SA sn sc, .slice SB sm sd] 52 1)
      have x2 := d2.keepc (cell_new wr #[.string s, .slice SA sn sc, .slice SB sm sd] 52 2)
      have HE2 := Lib.hid (HE1.out.trans d2)
      have HX2 := Lib.hid (HX1.out.trans d2)
      have HO2 := Lib.hid (HO1.out.ext d2)
      clear d2
      rcases Bool.eq_false_or_eq_true (okP s) with hp | hp
      · rw [hp, show pathErr true = 0 from rfl]
        have HHS := Lib.hid (Has_own ns u3 k w.heap.size s w2 HO2.out (by omega))
        by_cases hin : s.data.toList ∈ ns
        · have HR := Lib.hid (HFB.out (fun h => h.1 hin))
          rw [decide_eq_true hin] at HHS
          clear hin hp
          go_wp2_with fail
          refine HHS.out.mono ?_
          rintro e w3 ⟨rfl, rfl⟩
          go_wp2_with fail
          go_ret
          exact ⟨by rw [HR.out]; rfl, HX2.out⟩
        · rw [decide_eq_false hin] at HHS
          have HIN := Lib.hid hin
          clear hin
          go_wp2_with fail
          refine HHS.out.mono ?_
          rintro e w3 ⟨rfl, rfl⟩
          go_wp2_with fail
          refine (HCK.out _ HE2.out).mono ?_
          rintro e w3 ⟨rfl, d3⟩
          have y0 := d3.keepc x0
          have HX3 := Lib.hid (HX2.out.trans d3)
          have HO3 := Lib.hid (HO2.out.ext d3)
          clear d3 x0 x1 x2
          rcases Bool.eq_false_or_eq_true (C.checkB okN o) with hc | hc
          · rw [hc, show chk true = 0 from rfl]
            have H9 := Lib.hid (HON.out ⟨HIN.out, hp, hc⟩)
            have hown := HO3.out.2
            have hbs := HX3.out.size
            clear hp hc
            go_wp2_with (at_builtin; (refine wpList_append_ownAt _ rfl (.tmp 31) (.tmp 34) 35 rfl w.heap.size 9 i0 (.string ⟨#[]⟩) 1 16 Tryz.underlying35 hi0 hz0 hz1 hz2 rfl (by decide) _ _ _ rfl (hown.alloc _) ⟨w3.heap.size, 0, none⟩ 1 1 ([s.data.toList].map encStr) rfl rfl (cells_new_str _ _ _ rfl) (enc_one _) (by unfold maxLen; omega) (by omega) (by simp; omega) (by decide) ?_); intro v3 w4 hown3 hg3 _ _)
            have HO4 : Hid (OwnS w4 w.heap.size v3 (k + 1) (ns ++ [s.data.toList])) := ⟨by have := HO3.out.1; simp; omega, by rw [List.map_append]; exact hown3⟩
            have HX4 := Lib.hid (OwnS.extOwn (HX3.out.alloc (.cells #[.string s] 9)) (HO3.out.ext ((Ext.refl _).alloc (.cells #[.string s] 9))) (Nat.le_refl _) hg3)
            clear hown3 hg3
            go_roundw
            case rel => exact ⟨k + 1, by omega, by go_num, H9.out, by rw [HTK.out]; exact HO4.out, HX4.out⟩
            case measure => simp [intOf]; omega
          · rw [hc, show chk false = 1 from rfl]
            have HR := Lib.hid (HFB.out (fun h => by rw [hc] at h; cases h.2.2))
            clear hp hc
            go_wp2_with fail
            go_ret
            exact ⟨by rw [HR.out]; rfl, HX3.out⟩
      · rw [hp, show pathErr false = 2 from rfl]
        have HR := Lib.hid (HFB.out (fun h => by rw [hp] at h; cases h.2.1))
        clear hp
        go_wp2_with fail
        go_ret
        exact ⟨by rw [HR.out]; rfl, HX2.out⟩
    · have HE := Lib.hid (FE.out (by have := HK.out.1; rwa [show k = l.length by have := HN.out; omega] at this))
      have HNL : Hid (R = true) := by
        unfold Hid
        rw [HE.out]
        exact decide_eq_true (by have := HN.out; omega)
      clear HE
      go_wp2_with fail
      go_ret
      exact ⟨by rw [HNL.out]; rfl, HK.out.2.2⟩

end Go.Proofs.YtjimgkefacnamaaGreatDoor

/- object.Pack. -/
namespace Go.Proofs.YtjimgkefacnamaaGreatDoor
open Go.RowKit Go.Maps Go.ChangeMaps Go.Sort

/-- What Pack gives. -/
def packV (l : List C.Mem) : Value := .tuple #[.string (mkB (C.packB okN okP l).1), .int .i64 (C.packB okN okP l).2]
theorem packV_bad {l : List C.Mem} (h : C.memsB okN okP l = false) : packV l = .tuple #[.string ⟨#[]⟩, .int .i64 1] := by unfold packV C.packB; rw [h]; rfl
theorem packV_big {l : List C.Mem} (h : C.memsB okN okP l = true) {k : Nat} (hk : k < l.length) (hb : ¬ (C.encObj l[k].2).length ≤ 65536) : packV l = .tuple #[.string ⟨#[]⟩, .int .i64 10] := by
  have : (l.all fun m => decide ((C.encObj m.2).length ≤ 65536)) = false := by
    rw [Bool.eq_false_iff]
    intro h'
    exact hb (by simpa using List.all_eq_true.1 h' _ (List.getElem_mem hk))
  unfold packV C.packB
  rw [h, this]
  rfl
/-- The first k objects fit. -/
def fitTo (l : List C.Mem) (k : Nat) : Prop := ∀ i (h : i < l.length), i < k → (C.encObj l[i].2).length ≤ 65536
theorem fitTo_succ {l : List C.Mem} {k : Nat} (h : fitTo l k) (hk : k < l.length) (h1 : (C.encObj l[k].2).length ≤ 65536) : fitTo l (k + 1) := by
  intro i hi hik
  by_cases e : i = k
  · subst e; exact h1
  · exact h i hi (by omega)
theorem fit_all {l : List C.Mem} (h : fitTo l l.length) : (l.all fun m => decide ((C.encObj m.2).length ≤ 65536)) = true := by
  rw [List.all_eq_true]
  intro m hm
  obtain ⟨i, hi, rfl⟩ := List.getElem_of_mem hm
  exact decide_eq_true (h i hi hi)
theorem packV_long {l : List C.Mem} (h : C.memsB okN okP l = true) (hf : fitTo l l.length) (hb : ¬ (C.encArc l).length ≤ 65536) : packV l = .tuple #[.string ⟨#[]⟩, .int .i64 10] := by
  unfold packV C.packB
  rw [h, fit_all hf, if_pos rfl, if_pos rfl, if_neg hb]
  rfl
theorem packV_good {l : List C.Mem} (h : C.memsB okN okP l = true) (hf : fitTo l l.length) (hb : (C.encArc l).length ≤ 65536) : packV l = .tuple #[.string (mkB (C.encArc l)), .int .i64 0] := by
  unfold packV C.packB
  rw [h, fit_all hf, if_pos rfl, if_pos rfl, if_pos hb]
/-- What is written before member k. -/
def encP (l : List C.Mem) (k : Nat) : C.Bs := C.txt C.wArchive ++ C.num l.length ++ (l.take k).flatMap C.encMem
theorem encP_zero (l : List C.Mem) : encP l 0 = C.txt C.wArchive ++ C.num l.length := by simp [encP]
theorem encP_end {l : List C.Mem} {k : Nat} (h : l.length ≤ k) : encP l k = C.encArc l := by unfold encP C.encArc; rw [flat_full _ _ h, List.append_assoc]
theorem okP_len {s : ByteArray} (h : okP s = true) : s.size ≤ 128 := by
  have hl : s.data.toList.length = s.size := by simp
  unfold okP pathL at h
  simp only [Bool.and_eq_true, decide_eq_true_eq] at h
  omega
theorem encP_step {l : List C.Mem} {k : Nat} (hk : k < l.length) {s : ByteArray} {o : C.Obj} (h1 : l[k].1 = s) (h2 : l[k].2 = o) (hs : s.size ≤ 128) (ho : (C.encObj o).length ≤ 65536) :
    encP l k ++ (txtB s).data.toList ++ (txtB (mkB (C.encObj o))).data.toList = encP l (k + 1) := by
  have hg : l[k] = (s, o) := by rw [← h1, ← h2]
  unfold encP
  rw [flat_take _ _ hk, hg, txtB_in (by omega), txtB_in (by rw [mkB_size]; omega), mkB_data]
  unfold C.encMem
  simp only [List.append_assoc]
theorem encMem_len {m : C.Mem} (h1 : m.1.size ≤ 128) (h2 : (C.encObj m.2).length ≤ 65536) : (C.encMem m).length ≤ 70000 := by
  have e1 := txt_len m.1 (by omega)
  have e2 := txt_len (mkB (C.encObj m.2)) (by rw [mkB_size]; omega)
  rw [mkB_data, mkB_size] at e2
  unfold C.encMem
  rw [List.length_append]
  omega
theorem encP_len {l : List C.Mem} (h : C.memsB okN okP l = true) {k : Nat} (hf : fitTo l k) : (encP l k).length ≤ 10000000 := by
  obtain ⟨h1, h2⟩ := (C.memsB_iff okN okP l).1 h
  unfold encP
  have e1 : (C.txt C.wArchive).length ≤ 50 := by
    have := txt_len ⟨#[97, 114, 99, 104, 105, 118, 101]⟩ (by decide)
    exact Nat.le_trans this (by decide)
  have e2 := num_len (n := l.length) (by omega)
  have e3 := flat_len C.encMem 70000 (l.take k) fun a ha => by
    obtain ⟨i, hi, rfl⟩ := List.getElem_of_mem ha
    simp only [List.length_take] at hi
    have e : (l.take k)[i]'(by simp; omega) = l[i] := by simp
    rw [e]
    exact encMem_len (okP_len (h2 i (by omega)).1) (hf i (by omega) (by omega))
  have e4 : (l.take k).length ≤ 64 := by rw [List.length_take]; omega
  have e5 : (l.take k).length * 70000 ≤ 64 * 70000 := Nat.mul_le_mul_right _ e4
  rw [List.length_append, List.length_append]
  omega

theorem wst_lt {w : World} {b : Nat} {L : C.Bs} {wr : World} (h : Wst w b L wr) : b < wr.heap.size := by
  rcases h.2 with ⟨_, v, hb, _⟩ | ⟨_, v, hb, _⟩ <;> exact (Array.getElem?_eq_some_iff.1 hb).1

set_option maxRecDepth 100000 in
set_option maxHeartbeats 8000000 in
theorem Pack_any (l : List C.Mem) (A : Option Addr) (c n : Nat) (w : World) (hn : n = l.length) (hA : SliceAt memR w (Old w) A c l) (hz : MemSizes l) (hn2 : n ≤ 100000) (hg : Gl w) :
    Calls Tryz.prog 30 #[.slice A n c] w (Al (packV l) w) := by
  have HMB := Lib.hid (members_any l A c n w hn hA hz hn2 hg)
  rcases (Bool.eq_false_or_eq_true (C.memsB okN okP l)).symm with hck | hck
  · rw [packV_bad hck]
    rw [hck] at HMB
    clear hn hA hz hg hck
    go_enter Tryz.func30, Tryz.ntmps30
    go_wp2_with fail
    refine HMB.out.mono ?_
    rintro e w1 ⟨rfl, d1⟩
    go_wp2_with fail
    go_ret2
    exact ⟨rfl, d1⟩
  · rw [hck] at HMB
    have FB := Lib.hid (fun k (hk : k < l.length) => packV_big hck hk)
    have FL := Lib.hid (packV_long hck)
    have FG := Lib.hid (packV_good hck)
    have HOK := Lib.hid (((C.memsB_iff okN okP l).1 hck).2)
    have HLN := Lib.hid (fun k => @encP_len l hck k)
    generalize packV l = R at FB FL FG ⊢
    have HN := Lib.hid hn
    have HA := Lib.hid hA
    have HZ := Lib.hid hz
    have HG := Lib.hid hg
    clear hn hA hz hg hck
    go_enter Tryz.func30, Tryz.ntmps30
    go_wp2_with fail
    refine HMB.out.mono ?_
    rintro e w1 ⟨rfl, d1⟩
    have hw0 : Wst w w1.heap.size [] (w1.alloc (.cells #[.pointer none, .slice none 0 0] 107)) := by
      have e2 : Ext w1 (w1.alloc (.cells #[.pointer none, .slice none 0 0] 107)) := (Ext.refl w1).alloc _
      exact ⟨d1.trans e2, .inl ⟨d1.size, .slice none 0 0, heap_alloc_new w1 _, World.ownsRow_nil _ _ _ _, by simp [Value.ownBlock]⟩⟩
    have HW0 := Lib.hid hw0
    clear hw0 d1
    go_wp2_with fail
    refine (text_st w w1.heap.size [] _ _ HW0.out HG.out (by simp) (by decide)).mono ?_
    rintro e w3 ⟨rfl, h3, k3⟩
    have HW3 := Lib.hid h3
    clear h3 k3
    go_wp2_with fail
    refine (number_st w w1.heap.size _ [(n : Int)] w3.heap.size 0 1 1 _ rfl (HW3.out.ext ((Ext.refl w3).alloc _)) HG.out (by have := txtB_len ⟨#[97, 114, 99, 104, 105, 118, 101]⟩; simp only [List.nil_append]; exact Nat.le_trans this (by decide)) (by decide) (fun j hj => ?_) (by have := wst_lt HW3.out; omega) ?_).mono ?_
    · rw [Nat.zero_add, cell_new]
      simp at hj
      subst hj
      rfl
    · intro cur fz
      rw [heap_alloc_new]
      intro e
      cases e
    rintro e w4 ⟨rfl, h4, k4⟩
    have HA0 : Hid (Wst w w1.heap.size (encP l 0) w4) := by
      unfold Hid
      have e1 : [] ++ (txtB ⟨#[97, 114, 99, 104, 105, 118, 101]⟩).data.toList ++ numsL [(n : Int)] = encP l 0 := by
        rw [List.nil_append, txtB_in (by decide), nums1, numB_in (by omega), Int.toNat_natCast, HN.out, encP_zero]
        rfl
      rw [← e1]
      exact h4
    clear h4 k4
    go_wp2_with fail
    go_loopw [23] (fun i wr => ∃ k : Nat, k ≤ n ∧ i = .int .i64 k ∧ Hid (Wst w w1.heap.size (encP l k) wr ∧ fitTo l k)) (fun i _ => n - (intOf i).toNat)
    case atStart => exact ⟨0, Nat.zero_le _, rfl, HA0.out, fun _ _ h => absurd h (Nat.not_lt_zero _)⟩
    case round =>
      obtain ⟨k, hk, rfl, HK⟩ := hrel
      by_cases hlt : k < n
      · have hkz : k < l.length := by rw [← HN.out]; exact hlt
        obtain ⟨b, off, s, SA, sc, SB, sd, rfl, hB, hgk, hs, hSA, hSB, c0, c1, c2⟩ := mem_getB (HA.out.ext HK.out.1.1) hkz
        have HLE := Lib.hid (HLN.out k HK.out.2)
        have hzz := HZ.out _ (List.getElem_mem hkz)
        obtain ⟨q1, q2, q3⟩ := HOK.out k hkz
        have HST := Lib.hid (fun o (ho : l[k].2 = o) h1 h2 => encP_step hkz hgk ho h1 h2)
        have HFB := Lib.hid (FB.out k hkz)
        have HFT := Lib.hid (fitTo_succ HK.out.2 hkz)
        have HSS := Lib.hid (okP_len q1)
        rw [hgk] at HSS
        obtain ⟨o, ho⟩ : ∃ o, o = l[k].2 := ⟨_, rfl⟩
        rw [← ho] at hSA hSB c1 c2 hzz HFB HFT q2 HST
        have HO := Lib.hid ho
        obtain ⟨sn, hsn⟩ : ∃ x, x = o.1.length := ⟨_, rfl⟩
        obtain ⟨sm, hsm⟩ : ∃ x, x = o.2.length := ⟨_, rfl⟩
        rw [← hsn] at c1
        rw [← hsm] at c2
        have E1 : Ext wr (wr.alloc (.cells #[.string s, .slice SA sn sc, .slice SB sm sd] 52)) := (Ext.refl wr).alloc _
        have HEN := Lib.hid (fun W (h : Ext wr W) => Encode_any o SA SB sc sd sn sm W hsn (hSA.ext h) hsm (hSB.ext h) hzz.2 (HG.out.ext (HK.out.1.1.trans h)))
        have HW1 := Lib.hid (HK.out.1.ext E1)
        have HE1 := Lib.hid E1
        have FEb := Lib.hid (encV_big q2)
        have FEg := Lib.hid (encV_good q2)
        clear q1 q2 q3 hzz hgk ho hsn hsm hSA hSB E1 hs
        by_cases hbig : (C.encObj o).length ≤ 65536
        · rw [FEg.out hbig] at HEN
          have HFT2 := Lib.hid (HFT.out hbig)
          have HST2 := Lib.hid (HST.out o rfl HSS.out hbig)
          have HML : Hid ((mkB (C.encObj o)).size ≤ 65536) := by unfold Hid; rw [mkB_size]; exact hbig
          clear HFB FB FEb FEg HST HFT hbig
          generalize mkB (C.encObj o) = bo at HEN HST2 HML
          go_wp2_with fail
          refine (HEN.out _ HE1.out).mono ?_
          rintro e w5 ⟨rfl, d5⟩
          have x0 := d5.keepc (cell_new wr #[.string s, .slice SA sn sc, .slice SB sm sd] 52 0)
          have HW5 := Lib.hid (HW1.out.ext d5)
          clear d5
          go_wp2_with fail
          refine (text_st w w1.heap.size _ s _ HW5.out HG.out (by have := HLE.out; omega) (by have := HSS.out; omega)).mono ?_
          rintro e w6 ⟨rfl, h6, k6⟩
          have HW6 := Lib.hid h6
          clear h6 k6 x0
          go_wp2_with fail
          refine (text_st w w1.heap.size _ bo _ HW6.out HG.out (by have := HLE.out; have := txtB_len s; have := HSS.out; rw [List.length_append]; omega) (by have := HML.out; omega)).mono ?_
          rintro e w7 ⟨rfl, h7, k7⟩
          rw [HST2.out] at h7
          have HW7 := Lib.hid h7
          clear h7 k7
          go_wp2_with fail
          go_roundw
          case rel => exact ⟨k + 1, by omega, by go_num, HW7.out, HFT2.out⟩
          case measure => simp [intOf]; omega
        · rw [FEb.out hbig] at HEN
          have HR := Lib.hid (HFB.out hbig)
          clear hbig
          go_wp2_with fail
          refine (HEN.out _ HE1.out).mono ?_
          rintro e w5 ⟨rfl, d5⟩
          have HX5 := Lib.hid (HW1.out.1.trans d5)
          clear d5
          go_wp2_with fail
          go_ret2
          exact ⟨by rw [HR.out]; rfl, HX5.out⟩
      · have hkn : k = l.length := by have := HN.out; omega
        have HF : Hid (fitTo l l.length) := by have := HK.out.2; rwa [hkn] at this
        have HW : Hid (Wst w w1.heap.size (C.encArc l) wr) := by
          have := HK.out.1
          rw [encP_end (by omega)] at this
          exact this
        have HL := Lib.hid (FL.out HF.out)
        have HH := Lib.hid (FG.out HF.out)
        have HNE : Hid (C.encArc l ≠ []) := by
          unfold Hid C.encArc C.txt
          intro h
          have := congrArg List.length h
          simp at this
        clear hkn HF FB FL FG
        generalize C.encArc l = X at HW HL HH HNE
        have HLN1 := Lib.hid (Len_w w.heap.size w1.heap.size (Lib.byteCells X) wr HW.out.2)
        rw [Lib.byteCells_length] at HLN1
        go_wp2_with fail
        refine HLN1.out.mono ?_
        rintro e w9 ⟨rfl, rfl⟩
        by_cases hbig : X.length ≤ 65536
        · have HR := Lib.hid (HH.out hbig)
          go_wp2_with fail
          refine (String_w w.heap.size w1.heap.size X w9 HW.out.2 HNE.out).mono ?_
          rintro e w10 ⟨rfl, d10⟩
          go_wp2_with fail
          go_ret2
          exact ⟨by rw [HR.out]; rfl, Below.trans HW.out.1 d10⟩
        · have HR := Lib.hid (HL.out hbig)
          go_wp2_with fail
          go_ret2
          exact ⟨by rw [HR.out]; rfl, HW.out.1⟩

end Go.Proofs.YtjimgkefacnamaaGreatDoor

/- The reference's Pack. -/
namespace Go.Proofs.YtjimgkefacnamaaGreatDoor
open Go.RowKit Go.Maps Go.ChangeMaps Go.Sort

theorem encP_one {l : List C.Mem} {k : Nat} (hk : k < l.length) {s : ByteArray} {o : C.Obj} (h1 : l[k].1 = s) (h2 : l[k].2 = o) (hs : s.size ≤ 128) (ho : (C.encObj o).length ≤ 65536) (u : ByteArray) (hu : u.data.toList = encP l k) :
    (u ++ txtB s ++ txtB (mkB (C.encObj o))).data.toList = encP l (k + 1) := by
  rw [bs_add, bs_add, hu, encP_step hk h1 h2 hs ho]

set_option maxRecDepth 100000 in
set_option maxHeartbeats 8000000 in
theorem rPack_any (l : List C.Mem) (A : Option Addr) (c n : Nat) (w : World) (hn : n = l.length) (hA : SliceAt memR w (Old w) A c l) (hz : MemSizes l) :
    Calls Tryz.prog 31 #[.slice A n c] w (Al (packV l) w) := by
  have HMB := Lib.hid (CheckMembers_any l A c n w hn hA hz)
  rcases (Bool.eq_false_or_eq_true (C.memsB okN okP l)).symm with hck | hck
  · rw [packV_bad hck]
    rw [hck] at HMB
    clear hn hA hz hck
    go_enter Tryz.func31, Tryz.ntmps31
    go_wp2_with fail
    refine HMB.out.mono ?_
    rintro e w1 ⟨rfl, d1⟩
    go_wp2_with fail
    go_ret2
    exact ⟨rfl, d1⟩
  · rw [hck] at HMB
    have FB := Lib.hid (fun k (hk : k < l.length) => packV_big hck hk)
    have FL := Lib.hid (packV_long hck)
    have FG := Lib.hid (packV_good hck)
    have hln := ((C.memsB_iff okN okP l).1 hck).1
    have hn64 : n ≤ 64 := by omega
    have HOK := Lib.hid (((C.memsB_iff okN okP l).1 hck).2)
    have HLN := Lib.hid (fun k => @encP_len l hck k)
    generalize packV l = R at FB FL FG ⊢
    have HN := Lib.hid hn
    have HA := Lib.hid hA
    have HZ := Lib.hid hz
    clear hn hA hz hck hln
    go_enter Tryz.func31, Tryz.ntmps31
    go_wp2_with fail
    refine HMB.out.mono ?_
    rintro e w1 ⟨rfl, d1⟩
    have HX1 := Lib.hid d1
    clear d1
    have hsz : (txtB ⟨#[97, 114, 99, 104, 105, 118, 101]⟩).size ≤ 65560 := txtB_size _
    have hnz : (numB (n : Int)).size ≤ 17 := numB_size _
    have HT0 := Lib.hid (fun w' => text_ref ⟨#[97, 114, 99, 104, 105, 118, 101]⟩ w' (by decide))
    have HN0 := Lib.hid (number_ref (n : Int))
    have HU0 : Hid ((txtB ⟨#[97, 114, 99, 104, 105, 118, 101]⟩ ++ numB (n : Int)).data.toList = encP l 0) := by
      unfold Hid
      rw [bs_add, txtB_in (by decide), numB_in (by omega), Int.toNat_natCast, HN.out, encP_zero]
      rfl
    generalize txtB ⟨#[97, 114, 99, 104, 105, 118, 101]⟩ = t0 at hsz HT0 HU0
    generalize numB (n : Int) = t1 at hnz HN0 HU0
    go_wp2_with fail
    refine (HT0.out _).mono ?_
    rintro e w2 ⟨rfl, d2⟩
    have HX2 := Lib.hid (HX1.out.trans d2)
    clear d2
    go_wp2_with fail
    refine (HN0.out _).mono ?_
    rintro e w3 ⟨rfl, d3⟩
    have HX3 := Lib.hid (HX2.out.trans d3)
    clear d3
    go_wp2_with fail
    have HR0 : Hid ((t0 ++ t1).data.toList = encP l 0 ∧ fitTo l 0 ∧ Ext w w3) := ⟨HU0.out, fun _ _ h => absurd h (Nat.not_lt_zero _), HX3.out⟩
    have hu0 : (t0 ++ t1).size ≤ 10000000 := by rw [bs_size HU0.out]; exact HLN.out 0 (fun _ _ h => absurd h (Nat.not_lt_zero _))
    generalize t0 ++ t1 = u0 at HR0 hu0
    clear hsz hnz HT0 HN0 HU0
    go_loopw [4, 19] (fun st i wr => ∃ (k : Nat) (u : ByteArray), k ≤ n ∧ i = .int .i64 k ∧ st = .string u ∧ u.size ≤ 10000000 ∧ Hid (u.data.toList = encP l k ∧ fitTo l k ∧ Ext w wr)) (fun _ i _ => n - (intOf i).toNat)
    case atStart => exact ⟨0, _, Nat.zero_le _, rfl, rfl, hu0, HR0⟩
    case round =>
      clear hu0 HR0
      obtain ⟨k, u, hk, rfl, rfl, hu, HK⟩ := hrel
      by_cases hlt : k < n
      · have hkz : k < l.length := by rw [← HN.out]; exact hlt
        obtain ⟨b, off, s, SA, sc, SB, sd, rfl, hB, hgk, hs, hSA, hSB, c0, c1, c2⟩ := mem_getB (HA.out.ext HK.out.2.2) hkz
        have hzz := HZ.out _ (List.getElem_mem hkz)
        obtain ⟨q1, q2, q3⟩ := HOK.out k hkz
        have HST := Lib.hid (fun o (ho : l[k].2 = o) h1 h2 => encP_one hkz hgk ho h1 h2 u HK.out.1)
        have HFB := Lib.hid (FB.out k hkz)
        have HFT := Lib.hid (fitTo_succ HK.out.2.1 hkz)
        have HSS := Lib.hid (okP_len q1)
        rw [hgk] at HSS
        obtain ⟨o, ho⟩ : ∃ o, o = l[k].2 := ⟨_, rfl⟩
        rw [← ho] at hSA hSB c1 c2 hzz HFB HFT q2 HST
        have HO := Lib.hid ho
        obtain ⟨sn, hsn⟩ : ∃ x, x = o.1.length := ⟨_, rfl⟩
        obtain ⟨sm, hsm⟩ : ∃ x, x = o.2.length := ⟨_, rfl⟩
        rw [← hsn] at c1
        rw [← hsm] at c2
        have E1 : Ext wr (wr.alloc (.cells #[.string s, .slice SA sn sc, .slice SB sm sd] 52)) := (Ext.refl wr).alloc _
        have HEN := Lib.hid (fun W (h : Ext wr W) => rEncode_any o SA SB sc sd sn sm W hsn (hSA.ext h) hsm (hSB.ext h) hzz.2)
        have HW1 := Lib.hid (HK.out.2.2.trans E1)
        have HE1 := Lib.hid E1
        have FEb := Lib.hid (encV_big q2)
        have FEg := Lib.hid (encV_good q2)
        clear q1 q2 q3 hzz hgk ho hsn hsm hSA hSB E1 hs
        by_cases hbig : (C.encObj o).length ≤ 65536
        · rw [FEg.out hbig] at HEN
          have HFT2 := Lib.hid (HFT.out hbig)
          have HST2 := Lib.hid (HST.out o rfl HSS.out hbig)
          have HL9 : Hid ((u ++ txtB s ++ txtB (mkB (C.encObj o))).size ≤ 10000000) := by unfold Hid; rw [bs_size HST2.out]; exact HLN.out (k + 1) HFT2.out
          have HML : Hid ((mkB (C.encObj o)).size ≤ 65536) := by unfold Hid; rw [mkB_size]; exact hbig
          clear HFB FB FEb FEg HST HFT hbig
          generalize mkB (C.encObj o) = bo at HEN HST2 HML HL9
          have g1 := txtB_size s
          have g2 := txtB_size bo
          have T1 := Lib.hid (fun w' => text_ref s w' (by have := HSS.out; omega))
          have T2 := Lib.hid (fun w' => text_ref bo w' (by have := HML.out; omega))
          generalize txtB s = t1 at g1 T1 HST2 HL9
          generalize txtB bo = t2 at g2 T2 HST2 HL9
          go_wp2_with fail
          refine (HEN.out _ HE1.out).mono ?_
          rintro e w5 ⟨rfl, d5⟩
          have x0 := d5.keepc (cell_new wr #[.string s, .slice SA sn sc, .slice SB sm sd] 52 0)
          have HX5 := Lib.hid (HW1.out.trans d5)
          clear d5
          go_wp2_with fail
          refine (T1.out _).mono ?_
          rintro e w6 ⟨rfl, d6⟩
          have HX6 := Lib.hid (HX5.out.trans d6)
          clear d6 x0
          go_wp2_with fail
          refine (T2.out _).mono ?_
          rintro e w7 ⟨rfl, d7⟩
          have HX7 := Lib.hid (HX6.out.trans d7)
          clear d7
          go_wp2_with fail
          have H9 : Hid ((u ++ t1 ++ t2).data.toList = encP l (k + 1) ∧ fitTo l (k + 1) ∧ Ext w w7) := ⟨HST2.out, HFT2.out, HX7.out⟩
          have h20 := HL9.out
          generalize u ++ t1 ++ t2 = u9 at H9 h20
          clear HL9 HST2
          go_roundw
          case rel => exact ⟨k + 1, u9, by omega, by go_num, rfl, h20, H9⟩
          case measure => simp [intOf]; omega
        · rw [FEb.out hbig] at HEN
          have HR := Lib.hid (HFB.out hbig)
          clear hbig
          go_wp2_with fail
          refine (HEN.out _ HE1.out).mono ?_
          rintro e w5 ⟨rfl, d5⟩
          have HX5 := Lib.hid (HW1.out.trans d5)
          clear d5
          go_wp2_with fail
          go_ret2
          exact ⟨by rw [HR.out]; rfl, HX5.out⟩
      · have hkn : k = l.length := by have := HN.out; omega
        have HF : Hid (fitTo l l.length) := by have := HK.out.2.1; rwa [hkn] at this
        have HW : Hid (u.data.toList = C.encArc l) := by
          have := HK.out.1
          rw [encP_end (by omega)] at this
          exact this
        have hus : u.size = (C.encArc l).length := bs_size HW.out
        have hum : mkB (C.encArc l) = u := by rw [← HW.out]; rfl
        have HL := Lib.hid (FL.out HF.out)
        have HH := Lib.hid (FG.out HF.out)
        rw [hum, ← hus] at HH
        rw [← hus] at HL
        clear hkn HF FB FL FG hus hum
        by_cases hbig : u.size ≤ 65536
        · have HR := Lib.hid (HH.out hbig)
          go_wp2_with fail
          go_ret2
          exact ⟨by rw [HR.out]; rfl, HK.out.2.2⟩
        · have HR := Lib.hid (HL.out hbig)
          go_wp2_with fail
          go_ret2
          exact ⟨by rw [HR.out]; rfl, HK.out.2.2⟩

end Go.Proofs.YtjimgkefacnamaaGreatDoor

/- Unpack: its steps in plain words; what stands while it reads. -/
namespace Go.Proofs.YtjimgkefacnamaaGreatDoor
open Go.RowKit Go.Maps Go.ChangeMaps

/-- A member: two texts; the second is an object's. -/
theorem mem_steps (st : Option C.Bs) {o : C.Obj} (h : C.decB okN (nT 65536 (nT 128 st).2).1 = some o) :
    (nT 65536 (nT 128 st).2).2.map (fun q => (((mkB (nT 128 st).1, o) : C.Mem), q)) = st.bind (C.pMem okN) := by
  cases st with
  | none => rfl
  | some l =>
    rw [Option.bind_some]
    unfold C.pMem
    cases h1 : C.pTxt 128 l with
    | none => rw [nT_no h1]; rfl
    | some x =>
      obtain ⟨s, l1⟩ := x
      rw [nT_of h1] at h ⊢
      simp only at h ⊢
      cases h2 : C.pTxt 65536 l1 with
      | none => rw [nT_no h2]; rfl
      | some x =>
        obtain ⟨b, l2⟩ := x
        rw [nT_of h2] at h ⊢
        simp only at h ⊢
        rw [h]
        rfl
theorem mem_no (st : Option C.Bs) (h : C.decB okN (nT 65536 (nT 128 st).2).1 = none) : st.bind (C.pMem okN) = none := by
  cases st with
  | none => rfl
  | some l =>
    rw [Option.bind_some]
    unfold C.pMem
    cases h1 : C.pTxt 128 l with
    | none => rfl
    | some x =>
      obtain ⟨s, l1⟩ := x
      rw [nT_of h1] at h
      simp only at h ⊢
      cases h2 : C.pTxt 65536 l1 with
      | none => rfl
      | some x =>
        obtain ⟨b, l2⟩ := x
        rw [nT_of h2] at h
        simp only at h ⊢
        rw [h]
theorem arc_eq {data : C.Bs} (hw : (nT 7 (some data)).1 = C.wArchive) {k : Nat} (hk : (nN 0 64 (nT 7 (some data)).2).1 = (k : Int)) : pMore (C.pMem okN) k (nN 0 64 (nT 7 (some data)).2).2 [] = C.pArc okN data := by
  have hk : k = (nN 0 64 (nT 7 (some data)).2).1.toNat := by omega
  subst hk
  unfold C.pArc
  cases e0 : C.pTxt 7 data with
  | none => rw [nT_no e0] at hw; cases hw
  | some x =>
    obtain ⟨w, l0⟩ := x
    rw [nT_of e0] at hw ⊢
    simp only at hw ⊢
    subst hw
    simp only [if_true]
    cases e1 : C.pNum 0 64 l0 with
    | none => rw [nN_no e1]; rfl
    | some x =>
      obtain ⟨n, l1⟩ := x
      rw [nN_of e1]
      simp only
      rw [pMore_start, show ((n : Int)).toNat = n by omega]
theorem unp_head {data : C.Bs} (hw : (nT 7 (some data)).1 ≠ C.wArchive) : C.unpB okN okP data = none := by
  have : C.pArc okN data = none := by
    unfold C.pArc
    cases e0 : C.pTxt 7 data with
    | none => rfl
    | some x =>
      obtain ⟨w, l0⟩ := x
      rw [nT_of e0] at hw
      simp only
      rw [if_neg hw]
  unfold C.unpB
  rw [this]
  split <;> rfl
theorem unp_long {data : C.Bs} (h : ¬ data.length ≤ 65536) : C.unpB okN okP data = none := by
  unfold C.unpB
  rw [if_neg h]
theorem unp_none {data : C.Bs} (h : C.pArc okN data = none) : C.unpB okN okP data = none := by
  unfold C.unpB
  rw [h]
  split <;> rfl
theorem unp_good {data : C.Bs} {st : Option C.Bs} {ms : List C.Mem} (hl : data.length ≤ 65536) (h : st.map (fun q => (ms, q)) = C.pArc okN data) (he : rdEnd st = true) (hc : C.memsB okN okP ms = true) : C.unpB okN okP data = some ms := by
  cases st with
  | none => cases he
  | some q =>
    cases q with
    | cons x q => cases he
    | nil =>
      unfold C.unpB
      rw [if_pos hl, ← h]
      simp only [Option.map_some]
      rw [if_pos (by simp [hc])]
theorem unp_bad {data : C.Bs} {st : Option C.Bs} {ms : List C.Mem} (h : st.map (fun q => (ms, q)) = C.pArc okN data) (he : rdEnd st = false ∨ C.memsB okN okP ms = false) : C.unpB okN okP data = none := by
  unfold C.unpB
  rw [← h]
  cases st with
  | none => split <;> rfl
  | some q =>
    simp only [Option.map_some]
    split
    · rw [if_neg ?_]
      rintro ⟨rfl, hm⟩
      rcases he with he | he
      · cases he
      · rw [he] at hm; cases hm
    · rfl
theorem mem_sizes_push {ms : List C.Mem} (h : MemSizes ms) {s : ByteArray} {o : C.Obj} (hs : s.size ≤ 128) {b : C.Bs} (ho : C.decB okN b = some o) : MemSizes (ms ++ [(s, o)]) := by
  intro m hm
  rcases List.mem_append.1 hm with h1 | h1
  · exact h m h1
  · simp at h1
    subst h1
    refine ⟨by show s.size ≤ _; omega, fun x hx => ?_⟩
    obtain ⟨k, hk, rfl⟩ := List.getElem_of_mem hx
    exact Nat.le_trans (name_len (((C.namesB_iff okN o.1).1 (validO (C.decB_read okN ho).2.1).names) k hk).1) (by decide)
/-- What Unpack gives. -/
def RetMems (w : World) (r : Option (List C.Mem)) (e : Ending) (w' : World) : Prop := Ext w w' ∧ match r with
  | some l => ∃ A n c, e = .returned (.tuple #[.slice A n c, .int .i64 0]) ∧ n = l.length ∧ SliceAt memR w' (New w w') A c l
  | none => e = .returned (.tuple #[.slice none 0 0, .int .i64 17])
theorem retMems_none {w w' : World} {r : Option (List C.Mem)} (hr : r = none) (he : Ext w w') : RetMems w r (.returned (.tuple #[.slice none 0 0, .int .i64 17])) w' := by
  subst hr; exact ⟨he, rfl⟩
theorem retMems_some {w W : World} {l : List C.Mem} {A : Option Addr} {c n base : Nat} {r : Option (List C.Mem)} (hr : r = some l) (he : Ext w W) (hn : n = l.length) (hb : w.heap.size ≤ base) (h : SliceAt memR W (fun k => base ≤ k ∧ k < W.heap.size) A c l) : RetMems w r (.returned (.tuple #[.slice A n c, .int .i64 0])) W := by
  subst hr; exact ⟨he, A, n, c, rfl, hn, h.sub fun k hk => ⟨Nat.le_trans hb hk.1, hk.2⟩⟩
theorem memR_is {W : World} {S : Nat → Prop} {s : ByteArray} {o : C.Obj} {A B : Option Addr} {c n d m : Nat} (hs : s.size ≤ 9223372036854775807) (hn : n = o.1.length) (h1 : SliceAt symR W S A c o.1) (hm : m = o.2.length) (h2 : SliceAt secR W S B d o.2) : memR.is W S (s, o) [.string s, .slice A n c, .slice B m d] := by
  subst hn hm
  exact ⟨[.string s], [.slice A o.1.length c, .slice B o.2.length d], rfl, ⟨rfl, hs⟩, [.slice A o.1.length c], [.slice B o.2.length d], rfl, ⟨A, c, rfl, h1⟩, B, d, rfl, h2⟩
theorem mem_info : (Tryz.prog.info? 52).map (fun i => (i.zero, i.size, i.bytes)) = some (some (.agg #[.string ⟨#[]⟩, .slice none 0 0, .slice none 0 0]), 3, 64) := by kernel_rfl
/-- The blocks of Unpack: the reader, what points to it. -/
def Ufx (w : World) (rb sb base : Nat) (st : Option C.Bs) (wr : World) : Prop :=
  RdT 152 wr rb st ∧ wr.heap[sb]? = some (.cells #[.pointer (some ⟨rb, 0, none⟩)] 117 (0, 0)) ∧ Ext w wr ∧ (w.heap.size ≤ rb ∧ rb < sb ∧ sb < base) ∧ base ≤ wr.heap.size
section
variable {w : World} {rb sb base : Nat} {st : Option C.Bs} {wr : World}
theorem Ufx.ptr (h : Ufx w rb sb base st wr) : wr.cell? ⟨sb, 0, none⟩ = some (.pointer (some ⟨rb, 0, none⟩)) := cell_of_row wr _ 0 _ _ _ h.2.1
theorem Ufx.keepBut (h : Ufx w rb sb base st wr) {w' : World} {row : Option Nat} (g : wr.grownBy w' row) (hr : ∀ k, row = some k → base ≤ k) : Ufx w rb sb base st w' := by
  obtain ⟨h1, h3, h5, ⟨b1, b2, b3⟩, h7⟩ := h
  exact ⟨h1.keep (g.block rb h1.lt fun e => by have := hr _ e.symm; omega), (g.block sb (by omega) fun e => by have := hr _ e.symm; omega).trans h3,
    Below.grown h5 g h5.size fun k hk => by have := hr k hk; omega, ⟨b1, b2, b3⟩, Nat.le_trans h7 g.size⟩
theorem Ufx.ext (h : Ufx w rb sb base st wr) {w' : World} (d : Ext wr w') : Ufx w rb sb base st w' := h.keepBut (row := none) ⟨d.os, d.tape, d.output, d.size, fun k hk _ => d.block k hk⟩ fun _ e => by cases e
theorem Ufx.reader (h : Ufx w rb sb base st wr) {w' : World} {st' : Option C.Bs} (hr : RdT 152 w' rb st') (g : wr.grownBy w' (some rb)) : Ufx w rb sb base st' w' := by
  obtain ⟨h1, h3, h5, ⟨b1, b2, b3⟩, h7⟩ := h
  have hne : ∀ k, k ≠ rb → (some k : Option Nat) ≠ some rb := fun k hk e => hk (Option.some.inj e)
  exact ⟨hr, (g.block sb (by omega) (hne _ (by omega))).trans h3, h5.own (by omega) g, ⟨b1, b2, b3⟩, Nat.le_trans h7 g.size⟩
end
theorem ufx_push {w : World} {rb sb base n : Nat} {vv v' : Value} {st : Option C.Bs} {W W1 w5 : World} {l : List C.Mem} {xs us : List Value} {a : C.Mem} (h : Ufx w rb sb base st W) (hn : n = l.length)
    (hoa : OwnAt W base 52 memR.size vv n xs) (hfl : Flat memR W (Bl W base vv) l xs) (he : Ext W W1) (ha : memR.is W1 (Bl W1 base vv) a us)
    (ho : OwnAt w5 base 52 memR.size v' (n + 1) (xs ++ us)) (hg : W1.grownBy w5 vv.ownBlock) (hv : v'.ownBlock = vv.ownBlock ∨ ∃ g, v'.ownBlock = some g ∧ W1.heap.size ≤ g ∧ g < w5.heap.size) :
    Ufx w rb sb base st w5 ∧ OwnF memR w5 base 52 v' (n + 1) (l ++ [a]) := by
  have hlow := own_low hoa
  refine ⟨(h.ext he).keepBut hg hlow, ?_⟩
  exact OwnF.push hn (hfl.keep (fun k hk => ⟨hk.1, Nat.lt_of_lt_of_le hk.2.1 he.size, hk.2.2⟩) fun k hk => he.block k hk.2.1) ha ho hg hv
/-- What a call has made since, apart from an older row. -/
theorem SliceAt.newBl {α : Type} {r : Rep α} {w6 w7 W : World} {base c : Nat} {v : Value} {A : Option Addr} {l : List α} (h : SliceAt r w7 (New w6 w7) A c l) (hb : base ≤ w6.heap.size) (hold : ∀ g, v.ownBlock = some g → g < w6.heap.size) (he : Ext w7 W) : SliceAt r W (Bl W base v) A c l :=
  h.keep (fun k hk => ⟨Nat.le_trans hb hk.1, Nat.lt_of_lt_of_le hk.2 he.size, fun e => by have := hold k e; have := hk.1; omega⟩) fun k hk => he.block k hk.2

end Go.Proofs.YtjimgkefacnamaaGreatDoor
