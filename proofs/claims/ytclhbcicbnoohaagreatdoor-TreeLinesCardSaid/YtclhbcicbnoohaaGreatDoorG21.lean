/- The texts Xf of the seat, joined. -/
import Derived.Test.YtclhbcicbnoohaaGreatDoorG20
/- The walk of TreePlaces. -/
namespace Go.Proofs.YtclhbcicbnoohaaGreatDoor
open Go.RowKit

theorem findV_some {t : T.Tr} {p : ByteArray} {f : T.File} (h : T.findT t p.data.toList = some f) : findV t p = .tuple #[.string f.2, .bool true] := by
  unfold findV
  rw [h]
theorem findV_none {t : T.Tr} {p : ByteArray} (h : T.findT t p.data.toList = none) : findV t p = .tuple #[.string ⟨#[]⟩, .bool false] := by
  unfold findV
  rw [h]
theorem drop_one {t : T.Tr} (h : T.Srt t) {p : T.Bs} {f : T.File} (hf : T.findT t p = some f) : (T.dropT t p).length + 1 = t.length := by
  cases hx : T.idxT t p with
  | none => have := (T.idxT_no hx).2; rw [hf] at this; cases this
  | some k =>
    obtain ⟨hk, he, _, _⟩ := T.idxT_some hx
    rw [← T.erase_drop h hk he]
    simp only [List.length_append, List.length_take, List.length_drop]
    omega
/-- What was put is dropped again. -/
theorem put_back {t : T.Tr} {f : T.File} (h : T.Ok okB t) (hi : T.Ok okB (T.insT t f)) :
    T.dropE okB (T.insT t f) (T.pth f) = (T.dropT (T.insT t f) (T.pth f), 0) ∧ (T.findT t (T.pth f) = none → T.dropT (T.insT t f) (T.pth f) = t) ∧ (∀ g, T.findT t (T.pth f) = some g → (T.dropT (T.insT t f) (T.pth f)).length + 1 = t.length) := by
  refine ⟨?_, fun hn => T.drop_ins h.sorted hn, fun g hg => ?_⟩
  · rcases drop_cases (T.insT t f) (T.pth f) with ⟨e, h1, h2⟩ | ⟨h1, _, _⟩
    · unfold T.dropE at h1
      rw [if_neg (by rw [(T.ok_iff okB).2 hi]; simp), if_neg (by rw [T.find_ins]; simp)] at h1
      exact absurd (Prod.mk.inj h1).2.symm h2
    · exact h1
  · have hl := drop_one hi.sorted (T.find_ins t f)
    have h2 := T.insT_length h.sorted f
    have h3 : (T.idxT t (T.pth f)).isSome = true := by
      cases hx : T.idxT t (T.pth f) with
      | none => have := (T.idxT_no hx).2; rw [hg] at this; cases this
      | some k => rfl
    rw [if_pos h3] at h2
    omega
theorem under_back {t : T.Tr} {d : ByteArray} (hd : okB d = true) (hm : T.Ok okB (T.mountT t d.data.toList)) : T.underE okB (T.mountT t d.data.toList) d = t := by
  have hne : d.data.toList ≠ [] := by
    intro e
    have : okB ⟨#[]⟩ = false := by decide +kernel
    rw [show d = ⟨#[]⟩ from by rw [← T.mkF_eq d, e]; rfl, this] at hd
    cases hd
  unfold T.underE
  rw [if_neg (by rw [(T.ok_iff okB).2 hm]; simp), if_neg (fun e => hne (empty_data e)), if_pos hd, T.under_mount hne]

set_option maxRecDepth 100000 in
set_option maxHeartbeats 8000000 in
theorem treePlaces_walk (v0 v1 v2 : Value) (t : T.Tr) (f : T.File) (x : ByteArray) (w : World) (hg : Gl w) (h1 : ∃ cs, v1 = .agg cs) (r0 : (sliceR fileR).val w t v0) (r1 : fileR.val w f v1) (r2 : strR.val w x v2) (hb : BdT t) :
    Calls Tryz.prog 4 #[v0, v1, v2] w (Al (.bool true) w) := by
  obtain ⟨A, c, rfl, hS⟩ := val_slice r0
  obtain ⟨rfl, hfp, hfd⟩ := file_val h1 r1
  obtain ⟨rfl, hx⟩ := val_str r2
  obtain ⟨n, hn⟩ : ∃ n, n = t.length := ⟨_, rfl⟩
  rw [← hn]
  obtain ⟨fp, fd⟩ := f
  simp only at hfp hfd
  simp only
  have HG := Lib.hid hg
  have HN := Lib.hid hn
  have HS := Lib.hid hS
  have HAW := Lib.hid (fun W (h : Ext w W) => awake_any W (hg.ext h))
  have HFW := Lib.hid (fun W (h : Ext w W) => few_one t A n c W hn (hS.ext h) hb)
  have HF1 := Lib.hid (fun W (h : Ext w W) => Find_any t A c n fp W hn (hS.ext h))
  have HC1 := Lib.hid (fun (hf : FewT t) W (h : Ext w W) => Check_any t A c n W hn (hS.ext h) hf.paths (hg.ext h))
  have HP1 := Lib.hid (fun (hf : FewT t) (hp : fp.size ≤ 300) W (h : Ext w W) => Put_any t A c n fp fd W hn (hS.ext h) hf.paths (by omega) hfd (hg.ext h))
  have HPZ := Lib.hid (put_szF t (fp, fd))
  have HM1 := Lib.hid (fun (hf : FewT t) (hp : x.size ≤ 300) W (h : Ext w W) => Mount_any t A c n x W hn (hS.ext h) hf.paths (by omega) (hg.ext h))
  have HMZ := Lib.hid (mount_szF t x)
  have HI1 := Lib.hid (fun (hf : FewT t) W (h : Ext w W) => ID_any t A c n W hn (hS.ext h) hf.paths (hg.ext h))
  obtain ⟨W1, hW1⟩ : ∃ W1, W1 = w.alloc (.cells #[.string fp, .string fd] 25) := ⟨_, rfl⟩
  have a0 : W1.cell? ⟨w.heap.size, 0, none⟩ = some (.string fp) := by rw [hW1]; exact cell_new w #[.string fp, .string fd] 25 0
  have a1 : W1.cell? ⟨w.heap.size, 1, none⟩ = some (.string fd) := by rw [hW1]; exact cell_new w #[.string fp, .string fd] 25 1
  have X1 : Ext w W1 := by rw [hW1]; exact (Ext.refl w).alloc _
  have HX1 := Lib.hid X1
  have KA0 := Lib.hid a0
  have KA1 := Lib.hid a1
  clear hn hS h1 r0 r1 r2 hg hb X1
  go_enter Tryz.func4, Tryz.ntmps4
  go_wp2_with fail
  rw [← hW1]
  clear hW1 a0 a1
  refine (HAW.out _ HX1.out).mono ?_
  rintro e2 w2 ⟨rfl, d2⟩
  have HD2 := Lib.hid d2
  clear d2
  go_wp2_with fail
  refine (HFW.out _ (HX1.out.trans HD2.out)).mono ?_
  rintro e3 w3 ⟨d3, b, rfl, hb⟩
  have HD3 := Lib.hid (HD2.out.trans d3)
  clear d3 HD2
  cases b with
  | false =>
    clear hb
    go_wp2_with fail
    go_ret
    exact ⟨rfl, HX1.out.trans HD3.out⟩
  | true =>
    have HFO := Lib.hid (hb rfl)
    have a0 := HD3.out.keepc KA0.out
    have a1 := HD3.out.keepc KA1.out
    clear hb
    by_cases hp3 : 300 < fp.size
    · go_wp2_with fail
      go_ret
      exact ⟨rfl, HX1.out.trans HD3.out⟩
    have hps : fp.size ≤ 300 := by omega
    by_cases hd3 : 1000 < fd.size
    · go_wp2_with fail
      go_ret
      exact ⟨rfl, HX1.out.trans HD3.out⟩
    by_cases hx3 : 300 < x.size
    · go_wp2_with fail
      go_ret
      exact ⟨rfl, HX1.out.trans HD3.out⟩
    have hxs : x.size ≤ 300 := by omega
    go_wp2_with fail
    refine (HC1.out HFO.out _ (HX1.out.trans HD3.out)).mono ?_
    rintro e4 w4 ⟨rfl, d4⟩
    have HD4 := Lib.hid (HD3.out.trans d4)
    clear d4 a0 a1 HD3 HC1
    by_cases hck : T.checkE okB t = 0
    case neg =>
      have hcf : (T.checkE okB t == 0) = false := by simpa using hck
      have hct : (T.checkE okB t != 0) = true := by rw [bne, hcf]; rfl
      generalize T.checkE okB t = ce at *
      clear hck
      go_wp2_with fail
      go_ret
      exact ⟨rfl, HX1.out.trans HD4.out⟩
    have HOK := Lib.hid (checkE_ok hck)
    rw [hck]
    clear hck
    have a0 := HD4.out.keepc KA0.out
    have a1 := HD4.out.keepc KA1.out
    go_wp2_with fail
    refine (HF1.out _ (HX1.out.trans HD4.out)).mono ?_
    rintro e5 w5 ⟨rfl, d5⟩
    have HD5 := Lib.hid (HD4.out.trans d5)
    clear d5 a0 a1 HD4 HF1
    have a0 := HD5.out.keepc KA0.out
    have a1 := HD5.out.keepc KA1.out
    obtain ⟨fs, fb, hfv, hwas⟩ : ∃ s b, findV t fp = .tuple #[.string s, .bool b] ∧ Hid ((b = false ∧ T.findT t fp.data.toList = none) ∨ (b = true ∧ ∃ g, T.findT t fp.data.toList = some g)) := by
      cases hf : T.findT t fp.data.toList with
      | none => exact ⟨_, _, findV_none hf, .inl ⟨rfl, rfl⟩⟩
      | some g => exact ⟨_, _, findV_some hf, .inr ⟨rfl, g, rfl⟩⟩
    rw [hfv]
    clear hfv
    go_wp2_with fail
    refine (HP1.out HFO.out hps _ (HX1.out.trans HD5.out)).mono ?_
    intro e6 w6 hr
    obtain ⟨A6, n6, c6, rfl, hn6, hS6, d6⟩ := retTr_any hr HPZ.out
    have HD6 := Lib.hid (HD5.out.trans d6)
    have HS6 := Lib.hid hS6
    have HN6 := Lib.hid hn6
    clear hr d6 hS6 hn6 HD5 a0 a1 HP1
    have hput : Hid ((∃ e : Int, T.putE okB t (fp, fd) = ([], e) ∧ e ≠ 0) ∨ (T.putE okB t (fp, fd) = (T.insT t (fp, fd), 0) ∧ T.Ok okB (T.insT t (fp, fd)))) := by
      rcases put_cases t (fp, fd) with ⟨e, h1, h2⟩ | ⟨h1, _, _, _, h2⟩
      · exact .inl ⟨e, h1, h2⟩
      · exact .inr ⟨h1, h2⟩
    rcases hput.out with ⟨pe, hpz, hpe⟩ | ⟨hpz, hui⟩
    case' inl =>
      have hpf : (pe == 0) = false := by simpa using hpe
      rw [hpz]
      have HQ := HD6
      clear hpe hpz hput HS6 HN6 HPZ hwas
    case' inr =>
      rw [hpz] at HS6 HN6
      rw [hpz]
      simp only at HS6 HN6
      have HUI := Lib.hid hui
      have HFU := Lib.hid (fun W (h : Ext w6 W) => Find_any (T.insT t (fp, fd)) A6 c6 n6 fp W HN6.out (HS6.out.ext h))
      rw [findV_some (f := (fp, fd)) (T.find_ins t (fp, fd))] at HFU
      have HDU := Lib.hid (fun W (h : Ext w6 W) => Drop_any (T.insT t (fp, fd)) A6 c6 n6 fp W HN6.out (HS6.out.ext h) (fun f hf => by have := okB_size (HUI.out.path f hf); omega) (HG.out.ext ((HX1.out.trans HD6.out).trans h)))
      have HDZ := Lib.hid (drop_szF (T.insT t (fp, fd)) fp.data.toList)
      obtain ⟨hdz, hb1, hb2⟩ := put_back HOK.out hui
      rw [show T.pth (fp, fd) = fp.data.toList from rfl] at hdz hb1 hb2
      rw [hdz] at HDU HDZ
      have HCU := Lib.hid (fun W (h : Ext w6 W) => Check_any (T.insT t (fp, fd)) A6 c6 n6 W HN6.out (HS6.out.ext h) (fun f hf => by have := okB_size (HUI.out.path f hf); omega) (HG.out.ext ((HX1.out.trans HD6.out).trans h)))
      rw [(T.ok_iff okB).2 HUI.out] at HCU
      generalize T.dropT (T.insT t (fp, fd)) fp.data.toList = BK at HDU HDZ hb1 hb2
      have HB1 := Lib.hid hb1
      have HB2 := Lib.hid hb2
      clear hdz hb1 hb2 hpz hput hui HPZ
      have a0 := HD6.out.keepc KA0.out
      have a1 := HD6.out.keepc KA1.out
      go_wp2_with fail
      refine (HFU.out _ (Ext.refl _)).mono ?_
      rintro e7 w7 ⟨rfl, d7⟩
      have HE7 := Lib.hid d7
      clear d7 a0 a1 HFU
      have a0 := HE7.out.keepc (HD6.out.keepc KA0.out)
      have a1 := HE7.out.keepc (HD6.out.keepc KA1.out)
      go_wp2_with fail
      refine (HDU.out _ HE7.out).mono ?_
      intro e8 w8 hr
      obtain ⟨A8, n8, c8, rfl, hn8, hS8, d8⟩ := retTr_any hr HDZ.out
      have HE8 := Lib.hid (HE7.out.trans d8)
      have HS8 := Lib.hid hS8
      have HN8 := Lib.hid hn8
      clear hr d8 hS8 hn8 HE7 HDU HDZ a0 a1
      have a0 := HE8.out.keepc (HD6.out.keepc KA0.out)
      have a1 := HE8.out.keepc (HD6.out.keepc KA1.out)
      go_wp2_with fail
      refine (HCU.out _ HE8.out).mono ?_
      rintro e9 w9 ⟨rfl, d9⟩
      have HE9 := Lib.hid (HE8.out.trans d9)
      have HF9 := Lib.hid d9
      clear d9 a0 a1 HCU
      rcases hwas.out with ⟨rfl, hno⟩ | ⟨rfl, g, hso⟩
      case' inl =>
        have HBT := Lib.hid (HB1.out hno)
        have HEQ := Lib.hid (eq_self t A8 A c8 c n8 n w9 (by have h8 : n8 = BK.length := HN8.out; rw [h8, show BK = t from HBT.out]) HN.out (by have h8 : SliceAt fileR w9 (Old w9) A8 c8 BK := HS8.out.ext HF9.out; rwa [show BK = t from HBT.out] at h8) (HS.out.ext ((HX1.out.trans HD6.out).trans HE9.out)))
        clear hno hwas HB1 HB2
        go_wp2_with fail
        refine HEQ.out.mono ?_
        rintro e10 w10 ⟨rfl, d10⟩
        have HQ := Lib.hid ((HD6.out.trans HE9.out).trans d10)
        clear d10 HEQ HBT HE8 HE9 HF9 HS8 HN8 HD6 HS6 HN6 HUI
      case' inr =>
        have hl : n8 + 1 = n := by have h1 : n8 = BK.length := HN8.out; rw [h1, HN.out]; exact HB2.out g hso
        have hn64 : n ≤ 64 := by rw [HN.out]; exact HOK.out.few
        have hn1 : 1 ≤ n := by omega
        have hlt : ((n8 : Int) == (n : Int) - 1) = true := by simp; omega
        have hlf : ((n8 : Int) != (n : Int) - 1) = false := by rw [bne, hlt]; rfl
        have HQ := Lib.hid (HD6.out.trans HE9.out)
        clear hso hwas HB1 HB2 HE8 HE9 HF9 HS8 HN8 HD6 HS6 HN6 HUI hl
    all_goals
      go_wp2_with fail
      refine (HM1.out HFO.out hxs _ (HX1.out.trans HQ.out)).mono ?_
      intro e20 w20 hr
      obtain ⟨A20, n20, c20, rfl, hn20, hS20, d20⟩ := retTr_any hr HMZ.out
      have HD20 := Lib.hid (HQ.out.trans d20)
      have HS20 := Lib.hid hS20
      have HN20 := Lib.hid hn20
      clear hr d20 hS20 hn20 HQ HM1 HMZ
      rcases mount_cases t x HOK.out with hmz | ⟨hmz, hxo, hmo⟩
      · rw [hmz] at HN20 HS20
        rw [hmz]
        obtain rfl : n20 = 0 := HN20.out
        clear hmz HN20 HS20
        go_wp2_with fail
        go_ret
        exact ⟨rfl, HX1.out.trans HD20.out⟩
      · rw [hmz] at HN20 HS20
        rw [hmz]
        simp only at HN20 HS20
        have HMO := Lib.hid hmo
        have HU1 := Lib.hid (fun W (h : Ext w20 W) => Under_any (T.mountT t x.data.toList) A20 c20 n20 x W HN20.out (HS20.out.ext h) (fun f hf => by have := okB_size (HMO.out.path f hf); omega) (by omega) (HG.out.ext ((HX1.out.trans HD20.out).trans h)))
        rw [under_back hxo hmo] at HU1
        have HCM := Lib.hid (fun W (h : Ext w20 W) => Check_any (T.mountT t x.data.toList) A20 c20 n20 W HN20.out (HS20.out.ext h) (fun f hf => by have := okB_size (HMO.out.path f hf); omega) (HG.out.ext ((HX1.out.trans HD20.out).trans h)))
        rw [(T.ok_iff okB).2 hmo] at HCM
        have HTZ := Lib.hid (ok_szF HOK.out)
        have hiv := idV_ok ((T.ok_iff okB).2 HOK.out)
        have HIV := Lib.hid hiv
        rw [hiv] at HI1
        generalize T.idT t = ti at HI1 HIV
        clear hmz hxo hmo hiv HN20 HS20 HMO
        go_wp2_with fail
        refine (HI1.out HFO.out _ (HX1.out.trans HD20.out)).mono ?_
        rintro e21 w21 ⟨rfl, d21⟩
        have HE21 := Lib.hid d21
        clear d21 HI1
        go_wp2_with fail
        refine (HU1.out _ HE21.out).mono ?_
        intro e22 w22 hr
        obtain ⟨A22, n22, c22, rfl, hn22, hS22, d22⟩ := retT_any hr HTZ.out
        have HE22 := Lib.hid (HE21.out.trans d22)
        have HI2 := Lib.hid (ID_any t A22 c22 n22 w22 hn22 hS22 HFO.out.paths (HG.out.ext ((HX1.out.trans HD20.out).trans HE22.out)))
        rw [HIV.out] at HI2
        clear hr d22 hS22 hn22 HE21 HIV
        go_wp2_with fail
        refine HI2.out.mono ?_
        rintro e23 w23 ⟨rfl, d23⟩
        have HE23 := Lib.hid (HE22.out.trans d23)
        clear d23 HE22 HI2
        go_wp2_with fail
        refine (HCM.out _ HE23.out).mono ?_
        rintro e24 w24 ⟨rfl, d24⟩
        have HE24 := Lib.hid (HE23.out.trans d24)
        clear d24 HE23 HCM
        go_wp2_with fail
        refine (HU1.out _ HE24.out).mono ?_
        intro e25 w25 hr
        obtain ⟨A25, n25, c25, rfl, hn25, hS25, d25⟩ := retT_any hr HTZ.out
        have HE25 := Lib.hid (HE24.out.trans d25)
        have HEQ := Lib.hid (eq_self t A25 A c25 c n25 n w25 hn25 HN.out hS25 (HS.out.ext ((HX1.out.trans HD20.out).trans HE25.out)))
        clear hr d25 hS25 hn25 HE24 HU1
        go_wp2_with fail
        refine HEQ.out.mono ?_
        rintro e26 w26 ⟨rfl, d26⟩
        have HE26 := Lib.hid (HE25.out.trans d26)
        clear d26 HE25 HEQ
        go_wp2_with fail
        go_ret
        exact ⟨rfl, HX1.out.trans (HD20.out.trans HE26.out)⟩
end Go.Proofs.YtclhbcicbnoohaaGreatDoor
