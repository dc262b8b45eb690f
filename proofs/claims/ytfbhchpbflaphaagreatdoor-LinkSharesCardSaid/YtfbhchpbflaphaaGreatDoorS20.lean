/- The texts Lv of the seat, joined. -/
import Derived.Test.YtfbhchpbflaphaaGreatDoorS19
namespace Go.Proofs.YtfbhchpbflaphaaGreatDoor
open Go.RowKit Go.Maps Go.ChangeMaps
attribute [local irreducible] wpLex wpT
set_option maxRecDepth 8000 in
set_option maxHeartbeats 3000000 in
theorem refShare_any (objs : List C.Mem) (A : Option Addr) (a n : Nat) (w : World) (hn : n = objs.length) (hA : SliceAt memR w (Old w) A a objs) (hC : CaseOk objs [] []) :
 Calls Tryz.prog 17 #[.slice A n a] w (RetLk w (linkV (L.shareL okN okP objs))) := by
 have hno := hC.no
 have HMK := Lib.hid (fun W (e : Ext w W) => Make_any objs [] [] A none none a 0 0 n 0 0 W hn (hA.ext e) rfl (SliceAt.nil _ _ _ _ _ (by omega)) rfl (SliceAt.nil _ _ _ _ _ (by omega)) hC)
 have HE := Lib.hid hC.env
 have HU : Hid (L.validB okN okP objs [] [] = true -> ∀ m ∈ objs, m.2.1.length <= 128) := fun hv m hm => (L.check_parts (L.valid_units hv [] m (List.mem_append_left _ hm))).1
 obtain ⟨FV, hR⟩ : ∃ FV, FV = linkV (L.shareL okN okP objs) := ⟨_, rfl⟩
 rw [<- hR]
 unfold L.shareL at hR
 rw [<- valid_alone objs] at hR
 obtain ⟨E, hE⟩ : ∃ E, E = L.envOf objs [] [] := ⟨_, rfl⟩
 obtain ⟨ns, hns⟩ : ∃ ns, ns = namesE objs := ⟨_, rfl⟩
 have hns' : ((L.expNames objs).map fun b => (⟨b.toArray⟩ : ByteArray)) = ns := hns.symm
 rw [<- hE] at HE
 have hel : E.libs = [] := by rw [hE]; rfl
 have hem : E.mems = [] := by rw [hE]; rfl
 have hml : L.memsOf [] = E.mems := by rw [hE]; rfl
 rw [hml] at HMK
 have HA : Hid (SliceAt memR w (Old w) A a E.objs) := by rw [hE]; exact hA
 have HN : Hid (n = E.objs.length /\ n = objs.length) := by rw [hE]; exact ⟨hn, hn⟩
 have HAO := Lib.hid hA
 generalize L.validB okN okP objs [] [] = V at HMK hR HE HU
 have HMS := Lib.hid hC.mems
 obtain ⟨hx1, hr1, hr2, hs1⟩ := two_cells w
 obtain ⟨W1, hW1⟩ : ∃ W1, W1 = (w.alloc (.cells zrow35 35)).alloc (.cells zrow38 38) := ⟨_, rfl⟩
 rw [<- hW1] at hx1 hr1 hr2 hs1
 have HW1 := Lib.hid hW1
 have HX1 := Lib.hid hx1
 have HR1 := Lib.hid hr1
 have HR2 := Lib.hid hr2
 have HS1 := Lib.hid hs1
 have hn50 : n <= 50 := by omega
 clear hn hA hC hno hx1 hr1 hr2 hs1 hW1 hml
 cases V with
 | false =>
  have hR' : FV = (zeroB, ([], []), 1) := by rw [hR]; rfl
  have HR := Lib.hid hR'
  clear hR hR' HE HU hns' hns hE hel hem
  go_enter Tryz.func17, Tryz.ntmps17
  go_upto_region 1 with (fail)
  rw [<- HW1.out]
  go_wp2_with fail
  refine (HMK.out _ HX1.out).mono ?_
  rintro _ w2 ⟨e2, MA, mk, mc, rfl, hown⟩
  clear hown
  have hz := e2.alloc (.cells #[.slice A n a, .slice MA mk mc, .slice none 0 0] 109)
  have hA := (hz.block _ (hltA HR1.out)).trans HR1.out
  have hB := (hz.block _ (hltA HR2.out)).trans HR2.out
  obtain ⟨⟨r0, r1, r2, r3, r4, r5, r6, r7⟩, f0, f1, f2, f3, f4, f5, f6, f7⟩ := zcells hA
  obtain ⟨s0, s1, t0, t1⟩ := zcells2 hB
  obtain ⟨hA3, hB3⟩ := zput_rows hA hB
  have HA3 := Lib.hid hA3
  have HB3 := Lib.hid hB3
  have HX3 := Lib.hid (zput_ext (HX1.out.trans hz))
  clear hz hA hB hA3 hB3
  go_wp2_with fail
  refine ret_bre rfl rfl rfl rfl HA3.out HB3.out rfl rfl rfl ?_
  rw [HR.out]
  exact ⟨HX3.out, RetBR.none _ _ _⟩
 | true =>
  rw [if_pos rfl] at hR
  simp only [hns', <- hE] at hR
  have HEV := Lib.hid (HE.out rfl)
  have HUU := Lib.hid (HU.out rfl)
  have HRR := Lib.hid hR
  have HNS := Lib.hid hns
  have HEL : Hid (E.libs.length = 0 /\ E.mems = [] /\ E.libs = []) := ⟨by rw [hel]; rfl, hem, hel⟩
  have HXS : Hid (∀ y ∈ ns, y.size <= 9223372036854775807) := by
   rw [hns]
   intro y hy
   have := namesE_size HMS.out y hy
   omega
  clear hR HE HU hns' hns hE hel hem
  go_enter Tryz.func17, Tryz.ntmps17
  go_upto_region 1 with (fail)
  rw [<- HW1.out]
  go_wp2_with fail
  refine (HMK.out _ HX1.out).mono ?_
  rintro _ w2 ⟨e2, MA, mk, mc, rfl, hown⟩
  obtain ⟨A', c', hsl, hmo⟩ := (hown rfl).slice
  obtain ⟨rfl, rfl, rfl⟩ : MA = A' /\ mk = E.mems.length /\ mc = c' := by cases hsl; exact ⟨rfl, rfl, rfl⟩
  have hMO : SliceAt memR w2 (Old w2) MA mc E.mems := hmo.keep (fun b hb => by
   rcases hb with hb | hb
   ·exact Nat.lt_of_lt_of_le hb e2.size
   ·exact ((hown rfl).lt hb).2) fun _ _ => rfl
  obtain ⟨nm, hnm⟩ : ∃ nm, nm = E.mems.length := ⟨_, rfl⟩
  rw [<- hnm]
  obtain ⟨W3, hW3⟩ : ∃ W3, W3 = w2.alloc (.cells #[.slice A n a, .slice MA nm mc, .slice none 0 0] 109) := ⟨_, rfl⟩
  obtain ⟨ab, hab⟩ : ∃ ab, ab = w2.heap.size := ⟨_, rfl⟩
  have E3 : Ext w2 W3 := by rw [hW3]; exact (Ext.refl w2).alloc _
  have hb3 : W3.heap[ab]? = some (.cells #[.slice A n a, .slice MA nm mc, .slice none 0 0] 109 (0, 0)) := by rw [hW3, hab]; exact heap_alloc_new w2 _
  have HB3 := Lib.hid hb3
  have HX3 := Lib.hid (e2.trans E3)
  have HMO := Lib.hid (hMO.ext E3)
  have HNM := Lib.hid hnm
  have HAB := Lib.hid hab
  have HX3' := Lib.hid HX3.out
  clear e2 hown hsl hmo hMO hnm E3 hb3 hab
  go_upto_region 2 with (fail)
  rw [<- hW3, <- HAB.out]
  clear hW3
  go_wp2_with fail
  go_loopw [7, 34] (fun v i wr => ∃ (k nv : Nat), k <= n /\ i = .int .i64 (k : Int) /\ Hid (OwnS wr W1.heap.size v nv (namesTo (objs.take k)) /\ Ext W3 wr)) (fun _ i _ => n - (intOf i).toNat)
  case atStart => exact ⟨0, 0, Nat.zero_le _, rfl, OwnS.nil _ _, Ext.refl _⟩
  case round =>
   obtain ⟨k, nv, hk, rfl, HK⟩ := hrel
   obtain ⟨W0, hW0⟩ : ∃ W0, W0 = wr := ⟨_, rfl⟩
   subst hW0
   by_cases hlt : k < n
   ·have hkl : k < objs.length := by rw [<- HN.out.2]; exact hlt
    obtain ⟨mb, mo, s, TA, tc, TB, td, hAe, hbo, hms, hss, hTA, hTB, m0, m1, m2⟩ := mem_getB (HAO.out.ext (HX1.out.trans (HX3.out.trans HK.out.2))) hkl
    subst hAe
    have hu := HUU.out _ (List.getElem_mem hkl)
    have hstep := namesTo_step hkl
    have hcl : (catE (objs.take k)).length <= k * 128 := by
     have h1 := catE_len (l := objs.take k) fun m hm => HUU.out m (List.mem_of_mem_take hm)
     rw [List.length_take] at h1
     have h2 : min k objs.length * 128 <= k * 128 := Nat.mul_le_mul_right _ (Nat.min_le_left _ _)
     omega
    have hel := exports_len (expL objs[k].2.1)
    have hel2 := expL_len objs[k].2.1
    obtain ⟨sy, hsy⟩ : ∃ sy, sy = objs[k].2.1 := ⟨_, rfl⟩
    rw [<- hsy] at hTA m1 hu hstep hel hel2
    generalize objs[k].2.2.length = ul at m2
    obtain ⟨tl, htl⟩ : ∃ tl, tl = sy.length := ⟨_, rfl⟩
    rw [<- htl] at m1 hu hel2
    obtain ⟨LX, hLX⟩ : ∃ LX, LX = (expL sy).foldl C.insB [] := ⟨_, rfl⟩
    rw [<- hLX] at hel hstep
    have hlx : LX.length <= 128 := by omega
    have HSTEP := Lib.hid hstep
    have HPART : Hid (∀ j, ((LX.take j).foldl C.insB (namesTo (objs.take k))).length <= 10000) := fun j => by
     have := namesTo_part (objs.take k) LX j
     omega
    obtain ⟨W4, hW4⟩ : ∃ W4, W4 = W0.alloc (.cells #[.string s, .slice TA tl tc, .slice TB ul td] 69) := ⟨_, rfl⟩
    obtain ⟨eb, heb⟩ : ∃ eb, eb = W0.heap.size := ⟨_, rfl⟩
    have E4 : Ext W0 W4 := by rw [hW4]; exact (Ext.refl W0).alloc _
    have hb4 : W4.heap[eb]? = some (.cells #[.string s, .slice TA tl tc, .slice TB ul td] 69 (0, 0)) := by rw [hW4, heb]; exact heap_alloc_new W0 _
    have t1 : W4.cell? ⟨eb, 1, none⟩ = _ := cell_of_row W4 eb 1 _ _ _ hb4
    have t2 : W4.cell? ⟨eb, 2, none⟩ = _ := cell_of_row W4 eb 2 _ _ _ hb4
    have HEX : Hid (Calls Tryz.prog 25 #[.agg #[.slice TA tl tc, .slice TB ul td]] W4 (RetS W4 LX)) := by rw [hLX]; exact rExports_any sy TA TB tc td tl ul W4 htl (hTA.ext E4) (by omega)
    have HEB := Lib.hid heb
    have HO4 := Lib.hid (HK.out.1.ext E4)
    have HX4 := Lib.hid (HK.out.2.trans E4)
    clear hstep hms hss hTA hTB hbo hsy htl hLX heb hb4 E4 hkl HK hel hel2 hcl
    go_upto_region 8 with (fail)
    rw [<- hW4, <- HEB.out]
    clear hW4 m0 m1 m2
    go_wp2_with fail
    refine HEX.out.mono ?_
    rintro e w5 ⟨e5, v5, n5, rfl, ho5⟩
    have hn5 : n5 = LX.length := ho5.1
    have hn58 : n5 <= 128 := by omega
    obtain ⟨A5, c5, rfl, _, hcs⟩ := ho5.form
    have HCS := Lib.hid hcs
    have HN5 := Lib.hid hn5
    have HI0 : Hid (OwnS w5 W1.heap.size u7 nv ((LX.take 0).foldl C.insB (namesTo (objs.take k))) /\ Ext w5 w5) := ⟨HO4.out.ext e5, Ext.refl _⟩
    have HX5 := Lib.hid (HX4.out.trans e5)
    clear e5 ho5 hcs hn5 t1 t2 hlx
    go_wp2_with fail
    go_loopw [7, 42] (fun v i wx => ∃ (j nv : Nat), j <= n5 /\ i = .int .i64 (j : Int) /\ Hid (OwnS wx W1.heap.size v nv ((LX.take j).foldl C.insB (namesTo (objs.take k))) /\ Ext w5 wx)) (fun _ i _ => n5 - (intOf i).toNat)
    case atStart => exact ⟨0, nv, Nat.zero_le _, rfl, HI0.out⟩
    case round =>
     obtain ⟨j, nv, hj, rfl, HJ⟩ := hrel
     obtain ⟨V0, hV0⟩ : ∃ V0, V0 = wr := ⟨_, rfl⟩
     subst hV0
     by_cases hjl : j < n5
     ·have hjx : j < LX.length := by rw [<- HN5.out]; exact hjl
      obtain ⟨xb, xo, x, hAe, hxl, hxc⟩ := HCS.out j hjx
      subst hAe
      have hx := hxc V0 HJ.out.2
      have hlx : x.data.toList = LX[j] := by
       rw [List.getElem?_eq_getElem hjx] at hxl
       exact (Option.some.inj hxl).symm
      have hnv := HPART.out j
      have hnv2 := HJ.out.1.1
      have HINS := Lib.hid (Insert_any _ _ nv W1.heap.size x V0 HJ.out.1 (by omega))
      rw [hlx, fold_take hjx] at HINS
      have HJ2 := Lib.hid HJ.out.2
      clear hxl hxc hlx hnv hnv2 HJ hjx
      go_wp2_with fail
      refine HINS.out.mono ?_
      rintro e w6 ⟨e6, v6, n6, rfl, ho6⟩
      have HNX : Hid (OwnS w6 W1.heap.size v6 n6 ((LX.take (j + 1)).foldl C.insB (namesTo (objs.take k))) /\ Ext w5 w6) := ⟨ho6.mono (by
       have h1 := HX3.out.size
       have h2 := HX5.out.size
       have h3 := HJ2.out.size
       omega), HJ2.out.trans e6⟩
      clear ho6 e6 hx
      go_wp2_with fail
      go_roundw
      case rel => exact ⟨j + 1, n6, by omega, by go_num, HNX⟩
      case measure => simp [intOf]; omega
     ·obtain rfl : j = n5 := by omega
      have htk : LX.take j = LX := List.take_of_length_le (by rw [HN5.out]; exact Nat.le_refl _)
      have HNX : Hid (OwnS V0 W1.heap.size u7 nv (namesTo (objs.take (k + 1))) /\ Ext W3 V0) := by
       have h1 := HJ.out.1
       rw [htk, HSTEP.out] at h1
       exact ⟨h1, HX5.out.trans HJ.out.2⟩
      clear htk HJ
      go_wp2_with fail
      exact ⟨⟨k + 1, nv, by omega, by go_num, HNX⟩, by simp [intOf]; omega⟩
   ·obtain rfl : k = n := by omega
    have htk : objs.take k = objs := List.take_of_length_le (by rw [HN.out.2]; exact Nat.le_refl _)
    rw [htk, namesTo_all] at HK
    have hcl : (L.expNames objs).length <= 6400 := by
     have h1 := exports_len (catE objs)
     have h2 := catE_len (l := objs) HUU.out
     have h3 := HN.out.2
     have h4 : L.expNames objs = (catE objs).foldl C.insB [] := (namesTo_all objs).symm
     rw [h4]
     omega
    obtain ⟨NB, hNB⟩ : ∃ NB, NB = L.expNames objs := ⟨_, rfl⟩
    rw [<- hNB] at HK hcl
    have hq := HK.out.1.1
    obtain ⟨q, hqe⟩ : ∃ q, q = nv := ⟨_, rfl⟩
    subst hqe
    obtain ⟨VA, vc, hv7, hvl, hvc⟩ := HK.out.1.form2
    subst hv7
    have HO4 := Lib.hid HK.out.1
    have HX4 := Lib.hid HK.out.2
    have HNB : Hid (NB = L.expNames objs /\ q = NB.length) := ⟨hNB, hq⟩
    have hq6 : q <= 6400 := by omega
    clear htk hNB hcl HK hq
    by_cases hq0 : q = 0
    ·have hR' : FV = (zeroB, ([], []), 7) := by
      have h0 : ns = [] := List.eq_nil_of_length_eq_zero (by rw [HNS.out, namesE_len, <- HNB.out.1, <- HNB.out.2, hq0])
      rw [HRR.out, if_pos h0]
      rfl
     have HRB := Lib.hid hR'
     clear hR'
     subst hq0
     have hz := HX3.out.trans HX4.out
     have hA := (hz.block _ (hltA HR1.out)).trans HR1.out
     have hB := (hz.block _ (hltA HR2.out)).trans HR2.out
     obtain ⟨⟨r0, r1, r2, r3, r4, r5, r6, r7⟩, f0, f1, f2, f3, f4, f5, f6, f7⟩ := zcells hA
     obtain ⟨s0, s1, t0, t1⟩ := zcells2 hB
     obtain ⟨hA3, hB3⟩ := zput_rows hA hB
     have HA3 := Lib.hid hA3
     have HB3 := Lib.hid hB3
     have HX3 := Lib.hid (zput_ext (HX1.out.trans hz))
     clear hz hA hB hA3 hB3
     go_wp2_with fail
     refine ret_bre rfl rfl rfl rfl HA3.out HB3.out rfl rfl rfl ?_
     rw [HRB.out]
     exact ⟨HX3.out, RetBR.none _ _ _⟩
    ·have hnn : ns.length = q := by rw [HNS.out, namesE_len, <- HNB.out.1, <- HNB.out.2]
     have hne : ns ≠ [] := fun h => hq0 (by rw [<- hnn, h]; rfl)
     obtain ⟨RS, hRS⟩ : ∃ RS, RS = L.starts E ns ([], 0, 0) := ⟨_, rfl⟩
     have hR' := HRR.out
     rw [if_neg hne, <- hRS] at hR'
     have HRB := Lib.hid hR'
     have HNN := Lib.hid hnn
     have q1 : ((q : Int) == 0) = false := by
      have : ¬ (q : Int) = 0 := by omega
      simpa using this
     have hb4 := (HX4.out.block _ (hltA HB3.out)).trans HB3.out
     have hxw := HX1.out.trans (HX3.out.trans HX4.out)
     have hNEW := RlAt.new (w := W0) (E := E) (D := none) (d := 0) (HA.out.ext hxw) (HMO.out.ext HX4.out) (by rw [HEL.out.2.2]; exact SliceAt.nil _ _ _ _ _ (by omega))
     rw [<- HN.out.1, <- HNM.out, HEL.out.1] at hNEW
     have c0 : W0.cell? ⟨ab, 0, none⟩ = _ := cell_of_row W0 _ 0 _ _ _ hb4
     have c1 : W0.cell? ⟨ab, 1, none⟩ = _ := cell_of_row W0 _ 1 _ _ _ hb4
     have c2 : W0.cell? ⟨ab, 2, none⟩ = _ := cell_of_row W0 _ 2 _ _ _ hb4
     obtain ⟨WL, hWL⟩ : ∃ WL, WL = W0.alloc (.cells #[.slice A k a, .slice MA nm mc, .slice none 0 0, .slice none 0 0, .int .i64 0, .int .i64 0] 115) := ⟨_, rfl⟩
     obtain ⟨g, hg⟩ : ∃ g, g = W0.heap.size := ⟨_, rfl⟩
     have EL : Ext W0 WL := by rw [hWL]; exact (Ext.refl W0).alloc _
     rw [<- hWL, <- hg] at hNEW
     have HG := Lib.hid hg
     have HGW : Hid (W1.heap.size <= g) := by rw [hg]; exact (HX3.out.trans HX4.out).size
     have HB4 := Lib.hid hb4
     have H0 : Hid (SfAt W0 g E A MA a mc RS ns 0 ([], 0, 0) (.slice none 0 0) WL) := ⟨hRS, rfl, ⟨Nat.zero_le _, List.nodup_nil, fun p hp => by cases hp⟩, rfl, hNEW, EL⟩
     have HW0 := Lib.hid (HX3.out.trans HX4.out)
     clear hR' hRS hnn hne hb4 hxw hNEW hg EL
     go_upto_region 17 with (fail)
     rw [<- hWL, <- HG.out]
     clear hWL c0 c1 c2
     go_wp2_with fail
     go_loopw [61] (fun i wr => ∃ (j : Nat) (st : L.St) (v : Value), j <= q /\ i = .int .i64 (j : Int) /\ Hid (SfAt W0 g E A MA a mc RS ns j st v wr)) (fun i _ => q - (intOf i).toNat)
     case atStart => exact ⟨0, _, _, Nat.zero_le _, rfl, H0.out⟩
     case round =>
      obtain ⟨j, st, v, hj, rfl, HK⟩ := hrel
      obtain ⟨V0, hV0⟩ : ∃ V0, V0 = wr := ⟨_, rfl⟩
      subst hV0
      by_cases hjl : j < q
      ·have hjn : j < ns.length := by rw [HNN.out]; exact hjl
       have hjb : j < NB.length := by rw [<- HNB.out.2]; exact hjl
       obtain ⟨nb, no, nc, hva, hnb1, hnb2, _, _, hcell⟩ := HO4.out.2.cells (by omega)
       have hxc0 := hcell j (encStr NB[j]) (by rw [List.getElem?_map, List.getElem?_eq_getElem hjb]; rfl)
       have hxe : encStr NB[j] = .string ns[j] := by
        have h2 : ns[j]? = some (mkN NB[j]) := by
         rw [HNS.out]
         unfold namesE
         rw [<- HNB.out.1, List.getElem?_map, List.getElem?_eq_getElem hjb]
         rfl
        rw [List.getElem?_eq_getElem hjn] at h2
        rw [Option.some.inj h2]
        rfl
       rw [hxe] at hxc0
       have hxc := HK.out.ext.keepc hxc0
       have hva1 : VA = some ⟨nb, no, none⟩ := by cases hva; rfl
       clear hva
       subst hva1
       have hrest := HK.out.rest
       rw [starts_at hjn] at hrest
       have hxn : ns[j] ∉ st.1.map (·.2) := by
        rw [HK.out.names]
        have h1 := HNS.out
        subst h1
        exact namesE_new hjn
       have hnm2 : ns.take (j + 1) = ns.take j ++ [ns[j]] := List.take_succ_eq_append_getElem hjn
       obtain ⟨x, hxx⟩ : ∃ x, x = ns[j] := ⟨_, rfl⟩
       rw [<- hxx] at hxc hrest hxn hnm2
       have hxs : x.size <= 9223372036854775807 := HXS.out x (by rw [hxx]; exact List.getElem_mem hjn)
       have hb5 := (HK.out.ext.block _ (hltA HB4.out)).trans HB4.out
       have hxv := HX1.out.trans (HW0.out.trans HK.out.ext)
       have HRES := Lib.hid (rResolve_any E A MA none a mc 0 k nm 0 x V0 HN.out.1 (HA.out.ext hxv) HNM.out (HMO.out.ext (HX4.out.trans HK.out.ext)) HEL.out.1.symm (by rw [HEL.out.2.2]; exact SliceAt.nil _ _ _ _ _ (by omega)) HEV.out.syms (by omega) (by have h1 := HNM.out; rw [HEL.out.2.1] at h1; rw [h1]; exact Nat.zero_le _) (by omega) hxs)
       have HREST := Lib.hid hrest
       have HXN := Lib.hid hxn
       have HNM2 := Lib.hid hnm2
       have HXS2 := Lib.hid hxs
       have HB5 := Lib.hid hb5
       have c0 : V0.cell? ⟨ab, 0, none⟩ = _ := cell_of_row V0 _ 0 _ _ _ hb5
       have c1 : V0.cell? ⟨ab, 1, none⟩ = _ := cell_of_row V0 _ 1 _ _ _ hb5
       have c2 : V0.cell? ⟨ab, 2, none⟩ = _ := cell_of_row V0 _ 2 _ _ _ hb5
       clear hjn hjb hxe hrest hxn hnm2 hxx hxs hcell hnb1 hnb2 hxc0 hb5 hxv
       go_wp2_with fail
       refine HRES.out.mono ?_
       rintro e w6 ⟨e6, rfl⟩
       have HX6 := Lib.hid (HW0.out.trans (HK.out.ext.trans e6))
       have HE6 := Lib.hid e6
       have HB6 := Lib.hid ((e6.block _ (hltA HB5.out)).trans HB5.out)
       have HL6 := Lib.hid (HK.out.link.ext e6)
       clear c0 c1 c2 e6 hxc
       cases hhit : L.hit E x with
       | twice =>
        have hRS := HREST.out
        rw [hhit] at hRS
        have hR' : FV = (zeroB, ([], []), 6) := by rw [HRB.out, hRS]; rfl
        have HRC := Lib.hid hR'
        clear hR' hhit hRS
        rw [show foundH E .twice = ((0, 0, 0, 0, 0), 6) from rfl]
        unfold fndV
        simp only
        have hz := HX6.out.alloc (.cells #[.int .i64 0, .int .i64 0, .int .i64 0, .int .i64 0, .int .i64 0] 117)
        have hA := (hz.block _ (hltA HR1.out)).trans HR1.out
        have hB := (hz.block _ (hltA HR2.out)).trans HR2.out
        obtain ⟨⟨r0, r1, r2, r3, r4, r5, r6, r7⟩, f0, f1, f2, f3, f4, f5, f6, f7⟩ := zcells hA
        obtain ⟨s0, s1, t0, t1⟩ := zcells2 hB
        obtain ⟨hA3, hB3⟩ := zput_rows hA hB
        have HA3 := Lib.hid hA3
        have HB3 := Lib.hid hB3
        have HX3 := Lib.hid (zput_ext (HX1.out.trans hz))
        clear hz hA hB hA3 hB3
        go_wp2_with fail
        refine ret_bre rfl rfl rfl rfl HA3.out HB3.out rfl rfl rfl ?_
        rw [HRC.out]
        exact ⟨HX3.out, RetBR.none _ _ _⟩
       | unknown =>
        have hRS := HREST.out
        rw [hhit] at hRS
        have hR' : FV = (zeroB, ([], []), 8) := by rw [HRB.out, hRS]; rfl
        have HRC := Lib.hid hR'
        clear hR' hhit hRS
        obtain ⟨zn, hzn⟩ : ∃ zn : Int, zn = (E.mems.length : Int) := ⟨_, rfl⟩
        obtain ⟨zl, hzl⟩ : ∃ zl : Int, zl = (E.libs.length : Int) := ⟨_, rfl⟩
        rw [show foundH E .unknown = ((-1, -1, -1, zn, zl), 8) by rw [hzn, hzl]; rfl]
        clear hzn hzl
        unfold fndV
        simp only
        have hz := HX6.out.alloc (.cells #[.int .i64 (-1), .int .i64 (-1), .int .i64 (-1), .int .i64 zn, .int .i64 zl] 117)
        have hA := (hz.block _ (hltA HR1.out)).trans HR1.out
        have hB := (hz.block _ (hltA HR2.out)).trans HR2.out
        obtain ⟨⟨r0, r1, r2, r3, r4, r5, r6, r7⟩, f0, f1, f2, f3, f4, f5, f6, f7⟩ := zcells hA
        obtain ⟨s0, s1, t0, t1⟩ := zcells2 hB
        obtain ⟨hA3, hB3⟩ := zput_rows hA hB
        have HA3 := Lib.hid hA3
        have HB3 := Lib.hid hB3
        have HX3 := Lib.hid (zput_ext (HX1.out.trans hz))
        clear hz hA hB hA3 hB3
        go_wp2_with fail
        refine ret_bre rfl rfl rfl rfl HA3.out HB3.out rfl rfl rfl ?_
        rw [HRC.out]
        exact ⟨HX3.out, RetBR.none _ _ _⟩
       | lib jj =>
        have := L.hit_lib hhit
        rw [HEL.out.1] at this
        exact absurd this (Nat.not_lt_zero _)
       | unit u m0 =>
        obtain ⟨hu, hmm, f0, f1, hfh, hmb⟩ := found_unit (hit_cases hhit) HEV.out
        have hm0 : m0 = 0 := by rw [HEL.out.2.1] at hmm; exact Nat.le_zero.1 hmm
        obtain ⟨_, hsec⟩ := L.hit_sec HEV.out.units hhit
        have hRS := HREST.out
        rw [hhit] at hRS
        simp only at hRS
        rw [hm0, note_zero] at hRS
        rw [hfh]
        unfold fndV
        simp only
        have hm5 : m0 <= 100000 := by omega
        obtain ⟨W6, hW6⟩ : ∃ W6, W6 = w6.alloc (.cells #[.int .i64 f0, .int .i64 f1, .int .i64 (-1), .int .i64 (m0 : Int), .int .i64 0] 117) := ⟨_, rfl⟩
        obtain ⟨pb, hpb⟩ : ∃ pb, pb = w6.heap.size := ⟨_, rfl⟩
        have E6 : Ext w6 W6 := by rw [hW6]; exact (Ext.refl w6).alloc _
        have hb6 : W6.heap[pb]? = some (.cells #[.int .i64 f0, .int .i64 f1, .int .i64 (-1), .int .i64 (m0 : Int), .int .i64 0] 117 (0, 0)) := by rw [hW6, hpb]; exact heap_alloc_new w6 _
        have p0 : W6.cell? ⟨pb, 0, none⟩ = _ := cell_of_row W6 pb 0 _ _ _ hb6
        have p1 : W6.cell? ⟨pb, 1, none⟩ = _ := cell_of_row W6 pb 1 _ _ _ hb6
        have p2 : W6.cell? ⟨pb, 2, none⟩ = _ := cell_of_row W6 pb 2 _ _ _ hb6
        have p3 : W6.cell? ⟨pb, 3, none⟩ = _ := cell_of_row W6 pb 3 _ _ _ hb6
        have p4 : W6.cell? ⟨pb, 4, none⟩ = _ := cell_of_row W6 pb 4 _ _ _ hb6
        have hb7 := (E6.block _ (hltA HB6.out)).trans HB6.out
        have c0 : W6.cell? ⟨ab, 0, none⟩ = _ := cell_of_row W6 _ 0 _ _ _ hb7
        have c1 : W6.cell? ⟨ab, 1, none⟩ = _ := cell_of_row W6 _ 1 _ _ _ hb7
        have c2 : W6.cell? ⟨ab, 2, none⟩ = _ := cell_of_row W6 _ 2 _ _ _ hb7
        have HL7 := Lib.hid (HL6.out.ext E6)
        have HMB := Lib.hid (hmb g A MA none a mc 0 W6 _ _ HL7.out)
        rw [<- HN.out.1, <- HNM.out, HEL.out.1] at HMB
        have HX7 := Lib.hid (HX6.out.trans E6)
        have HE7 := Lib.hid (HE6.out.trans E6)
        have HPB := Lib.hid hpb
        have HU2 := Lib.hid (And.intro hu hsec)
        have HRS2 := Lib.hid hRS
        clear hhit hu hsec hmm hfh hmb hRS E6 hb6 hb7 hpb hm0
        go_upto_region 21 with (fail)
        rw [<- hW6, <- HPB.out]
        clear hW6
        go_wp2_with fail
        refine HMB.out.mono ?_
        rintro e w8 ⟨e8, SC, cc, SD, cd, rfl, hSC, hSD⟩
        have HADD := Lib.hid (add_rf (HL7.out.ext e8) HEV.out HK.out.ok (u, x) HU2.out.1 HXS2.out SC SD cc cd hSC hSD)
        have HX8 := Lib.hid (HX7.out.trans e8)
        have HE8 := Lib.hid (HE7.out.trans e8)
        have HL8 := Lib.hid (HL7.out.ext e8)
        generalize (unitAt E u).1 = s0 at HADD ⊢
        generalize (unitAt E u).2.1.length = tl at HADD ⊢
        generalize (unitAt E u).2.2.length = ul at HADD ⊢
        clear e8 hSC hSD p0 p1 p2 p3 p4 c0 c1 c2 HMB
        cases hadd : L.addS st (u, x) with
        | error er =>
         rw [hadd] at HADD
         have hRS := HRS2.out
         rw [hadd] at hRS
         have hne := L.addS_ne hadd
         have hR' : FV = (zeroB, ([], []), er) := by rw [HRB.out, hRS]; rfl
         have HRC := Lib.hid hR'
         have he0 : (er == 0) = false := by simpa using hne
         have he1 : (er != 0) = true := by simpa using hne
         have he2 : (!(er == 0)) = true := by simpa using hne
         have he3 : ¬ er = 0 := hne
         clear hR' hRS hne hadd
         go_wp2_with fail
         refine HADD.out.mono ?_
         rintro e wz ⟨hTz, rfl⟩
         have HXZ := Lib.hid (HX8.out.low hTz fun i hi => by
          have hgw := HGW.out
          rcases hi with h | h
          ·omega
          ·have := (HL8.out.own h).1; omega)
         clear hTz
         have hz := HXZ.out
         have hA := (hz.block _ (hltA HR1.out)).trans HR1.out
         have hB := (hz.block _ (hltA HR2.out)).trans HR2.out
         obtain ⟨⟨r0, r1, r2, r3, r4, r5, r6, r7⟩, f0, f1, f2, f3, f4, f5, f6, f7⟩ := zcells hA
         obtain ⟨s0, s1, t0, t1⟩ := zcells2 hB
         obtain ⟨hA3, hB3⟩ := zput_rows hA hB
         have HA3 := Lib.hid hA3
         have HB3 := Lib.hid hB3
         have HX3 := Lib.hid (zput_ext (HX1.out.trans hz))
         clear hz hA hB hA3 hB3
         go_wp2_with fail
         refine ret_bre rfl rfl rfl rfl HA3.out HB3.out rfl rfl rfl ?_
         rw [HRC.out]
         exact ⟨HX3.out, RetBR.none _ _ _⟩
        | ok st' =>
         rw [hadd] at HADD
         have hRS := HRS2.out
         rw [hadd] at hRS
         simp only at hRS
         have hnew := addS_new (st := st) (u := u) (m := 0) HXN.out
         rw [note_zero, hadd] at hnew
         have hst : st' = (st.1 ++ [(u, x)], max st.2.1 0, max st.2.2 0) := by
          by_cases hbig : 128 <= st.1.length
          ·rw [if_pos hbig] at hnew; cases hnew
          ·rw [if_neg hbig] at hnew; injection hnew
         have hok := (L.addS_ok hadd (E := E) HK.out.ok HU2.out).1
         have HST := Lib.hid hst
         have HRS3 := Lib.hid hRS
         have HOK := Lib.hid hok
         clear hRS hnew hst hok hadd
         go_wp2_with fail
         refine HADD.out.mono ?_
         rintro e wz ⟨hTz, rfl, v', hRz, hvz, hkz⟩
         have HS : Hid (SfAt W0 g E A MA a mc RS ns (j + 1) st' v' wz) := {
          rest := HRS3.out
          names := by
           rw [HST.out]
           show (st.1 ++ [(u, x)]).map (·.2) = _
           rw [List.map_append, HK.out.names, HNM2.out]
           rfl
          ok := HOK.out
          two := by
           rw [HST.out]
           show (max st.2.1 0, max st.2.2 0) = _
           rw [HK.out.two]
           rfl
          link := hRz
          ext := (HK.out.ext.trans HE8.out).low hTz fun i hi => by
           have hgw := HG.out
           rcases hi with h | h
           ·omega
           ·have := (HL8.out.own h).1; omega }
         clear hTz hRz hvz hkz
         go_wp2_with fail
         go_roundw
         case rel => exact ⟨j + 1, st', v', by omega, by go_num, HS.out⟩
         case measure => simp [intOf]; omega
      ·obtain rfl : j = q := by omega
       have hdr : ns.drop j = [] := List.drop_eq_nil_of_le (by rw [HNN.out]; exact Nat.le_refl _)
       have hrs := HK.out.rest
       rw [hdr] at hrs
       have hrs2 : RS = .ok st := hrs
       have hR' := HRB.out
       rw [hrs2] at hR'
       simp only at hR'
       have HRF := Lib.hid hR'
       have hst1 : st.1.length = j := by
        have h1 := congrArg List.length HK.out.names
        rw [List.length_map, List.length_take, HNN.out] at h1
        omega
       obtain ⟨LA, lc, hvL, _, _⟩ := HK.out.link.list.form
       rw [hst1] at hvL
       have c3 : V0.cell? ⟨g, 3, none⟩ = some v := HK.out.link.cell 3
       rw [hvL] at c3
       have HVL := Lib.hid hvL
       have HST1 := Lib.hid hst1
       have HCO := Lib.hid (collect_rf HK.out.link HEV.out HK.out.ok (by rw [HK.out.two]; exact ⟨Nat.zero_le _, Nat.zero_le _⟩))
       clear hdr hrs hrs2 hR' hvL hst1
       go_wp2_with fail
       refine HCO.out.mono ?_
       rintro e w13 ⟨hT13, hco⟩
       have HX13 := Lib.hid (HK.out.ext.low hT13 fun i hi => by
        have hgw := HG.out
        rcases hi with h | h
        ·omega
        ·have := (HK.out.link.own h).1; omega)
       clear hT13 c3
       cases hsel : L.selF E 129 0 st with
       | error er =>
        rw [hsel] at hco
        obtain ⟨hne, rfl⟩ := hco
        have hR' : FV = (zeroB, ([], []), er) := by
         rw [HRF.out]
         unfold L.finish
         rw [hsel]
         rfl
        have HRC := Lib.hid hR'
        have he0 : (er == 0) = false := by simpa using hne
        have he1 : (er != 0) = true := by simpa using hne
        have he2 : (!(er == 0)) = true := by simpa using hne
        have he3 : ¬ er = 0 := hne
        clear hR' hsel hne
        have hz := HW0.out.trans HX13.out
        have hA := (hz.block _ (hltA HR1.out)).trans HR1.out
        have hB := (hz.block _ (hltA HR2.out)).trans HR2.out
        obtain ⟨⟨r0, r1, r2, r3, r4, r5, r6, r7⟩, f0, f1, f2, f3, f4, f5, f6, f7⟩ := zcells hA
        obtain ⟨s0, s1, t0, t1⟩ := zcells2 hB
        obtain ⟨hA3, hB3⟩ := zput_rows hA hB
        have HA3 := Lib.hid hA3
        have HB3 := Lib.hid hB3
        have HX3 := Lib.hid (zput_ext (HX1.out.trans hz))
        clear hz hA hB hA3 hB3
        go_wp2_with fail
        refine ret_bre rfl rfl rfl rfl HA3.out HB3.out rfl rfl rfl ?_
        rw [HRC.out]
        exact ⟨HX3.out, RetBR.none _ _ _⟩
       | ok st' =>
        rw [hsel] at hco
        obtain ⟨rfl, v', hco⟩ := hco
        obtain ⟨hgd, hnd⟩ := fin_hyps HEV.out hsel HK.out.ok
        have HFN := Lib.hid (finish_rf hco.link HEV.out hco.ok hco.bd hgd hnd 2 (by decide))
        have HCA := Lib.hid hco
        have HSEL := Lib.hid hsel
        clear hco hsel hgd hnd
        go_wp2_with fail
        refine HFN.out.mono ?_
        rintro e w14 ⟨hT14, ⟨vs, rs, rfl, hBV, hRV⟩, h6⟩
        have hv6 := h6 vs rs _ rfl
        have HX14 := Lib.hid (HX13.out.low hT14 fun i hi => by have := HG.out; omega)
        have HT14 := Lib.hid hT14
        obtain ⟨x10, n1, n2, n3⟩ := two_cells w14
        obtain ⟨n4, n5, n6, y10, _⟩ := two_stores w14 _ vs rs x10 n1 n2
        obtain ⟨W15, hW15⟩ : ∃ W15, W15 = (((w14.alloc (.cells zrow35 35)).alloc (.cells zrow38 38)).setRow w14.heap.size (Array.mk vs)).setRow (w14.heap.size + 1) (Array.mk rs) := ⟨_, rfl⟩
        rw [<- hW15] at n5 n6 y10
        have hrow := row35 hBV
        have hone := hBV.one
        have hlen := hBV.len
        have hrow2 := row38 hRV
        have hone2 := hRV.one
        have hlen2 := hRV.len
        have HBV := Lib.hid hBV
        have HRV := Lib.hid hRV
        have HV6 := Lib.hid hv6
        obtain ⟨tb, htb⟩ : ∃ tb, tb = w14.heap.size := ⟨_, rfl⟩
        rw [<- htb] at n5 n6
        have H5 := Lib.hid n5
        have H6 := Lib.hid n6
        have HY := Lib.hid y10
        have HTB := Lib.hid htb
        clear h6 hv6 hT14 hBV hRV x10 n3 n5 n6 y10 htb
        obtain ⟨er, her⟩ : ∃ er, er = (finR E st' 2).2.2 := ⟨_, rfl⟩
        rw [<- her]
        have HER := Lib.hid her
        clear her
        go_upto_region 31 with (first | (refine wpList_store_row rfl 35 (.tmp 19) (.tmp 100) rfl w14.heap.size (Array.mk vs) rfl rfl 35 _ n1 hrow (show 8 = vs.length from hlen.symm) hone ?_) | (refine wpList_store_row rfl 38 (.tmp 20) (.tmp 101) rfl (w14.heap.size + 1) (Array.mk rs) rfl rfl 38 _ n4 hrow2 (show 2 = rs.length from hlen2.symm) hone2 ?_))
        rw [<- hW15, <- HTB.out]
        clear hW15 n1 n2 n4 hrow hone hrow2 hone2
        have HXE := Lib.hid (HX14.out.trans HY.out)
        by_cases hbig : 65536 < L.fin (E.sizes st'.1) 0
        ·have hfr : finR E st' 2 = (zeroB, ([], []), 10) := by unfold finR; rw [if_pos hbig]
         have hfi : L.finish E st = .error 10 := by
          unfold L.finish
          rw [HSEL.out]
          simp only
          rw [if_pos hbig]
         have hR' : FV = (zeroB, ([], []), 10) := by rw [HRF.out, hfi]; rfl
         have HRC := Lib.hid hR'
         have her : er = 10 := by rw [HER.out, hfr]
         clear hR' hfi hfr hbig HER
         subst her
         have hz := HW0.out.trans HXE.out
         have hA := (hz.block _ (hltA HR1.out)).trans HR1.out
         have hB := (hz.block _ (hltA HR2.out)).trans HR2.out
         obtain ⟨⟨r0, r1, r2, r3, r4, r5, r6, r7⟩, f0, f1, f2, f3, f4, f5, f6, f7⟩ := zcells hA
         obtain ⟨s0, s1, t0, t1⟩ := zcells2 hB
         obtain ⟨hA3, hB3⟩ := zput_rows hA hB
         have HA3 := Lib.hid hA3
         have HB3 := Lib.hid hB3
         have HX3 := Lib.hid (zput_ext (HX1.out.trans hz))
         clear hz hA hB hA3 hB3
         go_wp2_with fail
         refine ret_bre rfl rfl rfl rfl HA3.out HB3.out rfl rfl rfl ?_
         rw [HRC.out]
         exact ⟨HX3.out, RetBR.none _ _ _⟩
        ·have hfr : finR E st' 2 = (E.bin st'.1 2 0 [], E.reading st'.2, 0) := by unfold finR; rw [if_neg hbig]
         have hfi : L.finish E st = .ok st' := by
          unfold L.finish
          rw [HSEL.out]
          simp only
          rw [if_neg hbig]
         have hR' : FV = (E.bin st'.1 2 (-1) (exL E st'.1 ns), E.reading st'.2, 0) := by rw [HRF.out, hfi]; rfl
         have HRC := Lib.hid hR'
         have her : er = 0 := by rw [HER.out, hfr]
         obtain ⟨hokf, hpre, _, _⟩ := finish_ok HEV.out.units hfi HK.out.ok
         have HBV2 := HBV.out
         have HRV2 := HRV.out
         rw [hfr] at HBV2 HRV2
         obtain ⟨A1, c1, A2, c2, A3, c3, A4, c4, A5, c5, hvs0, hP1, _⟩ := HBV2.form
         obtain ⟨im, him⟩ : ∃ im, im = (E.bin st'.1 2 0 []).2.2.1 := ⟨_, rfl⟩
         obtain ⟨np, hnp⟩ : ∃ np, np = (E.bin st'.1 2 0 []).2.2.2.1.length := ⟨_, rfl⟩
         obtain ⟨nf, hnf⟩ : ∃ nf, nf = (E.bin st'.1 2 0 []).2.2.2.2.1.length := ⟨_, rfl⟩
         obtain ⟨ni, hni⟩ : ∃ ni, ni = (E.bin st'.1 2 0 []).2.2.2.2.2.1.length := ⟨_, rfl⟩
         have hvs : vs = [.int .i64 2, .int .i64 0, .string im, .slice A1 np c1, .slice A2 nf c2, .slice A3 ni c3, .slice A4 0 c4, .slice A5 0 c5] := by rw [him, hnp, hnf, hni]; exact hvs0
         have hp1 : SliceAt plcR w14 (Fresh w13 w14) A1 c1 (E.places st'.1) := hP1
         have hnp2 : np = (E.places st'.1).length := hnp
         have h46 : A4 = none /\ c4 = 0 := by
          have h := HV6.out
          rw [hvs] at h
          have h2 : some (Value.slice A4 0 c4) = some (.slice none 0 0) := h
          injection h2 with h2
          injection h2 with h3 _ h4
          exact ⟨h3, h4⟩
         obtain ⟨rfl, rfl⟩ := h46
         obtain ⟨v1, hv1⟩ : ∃ v1 : List Value, v1 = [.int .i64 2, .int .i64 (-1), .string im, .slice A1 np c1, .slice A2 nf c2, .slice A3 ni c3, .slice none 0 0, .slice A5 0 c5] := ⟨_, rfl⟩
         have hvset : v1 = vs.set 1 (.int .i64 (-1)) := by rw [hv1, hvs]; rfl
         obtain ⟨W16, hW16⟩ : ∃ W16, W16 = W15.setCell ⟨tb, 1, none⟩ (.int .i64 (-1)) := ⟨_, rfl⟩
         have hT16 : Tch (fun i => i = tb) W15 W16 := by rw [hW16]; exact grown_tch (grownBy_setCell W15 ⟨tb, 1, none⟩ _)
         have h5 := H5.out
         rw [hvs] at h5
         have hr16 : W16.heap[tb]? = some (.cells (Array.mk v1) 35 (0, 0)) := by
          rw [hW16, heap_setCell_cells h5 1 _, hv1]
          rfl
         have k1 : W15.cell? ⟨tb, 1, none⟩ = some (.int .i64 0) := cell_of_row W15 tb 1 _ _ _ h5
         have kf1 := Lib.frozen_of_heap h5 1
         have htl : tb < W15.heap.size := (hltA h5)
         have hJ0 : ExAt W16 tb v1 (exL E st'.1 ns) 0 (.slice none 0 0) W16 := ⟨Tch.refl _ _, by rw [hr16, hv1]; rfl, OwnL.nil _ _, Nat.lt_of_lt_of_le htl hT16.size⟩
         have HJ0 := Lib.hid hJ0
         have hj0 : 0 < j := by omega
         obtain ⟨lb, lo, lcap, _, _, _, _, hve, hgl, hlw, _⟩ := HCA.out.first HK.out.link (i := 0) (by rw [HST1.out]; exact hj0)
         have hLA : LA = some ⟨lb, lo, none⟩ := by
          have h := HVL.out.symm.trans hve
          injection h
         subst hLA
         obtain ⟨nb, no, nc, hva, _, hnbw, _, _, hcell⟩ := HO4.out.2.cells hj0
         have hva1 : VA = some ⟨nb, no, none⟩ := by cases hva; rfl
         subst hva1
         have hs13 : V0.heap.size <= w13.heap.size := HCA.out.tch.size
         have hs14 : w13.heap.size <= tb := by rw [HTB.out]; exact HT14.out.size
         have hs0 : W0.heap.size <= V0.heap.size := HK.out.ext.size
         have hlbt : lb < tb := by omega
         have hnbt : nb < tb := by omega
         have HFC : Hid (∀ Z, Tch (fun i => i = tb) W16 Z -> ∀ i, i < j -> ∃ (hi : i < st.1.length) (SA : Option Addr) (sc : Nat) (SB : Option Addr) (sd : Nat),
          Z.cell? ⟨lb, lo + i * 4, none⟩ = some (.string (unitAt E st.1[i].1).1) /\ Z.cell? ⟨lb, lo + i * 4 + 1, none⟩ = some (.slice SA (unitAt E st.1[i].1).2.1.length sc) /\ Z.cell? ⟨lb, lo + i * 4 + 1 + 1, none⟩ = some (.slice SB (unitAt E st.1[i].1).2.2.length sd) /\ Z.cell? ⟨lb, lo + i * 4 + 3, none⟩ = some (.string st.1[i].2)) := by
          intro Z hZ i hi
          have his : i < st.1.length := by rw [HST1.out]; exact hi
          obtain ⟨b, off, cap, SA, sc, SB, sd, hve2, _, _, m0, m1, m2, m3⟩ := HCA.out.first HK.out.link his
          have h := hve.symm.trans hve2
          injection h with h
          injection h with h
          injection h with hb ho
          subst hb ho
          have hng : ¬ lb = g := by omega
          have hnt : ¬ lb = tb := by omega
          have hgo : ∀ (p : Nat) (u : Value), w13.cell? ⟨lb, p, none⟩ = some u -> Z.cell? ⟨lb, p, none⟩ = some u := fun p u hu => (hT16.trans hZ).keepc (HY.out.keepc (HT14.out.keepc hu hng)) hnt
          exact ⟨his, SA, sc, SB, sd, hgo _ _ m0, hgo _ _ m1, hgo _ _ m2, hgo _ _ m3⟩
         have HNC : Hid (∀ Z, Tch (fun i => i = tb) W16 Z -> ∀ i, i < j -> ∃ h : i < ns.length, Z.cell? ⟨nb, no + i, none⟩ = some (.string ns[i])) := by
          intro Z hZ i hi
          have hjn : i < ns.length := by rw [HNN.out]; exact hi
          have hjb : i < NB.length := by rw [<- HNB.out.2]; exact hi
          have h1 := hcell i (encStr NB[i]) (by rw [List.getElem?_map, List.getElem?_eq_getElem hjb]; rfl)
          have h2 : ns[i]? = some (mkN NB[i]) := by
           rw [HNS.out]
           unfold namesE
           rw [<- HNB.out.1, List.getElem?_map, List.getElem?_eq_getElem hjb]
           rfl
          rw [List.getElem?_eq_getElem hjn] at h2
          refine ⟨hjn, ?_⟩
          rw [Option.some.inj h2]
          exact (hT16.trans hZ).keepc (HXE.out.keepc h1) (by show ¬ nb = tb; omega)
         have HAD : Hid (∀ Z, Tch (fun i => i = tb) W16 Z -> ∀ i (hi : i < st.1.length) (XA : Option Addr) (xn xc : Nat) (SA : Option Addr) (tn sc : Nat) (SB : Option Addr) (un sd : Nat), Calls Tryz.prog 64 #[.agg #[.int .i64 2, .int .i64 (-1), .string im, .slice A1 np c1, .slice A2 nf c2, .slice A3 ni c3, .slice XA xn xc, .slice A5 0 c5], .agg (spotV (unitAt E st.1[i].1).1 SA tn sc SB un sd st.1[i].2)] Z (Al (.int .i64 ((L.up (L.fin ((E.sizes st'.1).take i) 0) : Nat) : Int)) Z)) := by
          intro Z hZ i hi XA xn xc SA tn sc SB un sd
          obtain ⟨hi2, hie⟩ := pre_get hpre hi
          have hq : st.1[i] ∈ st'.1 := by rw [<- hie]; exact List.getElem_mem hi2
          obtain ⟨k0, hk0, hpis, hpno, hpat⟩ := spot_place HEV.out hokf hq
          have hat : E.at st'.1 st.1[i] = L.up (L.fin ((E.sizes st'.1).take i) 0) := by rw [<- hie]; exact at_nodup hokf.2.1 hi2
          rw [<- hat, <- hpat]
          refine address_any (E.places st'.1) A1 c1 np hnp2 k0 hk0 _ _ hpis hpno Z (hp1.keep (fun b hb => ?_) fun b hb => ?_) 2 (-1) im A2 A3 XA A5 nf c2 ni c3 xn xc 0 c5 SA tn sc SB un sd
          ·have h1 := hb.2
           have h2 := (HY.out.trans (Ext.refl W15)).size
           have h3 := (hT16.trans hZ).size
           show b < Z.heap.size
           omega
          ·have h1 : b < tb := by rw [HTB.out]; exact hb.2
           exact ((hT16.trans hZ).block b (Nat.lt_of_lt_of_le hb.2 HY.out.size) (by omega)).trans (HY.out.block b hb.2)
         have HATB : Hid (∀ i, i < j -> L.up (L.fin ((E.sizes st'.1).take i) 0) <= 2000000) := fun i hi => at_le HEV.out hokf (by have := hpre.length_le; have := HST1.out; omega)
         have HT16 := Lib.hid hT16
         have hns2 : ns.length <= st'.1.length := by
          have := hpre.length_le
          have := HNN.out
          have := HST1.out
          omega
         have HNS2 := Lib.hid hns2
         have HOKF := Lib.hid hokf
         have HV1 := Lib.hid hv1
         have HVSET := Lib.hid hvset
         have HBB := Lib.hid HBV2
         have HRR2 := Lib.hid HRV2
         have HLT : Hid (lb < tb /\ nb < tb /\ tb < W15.heap.size) := ⟨hlbt, hnbt, htl⟩
         clear hR' hfi hfr hbig HER hokf hpre hvs0 hP1 him hnp hnf hni hvs hp1 hnp2 hv1 hvset h5 hT16 hr16 hJ0 hve hgl hlw hva hnbw hcell hs13 hs14 hs0 hlbt hnbt htl hns2 HBV2 HRV2
         subst her
         go_upto_region 34 with (fail)
         rw [<- hW16]
         clear hW16 k1 kf1
         go_wp2_with fail
         go_loopw [111] (fun i wr => ∃ (t : Nat) (vE : Value), t <= j /\ i = .int .i64 (t : Int) /\ Hid (ExAt W16 tb v1 (exL E st'.1 ns) t vE wr)) (fun i _ => j - (intOf i).toNat)
         case atStart => exact ⟨0, _, Nat.zero_le _, rfl, HJ0.out⟩
         case round =>
          obtain ⟨t, vE, ht, rfl, HJ⟩ := hrel
          obtain ⟨Z0, hZ0⟩ : ∃ Z0, Z0 = wr := ⟨_, rfl⟩
          subst hZ0
          obtain ⟨EA, ec, rfl⟩ := HJ.out.own.form
          have hrw := HJ.out.row
          rw [HV1.out] at hrw
          have hrw2 : Z0.heap[tb]? = some (.cells #[.int .i64 2, .int .i64 (-1), .string im, .slice A1 np c1, .slice A2 nf c2, .slice A3 ni c3, .slice EA t ec, .slice A5 0 c5] 35 (0, 0)) := hrw
          have HRW := Lib.hid hrw2
          by_cases htj : t < j
          ·obtain ⟨hjn, hxc⟩ := HNC.out Z0 HJ.out.tch t htj
           obtain ⟨his, SA, sc, SB, sd, m0, m1, m2, m3⟩ := HFC.out Z0 HJ.out.tch t htj
           have htk := exL_take (E := E) (l := st'.1) hjn HNS2.out
           have hua8 := HATB.out t htj
           have HAT := Lib.hid (fun W (h : Tch (fun i => i = tb) W16 W) => HAD.out W h t his EA t ec SA (unitAt E st.1[t].1).2.1.length sc SB (unitAt E st.1[t].1).2.2.length sd)
           obtain ⟨ua, hua⟩ : ∃ ua, ua = L.up (L.fin ((E.sizes st'.1).take t) 0) := ⟨_, rfl⟩
           obtain ⟨x, hxx⟩ : ∃ x, x = ns[t] := ⟨_, rfl⟩
           rw [<- hua] at htk hua8 HAT
           rw [<- hxx] at hxc htk
           obtain ⟨y, hye⟩ : ∃ y, y = st.1[t].2 := ⟨_, rfl⟩
           rw [<- hye] at m3 HAT
           generalize (unitAt E st.1[t].1).1 = s0 at m0 HAT
           generalize (unitAt E st.1[t].1).2.1.length = tl at m1 HAT
           generalize (unitAt E st.1[t].1).2.2.length = ul at m2 HAT
           have y0 : Z0.cell? ⟨tb, 0, none⟩ = _ := cell_of_row Z0 tb 0 _ _ _ hrw2
           have y1 : Z0.cell? ⟨tb, 1, none⟩ = _ := cell_of_row Z0 tb 1 _ _ _ hrw2
           have y2 : Z0.cell? ⟨tb, 2, none⟩ = _ := cell_of_row Z0 tb 2 _ _ _ hrw2
           have y3 : Z0.cell? ⟨tb, 3, none⟩ = _ := cell_of_row Z0 tb 3 _ _ _ hrw2
           have y4 : Z0.cell? ⟨tb, 4, none⟩ = _ := cell_of_row Z0 tb 4 _ _ _ hrw2
           have y5 : Z0.cell? ⟨tb, 5, none⟩ = _ := cell_of_row Z0 tb 5 _ _ _ hrw2
           have y6 : Z0.cell? ⟨tb, 6, none⟩ = _ := cell_of_row Z0 tb 6 _ _ _ hrw2
           have y7 : Z0.cell? ⟨tb, 7, none⟩ = _ := cell_of_row Z0 tb 7 _ _ _ hrw2
           have hvl := fun b hb => HJ.out.own.lt (k := b) hb
           have hs16 := HT16.out.size
           have hltb := HLT.out
           have n1 : ¬ (Value.slice EA t ec).ownBlock = some tb := fun e => by have := (hvl _ e).1; omega
           have n2 : ¬ (Value.slice EA t ec).ownBlock = some lb := fun e => by have := (hvl _ e).1; omega
           obtain ⟨Φ, hΦ⟩ : ∃ Φ : World -> Prop, ∀ W, Φ W ↔ Tch (fun i => (Value.slice EA t ec).ownBlock = some i) Z0 W := ⟨_, fun _ => Iff.rfl⟩
           have h0 : Φ Z0.drew := (hΦ _).2 (((Ext.refl Z0).drew).tch _)
           have fx0 : ∀ z : Lat Φ, z.w'.cell? ⟨tb, 0, none⟩ = _ := fun z => ((hΦ _).1 z.h).keepc y0 n1
           have fx1 : ∀ z : Lat Φ, z.w'.cell? ⟨tb, 1, none⟩ = _ := fun z => ((hΦ _).1 z.h).keepc y1 n1
           have fx2 : ∀ z : Lat Φ, z.w'.cell? ⟨tb, 2, none⟩ = _ := fun z => ((hΦ _).1 z.h).keepc y2 n1
           have fx3 : ∀ z : Lat Φ, z.w'.cell? ⟨tb, 3, none⟩ = _ := fun z => ((hΦ _).1 z.h).keepc y3 n1
           have fx4 : ∀ z : Lat Φ, z.w'.cell? ⟨tb, 4, none⟩ = _ := fun z => ((hΦ _).1 z.h).keepc y4 n1
           have fx5 : ∀ z : Lat Φ, z.w'.cell? ⟨tb, 5, none⟩ = _ := fun z => ((hΦ _).1 z.h).keepc y5 n1
           have fx6 : ∀ z : Lat Φ, z.w'.cell? ⟨tb, 6, none⟩ = _ := fun z => ((hΦ _).1 z.h).keepc y6 n1
           have fx7 : ∀ z : Lat Φ, z.w'.cell? ⟨tb, 7, none⟩ = _ := fun z => ((hΦ _).1 z.h).keepc y7 n1
           have fx8 : ∀ z : Lat Φ, z.w'.cell? ⟨lb, lo + t * 4, none⟩ = _ := fun z => ((hΦ _).1 z.h).keepc m0 n2
           have fx9 : ∀ z : Lat Φ, z.w'.cell? ⟨lb, lo + t * 4 + 1, none⟩ = _ := fun z => ((hΦ _).1 z.h).keepc m1 n2
           have fx10 : ∀ z : Lat Φ, z.w'.cell? ⟨lb, lo + t * 4 + 1 + 1, none⟩ = _ := fun z => ((hΦ _).1 z.h).keepc m2 n2
           have fx11 : ∀ z : Lat Φ, z.w'.cell? ⟨lb, lo + t * 4 + 3, none⟩ = _ := fun z => ((hΦ _).1 z.h).keepc m3 n2
           have hne := Lat.some h0
           have HTK := Lib.hid htk
           have HX0 := Lib.hid (HJ.out.tch.trans (((Ext.refl Z0).drew).tch _))
           have HH0 := Lib.hid HJ.out
           clear htk hua hxx hjn hvl hrw hrw2 his hye y0 y1 y2 y3 y4 y5 y6 y7 m0 m1 m2 m3 hltb hs16 HJ
           go_upto_region 37 with (fail)
           refine wp_region_tail 13 [8, 10, 11] Φ h0 (by kernel_rfl) (by kernel_rfl) (by kernel_rfl) ?_
           simp only [List.take_succ_cons, List.take_zero, List.drop_succ_cons, List.drop_zero]
           iterate 8 (refine lex_pure rfl rfl rfl ?_; intro K hK; go_big_quiet_op; go_big_quiet_on)
           refine lex_eff rfl ?_
           go_wp2_with fail
           refine (HAT.out _ HX0.out).mono ?_
           rintro e z8 ⟨rfl, x8⟩
           have X8 : Ext Z0 z8 := (Ext.refl Z0).drew.trans x8
           go_wp2_with fail
           refine ⟨⟨⟨z8, (hΦ _).2 (X8.tch _)⟩, rfl⟩, ?_⟩
           refine lex_pure rfl rfl rfl ?_; intro K hK; go_big_quiet_op; go_big_quiet_on
           refine lex_eff rfl ?_
           go_wp2_with fail
           obtain ⟨el, hel⟩ : ∃ el : L.Expd, el = (x, (ua : Int)) := ⟨_, rfl⟩
           obtain ⟨Z4, hZ4⟩ : ∃ Z4, Z4 = z8.alloc (.cells #[.string x, .int .i64 (ua : Int)] 74) := ⟨_, rfl⟩
           have E4 : Ext Z0 Z4 := by rw [hZ4]; exact X8.alloc _
           have hs4 : ∀ j v, (expC el)[j]? = some v -> Z4.cell? ⟨z8.heap.size, j, none⟩ = some v := by rw [hZ4, hel]; exact new_cells z8 (expC (x, (ua : Int))) 74 _ rfl
           rw [<- hZ4]
           have hP4 : Φ Z4 := (hΦ _).2 (E4.tch _)
           have hown4 := HH0.out.own.ext E4
           have hbase4 : W16.heap.size <= Z4.heap.size := Nat.le_trans HH0.out.tch.size E4.size
           have HEL2 := Lib.hid hel
           obtain ⟨i9, hi9, hz9, hz91, hz92⟩ := info_parts info74
           clear hZ4 hel
           refine ⟨⟨⟨Z4, hP4⟩, rfl⟩, ?_⟩
           refine lex_eff rfl ?_
           go_wp2_with (at_builtin; refine wpList_append_one rfl (.tmp 117) (.tmp 126) 32 rfl Tryz.underlying32 hi9 hz9 hz91 hz92 rfl (by decide) (by decide) rfl hown4 el rfl rfl hs4 (expC_one el) (by omega) hbase4 ?_; intro v5 z5 hown5 hg5 hv5)
           obtain ⟨A6, c6, rfl⟩ := hown5.form
           have hg5' : Z4.grownBy z5 (Value.slice EA t ec).ownBlock := hg5
           have hT5 : Tch (fun i => (Value.slice EA t ec).ownBlock = some i) Z0 z5 := (E4.tch _).trans ⟨hg5'.os, hg5'.tape, hg5'.output, hg5'.size, fun i hi hx => hg5'.block i hi fun e => hx e.symm⟩
           refine ⟨⟨⟨z5, (hΦ _).2 hT5⟩, rfl⟩, ?_⟩
           refine lex_pure rfl rfl rfl ?_; intro K hK; go_big_quiet_op; go_big_quiet_on
           refine lex_nil ?_
           show wpList _ _ _ (_ :: []) _ _
           have hown6 : OwnL expC 74 2 z5 W16.heap.size (.slice A6 (t + 1) c6) (t + 1) ((exL E st'.1 ns).take (t + 1)) := by
            rw [HTK.out, <- HEL2.out]
            exact hown5
           obtain ⟨hJ6, x6, xf⟩ := HH0.out.pushed (by rw [HV1.out]; rfl) hown6 hT5
           have HJ6 := Lib.hid hJ6
           clear fx0 fx1 fx2 fx3 fx4 fx5 fx6 fx7 fx8 fx9 fx10 fx11 hne h0 hT5 hP4 hs4 hown4 hown5 hown6 hg5 hg5' hv5 E4 hJ6 hbase4 n1 n2 X8 x8
           go_wp2_with fail
           go_roundw
           case rel => exact ⟨t + 1, _, by omega, by go_num, HJ6.out⟩
           case measure => simp [intOf]; omega
          ·obtain rfl : t = j := by omega
           have hex : (exL E st'.1 ns).length = t := by rw [exL_len HNS2.out]; exact HNN.out
           obtain ⟨C1, g1, C2, g2, hrs, hC1, hC2⟩ := HRR2.out
           obtain ⟨z1, hz1⟩ : ∃ z1, z1 = (E.reading st'.2).1.length := ⟨_, rfl⟩
           obtain ⟨z2, hz2⟩ : ∃ z2, z2 = (E.reading st'.2).2.length := ⟨_, rfl⟩
           have htz := HT16.out.trans HJ.out.tch
           have hltb := HLT.out
           have hb6 := (htz.block _ (hltA H6.out) (by omega)).trans H6.out
           rw [hrs, <- hz1, <- hz2] at hb6
           have hb62 : Z0.heap[tb + 1]? = some (.cells #[.slice C1 z1 g1, .slice C2 z2 g2] 38 (0, 0)) := hb6
           have hx15 := HW0.out.trans HXE.out
           have hs15 := HS1.out
           have hgw := HGW.out
           have hgs := HG.out
           have hs13 : W0.heap.size <= w13.heap.size := HX13.out.size
           have hs14 : w13.heap.size <= tb := by rw [HTB.out]; exact HT14.out.size
           have hxz : Ext W1 Z0 := hx15.low htz fun i hi => by omega
           have hA9 : Z0.heap[w.heap.size]? = some (.cells zrow35 35 (0, 0)) := (hxz.block _ (hltA HR1.out)).trans HR1.out
           have hB9 : Z0.heap[w.heap.size + 1]? = some (.cells zrow38 38 (0, 0)) := (hxz.block _ (hltA HR2.out)).trans HR2.out
           have hD9 : Z0.drew.heap[w.heap.size]? = some (.cells zrow35 35 (0, 0)) := hA9
           have hD10 : Z0.drew.heap[w.heap.size + 1]? = some (.cells zrow38 38 (0, 0)) := hB9
           have y0 : Z0.cell? ⟨tb, 0, none⟩ = _ := cell_of_row Z0 tb 0 _ _ _ hrw2
           have y1 : Z0.cell? ⟨tb, 1, none⟩ = _ := cell_of_row Z0 tb 1 _ _ _ hrw2
           have y2 : Z0.cell? ⟨tb, 2, none⟩ = _ := cell_of_row Z0 tb 2 _ _ _ hrw2
           have y3 : Z0.cell? ⟨tb, 3, none⟩ = _ := cell_of_row Z0 tb 3 _ _ _ hrw2
           have y4 : Z0.cell? ⟨tb, 4, none⟩ = _ := cell_of_row Z0 tb 4 _ _ _ hrw2
           have y5 : Z0.cell? ⟨tb, 5, none⟩ = _ := cell_of_row Z0 tb 5 _ _ _ hrw2
           have y6 : Z0.cell? ⟨tb, 6, none⟩ = _ := cell_of_row Z0 tb 6 _ _ _ hrw2
           have y7 : Z0.cell? ⟨tb, 7, none⟩ = _ := cell_of_row Z0 tb 7 _ _ _ hrw2
           have u0 : Z0.cell? ⟨tb + 1, 0, none⟩ = _ := cell_of_row Z0 (tb + 1) 0 _ _ _ hb62
           have u1 : Z0.cell? ⟨tb + 1, 1, none⟩ = _ := cell_of_row Z0 (tb + 1) 1 _ _ _ hb62
           have n1 : ¬ (tb = w.heap.size ∨ tb = w.heap.size + 1) := by omega
           have n2 : ¬ (tb + 1 = w.heap.size ∨ tb + 1 = w.heap.size + 1) := by omega
           obtain ⟨Φ, hΦ⟩ : ∃ Φ : World -> Prop, ∀ W, Φ W ↔ Tch (fun i => i = w.heap.size ∨ i = w.heap.size + 1) Z0 W := ⟨_, fun _ => Iff.rfl⟩
           have h0 : Φ Z0.drew := (hΦ _).2 (((Ext.refl Z0).drew).tch _)
           have fx0 : ∀ z : Lat Φ, z.w'.cell? ⟨tb, 0, none⟩ = _ := fun z => ((hΦ _).1 z.h).keepc y0 n1
           have fx1 : ∀ z : Lat Φ, z.w'.cell? ⟨tb, 1, none⟩ = _ := fun z => ((hΦ _).1 z.h).keepc y1 n1
           have fx2 : ∀ z : Lat Φ, z.w'.cell? ⟨tb, 2, none⟩ = _ := fun z => ((hΦ _).1 z.h).keepc y2 n1
           have fx3 : ∀ z : Lat Φ, z.w'.cell? ⟨tb, 3, none⟩ = _ := fun z => ((hΦ _).1 z.h).keepc y3 n1
           have fx4 : ∀ z : Lat Φ, z.w'.cell? ⟨tb, 4, none⟩ = _ := fun z => ((hΦ _).1 z.h).keepc y4 n1
           have fx5 : ∀ z : Lat Φ, z.w'.cell? ⟨tb, 5, none⟩ = _ := fun z => ((hΦ _).1 z.h).keepc y5 n1
           have fx6 : ∀ z : Lat Φ, z.w'.cell? ⟨tb, 6, none⟩ = _ := fun z => ((hΦ _).1 z.h).keepc y6 n1
           have fx7 : ∀ z : Lat Φ, z.w'.cell? ⟨tb, 7, none⟩ = _ := fun z => ((hΦ _).1 z.h).keepc y7 n1
           have fx8 : ∀ z : Lat Φ, z.w'.cell? ⟨tb + 1, 0, none⟩ = _ := fun z => ((hΦ _).1 z.h).keepc u0 n2
           have fx9 : ∀ z : Lat Φ, z.w'.cell? ⟨tb + 1, 1, none⟩ = _ := fun z => ((hΦ _).1 z.h).keepc u1 n2
           have hne := Lat.some h0
           have HXZ := Lib.hid hxz
           have HRS := Lib.hid hrs
           have HC12 : Hid (SliceAt strR w14 (Fresh w13 w14) C1 g1 (E.reading st'.2).1 /\ SliceAt strR w14 (Fresh w13 w14) C2 g2 (E.reading st'.2).2) := ⟨hC1, hC2⟩
           have HEX := Lib.hid hex
           have HZ12 : Hid (z1 = (E.reading st'.2).1.length /\ z2 = (E.reading st'.2).2.length) := ⟨hz1, hz2⟩
           have HJJ := Lib.hid HJ.out
           have HSZ : Hid (w.heap.size + 2 <= w13.heap.size /\ w13.heap.size <= tb) := ⟨by omega, hs14⟩
           clear hex hrs hC1 hC2 htz hltb hb6 hb62 hx15 hs15 hgw hgs hs13 hs14 hxz hA9 hB9 y0 y1 y2 y3 y4 y5 y6 y7 u0 u1 hrw hrw2 HJ hz1 hz2
           go_upto_region 39 with (fail)
           refine wp_region_tail 4 [2, 3] Φ h0 (by kernel_rfl) (by kernel_rfl) (by kernel_rfl) ?_
           simp only [List.take_succ_cons, List.take_zero, List.drop_succ_cons, List.drop_zero]
           iterate 2 (refine lex_pure rfl rfl rfl ?_; intro K hK; go_big_quiet_op; go_big_quiet_on)
           obtain ⟨c35, hc35⟩ : ∃ c, c = (#[.int .i64 2, .int .i64 (-1), .string im, .slice A1 np c1, .slice A2 nf c2, .slice A3 ni c3, .slice EA t ec, .slice A5 0 c5] : Array Value) := ⟨_, rfl⟩
           obtain ⟨c38, hc38⟩ : ∃ c, c = (#[.slice C1 z1 g1, .slice C2 z2 g2] : Array Value) := ⟨_, rfl⟩
           refine lex_eff rfl ?_
           refine wpList_store_row rfl 35 (.tmp 2) (.tmp 130) rfl w.heap.size c35 rfl ?_ 35 _ hD9 ?_ ?_ ?_ ?_
           ·rw [hc35]; rfl
           ·rw [hc35, size35]; rfl
           ·rw [hc35]; rfl
           ·rw [hc35]
            refine all_one fun u hu => ?_
            simp only [List.mem_cons, List.not_mem_nil, or_false] at hu
            rcases hu with rfl | rfl | rfl | rfl | rfl | rfl | rfl | rfl <;> rfl
           obtain ⟨W8, hW8⟩ : ∃ W8, W8 = Z0.drew.setRow w.heap.size c35 := ⟨_, rfl⟩
           have hT8 : Tch (fun i => i = w.heap.size) Z0.drew W8 := by rw [hW8]; exact tch_setRow Z0.drew w.heap.size _
           have hT8' : Tch (fun i => i = w.heap.size ∨ i = w.heap.size + 1) Z0 W8 := (((Ext.refl Z0).drew).tch _).trans (hT8.mono fun _ _ h => .inl h)
           have hA8 : W8.heap[w.heap.size]? = some (.cells c35 35 (0, 0)) := by rw [hW8]; exact heap_setRow Z0.drew w.heap.size _ hD9
           have hB8 := (hT8.block _ (hltA hD10) (by omega)).trans hD10
           rw [<- hW8]
           clear hW8
           refine ⟨⟨⟨W8, (hΦ _).2 hT8'⟩, rfl⟩, ?_⟩
           refine lex_eff rfl ?_
           refine wpList_store_row rfl 38 (.tmp 3) (.tmp 131) rfl (w.heap.size + 1) c38 rfl ?_ 38 _ hB8 ?_ ?_ ?_ ?_
           ·rw [hc38]; rfl
           ·rw [hc38, size38]; rfl
           ·rw [hc38]; rfl
           ·rw [hc38]
            refine all_one fun u hu => ?_
            simp only [List.mem_cons, List.not_mem_nil, or_false] at hu
            rcases hu with rfl | rfl <;> rfl
           obtain ⟨W9, hW9⟩ : ∃ W9, W9 = W8.setRow (w.heap.size + 1) c38 := ⟨_, rfl⟩
           have hT9 : Tch (fun i => i = w.heap.size + 1) W8 W9 := by rw [hW9]; exact tch_setRow W8 (w.heap.size + 1) _
           have hB9 : W9.heap[w.heap.size + 1]? = some (.cells c38 38 (0, 0)) := by rw [hW9]; exact heap_setRow W8 (w.heap.size + 1) _ hB8
           have hA9 := (hT9.block _ (hltA hA8) (by omega)).trans hA8
           rw [<- hW9]
           have hT89 := hT8'.trans (hT9.mono fun _ _ h => .inr h)
           have HT9 := Lib.hid hT89
           have HA9 := Lib.hid hA9
           have HB9 := Lib.hid hB9
           have HC35 := Lib.hid hc35
           have HC38 := Lib.hid hc38
           clear hW9
           refine ⟨⟨⟨W9, (hΦ _).2 hT89⟩, rfl⟩, ?_⟩
           refine lex_nil ?_
           clear fx0 fx1 fx2 fx3 fx4 fx5 fx6 fx7 fx8 fx9 hne h0 hT8 hT8' hT9 hB8 hA8 hA9 hB9 hT89 hc35 hc38 hD9 hD10 n1 n2
           go_wp2_with fail
           have q1 := HA9.out
           have q2 := HB9.out
           rw [HC35.out] at q1
           rw [HC38.out] at q2
           refine ret_bre rfl rfl rfl rfl q1 q2 rfl rfl rfl ?_
           rw [HRC.out]
           have hsz := HSZ.out
           have htb := HTB.out
           have hT16 := HT16.out.trans HJJ.out.tch
           have hfr : ∀ b, Fresh w13 w14 b -> W9.heap[b]? = w14.heap[b]? := fun b hb => by
            have h1 : b < tb := by rw [htb]; exact hb.2
            have h2 := hb.1
            have h3 : b < W15.heap.size := Nat.lt_of_lt_of_le hb.2 HY.out.size
            exact (HT9.out.block b (Nat.lt_of_lt_of_le h3 hT16.size) (by omega)).trans ((hT16.block b h3 (by omega)).trans (HY.out.block b hb.2))
           have hfw : ∀ b, Fresh w13 w14 b -> Fresh w W9 b := fun b hb => by
            have h1 := hb.1
            have h3 : b < W15.heap.size := Nat.lt_of_lt_of_le hb.2 HY.out.size
            exact ⟨by omega, Nat.lt_of_lt_of_le h3 (Nat.le_trans hT16.size HT9.out.size)⟩
           have hown := HJJ.out.own
           rw [List.take_of_length_le (by rw [HEX.out]; exact Nat.le_refl _)] at hown
           have hs16 : tb < W16.heap.size := HJJ.out.low
           obtain ⟨EA2, ec2, hee, hES⟩ := OwnL.slice hown fun B => exp_is HEV.out HOKF.out HNS2.out HXS.out
           injection hee with he1 _ he2
           subst he1 he2
           have hE9 : SliceAt expR W9 (Fresh w W9) EA ec (exL E st'.1 ns) := hES.keep (fun b hb => ⟨by have := hb.2.1; omega, Nat.lt_of_lt_of_le hb.2.2 HT9.out.size⟩) fun b hb => HT9.out.block b hb.2.2 (by have := hb.2.1; omega)
           have hBF := BinV.share2 HBB.out hfw hfr hE9
           rw [<- HVSET.out, HV1.out, HEX.out] at hBF
           have hxw : Ext w W9 := (HX1.out.trans HXZ.out).low HT9.out fun i hi => by omega
           refine ⟨hxw, _, _, rfl, hBF, C1, g1, C2, g2, ?_, HC12.out.1.keep hfw hfr, HC12.out.2.keep hfw hfr⟩
           rw [<- HZ12.out.1, <- HZ12.out.2]
end Go.Proofs.YtfbhchpbflaphaaGreatDoor
