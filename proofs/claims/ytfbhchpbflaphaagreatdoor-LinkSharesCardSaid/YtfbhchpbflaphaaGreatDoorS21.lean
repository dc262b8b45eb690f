/- The texts He Hh of the seat, joined. -/
import Derived.Test.YtfbhchpbflaphaaGreatDoorS20
namespace Go.Proofs.YtfbhchpbflaphaaGreatDoor
open Go.RowKit Go.Maps Go.ChangeMaps
attribute [local irreducible] wpLex wpT
set_option maxRecDepth 8000 in
set_option maxHeartbeats 8000000 in
theorem Link_any (x : ByteArray) (objs : List C.Mem) (sh : List L.Shelf) (libs : List L.Libr) (A B D : Option Addr) (a b d n m q : Nat) (w : World) (hn : n = objs.length) (hA : SliceAt memR w (Old w) A a objs) (hm : m = sh.length) (hB : SliceAt shelfR w (Old w) B b sh) (hq : q = libs.length) (hD : SliceAt librR w (Old w) D d libs)
 (hC : CaseOk objs sh libs) (hx : x.size <= 9223372036854775807) (hg : Gl w) :
 Calls Tryz.prog 12 #[.string x, .slice A n a, .slice B m b, .slice D q d] w (RetLk w (linkV (L.linkL okN okP x objs sh libs))) := by
 have hno := hC.no
 have hns := hC.ns
 have hnl := hC.nl
 have hfew := hC.few
 have hA' := fun W (e : Ext w W) => hA.ext e
 have hB' := fun W (e : Ext w W) => hB.ext e
 have hD' := fun W (e : Ext w W) => hD.ext e
 have HV := Lib.hid (fun W (e : Ext w W) => lvalid_any objs sh libs A B D a b d n m q W hn (hA' W e) hm (hB' W e) hq (hD' W e) hC.mems (fun s hs => (hC.shelves s hs).1) (fun l hl => (hC.lbs l hl).1) (by omega) (by omega) (by omega) (hg.ext e))
 have HNM := Lib.hid (fun W => Name_any x W hx)
 have HNW := Lib.hid (fun W (e : Ext w W) => newLinker_any objs sh libs A B D a b d n m q W hn (hA' W e) hm (hB' W e) hq (hD' W e) hC.mems (fun s hs => (hC.shelves s hs).1) (by omega) (by omega))
 have HE := Lib.hid hC.env
 have HX := Lib.hid hx
 obtain ⟨FV, hR⟩ : ∃ FV, FV = linkV (L.linkL okN okP x objs sh libs) := ⟨_, rfl⟩
 rw [<- hR]
 unfold L.linkL at hR
 have hnm : okN x = K.name x.data.toList := rfl
 rw [hnm] at hR
 obtain ⟨E, hE⟩ : ∃ E, E = L.envOf objs sh libs := ⟨_, rfl⟩
 have hE2 : L.envOf objs sh [] = ⟨E.objs, E.mems, []⟩ := by rw [hE]; rfl
 rw [hE2, <- hE] at hR
 rw [<- hE] at HNW HE
 have HLZ : Hid (∀ l ∈ E.libs, l.1.size <= 9223372036854775807) := by
  rw [hE]
  intro l hl
  have h1 := (hC.lbs l hl).1.1
  omega
 generalize L.validB okN okP objs sh libs = V at HV hR HE
 generalize K.name x.data.toList = N at HNM hR
 obtain ⟨hx1, hr1, hr2, hs1⟩ := two_cells w
 obtain ⟨W1, hW1⟩ : ∃ W1, W1 = (w.alloc (.cells zrow35 35)).alloc (.cells zrow38 38) := ⟨_, rfl⟩
 rw [<- hW1] at hx1 hr1 hr2 hs1
 have HW1 := Lib.hid hW1
 have HX1 := Lib.hid hx1
 have HR1 := Lib.hid hr1
 have HR2 := Lib.hid hr2
 have HS1 := Lib.hid hs1
 clear hn hA hm hB hq hD hC hx hg hno hns hnl hfew hnm hE hE2 hA' hB' hD' hx1 hr1 hr2 hs1 hW1
 cases V with
 | false =>
  have hR' : FV = (zeroB, ([], []), 1) := by rw [hR]; rfl
  have HR := Lib.hid hR'
  clear hR hR' HE
  go_enter Tryz.func12, Tryz.ntmps12
  go_upto_region 1 with (fail)
  rw [<- HW1.out]
  go_wp2_with fail
  refine (HV.out _ HX1.out).mono ?_
  rintro _ w2 ⟨rfl, e2⟩
  have HE2 := Lib.hid e2
  clear e2
  go_wp2_with fail
  refine (none43_any 1 _).mono ?_
  rintro e wz ⟨ez, rfl⟩
  have hz := HE2.out.trans ez
  have hA := (hz.block _ (hltA HR1.out)).trans HR1.out
  have hB := (hz.block _ (hltA HR2.out)).trans HR2.out
  obtain ⟨⟨r0, r1, r2, r3, r4, r5, r6, r7⟩, f0, f1, f2, f3, f4, f5, f6, f7⟩ := zcells hA
  obtain ⟨s0, s1, t0, t1⟩ := zcells2 hB
  obtain ⟨hA3, hB3⟩ := zput_rows hA hB
  have HA3 := Lib.hid hA3
  have HB3 := Lib.hid hB3
  have HX3 := Lib.hid (zput_ext (HX1.out.trans hz))
  clear hz ez hA hB hA3 hB3
  go_wp2_with fail
  refine ret_bre rfl rfl rfl rfl HA3.out HB3.out rfl rfl rfl ?_
  rw [HR.out]
  exact ⟨HX3.out, RetBR.none _ _ _⟩
 | true =>
  cases N with
  | false =>
   have hR' : FV = (zeroB, ([], []), 1) := by rw [hR]; rfl
   have HR := Lib.hid hR'
   clear hR hR' HE
   go_enter Tryz.func12, Tryz.ntmps12
   go_upto_region 1 with (fail)
   rw [<- HW1.out]
   go_wp2_with fail
   refine (HV.out _ HX1.out).mono ?_
   rintro _ w2 ⟨rfl, e2⟩
   have HE2 := Lib.hid e2
   clear e2
   go_wp2_with fail
   refine (HNM.out _).mono ?_
   rintro _ w3 ⟨rfl, e3⟩
   have HE3 := Lib.hid (HE2.out.trans e3)
   clear e3
   go_wp2_with fail
   refine (none43_any 1 _).mono ?_
   rintro e wz ⟨ez, rfl⟩
   have hz := HE3.out.trans ez
   have hA := (hz.block _ (hltA HR1.out)).trans HR1.out
   have hB := (hz.block _ (hltA HR2.out)).trans HR2.out
   obtain ⟨⟨r0, r1, r2, r3, r4, r5, r6, r7⟩, f0, f1, f2, f3, f4, f5, f6, f7⟩ := zcells hA
   obtain ⟨s0, s1, t0, t1⟩ := zcells2 hB
   obtain ⟨hA3, hB3⟩ := zput_rows hA hB
   have HA3 := Lib.hid hA3
   have HB3 := Lib.hid hB3
   have HX3 := Lib.hid (zput_ext (HX1.out.trans hz))
   clear hz ez hA hB hA3 hB3
   go_wp2_with fail
   refine ret_bre rfl rfl rfl rfl HA3.out HB3.out rfl rfl rfl ?_
   rw [HR.out]
   exact ⟨HX3.out, RetBR.none _ _ _⟩
  | true =>
   have HEV := Lib.hid (HE.out rfl)
   rw [Bool.and_self, if_pos rfl] at hR
   have HR := Lib.hid hR
   clear hR HE
   go_enter Tryz.func12, Tryz.ntmps12
   go_upto_region 1 with (fail)
   rw [<- HW1.out]
   go_wp2_with fail
   refine (HV.out _ HX1.out).mono ?_
   rintro _ w2 ⟨rfl, e2⟩
   have HE2 := Lib.hid e2
   clear e2
   go_wp2_with fail
   refine (HNM.out _).mono ?_
   rintro _ w3 ⟨rfl, e3⟩
   have HE3 := Lib.hid (HE2.out.trans e3)
   clear e3
   go_wp2_with fail
   refine (HNW.out _ (HX1.out.trans HE3.out)).mono ?_
   rintro e w4 ⟨e4, g, S, X, k, rfl, hL, hS⟩
   have HSR := Lib.hid (search_any w4 S X _ g E ([], 0, 0) [] k hL HEV.out x [] none 0 0 rfl (by omega) (SliceAt.nil _ _ _ _ _ (by omega)))
   have HL := Lib.hid hL
   have HE4 := Lib.hid e4
   clear hL e4 hS
   go_wp2_with fail
   refine HSR.out.mono ?_
   rintro e w5 ⟨ht, hh⟩
   have HX5 := Lib.hid (HL.out.extTch HE4.out ht)
   have HW5 := Lib.hid (HE3.out.trans HX5.out)
   clear ht
   cases hhit : L.hit ⟨E.objs, E.mems, []⟩ x with
   | twice =>
    rw [hhit] at hh
    subst hh
    have hR' : FV = (zeroB, ([], []), 6) := by rw [HR.out, hhit]; rfl
    have HRB := Lib.hid hR'
    clear hR' hhit
    unfold placeV
    go_wp2_with fail
    refine (none43_any 6 _).mono ?_
    rintro e wz ⟨ez, rfl⟩
    have hz := (HW5.out.alloc _).trans ez
    have hA := (hz.block _ (hltA HR1.out)).trans HR1.out
    have hB := (hz.block _ (hltA HR2.out)).trans HR2.out
    obtain ⟨⟨r0, r1, r2, r3, r4, r5, r6, r7⟩, f0, f1, f2, f3, f4, f5, f6, f7⟩ := zcells hA
    obtain ⟨s0, s1, t0, t1⟩ := zcells2 hB
    obtain ⟨hA3, hB3⟩ := zput_rows hA hB
    have HA3 := Lib.hid hA3
    have HB3 := Lib.hid hB3
    have HX3 := Lib.hid (zput_ext (HX1.out.trans hz))
    clear hz ez hA hB hA3 hB3
    go_wp2_with fail
    refine ret_bre rfl rfl rfl rfl HA3.out HB3.out rfl rfl rfl ?_
    rw [HRB.out]
    exact ⟨HX3.out, RetBR.none _ _ _⟩
   | unknown =>
    rw [hhit] at hh
    subst hh
    have hR' : FV = (zeroB, ([], []), 8) := by rw [HR.out, hhit]; rfl
    have HRB := Lib.hid hR'
    clear hR' hhit
    unfold placeV
    go_wp2_with fail
    refine (none43_any 8 _).mono ?_
    rintro e wz ⟨ez, rfl⟩
    have hz := (HW5.out.alloc _).trans ez
    have hA := (hz.block _ (hltA HR1.out)).trans HR1.out
    have hB := (hz.block _ (hltA HR2.out)).trans HR2.out
    obtain ⟨⟨r0, r1, r2, r3, r4, r5, r6, r7⟩, f0, f1, f2, f3, f4, f5, f6, f7⟩ := zcells hA
    obtain ⟨s0, s1, t0, t1⟩ := zcells2 hB
    obtain ⟨hA3, hB3⟩ := zput_rows hA hB
    have HA3 := Lib.hid hA3
    have HB3 := Lib.hid hB3
    have HX3 := Lib.hid (zput_ext (HX1.out.trans hz))
    clear hz ez hA hB hA3 hB3
    go_wp2_with fail
    refine ret_bre rfl rfl rfl rfl HA3.out HB3.out rfl rfl rfl ?_
    rw [HRB.out]
    exact ⟨HX3.out, RetBR.none _ _ _⟩
   | lib j =>
    exact absurd (L.hit_lib hhit) (Nat.not_lt_zero _)
   | unit u mm =>
    rw [hhit] at hh
    obtain ⟨rfl, hL5⟩ := hh
    have hR' := HR.out
    rw [hhit] at hR'
    simp only at hR'
    obtain ⟨hu, hsec⟩ : u < E.units.length /\ (E.sec? (u, x)).isSome = true := L.hit_sec (okN := okN) (E := ⟨E.objs, E.mems, []⟩) HEV.out.units hhit
    obtain ⟨_, _, _, hmm⟩ := L.hit_unit hhit
    have hmm : mm <= E.mems.length := hmm
    obtain ⟨c, hc⟩ := Option.isSome_iff_exists.1 hsec
    have hck := L.sec_is hc
    rw [hck] at hR'
    have hfw := HEV.out.few
    have hadd : L.addS (L.note ([], 0, 0) (mm, 0)) (u, x) = .ok ([(u, x)], mm, 0) := by
     unfold L.addS L.note L.has
     simp
    obtain ⟨W6, hW6⟩ : ∃ W6, W6 = w5.alloc (.cells #[.int .i64 (u : Int), .int .i64 (-1)] 101) := ⟨_, rfl⟩
    obtain ⟨pb, hpb⟩ : ∃ pb, pb = w5.heap.size := ⟨_, rfl⟩
    have E6 : Ext w5 W6 := by rw [hW6]; exact (Ext.refl w5).alloc _
    have hb6 : W6.heap[pb]? = some (.cells #[.int .i64 (u : Int), .int .i64 (-1)] 101 (0, 0)) := by rw [hW6, hpb]; exact heap_alloc_new w5 _
    have p0 : W6.cell? ⟨pb, 0, none⟩ = _ := cell_of_row W6 pb 0 _ _ _ hb6
    have HADD := Lib.hid (add_any W6 S X _ g E _ [] k (hL5.ext E6) (u, x) ⟨by show u < _; omega, HX.out⟩ (fun q hq => by cases (show q ∈ [] from hq)) (Nat.zero_le _))
    rw [hadd] at HADD
    have HL6 := Lib.hid (hL5.ext E6)
    have HX6 := Lib.hid (HX5.out.trans E6)
    have HPB := Lib.hid hpb
    have HU := Lib.hid hu
    have HSEC := Lib.hid hsec
    have HMM := Lib.hid hmm
    have HC := Lib.hid hc
    have HRC := Lib.hid hR'
    have HOK : Hid (L.ListOk E [(u, x)]) := ⟨(show 1 <= 128 by decide), by simp, fun p hp => by rw [List.mem_singleton.1 hp]; exact ⟨hu, hsec⟩⟩
    clear hhit hL5 hR' hu hsec hmm hc hck hadd E6 hb6 hpb
    unfold placeV
    go_upto_region 6 with (fail)
    rw [<- hW6, <- HPB.out]
    clear hW6
    go_wp2_with fail
    refine HADD.out.mono ?_
    rintro e w7 ⟨ht7, rfl, X', k', hX', hL7⟩
    have HX7 := Lib.hid (HL6.out.extTch HX6.out ht7)
    have HDT : Hid (Calls Tryz.prog 49 #[.pointer (some ⟨g, 0, none⟩), .int .i64 0] w7 (RetSec w7 S c)) := data_any w7 S X' _ g E ([(u, x)], mm, 0) [] k' hL7 HEV.out (i := 0) (show 0 < 1 by decide) (show 1 <= 128 by decide) HC.out
    have HL7 := Lib.hid hL7
    clear ht7 hX' hL7
    go_wp2_with fail
    refine HDT.out.mono ?_
    rintro e w8 ⟨e8, RA, rc, hRA, rfl⟩
    have HX8 := Lib.hid (HX7.out.trans e8)
    have HL8 := Lib.hid (HL7.out.ext e8)
    obtain ⟨ck, cd, cr⟩ := c
    simp only at HRC
    obtain ⟨rn, hrn⟩ : ∃ rn, rn = cr.length := ⟨_, rfl⟩
    rw [<- hrn]
    clear hrn hRA e8 HDT
    have hfd : ∀ W : World, (Instr.field 67 (.agg #[.int .i64 ck, .string cd, .slice RA rn rc]) 0).run Tryz.prog W = .ok (.int .i64 ck) W := fun _ => by kernel_rfl
    by_cases hk : ck = 1
    ·subst hk
     have hR' := HRC.out
     rw [if_neg (by decide)] at hR'
     have HRF := Lib.hid hR'
     have HFN := Lib.hid (finish_any w8 S X' _ g E ([(u, x)], mm, 0) k' HL8.out HEV.out HOK.out ⟨HMM.out, Nat.zero_le _⟩ HLZ.out)
     clear hR'
     go_wp2_with fail
     refine HFN.out.mono ?_
     rintro e w9 ⟨ht9, vs, rs, rfl, hBV, hRV, _⟩
     have HX9 := Lib.hid (HL8.out.extTch HX8.out ht9)
     have HTS := Lib.hid ht9.size
     obtain ⟨x10, n1, n2, n3⟩ := two_cells w9
     obtain ⟨n4, n5, n6, y10, _⟩ := two_stores w9 _ vs rs x10 n1 n2
     obtain ⟨W10, hW10⟩ : ∃ W10, W10 = (((w9.alloc (.cells zrow35 35)).alloc (.cells zrow38 38)).setRow w9.heap.size (Array.mk vs)).setRow (w9.heap.size + 1) (Array.mk rs) := ⟨_, rfl⟩
     rw [<- hW10] at n5 n6 y10
     have hrow := row35 hBV
     have hone := hBV.one
     have hlen := hBV.len
     have hrow2 := row38 hRV
     have hone2 := hRV.one
     have hlen2 := hRV.len
     have HBV := Lib.hid hBV
     have HRV := Lib.hid hRV
     have H5 := Lib.hid n5
     have H6 := Lib.hid n6
     have HY := Lib.hid y10
     have HRB1 := HE3.out.trans (HX9.out.trans y10)
     have HZ1 := Lib.hid ((HRB1.block _ (hltA HR1.out)).trans HR1.out)
     have HZ2 := Lib.hid ((HRB1.block _ (hltA HR2.out)).trans HR2.out)
     have HXX := Lib.hid (HX1.out.trans HRB1)
     have HLT : Hid (w.heap.size + 2 <= w8.heap.size) := by
      have h1 := (HE3.out.trans HX8.out).size
      have h2 := HS1.out
      unfold Hid
      omega
     clear ht9 hBV hRV x10 n3 n5 n6 y10 HRB1
     obtain ⟨er, her⟩ : ∃ er, er = (finV E (L.finish E ([(u, x)], mm, 0))).2.2 := ⟨_, rfl⟩
     rw [<- her]
     have HER := Lib.hid her
     clear her
     go_upto_region 12 with (first | (refine wpList_store_row rfl 35 (.tmp 15) (.tmp 67) rfl w9.heap.size (Array.mk vs) rfl rfl 35 _ n1 hrow (show 8 = vs.length from hlen.symm) hone ?_) | (refine wpList_store_row rfl 38 (.tmp 16) (.tmp 68) rfl (w9.heap.size + 1) (Array.mk rs) rfl rfl 38 _ n4 hrow2 (show 2 = rs.length from hlen2.symm) hone2 ?_))
     rw [<- hW10]
     clear hW10 n1 n2 n4
     obtain ⟨tb, htb⟩ : ∃ tb, tb = w9.heap.size := ⟨_, rfl⟩
     have HTBL : Hid (w8.heap.size <= tb) := by
      rw [htb]
      exact HTS.out
     rw [<- htb]
     rw [<- htb] at H5 H6
     have HTB9 := Lib.hid htb
     clear htb
     cases hfin : L.finish E ([(u, x)], mm, 0) with
     | error ne =>
      have hne0 := L.finish_ne hfin
      have hR' := HRF.out
      rw [hfin] at hR'
      have her := HER.out
      rw [hfin] at her
      have hRB : FV = (zeroB, ([], []), er) := by rw [hR', her]; rfl
      have hen : er = ne := her
      rw [<- hen] at hne0
      have q1 : (er == 0) = false := by simpa using hne0
      have HRB := Lib.hid hRB
      have HBE : Hid (BinV W10 (Fresh w8 w9) zeroB vs) := by
       have := HBV.out
       rw [hfin] at this
       exact this.keep (fun _ h => h) fun i hi => HY.out.block i hi.2
      have HRE : Hid (RdV W10 (Fresh w8 w9) ([], []) rs) := by
       have := HRV.out
       rw [hfin] at this
       exact this.keep (fun _ h => h) fun i hi => HY.out.block i hi.2
      have HWE : Hid (Tch (fun i => False) w9 W10) := HY.out.tch _
      have HT1 := H5
      have HT2 := H6
      have HZE1 := HZ1
      have HZE2 := HZ2
      have HXE := HXX
      clear hR' hRB hen her HER hne0 H5 H6 HZ1 HZ2 HXX hfin
      obtain ⟨WE, hWE⟩ : ∃ WE, WE = W10 := ⟨_, rfl⟩
      subst hWE
      have HRW := Lib.hid hrow
      obtain ⟨Φ, hΦ⟩ : ∃ Φ : World -> Prop, ∀ W, Φ W ↔ Tch (fun i => i = w.heap.size ∨ i = w.heap.size + 1) WE W := ⟨_, fun _ => Iff.rfl⟩
      have h0 : Φ WE.drew := (hΦ _).2 (((Ext.refl WE).drew).tch _)
      have hfx : ∀ w', (∃ x : Lat Φ, w' = x.w') -> w'.heap[tb]? = some (.cells (Array.mk vs) 35 (0, 0)) := by
       rintro w' ⟨z, rfl⟩
       exact (((hΦ _).1 z.h).block _ (hltA HT1.out) (by have := HTBL.out; have := HLT.out; omega)).trans HT1.out
      have hfy : ∀ w', (∃ x : Lat Φ, w' = x.w') -> w'.heap[tb + 1]? = some (.cells (Array.mk rs) 38 (0, 0)) := by
       rintro w' ⟨z, rfl⟩
       exact (((hΦ _).1 z.h).block _ (hltA HT2.out) (by have := HTBL.out; have := HLT.out; omega)).trans HT2.out
      have hne := Lat.some h0
      have HFX := Lib.hid hfx
      have HFY := Lib.hid hfy
      have HPH := Lib.hid hΦ
      clear hfx hfy hΦ
      go_upto_region 14 with (fail)
      refine wp_region_tail 5 [3, 4] Φ h0 (by kernel_rfl) (by kernel_rfl) (by kernel_rfl) ?_
      simp only [List.take_succ_cons, List.take_zero, List.drop_succ_cons, List.drop_zero]
      refine lex_pure rfl rfl rfl ?_
      intro K hK
      refine quiet_load_row 35 _ rfl tb rfl 35 (Array.mk vs) (0, 0) _ HFX.out Tryz.underlying35 rfl hrow ?_
      go_simp
      go_big_quiet_on
      refine lex_pure rfl rfl rfl ?_
      intro K hK
      refine quiet_load_row 38 _ rfl (tb + 1) rfl 38 (Array.mk rs) (0, 0) _ HFY.out Tryz.underlying38 rfl hrow2 ?_
      go_simp
      go_big_quiet_on
      refine lex_pure rfl rfl rfl ?_; intro K hK; go_big_quiet_op; go_big_quiet_on
      refine lex_eff rfl ?_
      have hA8 := HZE1.out
      have hB8 := HZE2.out
      go_wp2_with (refine wpList_store_row rfl 35 (.tmp 8) (.tmp 73) rfl w.heap.size (Array.mk vs) rfl rfl 35 _ hA8 hrow (show 8 = vs.length from hlen.symm) hone ?_)
      obtain ⟨s1, s2, s3, s4, s5⟩ := two_stores w WE.drew vs rs (HXE.out.drew) hA8 hB8
      have hT6 : Tch (fun i => i = w.heap.size ∨ i = w.heap.size + 1) WE (WE.drew.setRow w.heap.size (Array.mk vs)) := (((Ext.refl WE).drew).tch _).trans ((tch_setRow _ _ _).mono fun _ _ h => .inl h)
      refine ⟨⟨⟨_, (HPH.out _).2 hT6⟩, rfl⟩, ?_⟩
      refine lex_eff rfl ?_
      go_wp2_with (refine wpList_store_row rfl 38 (.tmp 9) (.tmp 74) rfl (w.heap.size + 1) (Array.mk rs) rfl rfl 38 _ s1 hrow2 (show 2 = rs.length from hlen2.symm) hone2 ?_)
      refine ⟨⟨⟨_, (HPH.out _).2 ((((Ext.refl WE).drew).tch _).trans s5)⟩, rfl⟩, ?_⟩
      refine lex_nil ?_
      show wpList _ _ _ (_ :: []) _ _
      go_wp2_with fail
      refine ret_bre rfl rfl rfl rfl s2 s3 hlen hlen2 rfl ?_
      rw [HRB.out]
      have hdr : WE.drew.heap.size = WE.heap.size := rfl
      refine ⟨s4, _, _, rfl, ?_, ?_⟩
      ·refine HBE.out.keep (fun i hi => ?_) fun i hi => ?_
       ·have h1 := hi.1
        have h2 := hi.2
        have h3 := s5.size
        have h4 := HWE.out.size
        have h5 := HLT.out
        exact ⟨by omega, by omega⟩
       ·have h1 := hi.1
        have h2 := hi.2
        have h5 := HLT.out
        have h6 := HWE.out
        exact (s5.block i (by have := h6.size; omega) (by omega)).trans rfl
      ·refine HRE.out.keep (fun i hi => ?_) fun i hi => ?_
       ·have h1 := hi.1
        have h2 := hi.2
        have h3 := s5.size
        have h4 := HWE.out.size
        have h5 := HLT.out
        exact ⟨by omega, by omega⟩
       ·have h1 := hi.1
        have h2 := hi.2
        have h5 := HLT.out
        have h6 := HWE.out
        exact (s5.block i (by have := h6.size; omega) (by omega)).trans rfl
     | ok sf =>
      have hR' := HRF.out
      rw [hfin] at hR'
      have her := HER.out
      rw [hfin] at her
      have her0 : er = 0 := her
      have hRB : FV = (E.bin sf.1 1 0 [], E.reading sf.2, er) := by rw [hR', her0]; rfl
      have HRB := Lib.hid hRB
      have hBE0 : BinV W10 (Fresh w8 w9) (E.bin sf.1 0 0 []) vs := by
       have := HBV.out
       rw [hfin] at this
       exact this.keep (fun _ h => h) fun i hi => HY.out.block i hi.2
      have hRE0 : RdV W10 (Fresh w8 w9) (E.reading sf.2) rs := by
       have := HRV.out
       rw [hfin] at this
       exact this.keep (fun _ h => h) fun i hi => HY.out.block i hi.2
      have hBE1 := hBE0.kind 1 (by decide)
      obtain ⟨WE, hWE⟩ : ∃ WE, WE = W10.setCell ⟨tb, 0, none⟩ (.int .i64 1) := ⟨_, rfl⟩
      have hTE : Tch (fun i => i = tb) W10 WE := by rw [hWE]; exact grown_tch (grownBy_setCell W10 ⟨tb, 0, none⟩ _)
      obtain ⟨v1, hv1⟩ : ∃ v1, v1 = vs.set 0 (.int .i64 1) := ⟨_, rfl⟩
      have hT1 : WE.heap[tb]? = some (.cells (Array.mk v1) 35 (0, 0)) := by
       rw [hWE, heap_setCell_cells H5.out 0 _, hv1]
       simp
      rw [<- hv1] at hBE1
      have hf1 : tb ≠ w.heap.size /\ tb ≠ w.heap.size + 1 := by have := HTBL.out; have := HLT.out; omega
      have hz1 := (hTE.block _ (hltA HZ1.out) (Ne.symm hf1.1)).trans HZ1.out
      have hz2 := (hTE.block _ (hltA HZ2.out) (Ne.symm hf1.2)).trans HZ2.out
      have hT2 := (hTE.block _ (hltA H6.out) (by omega)).trans H6.out
      have k0 : W10.cell? ⟨tb, 0, none⟩ = (Array.mk vs)[0]? := cell_of_row W10 tb 0 _ _ _ H5.out
      have kf := Lib.frozen_of_heap H5.out 0
      have hv0 : ∃ y, (Array.mk vs)[0]? = some y := ⟨_, Array.getElem?_eq_getElem (by show 0 < vs.length; omega)⟩
      obtain ⟨y0, hy0⟩ := hv0
      rw [hy0] at k0
      have HBE : Hid (BinV WE (Fresh w8 w9) (E.bin sf.1 1 0 []) v1) := hBE1.keep (fun _ h => h) fun i hi => hTE.block i (Nat.lt_of_lt_of_le hi.2 HY.out.size) (by have h9 := hi.2; have := HTB9.out; omega)
      have HRE : Hid (RdV WE (Fresh w8 w9) (E.reading sf.2) rs) := hRE0.keep (fun _ h => h) fun i hi => hTE.block i (Nat.lt_of_lt_of_le hi.2 HY.out.size) (by have h9 := hi.2; have := HTB9.out; omega)
      have HWE : Hid (Tch (fun i => i = tb) w9 WE) := (HY.out.tch _).trans hTE
      have HXE : Hid (Ext w WE) := by
       have h1 : Tch (fun _ => False) w W10 := HXX.out.tch _
       exact (h1.trans' hTE fun i hi e => absurd hi (by have := HTBL.out; have := HLT.out; omega)).ext fun _ _ h => h
      have HT1 := Lib.hid hT1
      have HT2 := Lib.hid hT2
      have HZE1 := Lib.hid hz1
      have HZE2 := Lib.hid hz2
      have hrow1 := row35 HBE.out
      have hone1 := HBE.out.one
      have hlen1 := HBE.out.len
      clear hR' hRB hBE0 hRE0 hBE1 hTE hT1 hT2 hz1 hz2 hf1 HZ1 HZ2 H5 H6 HXX hfin hrow hone hlen hv1 hy0
      clear her HER
      subst her0
      go_upto_region 14 with (fail)
      rw [<- hWE]
      clear hWE k0 kf
      obtain ⟨Φ, hΦ⟩ : ∃ Φ : World -> Prop, ∀ W, Φ W ↔ Tch (fun i => i = w.heap.size ∨ i = w.heap.size + 1) WE W := ⟨_, fun _ => Iff.rfl⟩
      have h0 : Φ WE.drew := (hΦ _).2 (((Ext.refl WE).drew).tch _)
      have hfx : ∀ w', (∃ x : Lat Φ, w' = x.w') -> w'.heap[tb]? = some (.cells (Array.mk v1) 35 (0, 0)) := by
       rintro w' ⟨z, rfl⟩
       exact (((hΦ _).1 z.h).block _ (hltA HT1.out) (by have := HTBL.out; have := HLT.out; omega)).trans HT1.out
      have hfy : ∀ w', (∃ x : Lat Φ, w' = x.w') -> w'.heap[tb + 1]? = some (.cells (Array.mk rs) 38 (0, 0)) := by
       rintro w' ⟨z, rfl⟩
       exact (((hΦ _).1 z.h).block _ (hltA HT2.out) (by have := HTBL.out; have := HLT.out; omega)).trans HT2.out
      have hne := Lat.some h0
      have HFX := Lib.hid hfx
      have HFY := Lib.hid hfy
      have HPH := Lib.hid hΦ
      clear hfx hfy hΦ
      refine wp_region_tail 5 [3, 4] Φ h0 (by kernel_rfl) (by kernel_rfl) (by kernel_rfl) ?_
      simp only [List.take_succ_cons, List.take_zero, List.drop_succ_cons, List.drop_zero]
      refine lex_pure rfl rfl rfl ?_
      intro K hK
      refine quiet_load_row 35 _ rfl tb rfl 35 (Array.mk v1) (0, 0) _ HFX.out Tryz.underlying35 rfl hrow1 ?_
      go_simp
      go_big_quiet_on
      refine lex_pure rfl rfl rfl ?_
      intro K hK
      refine quiet_load_row 38 _ rfl (tb + 1) rfl 38 (Array.mk rs) (0, 0) _ HFY.out Tryz.underlying38 rfl hrow2 ?_
      go_simp
      go_big_quiet_on
      refine lex_pure rfl rfl rfl ?_; intro K hK; go_big_quiet_op; go_big_quiet_on
      refine lex_eff rfl ?_
      have hA8 := HZE1.out
      have hB8 := HZE2.out
      go_wp2_with (refine wpList_store_row rfl 35 (.tmp 8) (.tmp 73) rfl w.heap.size (Array.mk v1) rfl rfl 35 _ hA8 hrow1 (show 8 = v1.length from hlen1.symm) hone1 ?_)
      obtain ⟨s1, s2, s3, s4, s5⟩ := two_stores w WE.drew v1 rs (HXE.out.drew) hA8 hB8
      have hT6 : Tch (fun i => i = w.heap.size ∨ i = w.heap.size + 1) WE (WE.drew.setRow w.heap.size (Array.mk v1)) := (((Ext.refl WE).drew).tch _).trans ((tch_setRow _ _ _).mono fun _ _ h => .inl h)
      refine ⟨⟨⟨_, (HPH.out _).2 hT6⟩, rfl⟩, ?_⟩
      refine lex_eff rfl ?_
      go_wp2_with (refine wpList_store_row rfl 38 (.tmp 9) (.tmp 74) rfl (w.heap.size + 1) (Array.mk rs) rfl rfl 38 _ s1 hrow2 (show 2 = rs.length from hlen2.symm) hone2 ?_)
      refine ⟨⟨⟨_, (HPH.out _).2 ((((Ext.refl WE).drew).tch _).trans s5)⟩, rfl⟩, ?_⟩
      refine lex_nil ?_
      show wpList _ _ _ (_ :: []) _ _
      go_wp2_with fail
      refine ret_bre rfl rfl rfl rfl s2 s3 hlen1 hlen2 rfl ?_
      rw [HRB.out]
      have hdr : WE.drew.heap.size = WE.heap.size := rfl
      refine ⟨s4, _, _, rfl, ?_, ?_⟩
      ·refine HBE.out.keep (fun i hi => ?_) fun i hi => ?_
       ·have h1 := hi.1
        have h2 := hi.2
        have h3 := s5.size
        have h4 := HWE.out.size
        have h5 := HLT.out
        exact ⟨by omega, by omega⟩
       ·have h1 := hi.1
        have h2 := hi.2
        have h5 := HLT.out
        have h6 := HWE.out
        exact (s5.block i (by have := h6.size; omega) (by omega)).trans rfl
      ·refine HRE.out.keep (fun i hi => ?_) fun i hi => ?_
       ·have h1 := hi.1
        have h2 := hi.2
        have h3 := s5.size
        have h4 := HWE.out.size
        have h5 := HLT.out
        exact ⟨by omega, by omega⟩
       ·have h1 := hi.1
        have h2 := hi.2
        have h5 := HLT.out
        have h6 := HWE.out
        exact (s5.block i (by have := h6.size; omega) (by omega)).trans rfl
    ·have hR' := HRC.out
     rw [if_pos hk] at hR'
     have hRB : FV = (zeroB, ([], []), 9) := hR'
     have HRB := Lib.hid hRB
     have q1 : (ck == 1) = false := by simpa using hk
     have q2 : (ck != 1) = true := by simp [bne, q1]
     clear hR' hRB
     go_wp2_with fail
     refine (none43_any 9 _).mono ?_
     rintro e wz ⟨ez, rfl⟩
     have hz := (HE3.out.trans HX8.out).trans ez
     have hA := (hz.block _ (hltA HR1.out)).trans HR1.out
     have hB := (hz.block _ (hltA HR2.out)).trans HR2.out
     obtain ⟨⟨r0, r1, r2, r3, r4, r5, r6, r7⟩, f0, f1, f2, f3, f4, f5, f6, f7⟩ := zcells hA
     obtain ⟨s0, s1, t0, t1⟩ := zcells2 hB
     obtain ⟨hA3, hB3⟩ := zput_rows hA hB
     have HA3 := Lib.hid hA3
     have HB3 := Lib.hid hB3
     have HX3 := Lib.hid (zput_ext (HX1.out.trans hz))
     clear hz ez hA hB hA3 hB3
     go_wp2_with fail
     refine ret_bre rfl rfl rfl rfl HA3.out HB3.out rfl rfl rfl ?_
     rw [HRB.out]
     exact ⟨HX3.out, RetBR.none _ _ _⟩
end Go.Proofs.YtfbhchpbflaphaaGreatDoor

namespace Go.Proofs.YtfbhchpbflaphaaGreatDoor
open Go.RowKit Go.Maps Go.ChangeMaps
structure ShAt (W1 : World) (b0 b4 g : Nat) (E : L.Env) (S : Nat -> Prop) (RS : Except Int L.St) (ns : List ByteArray) (NB : List C.Bs) (v : Value) (n0 k : Nat) (st : L.St) (X : Nat -> Prop) (kc : LC) (pv : Value) (wr : World) : Prop where
 rest : RS = L.starts E (ns.drop k) st
 names : st.1.map (·.2) = ns.take k
 ok : L.ListOk E st.1
 bd : L.Bd E st.2
 link : LinkAt wr S X b0 g E st [] kc
 pos : OwnL intC 3 1 wr b4 pv k ((List.range k).map fun i : Nat => (i : Int))
 off : ∀ b, pv.ownBlock = some b -> ¬ X b /\ ¬ S b
 list : OwnS wr W1.heap.size v n0 NB
 ext : Ext W1 wr
 low : b4 <= wr.heap.size
theorem ShAt.ext' {W1 : World} {b0 b4 g : Nat} {E : L.Env} {S : Nat -> Prop} {RS : Except Int L.St} {ns : List ByteArray} {NB : List C.Bs} {v : Value} {n0 k : Nat} {st : L.St} {X : Nat -> Prop} {kc : LC} {pv : Value} {wr W : World} (h : ShAt W1 b0 b4 g E S RS ns NB v n0 k st X kc pv wr) (he : Ext wr W) : ShAt W1 b0 b4 g E S RS ns NB v n0 k st X kc pv W :=
 ⟨h.rest, h.names, h.ok, h.bd, h.link.ext he, h.pos.ext he, h.off, h.list.ext he, h.ext.trans he, Nat.le_trans h.low he.size⟩
attribute [local irreducible] wpLex wpT
set_option maxRecDepth 8000 in
set_option maxHeartbeats 8000000 in
theorem Share_any (objs : List C.Mem) (A : Option Addr) (a n : Nat) (w : World) (hn : n = objs.length) (hA : SliceAt memR w (Old w) A a objs) (hC : CaseOk objs [] []) (hg : Gl w) :
 Calls Tryz.prog 16 #[.slice A n a] w (RetLk w (linkV (L.shareL okN okP objs))) := by
 have hno := hC.no
 have hfew := hC.few
 have hA' := fun W (e : Ext w W) => hA.ext e
 have HV := Lib.hid (fun W (e : Ext w W) => lvalid_any objs [] [] A none none a 0 0 n 0 0 W hn (hA' W e) rfl (SliceAt.nil _ _ _ _ _ (by omega)) rfl (SliceAt.nil _ _ _ _ _ (by omega)) hC.mems (fun s hs => by cases hs) (fun l hl => by cases hl) (by omega) (by omega) (by omega) (hg.ext e))
 have HNW := Lib.hid (fun W (e : Ext w W) => newLinker_any objs [] [] A none none a 0 0 n 0 0 W hn (hA' W e) rfl (SliceAt.nil _ _ _ _ _ (by omega)) rfl (SliceAt.nil _ _ _ _ _ (by omega)) hC.mems (fun s hs => by cases hs) (by omega) (by omega))
 have HE := Lib.hid hC.env
 have HU : Hid (L.validB okN okP objs [] [] = true -> ∀ m ∈ objs, m.2.1.length <= 128) := fun hv m hm => (L.check_parts (L.valid_units hv [] m (List.mem_append_left _ hm))).1
 obtain ⟨FV, hR⟩ : ∃ FV, FV = linkV (L.shareL okN okP objs) := ⟨_, rfl⟩
 rw [<- hR]
 unfold L.shareL at hR
 rw [<- valid_alone objs] at hR
 obtain ⟨E, hE⟩ : ∃ E, E = L.envOf objs [] [] := ⟨_, rfl⟩
 obtain ⟨ns, hns⟩ : ∃ ns, ns = namesE objs := ⟨_, rfl⟩
 have hns' : ((L.expNames objs).map fun b => (⟨b.toArray⟩ : ByteArray)) = ns := hns.symm
 rw [<- hE] at HNW HE
 have hel : E.libs = [] := by rw [hE]; rfl
 generalize L.validB okN okP objs [] [] = V at HV hR HE HU
 have HA := Lib.hid hA'
 have HN := Lib.hid hn
 have HMS := Lib.hid hC.mems
 obtain ⟨hx1, hr1, hr2, hs1⟩ := two_cells w
 obtain ⟨W1, hW1⟩ : ∃ W1, W1 = (w.alloc (.cells zrow35 35)).alloc (.cells zrow38 38) := ⟨_, rfl⟩
 rw [<- hW1] at hx1 hr1 hr2 hs1
 have HW1 := Lib.hid hW1
 have HX1 := Lib.hid hx1
 have HR1 := Lib.hid hr1
 have HR2 := Lib.hid hr2
 have HS1 := Lib.hid hs1
 have hn50 : n <= 50 := by omega
 clear hn hA hC hg hno hfew hA' hx1 hr1 hr2 hs1 hW1
 cases V with
 | false =>
  have hR' : FV = (zeroB, ([], []), 1) := by rw [hR]; rfl
  have HR := Lib.hid hR'
  clear hR hR' HE HU hns' hns hE hel
  go_enter Tryz.func16, Tryz.ntmps16
  go_upto_region 1 with (fail)
  rw [<- HW1.out]
  go_wp2_with fail
  refine (HV.out _ HX1.out).mono ?_
  rintro _ w2 ⟨rfl, e2⟩
  have HE2 := Lib.hid e2
  clear e2
  go_wp2_with fail
  refine (none59_any 1 _).mono ?_
  rintro e wz ⟨ez, rfl⟩
  have hz := HE2.out.trans ez
  have hA := (hz.block _ (hltA HR1.out)).trans HR1.out
  have hB := (hz.block _ (hltA HR2.out)).trans HR2.out
  obtain ⟨⟨r0, r1, r2, r3, r4, r5, r6, r7⟩, f0, f1, f2, f3, f4, f5, f6, f7⟩ := zcells hA
  obtain ⟨s0, s1, t0, t1⟩ := zcells2 hB
  obtain ⟨hA3, hB3⟩ := zput_rows hA hB
  have HA3 := Lib.hid hA3
  have HB3 := Lib.hid hB3
  have HX3 := Lib.hid (zput_ext (HX1.out.trans hz))
  clear hz ez hA hB hA3 hB3
  go_wp2_with fail
  refine ret_bre rfl rfl rfl rfl HA3.out HB3.out rfl rfl rfl ?_
  rw [HR.out]
  exact ⟨HX3.out, RetBR.none _ _ _⟩
 | true =>
  rw [if_pos rfl] at hR
  simp only [hns', <- hE] at hR
  have HEV := Lib.hid (HE.out rfl)
  have HUU := Lib.hid (HU.out rfl)
  have HRR := Lib.hid hR
  have HNS := Lib.hid hns
  have HEL := Lib.hid hel
  have HXS : Hid (∀ y ∈ ns, y.size <= 9223372036854775807) := by
   rw [hns]
   intro y hy
   have := namesE_size HMS.out y hy
   omega
  have HEE := Lib.hid hE
  clear hR HE HU hns' hns hE hel
  go_enter Tryz.func16, Tryz.ntmps16
  go_upto_region 1 with (fail)
  rw [<- HW1.out]
  go_wp2_with fail
  refine (HV.out _ HX1.out).mono ?_
  rintro _ w2 ⟨rfl, e2⟩
  have HE2 := Lib.hid e2
  clear e2
  go_wp2_with fail
  go_loopw [6, 31] (fun v i wr => ∃ k : Nat, k <= n /\ i = .int .i64 (k : Int) /\ Hid (OwnS wr W1.heap.size v (catE (objs.take k)).length (catE (objs.take k)) /\ Ext W1 wr)) (fun _ i _ => n - (intOf i).toNat)
  case atStart => exact ⟨0, Nat.zero_le _, rfl, OwnS.nil _ _, HE2.out⟩
  case round =>
   obtain ⟨k, hk, rfl, HK⟩ := hrel
   obtain ⟨W0, hW0⟩ : ∃ W0, W0 = wr := ⟨_, rfl⟩
   subst hW0
   by_cases hlt : k < n
   ·have hkl : k < objs.length := by rw [<- HN.out]; exact hlt
    obtain ⟨mb, mo, s, TA, tc, TB, td, rfl, hbo, hms, hss, hTA, hTB, m0, m1, m2⟩ := mem_getB (HA.out _ (HX1.out.trans HK.out.2)) hkl
    have hu := HUU.out _ (List.getElem_mem hkl)
    have htk := catE_take hkl
    have hcl : (catE (objs.take k)).length <= k * 128 := by
     have h1 := catE_len (l := objs.take k) fun m hm => HUU.out m (List.mem_of_mem_take hm)
     rw [List.length_take] at h1
     have h2 : min k objs.length * 128 <= k * 128 := Nat.mul_le_mul_right _ (Nat.min_le_left _ _)
     omega
    have hel := exports_len (expL objs[k].2.1)
    have hel2 := expL_len objs[k].2.1
    obtain ⟨sy, hsy⟩ : ∃ sy, sy = objs[k].2.1 := ⟨_, rfl⟩
    rw [<- hsy] at hTA m1 hu htk hel hel2
    generalize objs[k].2.2.length = ul at m2
    obtain ⟨tl, htl⟩ : ∃ tl, tl = sy.length := ⟨_, rfl⟩
    rw [<- htl] at m1 hu hel2
    have HTK := Lib.hid htk
    have HO := Lib.hid HK.out.1
    have HOX := Lib.hid HK.out.2
    obtain ⟨LC0, hLC⟩ : ∃ LC0, LC0 = catE (objs.take k) := ⟨_, rfl⟩
    rw [<- hLC] at HO hcl HTK
    obtain ⟨LX, hLX⟩ : ∃ LX, LX = (expL sy).foldl C.insB [] := ⟨_, rfl⟩
    rw [<- hLX] at hel HTK
    obtain ⟨W4, hW4⟩ : ∃ W4, W4 = W0.alloc (.cells #[.string s, .slice TA tl tc, .slice TB ul td] 69) := ⟨_, rfl⟩
    obtain ⟨eb, heb⟩ : ∃ eb, eb = W0.heap.size := ⟨_, rfl⟩
    have E4 : Ext W0 W4 := by rw [hW4]; exact (Ext.refl W0).alloc _
    have hb4 : W4.heap[eb]? = some (.cells #[.string s, .slice TA tl tc, .slice TB ul td] 69 (0, 0)) := by rw [hW4, heb]; exact heap_alloc_new W0 _
    have t1 : W4.cell? ⟨eb, 1, none⟩ = _ := cell_of_row W4 eb 1 _ _ _ hb4
    have t2 : W4.cell? ⟨eb, 2, none⟩ = _ := cell_of_row W4 eb 2 _ _ _ hb4
    have HEX : Hid (Calls Tryz.prog 60 #[.agg #[.slice TA tl tc, .slice TB ul td]] W4 (RetS W4 LX)) := by rw [hLX]; exact Exports_any sy TA TB tc td tl ul W4 htl (hTA.ext E4) (by omega)
    have HEB := Lib.hid heb
    have HO4 := Lib.hid (HO.out.ext E4)
    have HX4 := Lib.hid (HOX.out.trans E4)
    clear htk hms hss hTA hTB hbo hsy htl hLC hLX heb hb4 E4 hkl HK HO HOX
    go_upto_region 8 with (fail)
    rw [<- hW4, <- HEB.out]
    clear hW4 m0 m1 m2
    go_wp2_with fail
    refine HEX.out.mono ?_
    rintro e w5 ⟨e5, v5, n5, rfl, ho5⟩
    have hn5 := ho5.1
    have hown := HO4.out.ext e5
    have hbase : W1.heap.size <= w5.heap.size := (HX4.out.trans e5).size
    have HX5 := Lib.hid (HX4.out.trans e5)
    clear e5
    go_wp2_with (at_builtin; refine wpList_append_ownS rfl (.tmp 35) (.tmp 38) rfl rfl hown rfl ho5 (by omega) hbase ?_; intro v6 w6 ho6 hg6)
    have HX6 := Lib.hid (hown.grown HX5.out (Nat.le_refl _) hg6)
    have HO6 : Hid (OwnS w6 W1.heap.size v6 (catE (objs.take (k + 1))).length (catE (objs.take (k + 1)))) := by
     rw [HTK.out, List.length_append]
     rw [hn5] at ho6
     exact ho6
    go_roundw
    case rel => exact ⟨k + 1, by omega, by go_num, HO6.out, HX6.out⟩
    case measure => simp [intOf]; omega
   ·obtain rfl : k = n := by omega
    have htk : objs.take k = objs := List.take_of_length_le (by rw [HN.out]; exact Nat.le_refl _)
    have hcl : (catE objs).length <= 6400 := by
     have h1 := catE_len (l := objs) HUU.out
     have := HN.out
     omega
    have hcn := catE_names objs
    rw [htk] at HK
    obtain ⟨LC0, hLC⟩ : ∃ LC0, LC0 = catE objs := ⟨_, rfl⟩
    rw [<- hLC] at HK hcl hcn
    obtain ⟨NB, hNB⟩ : ∃ NB, NB = L.expNames objs := ⟨_, rfl⟩
    rw [<- hNB] at hcn
    have HSO := Lib.hid (sort_any HK.out.1 (by omega))
    have HK0 := Lib.hid HK.out
    have HCN := Lib.hid hcn
    have HNB := Lib.hid hNB
    have hlen2 : NB.length <= LC0.length := by
     rw [<- hcn]
     have := Lib.compact_length_le (LC0.mergeSort fun x y => decide (x <= y))
     rwa [List.length_mergeSort] at this
    obtain ⟨nl, hnl⟩ : ∃ nl, nl = LC0.length := ⟨_, rfl⟩
    rw [<- hnl] at HK0 HSO hcl hlen2
    have HNL := Lib.hid hnl
    clear htk hLC hcn hNB HK hnl
    go_wp2_with fail
    refine HSO.out.mono ?_
    rintro e w3 ⟨rfl, ho3, hg3⟩
    have HX3' := Lib.hid (HK0.out.1.grown HK0.out.2 (Nat.le_refl _) hg3)
    have HCO := Lib.hid (compact_any ho3 (by omega))
    have HO3 := Lib.hid ho3
    clear ho3 hg3
    go_wp2_with fail
    refine HCO.out.mono ?_
    rintro e w4 ⟨v4, rfl, ho4, hv4, hg4⟩
    have HX4 := Lib.hid (HO3.out.grown HX3'.out (Nat.le_refl _) hg4)
    rw [HCN.out] at ho4
    obtain ⟨VA, vc, rfl, hvl, hvc⟩ := ho4.form2
    obtain ⟨q, hq⟩ : ∃ q, q = NB.length := ⟨_, rfl⟩
    rw [<- hq] at ho4 hvl hlen2 ⊢
    have HO4 := Lib.hid ho4
    have HQ := Lib.hid hq
    clear ho4 hv4 hg4 hq HSO HCO HO3 HX3' HK0
    by_cases hq0 : q = 0
    ·have hR' : FV = (zeroB, ([], []), 7) := by
      have h0 : ns = [] := List.eq_nil_of_length_eq_zero (by rw [HNS.out, namesE_len, <- HNB.out, <- HQ.out, hq0])
      rw [HRR.out, if_pos h0]
      rfl
     have HRB := Lib.hid hR'
     clear hR'
     subst hq0
     go_wp2_with fail
     refine (none59_any 7 _).mono ?_
     rintro e wz ⟨ez, rfl⟩
     have hz := HX4.out.trans ez
     have hA := (hz.block _ (hltA HR1.out)).trans HR1.out
     have hB := (hz.block _ (hltA HR2.out)).trans HR2.out
     obtain ⟨⟨r0, r1, r2, r3, r4, r5, r6, r7⟩, f0, f1, f2, f3, f4, f5, f6, f7⟩ := zcells hA
     obtain ⟨s0, s1, t0, t1⟩ := zcells2 hB
     obtain ⟨hA3, hB3⟩ := zput_rows hA hB
     have HA3 := Lib.hid hA3
     have HB3 := Lib.hid hB3
     have HX3 := Lib.hid (zput_ext (HX1.out.trans hz))
     clear hz ez hA hB hA3 hB3
     go_wp2_with fail
     refine ret_bre rfl rfl rfl rfl HA3.out HB3.out rfl rfl rfl ?_
     rw [HRB.out]
     exact ⟨HX3.out, RetBR.none _ _ _⟩
    ·have hnn : ns.length = q := by rw [HNS.out, namesE_len, <- HNB.out, <- HQ.out]
     have hne : ns ≠ [] := fun h => hq0 (by rw [<- hnn, h]; rfl)
     obtain ⟨RS, hRS⟩ : ∃ RS, RS = L.starts E ns ([], 0, 0) := ⟨_, rfl⟩
     have hR' := HRR.out
     rw [if_neg hne, <- hRS] at hR'
     have HRB := Lib.hid hR'
     have HRS := Lib.hid hRS
     have HNN := Lib.hid hnn
     clear hR' hRS hnn hne
     have q1 : ((q : Int) == 0) = false := by
      have : ¬ (q : Int) = 0 := by omega
      simpa using this
     go_wp2_with fail
     refine (HNW.out _ (HX1.out.trans HX4.out)).mono ?_
     rintro e w5 ⟨e5, g, S, X, kc, rfl, hL, hS⟩
     have HLK := Lib.hid hL
     have HE5 := Lib.hid e5
     have hSl : ∀ b, S b -> b < w5.heap.size := fun b hb => (hL.out b hb).1
     have HSL := Lib.hid hSl
     have H0 : Hid (ShAt W1 w4.heap.size w5.heap.size g E S RS ns NB (.slice VA q vc) q 0 ([], 0, 0) X kc (.slice none 0 0) w5) := {
      rest := HRS.out
      names := rfl
      ok := ⟨Nat.zero_le _, List.nodup_nil, fun p hp => by cases hp⟩
      bd := ⟨Nat.zero_le _, Nat.zero_le _⟩
      link := hL
      pos := OwnL.nil _ _
      off := fun b hb => by simp [Value.ownBlock] at hb
      list := HO4.out.ext e5
      ext := HX4.out.trans e5
      low := Nat.le_refl _ }
     have HB4 := Lib.hid (show w4.heap.size <= w5.heap.size from e5.size)
     clear hL e5 hS hSl HLK
     go_wp2_with fail
     go_loopw [10, 57] (fun pv i wr => ∃ (k : Nat) (st : L.St) (X' : Nat -> Prop) (kc' : LC), k <= q /\ i = .int .i64 (k : Int) /\ Hid (ShAt W1 w4.heap.size w5.heap.size g E S RS ns NB (.slice VA q vc) q k st X' kc' pv wr)) (fun _ i _ => q - (intOf i).toNat)
     case atStart => exact ⟨0, _, X, kc, Nat.zero_le _, rfl, H0.out⟩
     case round =>
      obtain ⟨k, st, X', kc', hk, rfl, HK⟩ := hrel
      obtain ⟨V0, hV0⟩ : ∃ V0, V0 = wr := ⟨_, rfl⟩
      subst hV0
      by_cases hlt : k < q
      ·have hkn : k < ns.length := by rw [HNN.out]; exact hlt
       have hkb : k < NB.length := by rw [<- HQ.out]; exact hlt
       obtain ⟨nb, no, nc, hva, hnb1, hnb2, _, _, hcell⟩ := HK.out.list.2.cells (by omega)
       have hxc := hcell k (encStr NB[k]) (by rw [List.getElem?_map, List.getElem?_eq_getElem hkb]; rfl)
       have hxe : encStr NB[k] = .string ns[k] := by
        have h2 : ns[k]? = some (mkN NB[k]) := by
         rw [HNS.out]
         unfold namesE
         rw [<- HNB.out, List.getElem?_map, List.getElem?_eq_getElem hkb]
         rfl
        rw [List.getElem?_eq_getElem hkn] at h2
        rw [Option.some.inj h2]
        rfl
       rw [hxe] at hxc
       have hva1 : VA = some ⟨nb, no, none⟩ := by cases hva; rfl
       clear hva
       subst hva1
       have hrest := HK.out.rest
       rw [starts_at hkn] at hrest
       have hxn : ns[k] ∉ st.1.map (·.2) := by
        rw [HK.out.names]
        have h1 := HNS.out
        subst h1
        exact namesE_new hkn
       have hnm : ns.take (k + 1) = ns.take k ++ [ns[k]] := List.take_succ_eq_append_getElem hkn
       obtain ⟨x, hxx⟩ : ∃ x, x = ns[k] := ⟨_, rfl⟩
       rw [<- hxx] at hxc hrest hxn hnm
       have hxs : x.size <= 9223372036854775807 := HXS.out x (by rw [hxx]; exact List.getElem_mem hkn)
       have HRES := Lib.hid (resolve_any V0 S X' _ g E st [] kc' HK.out.link HEV.out x hxs)
       have HREST := Lib.hid hrest
       have HXN := Lib.hid hxn
       have HNM := Lib.hid hnm
       have HXS2 := Lib.hid hxs
       clear hkn hkb hxe hrest hxn hnm hxx hxs hcell hnb1 hnb2
       go_wp2_with fail
       refine HRES.out.mono ?_
       rintro e w6 ⟨ht6, hh⟩
       have HT6 := Lib.hid ht6
       have HX6 : Hid (Ext W1 w6) := by
        have h1 : Tch (fun _ => False) W1 V0 := HK.out.ext.tch _
        exact (h1.trans' ht6 fun i hi e => absurd (HK.out.link.lt i e).1 (by have := HX4.out.size; omega)).ext fun _ _ h => h
       clear ht6 hxc
       cases hhit : L.hit E x with
       | twice =>
        rw [hhit] at hh
        subst hh
        have hRS := HREST.out
        rw [hhit] at hRS
        have hR' : FV = (zeroB, ([], []), 6) := by rw [HRB.out, hRS]; rfl
        have HRC := Lib.hid hR'
        clear hR' hhit hRS
        unfold placeV
        go_wp2_with fail
        refine (none59_any 6 _).mono ?_
        rintro e wz ⟨ez, rfl⟩
        have hz := (HX6.out.alloc _).trans ez
        have hA := (hz.block _ (hltA HR1.out)).trans HR1.out
        have hB := (hz.block _ (hltA HR2.out)).trans HR2.out
        obtain ⟨⟨r0, r1, r2, r3, r4, r5, r6, r7⟩, f0, f1, f2, f3, f4, f5, f6, f7⟩ := zcells hA
        obtain ⟨s0, s1, t0, t1⟩ := zcells2 hB
        obtain ⟨hA3, hB3⟩ := zput_rows hA hB
        have HA3 := Lib.hid hA3
        have HB3 := Lib.hid hB3
        have HX3 := Lib.hid (zput_ext (HX1.out.trans hz))
        clear hz ez hA hB hA3 hB3
        go_wp2_with fail
        refine ret_bre rfl rfl rfl rfl HA3.out HB3.out rfl rfl rfl ?_
        rw [HRC.out]
        exact ⟨HX3.out, RetBR.none _ _ _⟩
       | unknown =>
        rw [hhit] at hh
        subst hh
        have hRS := HREST.out
        rw [hhit] at hRS
        have hR' : FV = (zeroB, ([], []), 8) := by rw [HRB.out, hRS]; rfl
        have HRC := Lib.hid hR'
        clear hR' hhit hRS
        unfold placeV
        go_wp2_with fail
        refine (none59_any 8 _).mono ?_
        rintro e wz ⟨ez, rfl⟩
        have hz := (HX6.out.alloc _).trans ez
        have hA := (hz.block _ (hltA HR1.out)).trans HR1.out
        have hB := (hz.block _ (hltA HR2.out)).trans HR2.out
        obtain ⟨⟨r0, r1, r2, r3, r4, r5, r6, r7⟩, f0, f1, f2, f3, f4, f5, f6, f7⟩ := zcells hA
        obtain ⟨s0, s1, t0, t1⟩ := zcells2 hB
        obtain ⟨hA3, hB3⟩ := zput_rows hA hB
        have HA3 := Lib.hid hA3
        have HB3 := Lib.hid hB3
        have HX3 := Lib.hid (zput_ext (HX1.out.trans hz))
        clear hz ez hA hB hA3 hB3
        go_wp2_with fail
        refine ret_bre rfl rfl rfl rfl HA3.out HB3.out rfl rfl rfl ?_
        rw [HRC.out]
        exact ⟨HX3.out, RetBR.none _ _ _⟩
       | lib j =>
        have := L.hit_lib hhit
        rw [HEL.out] at this
        exact absurd this (Nat.not_lt_zero _)
       | unit u mm =>
        rw [hhit] at hh
        obtain ⟨rfl, hL6⟩ := hh
        have hRS := HREST.out
        rw [hhit] at hRS
        simp only at hRS
        rw [addS_new HXN.out] at hRS
        obtain ⟨hu, hsec⟩ := L.hit_sec HEV.out.units hhit
        obtain ⟨_, _, _, hmm⟩ := L.hit_unit hhit
        have hfw := HEV.out.few
        obtain ⟨W6, hW6⟩ : ∃ W6, W6 = w6.alloc (.cells #[.int .i64 (u : Int), .int .i64 (-1)] 101) := ⟨_, rfl⟩
        obtain ⟨pb, hpb⟩ : ∃ pb, pb = w6.heap.size := ⟨_, rfl⟩
        have E6 : Ext w6 W6 := by rw [hW6]; exact (Ext.refl w6).alloc _
        have hb6 : W6.heap[pb]? = some (.cells #[.int .i64 (u : Int), .int .i64 (-1)] 101 (0, 0)) := by rw [hW6, hpb]; exact heap_alloc_new w6 _
        have p0 : W6.cell? ⟨pb, 0, none⟩ = _ := cell_of_row W6 pb 0 _ _ _ hb6
        have hst : ∀ q ∈ st.1, DomP q := fun q hq => by
         obtain ⟨h1, h2⟩ := HK.out.ok.2.2 q hq
         have h3 := sym_small HEV.out (sec_sym h2)
         exact ⟨by omega, by omega⟩
        have HADD := Lib.hid (add_any W6 S X' _ g E _ [] kc' (hL6.ext E6) (u, x) ⟨by show u < _; omega, HXS2.out⟩ hst HK.out.ok.1)
        rw [addS_new HXN.out] at HADD
        have HL6 := Lib.hid (hL6.ext E6)
        have HX7 := Lib.hid (HX6.out.trans E6)
        have HT7 := Lib.hid (HT6.out.trans (E6.tch _))
        have HPB := Lib.hid hpb
        have HU2 := Lib.hid (And.intro hu hsec)
        have HMM := Lib.hid hmm
        clear hhit hL6 hu hsec hmm E6 hb6 hpb hst
        unfold placeV
        go_upto_region 20 with (fail)
        rw [<- hW6, <- HPB.out]
        clear hW6
        by_cases hbig : 128 <= st.1.length
        ·rw [if_pos hbig] at hRS HADD
         have hR' : FV = (zeroB, ([], []), 10) := by rw [HRB.out, hRS]; rfl
         have HRC := Lib.hid hR'
         clear hR' hRS
         go_wp2_with fail
         refine HADD.out.mono ?_
         rintro e w7 ⟨ht7, rfl⟩
         have HX8 : Hid (Ext W1 w7) := by
          have h1 : Tch (fun _ => False) W1 W6 := HX7.out.tch _
          exact (h1.trans' ht7 fun i hi e => absurd (HL6.out.lt i e).1 (by have := HX4.out.size; omega)).ext fun _ _ h => h
         clear ht7
         go_wp2_with fail
         refine (none59_any 10 _).mono ?_
         rintro e wz ⟨ez, rfl⟩
         have hz := HX8.out.trans ez
         have hA := (hz.block _ (hltA HR1.out)).trans HR1.out
         have hB := (hz.block _ (hltA HR2.out)).trans HR2.out
         obtain ⟨⟨r0, r1, r2, r3, r4, r5, r6, r7⟩, f0, f1, f2, f3, f4, f5, f6, f7⟩ := zcells hA
         obtain ⟨s0, s1, t0, t1⟩ := zcells2 hB
         obtain ⟨hA3, hB3⟩ := zput_rows hA hB
         have HA3 := Lib.hid hA3
         have HB3 := Lib.hid hB3
         have HX3 := Lib.hid (zput_ext (HX1.out.trans hz))
         clear hz ez hA hB hA3 hB3
         go_wp2_with fail
         refine ret_bre rfl rfl rfl rfl HA3.out HB3.out rfl rfl rfl ?_
         rw [HRC.out]
         exact ⟨HX3.out, RetBR.none _ _ _⟩
        ·rw [if_neg hbig] at hRS HADD
         have HRS2 := Lib.hid hRS
         have hst1 : st.1.length = k := by
          have h1 := congrArg List.length HK.out.names
          rw [List.length_map, List.length_take, HNN.out] at h1
          omega
         have hps : L.pos (st.1 ++ [(u, x)]) (u, x) = k := by rw [L.pos_snoc (new_spot HXN.out), hst1]
         have HPS := Lib.hid hps
         clear hRS hps hst1
         go_wp2_with fail
         refine HADD.out.mono ?_
         rintro e w7 ⟨ht7, rfl, X2, kc2, hX2, hL7⟩
         simp only
         rw [HPS.out]
         have hTT := HT7.out.trans ht7
         have HX8 : Hid (Ext W1 w7) := by
          have h1 : Tch (fun _ => False) W1 W6 := HX7.out.tch _
          exact (h1.trans' ht7 fun i hi e => absurd (HL6.out.lt i e).1 (by have := HX4.out.size; omega)).ext fun _ _ h => h
         have hpos := HK.out.pos.tch hTT fun b hb => (HK.out.off b hb).1
         have hlist := HK.out.list.tch hTT fun b hb hx => by
          have h1 := (HK.out.link.lt b hx).1
          have h2 := (HO4.out.lt hb).2
          omega
         have hoff : ∀ b, u10.ownBlock = some b -> ¬ X2 b /\ ¬ S b := fun b hb => ⟨fun hx => by
          rcases hX2 b hx with h | h
          ·exact (HK.out.off b hb).1 h
          ·have h1 := (HK.out.pos.lt hb).2
           have h2 := HT7.out.size
           omega, (HK.out.off b hb).2⟩
         have HPOS := Lib.hid hpos
         have HLIST := Lib.hid hlist
         have HOFF := Lib.hid hoff
         have HL7 := Lib.hid hL7
         have hown := hpos.ext ((Ext.refl w7).alloc (.cells #[.int .i64 (k : Int)] 3))
         have hb5 : w5.heap.size <= (w7.alloc (.cells #[.int .i64 (k : Int)] 3)).heap.size := by
          have h1 := HK.out.low
          have h2 := hTT.size
          have h3 : (w7.alloc (.cells #[.int .i64 (k : Int)] 3)).heap.size = w7.heap.size + 1 := by simp
          omega
         obtain ⟨i9, hi9, hz9, hz91, hz92⟩ := info_parts info3
         have hs5 : ∀ j u, (intC (k : Int))[j]? = some u -> (w7.alloc (.cells #[.int .i64 (k : Int)] 3)).cell? ⟨w7.heap.size, j, none⟩ = some u := new_cells w7 (intC (k : Int)) 3 _ rfl
         clear hpos hlist hoff hTT hX2 hL7 ht7
         go_wp2_with (at_builtin; refine wpList_append_one rfl (.tmp 91) (.tmp 93) 30 rfl Tryz.underlying30 hi9 hz9 hz91 hz92 rfl (by decide) (by decide) rfl hown (k : Int) rfl rfl hs5 (intC_one _) (by omega) hb5 ?_; intro v8 w8 hown8 hg8 hv8)
         have hg8' : (w7.alloc (.cells #[.int .i64 (k : Int)] 3)).grownBy w8 u10.ownBlock := hg8
         have ha7 : (w7.alloc (.cells #[.int .i64 (k : Int)] 3)).heap.size = w7.heap.size + 1 := by simp
         have hT8 : Tch (fun b => u10.ownBlock = some b) w7 w8 := (((Ext.refl w7).alloc (.cells #[.int .i64 (k : Int)] 3)).tch _).trans ⟨hg8'.os, hg8'.tape, hg8'.output, hg8'.size, fun i hi hx => hg8'.block i hi fun e => hx e.symm⟩
         have HS : Hid (ShAt W1 w4.heap.size w5.heap.size g E S RS ns NB (.slice (some ⟨nb, no, none⟩) q vc) q (k + 1) (st.1 ++ [(u, x)], max st.2.1 mm, max st.2.2 0) X2 kc2 v8 w8) := {
          rest := HRS2.out
          names := by
           show (st.1 ++ [(u, x)]).map (·.2) = _
           rw [List.map_append, HK.out.names, HNM.out]
           rfl
          ok := (L.addS_ok (st := L.note st (mm, 0)) (p := (u, x)) (by rw [addS_new HXN.out, if_neg hbig]) HK.out.ok HU2.out).1
          bd := ⟨Nat.max_le.2 ⟨HK.out.bd.1, HMM.out⟩, Nat.max_le.2 ⟨HK.out.bd.2, Nat.zero_le _⟩⟩
          link := HL7.out.tch hT8 HOFF.out
          pos := by
           rw [List.range_succ, List.map_append]
           exact hown8
          off := fun b hb => by
           rcases hv8 with h | ⟨i, h, h1, _⟩
           ·exact HOFF.out b (h.symm.trans hb)
           ·rw [h] at hb
            cases hb
            exact ⟨fun hx => by have := (HL7.out.lt _ hx).2; omega, fun hs => by have := (HL7.out.out _ hs).1; omega⟩
          list := HLIST.out.tch hT8 fun b hb hx => by
           have h1 := (HO4.out.lt hb).2
           have h2 := (HK.out.pos.lt hx).1
           have h3 := HB4.out
           omega
          ext := Ext.grownL (HX8.out.alloc _) hown (Nat.le_trans HX4.out.size HB4.out) hg8
          low := Nat.le_trans hb5 hg8'.size }
         clear hg8 hg8' hT8 ha7 hown8 hv8 hown hs5 hb5
         go_roundw
         case rel => exact ⟨k + 1, _, X2, kc2, by omega, by go_num, HS.out⟩
         case measure => simp [intOf]; omega
      ·obtain rfl : k = q := by omega
       have hdr : ns.drop k = [] := List.drop_eq_nil_of_le (by rw [HNN.out]; exact Nat.le_refl _)
       have hrs := HK.out.rest
       rw [hdr] at hrs
       have hrs2 : RS = .ok st := hrs
       have hR' := HRB.out
       rw [hrs2] at hR'
       simp only at hR'
       have HRF := Lib.hid hR'
       have HFN := Lib.hid (finish_any V0 S X' _ g E st kc' HK.out.link HEV.out HK.out.ok HK.out.bd (fun l hl => by rw [HEL.out] at hl; cases hl))
       clear hdr hrs hrs2 hR'
       go_wp2_with fail
       refine HFN.out.mono ?_
       rintro e w9 ⟨ht9, vs, rs, rfl, hBV, hRV, hv6⟩
       have HX9 : Hid (Ext W1 w9) := by
        have h1 : Tch (fun _ => False) W1 V0 := HK.out.ext.tch _
        exact (h1.trans' ht9 fun i hi e => absurd (HK.out.link.lt i e).1 (by have := HX4.out.size; omega)).ext fun _ _ h => h
       have HTS := Lib.hid ht9.size
       obtain ⟨x10, n1, n2, n3⟩ := two_cells w9
       obtain ⟨n4, n5, n6, y10, _⟩ := two_stores w9 _ vs rs x10 n1 n2
       obtain ⟨W10, hW10⟩ : ∃ W10, W10 = (((w9.alloc (.cells zrow35 35)).alloc (.cells zrow38 38)).setRow w9.heap.size (Array.mk vs)).setRow (w9.heap.size + 1) (Array.mk rs) := ⟨_, rfl⟩
       rw [<- hW10] at n5 n6 y10
       have hrow := row35 hBV
       have hone := hBV.one
       have hlen := hBV.len
       have hrow2 := row38 hRV
       have hone2 := hRV.one
       have hlen2' := hRV.len
       have HBV := Lib.hid hBV
       have HRV := Lib.hid hRV
       have HV6 := Lib.hid hv6
       have H5 := Lib.hid n5
       have H6 := Lib.hid n6
       have HY := Lib.hid y10
       have HRB1 := HX9.out.trans y10
       have HXW := Lib.hid HRB1
       have HPOS := Lib.hid (HK.out.pos.tch (ht9.trans (y10.tch _)) fun b hb => (HK.out.off b hb).1)
       have HLST := Lib.hid (HK.out.list.tch (ht9.trans (y10.tch _)) fun b hb hx => by
        have h1 := (HK.out.link.lt b hx).1
        have h2 := (HO4.out.lt hb).2
        omega)
       clear ht9 hBV hRV hv6 x10 n3 n5 n6 y10 HRB1
       obtain ⟨er, her⟩ : ∃ er, er = (finV E (L.finish E st)).2.2 := ⟨_, rfl⟩
       rw [<- her]
       have HER := Lib.hid her
       clear her
       go_upto_region 28 with (first | (refine wpList_store_row rfl 35 (.tmp 16) (.tmp 99) rfl w9.heap.size (Array.mk vs) rfl rfl 35 _ n1 hrow (show 8 = vs.length from hlen.symm) hone ?_) | (refine wpList_store_row rfl 38 (.tmp 17) (.tmp 100) rfl (w9.heap.size + 1) (Array.mk rs) rfl rfl 38 _ n4 hrow2 (show 2 = rs.length from hlen2'.symm) hone2 ?_))
       rw [<- hW10]
       clear hW10 n1 n2 n4
       obtain ⟨tb, htb⟩ : ∃ tb, tb = w9.heap.size := ⟨_, rfl⟩
       have HTBL : Hid (V0.heap.size <= tb) := by
        rw [htb]
        exact HTS.out
       rw [<- htb]
       rw [<- htb] at H5 H6
       have HTB9 := Lib.hid htb
       clear htb
       cases hfin : L.finish E st with
       | error ne =>
        have hne0 := L.finish_ne hfin
        have hR' := HRF.out
        rw [hfin] at hR'
        have her := HER.out
        rw [hfin] at her
        have hen : er = ne := her
        rw [<- hen] at hne0
        have q2 : (er == 0) = false := by simpa using hne0
        have q3 : (er != 0) = true := by simp [bne, q2]
        have hRB : FV = (zeroB, ([], []), er) := by rw [hR', hen]; rfl
        have HRC := Lib.hid hRB
        clear hR' hRB hen her HER hne0 hfin
        go_wp2_with fail
        refine (none59_any er _).mono ?_
        rintro e wz ⟨ez, rfl⟩
        have hz := HXW.out.trans ez
        have hA := (hz.block _ (hltA HR1.out)).trans HR1.out
        have hB := (hz.block _ (hltA HR2.out)).trans HR2.out
        obtain ⟨⟨r0, r1, r2, r3, r4, r5, r6, r7⟩, f0, f1, f2, f3, f4, f5, f6, f7⟩ := zcells hA
        obtain ⟨s0, s1, t0, t1⟩ := zcells2 hB
        obtain ⟨hA3, hB3⟩ := zput_rows hA hB
        have HA3 := Lib.hid hA3
        have HB3 := Lib.hid hB3
        have HX3 := Lib.hid (zput_ext (HX1.out.trans hz))
        clear hz ez hA hB hA3 hB3
        go_wp2_with fail
        refine ret_bre rfl rfl rfl rfl HA3.out HB3.out rfl rfl rfl ?_
        rw [HRC.out]
        exact ⟨HX3.out, RetBR.none _ _ _⟩
       | ok sf =>
        have hR' := HRF.out
        rw [hfin] at hR'
        have her := HER.out
        rw [hfin] at her
        have her0 : er = 0 := her
        have hRB : FV = (E.bin sf.1 2 (-1) (exL E sf.1 ns), E.reading sf.2, 0) := hR'
        have HRC := Lib.hid hRB
        have hBE0 : BinV W10 (Fresh V0 w9) (E.bin sf.1 0 0 []) vs := by
         have := HBV.out
         rw [hfin] at this
         exact this.keep (fun _ h => h) fun i hi => HY.out.block i hi.2
        have hRE0 : RdV W10 (Fresh V0 w9) (E.reading sf.2) rs := by
         have := HRV.out
         rw [hfin] at this
         exact this.keep (fun _ h => h) fun i hi => HY.out.block i hi.2
        obtain ⟨hok, hpre, hsel, _⟩ := finish_ok HEV.out.units hfin HK.out.ok
        have hst1 : st.1.length = k := by
         have h1 := congrArg List.length HK.out.names
         rw [List.length_map, List.length_take, HNN.out] at h1
         omega
        have hns2 : ns.length <= sf.1.length := by
         have := hpre.length_le
         have := HNN.out
         omega
        have HOKF := Lib.hid hok
        have HNS2 := Lib.hid hns2
        obtain ⟨A1, c1, A2, c2, A3, c3, A4, c4, A5, c5, hvs, hP1, _⟩ := hBE0.form
        have hv3 : vs[3]? = some (.slice A1 (E.bin sf.1 0 0 []).2.2.2.1.length c1) := by rw [hvs]; rfl
        obtain ⟨np, hnp⟩ : ∃ np, np = (E.bin sf.1 0 0 []).2.2.2.1.length := ⟨_, rfl⟩
        rw [<- hnp] at hv3
        have hnp2 : np = sf.1.length := by rw [hnp]; exact places_len sf.1
        have hp1 : SliceAt plcR W10 (Fresh V0 w9) A1 c1 (E.places sf.1) := hP1
        have hkp : k <= np := by have := HNN.out; omega
        obtain ⟨v1, hv1⟩ : ∃ v1, v1 = (vs.set 0 (.int .i64 2)).set 1 (.int .i64 (-1)) := ⟨_, rfl⟩
        have h18 : v1.length = 8 := by rw [hv1, List.length_set, List.length_set]; exact hlen
        have h13 : v1[3]? = some (.slice A1 np c1) := by
         rw [hv1, List.getElem?_set_ne (by decide), List.getElem?_set_ne (by decide)]
         exact hv3
        have h16 : v1.set 6 (.slice none 0 0) = v1 := set_same (by
         rw [hv1, List.getElem?_set_ne (by decide), List.getElem?_set_ne (by decide)]
         exact HV6.out)
        obtain ⟨W11, hW11⟩ : ∃ W11, W11 = (W10.setCell ⟨tb, 0, none⟩ (.int .i64 2)).setCell ⟨tb, 1, none⟩ (.int .i64 (-1)) := ⟨_, rfl⟩
        have hT11 : Tch (fun i => i = tb) W10 W11 := by rw [hW11]; exact (grown_tch (grownBy_setCell W10 ⟨tb, 0, none⟩ _)).trans (grown_tch (grownBy_setCell _ ⟨tb, 1, none⟩ _))
        have hr11 : W11.heap[tb]? = some (.cells (Array.mk v1) 35 (0, 0)) := by
         rw [hW11, heap_setCell_cells (heap_setCell_cells H5.out 0 _) 1 _, hv1]
         simp
        have k0 : W10.cell? ⟨tb, 0, none⟩ = (Array.mk vs)[0]? := cell_of_row W10 tb 0 _ _ _ H5.out
        have k1 : W10.cell? ⟨tb, 1, none⟩ = (Array.mk vs)[1]? := cell_of_row W10 tb 1 _ _ _ H5.out
        have kf0 := Lib.frozen_of_heap H5.out 0
        have kf1 := Lib.frozen_of_heap H5.out 1
        obtain ⟨y0, hy0⟩ : ∃ y, (Array.mk vs)[0]? = some y := ⟨_, Array.getElem?_eq_getElem (by show 0 < vs.length; omega)⟩
        obtain ⟨y1, hy1⟩ : ∃ y, (Array.mk vs)[1]? = some y := ⟨_, Array.getElem?_eq_getElem (by show 1 < vs.length; omega)⟩
        rw [hy0] at k0
        rw [hy1] at k1
        have htl : tb < W10.heap.size := (hltA H5.out)
        obtain ⟨nb, no, nc, hva, _, hnb2, _, _, hcell⟩ := HLST.out.2.cells (by omega)
        have hva1 : VA = some ⟨nb, no, none⟩ := by cases hva; rfl
        subst hva1
        clear hva
        obtain ⟨pg, po, pc, rfl, hpg1, hpg2, hpk, hpc2, hpcell⟩ := HPOS.out.2.cells (by omega)
        have hnbt : nb < tb := by
         have h1 := (HO4.out.lt (show (Value.slice (some ⟨nb, no, none⟩) k vc).ownBlock = some nb from by simp [Value.ownBlock])).2
         have h2 := HTBL.out
         have h3 := HK.out.low
         have h4 := HB4.out
         omega
        have hpgt : pg < tb := by
         have h1 := (HK.out.pos.lt (show (Value.slice (some ⟨pg, po, none⟩) k pc).ownBlock = some pg from by simp [Value.ownBlock])).2
         have h2 := HTBL.out
         omega
        have hNC : ∀ Z, Tch (fun i => i = tb) W11 Z -> ∀ j (_ : j < k), ∃ h : j < ns.length, Z.cell? ⟨nb, no + j, none⟩ = some (.string ns[j]) := by
         intro Z hZ j hj
         have hjn : j < ns.length := by rw [HNN.out]; exact hj
         have hjb : j < NB.length := by rw [<- HQ.out]; exact hj
         have h1 := hcell j (encStr NB[j]) (by rw [List.getElem?_map, List.getElem?_eq_getElem hjb]; rfl)
         have h2 : ns[j]? = some (mkN NB[j]) := by
          rw [HNS.out]
          unfold namesE
          rw [<- HNB.out, List.getElem?_map, List.getElem?_eq_getElem hjb]
          rfl
         rw [List.getElem?_eq_getElem hjn] at h2
         refine ⟨hjn, ?_⟩
         rw [Option.some.inj h2]
         exact (hT11.trans hZ).keepc h1 (by show ¬ nb = tb; omega)
        have hPC : ∀ Z, Tch (fun i => i = tb) W11 Z -> ∀ j (_ : j < k), Z.cell? ⟨pg, po + j, none⟩ = some (.int .i64 (j : Int)) := by
         intro Z hZ j hj
         have h1 := hpcell j (.int .i64 (j : Int)) (by
          rw [flat_ints, List.getElem?_map, List.getElem?_map, List.getElem?_range hj]
          rfl)
         exact (hT11.trans hZ).keepc h1 (by show ¬ pg = tb; omega)
        have hQC : ∀ Z, Tch (fun i => i = tb) W11 Z -> ∀ j (_ : j < k), ∃ b1 o1, A1 = some ⟨b1, o1, none⟩ /\ b1 < tb /\ Z.cell? ⟨b1, o1 + j * 5 + 3, none⟩ = some (.int .i64 ((L.up (L.fin ((E.sizes sf.1).take j) 0) : Nat) : Int)) := by
         intro Z hZ j hj
         have hjl : j < sf.1.length := by omega
         have hjp : j < (E.places sf.1).length := by rw [places_len]; exact hjl
         obtain ⟨b1, o1, h1, h2, h3⟩ := plc_at hp1 hjp
         rw [places_get hjl hjp] at h3
         have h4 : b1 < tb := by rw [HTB9.out]; exact h2.2
         exact ⟨b1, o1, h1, h4, (hT11.trans hZ).keepc h3 (by show ¬ b1 = tb; omega)⟩
        have HNC := Lib.hid hNC
        have HPC := Lib.hid hPC
        have HQC := Lib.hid hQC
        have HT11 := Lib.hid hT11
        have HJ0 : Hid (ExAt W11 tb v1 (exL E sf.1 ns) 0 (.slice none 0 0) W11) := ⟨Tch.refl _ _, by rw [h16]; exact hr11, OwnL.nil _ _, Nat.lt_of_lt_of_le htl hT11.size⟩
        have HV1 := Lib.hid hv1
        have H13 := Lib.hid h13
        have HBE0 := Lib.hid hBE0
        have HRE0 := Lib.hid hRE0
        have HVS := Lib.hid hvs
        clear hR' hRB HER hok hpre hsel hst1 hns2 hP1 hv3 hnp hnp2 hp1 hv1 h13 h16 hT11 hr11 hy0 hy1 htl hcell hnb2 hpg1 hpg2 hpcell hnbt hpgt hNC hPC hQC hBE0 hRE0 hfin hvs
        have her1 := Lib.hid her0
        clear her
        subst her0
        go_upto_region 31 with (fail)
        rw [<- hW11]
        clear hW11 k0 k1 kf0 kf1
        go_wp2_with fail
        go_loopw [114] (fun i wr => ∃ (j : Nat) (vE : Value), j <= k /\ i = .int .i64 (j : Int) /\ Hid (ExAt W11 tb v1 (exL E sf.1 ns) j vE wr)) (fun i _ => k - (intOf i).toNat)
        case atStart => exact ⟨0, _, Nat.zero_le _, rfl, HJ0.out⟩
        case round =>
         obtain ⟨j, vE, hj, rfl, HJ⟩ := hrel
         obtain ⟨Z0, hZ0⟩ : ∃ Z0, Z0 = wr := ⟨_, rfl⟩
         subst hZ0
         by_cases hjk : j < k
         ·obtain ⟨hjn, hxc⟩ := HNC.out Z0 HJ.out.tch j hjk
          have hpcj := HPC.out Z0 HJ.out.tch j hjk
          obtain ⟨b1, o1, rfl, hb1, hqc⟩ := HQC.out Z0 HJ.out.tch j hjk
          have htk := exL_take (E := E) (l := sf.1) hjn HNS2.out
          obtain ⟨ua, hua⟩ : ∃ ua, ua = L.up (L.fin ((E.sizes sf.1).take j) 0) := ⟨_, rfl⟩
          obtain ⟨x, hxx⟩ : ∃ x, x = ns[j] := ⟨_, rfl⟩
          rw [<- hua] at hqc htk
          rw [<- hxx] at hxc htk
          have hrw := HJ.out.row
          have y6 : Z0.cell? ⟨tb, 6, none⟩ = some vE := by
           rw [cell_of_row Z0 tb 6 _ _ _ hrw, <- Array.getElem?_toList]
           exact List.getElem?_set_self (by omega)
          have y3 : Z0.cell? ⟨tb, 3, none⟩ = some (.slice (some ⟨b1, o1, none⟩) np c1) := by
           rw [cell_of_row Z0 tb 3 _ _ _ hrw, <- Array.getElem?_toList]
           show (v1.set 6 vE)[3]? = _
           rw [List.getElem?_set_ne (by decide)]
           exact H13.out
          have hvl := fun b hb => HJ.out.own.lt (k := b) hb
          have hlo := HJ.out.low
          have hpt : pg < tb := by
           have h1 := (HK.out.pos.lt (show (Value.slice (some ⟨pg, po, none⟩) k pc).ownBlock = some pg from by simp [Value.ownBlock])).2
           have h2 := HTBL.out
           omega
          have n1 : ¬ vE.ownBlock = some tb := fun e => by have := (hvl _ e).1; omega
          have n2 : ¬ vE.ownBlock = some pg := fun e => by have := (hvl _ e).1; omega
          have n3 : ¬ vE.ownBlock = some b1 := fun e => by have := (hvl _ e).1; omega
          obtain ⟨Φ, hΦ⟩ : ∃ Φ : World -> Prop, ∀ W, Φ W ↔ Tch (fun i => vE.ownBlock = some i) Z0 W := ⟨_, fun _ => Iff.rfl⟩
          have h0 : Φ Z0.drew := (hΦ _).2 (((Ext.refl Z0).drew).tch _)
          have fx0 : ∀ z : Lat Φ, z.w'.cell? ⟨tb, 6, none⟩ = _ := fun z => ((hΦ _).1 z.h).keepc y6 n1
          have fx1 : ∀ z : Lat Φ, z.w'.cell? ⟨tb, 3, none⟩ = _ := fun z => ((hΦ _).1 z.h).keepc y3 n1
          have fx2 : ∀ z : Lat Φ, z.w'.cell? ⟨pg, po + j, none⟩ = _ := fun z => ((hΦ _).1 z.h).keepc hpcj n2
          have fx3 : ∀ z : Lat Φ, z.w'.cell? ⟨b1, o1 + j * 5 + 3, none⟩ = _ := fun z => ((hΦ _).1 z.h).keepc hqc n3
          have hne := Lat.some h0
          have hjnp : j < np := by omega
          have HTK := Lib.hid htk
          have hown3 := HJ.out.own
          clear htk hua hxx hrw hjn hvl hqc y3 y6 hpcj hpt n1 n2 n3
          go_upto_region 34 with (fail)
          refine wp_region_tail 16 [13, 14] Φ h0 (by kernel_rfl) (by kernel_rfl) (by kernel_rfl) ?_
          iterate 13 (refine lex_pure rfl rfl rfl ?_; intro K hK; go_big_quiet_op; go_big_quiet_on)
          refine lex_eff rfl ?_
          go_wp2_with fail
          obtain ⟨el, hel⟩ : ∃ el : L.Expd, el = (x, (ua : Int)) := ⟨_, rfl⟩
          obtain ⟨Z4, hZ4⟩ : ∃ Z4, Z4 = (Z0.alloc (.cells #[.string x, .int .i64 (ua : Int)] 74)).drew := ⟨_, rfl⟩
          have E4 : Ext Z0 Z4 := by rw [hZ4]; exact ((Ext.refl Z0).alloc _).drew
          have hs4 : ∀ j v, (expC el)[j]? = some v -> Z4.cell? ⟨Z0.heap.size, j, none⟩ = some v := by rw [hZ4, hel]; exact new_cells Z0 (expC (x, (ua : Int))) 74 _ rfl
          rw [<- hZ4]
          have hP4 : Φ Z4 := (hΦ _).2 (E4.tch _)
          have hown4 := hown3.ext E4
          have hbase4 : W11.heap.size <= Z4.heap.size := Nat.le_trans HJ.out.tch.size E4.size
          have HEL2 := Lib.hid hel
          obtain ⟨i9, hi9, hz9, hz91, hz92⟩ := info_parts info74
          clear hZ4 hel
          refine ⟨⟨⟨Z4, hP4⟩, rfl⟩, ?_⟩
          refine lex_eff rfl ?_
          go_wp2_with (at_builtin; refine wpList_append_one rfl (.tmp 120) (.tmp 132) 32 rfl Tryz.underlying32 hi9 hz9 hz91 hz92 rfl (by decide) (by decide) rfl hown4 el rfl rfl hs4 (expC_one el) (by omega) hbase4 ?_; intro v5 z5 hown5 hg5 hv5)
          obtain ⟨A6, c6, rfl⟩ := hown5.form
          have hg5' : Z4.grownBy z5 vE.ownBlock := hg5
          have hT5 : Tch (fun i => vE.ownBlock = some i) Z0 z5 := (E4.tch _).trans ⟨hg5'.os, hg5'.tape, hg5'.output, hg5'.size, fun i hi hx => hg5'.block i hi fun e => hx e.symm⟩
          refine ⟨⟨⟨z5, (hΦ _).2 hT5⟩, rfl⟩, ?_⟩
          refine lex_pure rfl rfl rfl ?_; intro K hK; go_big_quiet_op; go_big_quiet_on
          refine lex_nil ?_
          show wpList _ _ _ (_ :: []) _ _
          have hown6 : OwnL expC 74 2 z5 W11.heap.size (.slice A6 (j + 1) c6) (j + 1) ((exL E sf.1 ns).take (j + 1)) := by
           rw [HTK.out, <- HEL2.out]
           exact hown5
          obtain ⟨hJ6, x6, xf⟩ := HJ.out.pushed h18 hown6 hT5
          have HJ6 := Lib.hid hJ6
          clear fx0 fx1 fx2 fx3 hne h0 hT5 hP4 hs4 hown3 hown4 hown5 hown6 hg5 hg5' hv5 E4 hJ6 hbase4
          go_wp2_with fail
          go_roundw
          case rel => exact ⟨j + 1, _, by omega, by go_num, HJ6.out⟩
          case measure => simp [intOf]; omega
         ·obtain rfl : j = k := by omega
          have hxl : (exL E sf.1 ns).length = j := by rw [exL_len HNS2.out]; exact HNN.out
          have htk : (exL E sf.1 ns).take j = exL E sf.1 ns := List.take_of_length_le (by omega)
          have hown := HJ.out.own
          rw [htk] at hown
          obtain ⟨A6, c6, rfl, s6⟩ := OwnL.slice hown (fun B => exp_is HEV.out HOKF.out HNS2.out HXS.out)
          obtain ⟨v2, hv2⟩ : ∃ v2, v2 = v1.set 6 (.slice A6 j c6) := ⟨_, rfl⟩
          have hrw := HJ.out.row
          rw [<- hv2] at hrw
          have hTT := HT11.out.trans HJ.out.tch
          have hfr : ∀ b, Fresh V0 w9 b -> b < W10.heap.size /\ b ≠ tb := fun b hb => by
           have h1 := hb.2
           have h2 := HTB9.out
           have h3 := HY.out.size
           exact ⟨by omega, by omega⟩
          have hbv2 : BinV Z0 (fun b => Fresh V0 w9 b ∨ (W11.heap.size <= b /\ b < Z0.heap.size)) (E.bin sf.1 2 (-1) (exL E sf.1 ns)) v2 := by
           rw [hv2, HV1.out, <- hxl]
           rw [hxl]
           have h1 := HBE0.out.share (W := Z0) (B' := fun b => Fresh V0 w9 b ∨ (W11.heap.size <= b /\ b < Z0.heap.size)) (fun _ h => .inl h) (fun b hb => hTT.block b (hfr b hb).1 (hfr b hb).2) (s6.keep (w' := Z0) (B' := fun b => Fresh V0 w9 b ∨ (W11.heap.size <= b /\ b < Z0.heap.size)) (fun b hb => .inr ⟨hb.2.1, hb.2.2⟩) fun _ _ => rfl)
           rw [hxl] at h1
           exact h1
          have hrv2 : RdV Z0 (Fresh V0 w9) (E.reading sf.2) rs := HRE0.out.keep (fun _ h => h) fun b hb => hTT.block b (hfr b hb).1 (hfr b hb).2
          have hlow : w.heap.size + 2 <= V0.heap.size := by
           have h1 := HK.out.ext.size
           have h2 := HS1.out
           omega
          have htbl : V0.heap.size <= tb := HTBL.out
          have hz5 : Z0.heap[tb + 1]? = some (.cells (Array.mk rs) 38 (0, 0)) := (hTT.block _ (hltA H6.out) (by omega)).trans H6.out
          have hz1 := (HXW.out.block _ (hltA HR1.out)).trans HR1.out
          have hz2 := (HXW.out.block _ (hltA HR2.out)).trans HR2.out
          have hA8 := (hTT.block _ (hltA hz1) (by omega)).trans hz1
          have hB8 := (hTT.block _ (hltA hz2) (by omega)).trans hz2
          have hxe : Ext w Z0 := by
           have h1 : Tch (fun _ => False) w W10 := (HX1.out.trans HXW.out).tch _
           exact (h1.trans' hTT fun i hi e => absurd hi (by omega)).ext fun _ _ h => h
          obtain ⟨Φ, hΦ⟩ : ∃ Φ : World -> Prop, ∀ W, Φ W ↔ Tch (fun i => i = w.heap.size ∨ i = w.heap.size + 1) Z0 W := ⟨_, fun _ => Iff.rfl⟩
          have h0 : Φ Z0.drew := (hΦ _).2 (((Ext.refl Z0).drew).tch _)
          have hfx : ∀ w', (∃ x : Lat Φ, w' = x.w') -> w'.heap[tb]? = some (.cells (Array.mk v2) 35 (0, 0)) := by
           rintro w' ⟨z, rfl⟩
           exact (((hΦ _).1 z.h).block _ (hltA hrw) (by omega)).trans hrw
          have hfy : ∀ w', (∃ x : Lat Φ, w' = x.w') -> w'.heap[tb + 1]? = some (.cells (Array.mk rs) 38 (0, 0)) := by
           rintro w' ⟨z, rfl⟩
           exact (((hΦ _).1 z.h).block _ (hltA hz5) (by omega)).trans hz5
          have hne := Lat.some h0
          have HFX := Lib.hid hfx
          have HFY := Lib.hid hfy
          have HPH := Lib.hid hΦ
          have hrow9 := row35 hbv2
          have hone9 := hbv2.one
          have hlen9 := hbv2.len
          have HBV2 := Lib.hid hbv2
          have HRV2 := Lib.hid hrv2
          have HXE := Lib.hid hxe
          have HFR := Lib.hid hfr
          have HSZ : Hid (tb < Z0.heap.size /\ V0.heap.size <= w9.heap.size /\ w9.heap.size <= Z0.heap.size /\ V0.heap.size <= W11.heap.size) := by
           have h1 := (hltA hrw)
           have h2 := HTS.out
           have h3 := HTB9.out
           have h4 := HT11.out.size
           have h5 := HY.out.size
           exact ⟨h1, h2, by omega, by omega⟩
          clear hfx hfy hΦ hbv2 hrv2 hxe hfr hz1 hz2 hz5 hrw hTT s6 hown htk hxl hv2
          go_upto_region 36 with (fail)
          refine wp_region_tail 3 [2] Φ h0 (by kernel_rfl) (by kernel_rfl) (by kernel_rfl) ?_
          simp only [List.take_succ_cons, List.take_zero, List.drop_succ_cons, List.drop_zero]
          refine lex_pure rfl rfl rfl ?_
          intro K hK
          refine quiet_load_row 35 _ rfl tb rfl 35 (Array.mk v2) (0, 0) _ HFX.out Tryz.underlying35 rfl hrow9 ?_
          go_simp
          go_big_quiet_on
          refine lex_pure rfl rfl rfl ?_
          intro K hK
          refine quiet_load_row 38 _ rfl (tb + 1) rfl 38 (Array.mk rs) (0, 0) _ HFY.out Tryz.underlying38 rfl hrow2 ?_
          go_simp
          go_big_quiet_on
          refine lex_eff rfl ?_
          go_wp2_with (refine wpList_store_row rfl 35 (.tmp 2) (.tmp 136) rfl w.heap.size (Array.mk v2) rfl rfl 35 _ hA8 hrow9 (show 8 = v2.length from hlen9.symm) hone9 ?_)
          obtain ⟨s1, s2, s3, s4, s5⟩ := two_stores w Z0.drew v2 rs (HXE.out.drew) hA8 hB8
          have hT6 : Tch (fun i => i = w.heap.size ∨ i = w.heap.size + 1) Z0 (Z0.drew.setRow w.heap.size (Array.mk v2)) := (((Ext.refl Z0).drew).tch _).trans ((tch_setRow _ _ _).mono fun _ _ h => .inl h)
          refine ⟨⟨⟨_, (HPH.out _).2 hT6⟩, rfl⟩, ?_⟩
          refine lex_nil ?_
          show wpList _ _ _ (_ :: _ :: []) _ _
          go_wp2_with (refine wpList_store_row rfl 38 (.tmp 3) (.tmp 137) rfl (w.heap.size + 1) (Array.mk rs) rfl rfl 38 _ s1 hrow2 (show 2 = rs.length from hlen2'.symm) hone2 ?_)
          refine ret_bre rfl rfl rfl rfl s2 s3 hlen9 hlen2' rfl ?_
          rw [HRC.out]
          have hdr : Z0.drew.heap.size = Z0.heap.size := rfl
          obtain ⟨z1, z2, z3, z4⟩ := HSZ.out
          refine ⟨s4, _, _, rfl, ?_, ?_⟩
          ·refine HBV2.out.keep (fun i hi => ?_) fun i hi => ?_
           ·have h3 := s5.size
            rcases hi with hi | hi
            ·have h1 := hi.1
             have h2 := hi.2
             exact ⟨by omega, by omega⟩
            ·exact ⟨by omega, by omega⟩
           ·rcases hi with hi | hi
            ·have h1 := hi.1
             have h2 := hi.2
             exact (s5.block i (by omega) (by omega)).trans rfl
            ·exact (s5.block i (by omega) (by omega)).trans rfl
          ·refine HRV2.out.keep (fun i hi => ?_) fun i hi => ?_
           ·have h1 := hi.1
            have h2 := hi.2
            have h3 := s5.size
            exact ⟨by omega, by omega⟩
           ·have h1 := hi.1
            have h2 := hi.2
            exact (s5.block i (by omega) (by omega)).trans rfl
end Go.Proofs.YtfbhchpbflaphaaGreatDoor
