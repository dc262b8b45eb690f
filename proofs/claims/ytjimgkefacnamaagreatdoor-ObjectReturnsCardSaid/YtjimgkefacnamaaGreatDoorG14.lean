/- The texts Ub Uc Sm Fw Xa Xb of the seat, joined. -/
import Derived.Test.YtjimgkefacnamaaGreatDoorG13
/- object.Unpack. -/
namespace Go.Proofs.YtjimgkefacnamaaGreatDoor
open Go.RowKit Go.Maps Go.ChangeMaps

set_option maxRecDepth 100000 in
set_option maxHeartbeats 8000000 in
theorem Unpack_any (data : ByteArray) (w : World) (hds : data.size ≤ 9000000000000000000) (hg : Gl w) :
    Calls Tryz.prog 25 #[.string data] w (RetMems w (C.unpB okN okP data.data.toList)) := by
  have hdl : data.data.toList.length = data.size := by simp
  obtain ⟨R, hR⟩ : ∃ R, R = C.unpB okN okP data.data.toList := ⟨_, rfl⟩
  rw [← hR]
  have HDL := Lib.hid hdl
  have HG := Lib.hid hg
  have FLong := Lib.hid (fun h => hR.trans (unp_long h))
  have FHead := Lib.hid (fun h => hR.trans (unp_head h))
  have FNone := Lib.hid (fun h => hR.trans (unp_none h))
  have FBad := Lib.hid (fun st ms h he => hR.trans (unp_bad (st := st) (ms := ms) h he))
  have FGood := Lib.hid (fun st ms hl h he hc => hR.trans (unp_good (st := st) (ms := ms) hl h he hc))
  have HARC := Lib.hid (fun hw k hk => @arc_eq data.data.toList hw k hk)
  have HNR := Lib.hid (NewReader_any data w hds)
  obtain ⟨P, hP⟩ : ∃ P, P = C.pArc okN data.data.toList := ⟨_, rfl⟩
  rw [← hP] at FNone FBad FGood HARC
  clear hdl hg hR hP
  go_enter Tryz.func25, Tryz.ntmps25
  go_wp2_with fail
  refine HNR.out.mono ?_
  rintro e w1 ⟨rfl, h1, d1⟩
  obtain ⟨rb, hrb⟩ : ∃ rb, rb = w.heap.size := ⟨_, rfl⟩
  rw [← hrb] at h1 ⊢
  have hlt1 := h1.lt
  have H1 := Lib.hid h1
  have HX1 := Lib.hid d1
  have hrw : w.heap.size ≤ rb := by omega
  clear h1 d1 hrb HNR
  rcases Nat.lt_or_ge 65536 data.size with hbig | hbig
  · have HR := Lib.hid (FLong.out (by have := HDL.out; omega))
    go_wp2_with fail
    go_ret2
    exact retMems_none HR.out (HX1.out.alloc _)
  obtain ⟨sb, hsb⟩ : ∃ sb, sb = w1.heap.size := ⟨_, rfl⟩
  obtain ⟨w2, hw2⟩ : ∃ w2, w2 = w1.alloc (.cells #[.pointer (some ⟨rb, 0, none⟩)] 117) := ⟨_, rfl⟩
  have E2 : Ext w1 w2 := by rw [hw2]; exact (Ext.refl w1).alloc _
  have hd2 : Ufx w rb sb (sb + 1) (some data.data.toList) w2 :=
    ⟨H1.out.ext E2, by rw [hw2, hsb]; exact heap_alloc_new w1 _, HX1.out.trans E2, ⟨hrw, by omega, Nat.lt_succ_self _⟩, by rw [hw2, hsb]; simp⟩
  have HD2 := Lib.hid hd2
  have HHD : Hid (Calls Tryz.prog 56 #[.agg #[.pointer (some ⟨rb, 0, none⟩)], .string ⟨#[97, 114, 99, 104, 105, 118, 101]⟩] w2 fun e w' => e = .returned (.bool (decide ((nT 7 (some data.data.toList)).1 = C.wArchive))) ∧ RdT 152 w' rb (nT 7 (some data.data.toList)).2 ∧ w2.grownBy w' (some rb)) :=
    head_rd C.wArchive (by decide) (some data.data.toList) rb w2 HD2.out.1
  have HSB := Lib.hid hsb
  have HW2 := Lib.hid hw2
  clear E2 hlt1 hsb hw2 hd2
  go_wp2_with fail
  rw [← HW2.out, ← HSB.out]
  refine HHD.out.mono ?_
  rintro e w3 ⟨rfl, h3, g3⟩
  have HD3 := Lib.hid (HD2.out.reader h3 g3)
  clear h3 g3
  by_cases hw : ¬ (nT 7 (some data.data.toList)).1 = C.wArchive
  · have HR := Lib.hid (FHead.out hw)
    rw [decide_eq_false hw]
    clear hw
    go_wp2_with fail
    go_ret2
    exact retMems_none HR.out HD3.out.2.2.1
  have hw' := Classical.not_not.1 hw
  rw [decide_eq_true hw']
  have hp3 := HD3.out.ptr
  have HARC2 := Lib.hid (HARC.out hw')
  clear hw hw' HHD HD2 H1 HX1 HARC
  obtain ⟨st0, hst0⟩ : ∃ x, x = (nT 7 (some data.data.toList)).2 := ⟨_, rfl⟩
  rw [← hst0] at HD3 HARC2
  clear hst0
  go_wp2_with fail
  refine (Number_rd 0 64 st0 rb w3 HD3.out.1).mono ?_
  rintro e w5 ⟨rfl, h5, g5⟩
  have hn0 := nN_range 0 64 (by decide) (by decide) st0
  obtain ⟨N0, hN0⟩ : ∃ N0 : Nat, (nN 0 64 st0).1 = (N0 : Int) := ⟨(nN 0 64 st0).1.toNat, by omega⟩
  have hd5 := HD3.out.reader h5 g5
  have hX := HARC2.out N0 hN0
  rw [hN0] at hn0 ⊢
  obtain ⟨st1, hst1⟩ : ∃ x, x = (nN 0 64 st0).2 := ⟨_, rfl⟩
  rw [← hst1] at hd5 hX
  have hN8 : N0 ≤ 64 := by omega
  have HST := Lib.hid (show Ufx w rb sb (sb + 1) st1 w5 ∧ OwnF memR w5 (sb + 1) 52 (.slice none 0 0) 0 [] ∧ pMore (C.pMem okN) N0 st1 [] = P ∧ MemSizes [] from ⟨hd5, OwnF.nil _ _ _ _, hX, fun _ h => by cases h⟩)
  clear h5 g5 hd5 hX hN0 hn0 hst1 HD3 HARC2 hp3 HW2 HSB
  go_upto_block 0 with fail
  go_cut [5] (fun v wx => ∃ (n : Nat) (A : Option Addr) (c : Nat) (st : Option C.Bs) (ms : List C.Mem), v = .slice A n c ∧ n ≤ 64 ∧ Hid (Ufx w rb sb (sb + 1) st wx ∧ OwnF memR wx (sb + 1) 52 (.slice A n c) n ms ∧ st.map (fun q => (ms, q)) = P ∧ MemSizes ms))
  case first =>
    go_wp2_with fail
    go_loopw [5, 6] (fun v nv wr => ∃ (k n : Nat) (A : Option Addr) (c : Nat) (st : Option C.Bs) (ms : List C.Mem), v = .slice A n c ∧ nv = .int .i64 k ∧ n + k ≤ 64 ∧ Hid (Ufx w rb sb (sb + 1) st wr ∧ OwnF memR wr (sb + 1) 52 (.slice A n c) n ms ∧ pMore (C.pMem okN) k st ms = P ∧ MemSizes ms)) (fun _ nv _ => (intOf nv).toNat)
    case atStart => exact ⟨N0, 0, none, 0, st1, [], rfl, rfl, by omega, HST⟩
    case round =>
      clear HST hN8
      obtain ⟨k, n, A, c, st, ms, rfl, rfl, hnk, HK⟩ := hrel
      have hp := HK.out.1.ptr
      by_cases hk0 : k = 0
      · subst hk0
        go_wp2_with fail
        go_meet
        exact ⟨n, A, c, st, ms, rfl, by omega, HK.out.1, HK.out.2.1, by rw [← HK.out.2.2.1]; exact (pMore_end (.inl rfl)).symm, HK.out.2.2.2⟩
      · obtain ⟨j, rfl⟩ : ∃ j, k = j + 1 := ⟨k - 1, by omega⟩
        clear hk0
        go_wp2_with fail
        refine (Err_rd st rb wr HK.out.1.1).mono ?_
        rintro e w6 ⟨⟨er, rfl, her⟩, rfl⟩
        cases st with
        | none =>
          have hne : (er == 0) = false := by
            rcases her with ⟨_, h⟩ | ⟨h, _⟩
            · cases h
            · simpa using h
          clear her
          go_wp2_with fail
          go_meet
          exact ⟨n, A, c, none, ms, rfl, by omega, HK.out.1, HK.out.2.1, by rw [← HK.out.2.2.1]; rfl, HK.out.2.2.2⟩
        | some l =>
          have he0 : er = 0 := by
            rcases her with ⟨h, _⟩ | ⟨_, h⟩
            · exact h
            · cases h
          subst he0
          clear her
          go_wp2_with fail
          have HF0 := Lib.hid (HK.out.2.1.ext (Ext.refl wr).drew)
          obtain ⟨i1, hi1, hz10, hz11, hz12⟩ := info_parts mem_info
          obtain ⟨Φ, hΦ⟩ : ∃ Φ : World → Prop, ∀ x, Φ x ↔ x.cell? ⟨sb, 0, none⟩ = some (.pointer (some ⟨rb, 0, none⟩)) := ⟨_, fun _ => Iff.rfl⟩
          have h0 : Φ wr.drew := (hΦ _).2 hp
          have fx1 : ∀ x : Lat Φ, x.w'.cell? ⟨sb, 0, none⟩ = some (.pointer (some ⟨rb, 0, none⟩)) := fun x => (hΦ _).1 x.h
          have hne := Lat.some h0
          have HΦ := Lib.hid hΦ
          have HD0 := Lib.hid (HK.out.1.ext (Ext.refl wr).drew)
          have HP := Lib.hid HK.out.2.2.1
          have HSH := Lib.hid HK.out.2.2.2
          have HSY := Lib.hid (fun o h => @mem_steps (some l) o h)
          have HSN := Lib.hid (mem_no (some l))
          have N1 := Lib.hid (fun W h => Text_at 128 128 rfl (by decide) (some l) rb W h)
          have hl1 := nT_len 128 (some l)
          have hs128 : (mkB (nT 128 (some l)).1).size ≤ 128 := by rw [mkB_size]; exact hl1
          unfold RetT at N1
          obtain ⟨sy, hsy⟩ : ∃ x, x = mkB (nT 128 (some l)).1 := ⟨_, rfl⟩
          obtain ⟨s1, hs1⟩ : ∃ x, x = (nT 128 (some l)).2 := ⟨_, rfl⟩
          rw [← hsy] at N1 hs128 HSY
          rw [← hs1] at N1 HSY HSN
          have N2 := Lib.hid (fun W h => Text_at 65536 65536 rfl (by decide) s1 rb W h)
          have hl2 := nT_len 65536 s1
          have hb2 : (mkB (nT 65536 s1).1).size ≤ 65536 := by rw [mkB_size]; exact hl2
          have hbd : (mkB (nT 65536 s1).1).data.toList = (nT 65536 s1).1 := mkB_data _
          unfold RetT at N2
          obtain ⟨bd, hbd1⟩ : ∃ x, x = mkB (nT 65536 s1).1 := ⟨_, rfl⟩
          obtain ⟨s2, hs2⟩ : ∃ x, x = (nT 65536 s1).2 := ⟨_, rfl⟩
          rw [← hbd1] at N2 hb2 hbd
          rw [← hbd] at HSY HSN
          rw [← hs2] at N2 HSY
          have HDE := Lib.hid (fun W (h : Ext w W) => Decode_any bd W (by omega) (HG.out.ext h))
          have HSZ := Lib.hid (fun o (ho : C.decB okN bd.data.toList = some o) => mem_sizes_push HK.out.2.2.2 hs128 ho)
          obtain ⟨D, hD⟩ : ∃ D, D = C.decB okN bd.data.toList := ⟨_, rfl⟩
          rw [← hD] at HSY HSN HDE HSZ
          have HNX := Lib.hid (fun o h => (pMore_step (C.pMem okN) j (some l) s2 ms _ (HSY.out o h)).trans HP.out)
          have HNO := Lib.hid (fun h => HP.out.symm.trans (pMore_stop (n := j) (acc := ms) (HSN.out h)))
          clear hΦ HK hl1 hl2 hsy hs1 hs2 hbd hbd1 hD hp
          refine wp_region_lat [2, 5] Φ h0 (by kernel_rfl) (by kernel_rfl) (by kernel_rfl) ?_
          iterate 2 (refine lex_pure rfl rfl rfl ?_; intro K hK; go_big_quiet_op; go_big_quiet_on)
          refine lex_eff rfl ?_
          go_wp2_with fail
          refine (N1.out _ HD0.out.1).mono ?_
          rintro e w7 ⟨rfl, h7, g7⟩
          have HD7 := Lib.hid (HD0.out.reader h7 g7)
          have HF7 := Lib.hid (HF0.out.grownLow g7 (by have := HD0.out.2.2.2.1; omega))
          clear h7 g7
          go_wp2_with fail
          refine ⟨⟨⟨w7, (HΦ.out _).2 HD7.out.ptr⟩, rfl⟩, ?_⟩
          iterate 2 (refine lex_pure rfl rfl rfl ?_; intro K hK; go_big_quiet_op; go_big_quiet_on)
          refine lex_eff rfl ?_
          go_wp2_with fail
          refine (N2.out _ HD7.out.1).mono ?_
          rintro e w8 ⟨rfl, h8, g8⟩
          have HD8 := Lib.hid (HD7.out.reader h8 g8)
          have HF8 := Lib.hid (HF7.out.grownLow g8 (by have := HD0.out.2.2.2.1; omega))
          clear h8 g8
          go_wp2_with fail
          refine ⟨⟨⟨w8, (HΦ.out _).2 HD8.out.ptr⟩, rfl⟩, ?_⟩
          repeat (refine lex_pure rfl rfl rfl ?_; intro K hK; go_big_quiet_op; go_big_quiet_on)
          refine lex_nil ?_
          clear fx1 hne h0
          go_wp2_with fail
          refine (HDE.out _ HD8.out.2.2.1).mono ?_
          rintro e w9 ⟨d9, hret⟩
          have HE9 := Lib.hid d9
          clear d9 HDE
          cases D with
          | none =>
            have HR := Lib.hid (FNone.out (HNO.out rfl))
            simp only at hret
            obtain rfl := hret
            go_wp2_with fail
            go_ret2
            exact retMems_none HR.out ((HD8.out.2.2.1.trans HE9.out).alloc _)
          | some o =>
            obtain ⟨SA, sn, sc, SB, sm, sd, rfl, hsn, hsm, hSA, hSB⟩ := hret
            have HSN1 := Lib.hid hsn
            have HSM1 := Lib.hid hsm
            have HSA := Lib.hid hSA
            have HSB2 := Lib.hid hSB
            have HNX2 := Lib.hid (HNX.out o rfl)
            have HSZ2 := Lib.hid (HSZ.out o rfl)
            clear hsn hsm hSA hSB HNX HNO HSZ HSY HSN
            have E10 : Ext w9 ((w9.alloc (.cells #[.slice SA sn sc, .slice SB sm sd] 25)).alloc (.cells #[.string sy, .slice SA sn sc, .slice SB sm sd] 52)) := ((Ext.refl w9).alloc _).alloc _
            have HE10 := Lib.hid E10
            obtain ⟨hnn, xs, hoa, hfl⟩ := (HF8.out.ext HE9.out)
            have HNN := Lib.hid hnn
            have HFL := Lib.hid hfl
            have HOA := Lib.hid hoa
            have hold := own_old (HF8.out.2.choose_spec.1)
            have HEL := Lib.hid (memR_is (s := sy) (show sy.size ≤ 9223372036854775807 by omega) HSN1.out (HSA.out.newBl (base := sb + 1) (v := .slice A n c) HD8.out.2.2.2.2 hold HE10.out) HSM1.out (HSB2.out.newBl (base := sb + 1) (v := .slice A n c) HD8.out.2.2.2.2 hold HE10.out))
            have HD9 := Lib.hid (HD8.out.ext HE9.out)
            clear hnn hfl hoa hold E10
            go_wp2_with (at_builtin; (refine wpList_append_ownAt _ rfl (.tmp 48) (.tmp 52) 43 rfl (sb + 1) 52 i1 (.agg #[.string ⟨#[]⟩, .slice none 0 0, .slice none 0 0]) 3 64 Tryz.underlying43 hi1 hz10 hz11 hz12 rfl (by decide) _ _ _ rfl (HOA.out.ext HE10.out) ⟨w9.heap.size + 1, 0, none⟩ 1 1 [.string sy, .slice SA sn sc, .slice SB sm sd] rfl rfl (cells_new_list (w9.alloc (.cells #[.slice SA sn sc, .slice SB sm sd] 25)) [.string sy, .slice SA sn sc, .slice SB sm sd] 52 _ (by simp)) (by intro u hu; simp at hu; rcases hu with rfl | rfl | rfl <;> rfl) (by unfold maxLen; omega) (by omega) (by have := HE10.out.size; have := HD9.out.2.2.2.2; omega) (by decide) ?_); intro v' w10 hown' hgrow _ hloc; have hpu := ufx_push (a := ((sy, o) : C.Mem)) HD9.out HNN.out HOA.out HFL.out HE10.out HEL.out hown' hgrow hloc; obtain ⟨A3, c3, rfl⟩ := own_form2 hown'; have HPD := Lib.hid hpu.1; have HPF := Lib.hid hpu.2; clear hown' hgrow hloc hpu)
            exact ⟨⟨j, n + 1, A3, c3, s2, ms ++ [(sy, o)], rfl, rfl, by omega, HPD.out, HPF.out, HNX2.out, HSZ2.out⟩, by simp [intOf]⟩
  case rest =>
    clear HST hN8
    obtain ⟨n, A, c, st, ms, rfl, hn, HK⟩ := hcut
    have hp := HK.out.1.ptr
    go_wp2_with fail
    refine (Close_rd st rb _ HK.out.1.1).mono ?_
    rintro e w8 ⟨⟨er, rfl, her⟩, rfl⟩
    by_cases hend : rdEnd st = true
    · have he0 : er = 0 := by
        rcases her with ⟨h, _⟩ | ⟨_, h⟩
        · exact h
        · rw [hend] at h; cases h
      subst he0
      clear her
      obtain ⟨A', c', hv, hsl⟩ := HK.out.2.1.slice
      cases hv
      have HMB := Lib.hid (members_any ms A c n wc HK.out.2.1.1 (hsl.sub fun k hk => hk.2) HK.out.2.2.2 (by omega) (HG.out.ext HK.out.1.2.2.1))
      have HSL := Lib.hid hsl
      by_cases hck : C.memsB okN okP ms = true
      · have HR := Lib.hid (FGood.out st ms (by have := HDL.out; omega) HK.out.2.2.1 hend hck)
        rw [hck] at HMB
        clear hck hsl hend
        go_wp2_with fail
        refine HMB.out.mono ?_
        rintro e w9 ⟨rfl, d9⟩
        go_wp2_with fail
        go_ret2
        exact retMems_some HR.out (HK.out.1.2.2.1.trans d9) HK.out.2.1.1 (by have := HK.out.1.2.2.2.1; omega) (((HSL.out.rangeExt d9 (Nat.le_refl _))).sub fun k hk => ⟨hk.1, Nat.lt_of_lt_of_le hk.2 d9.size⟩)
      · have hck' : C.memsB okN okP ms = false := by simpa using hck
        have HR := Lib.hid (FBad.out st ms HK.out.2.2.1 (.inr hck'))
        rw [hck'] at HMB
        clear hck hck' hsl hend
        go_wp2_with fail
        refine HMB.out.mono ?_
        rintro e w9 ⟨rfl, d9⟩
        go_wp2_with fail
        go_ret2
        exact retMems_none HR.out (HK.out.1.2.2.1.trans d9)
    · have hend' : rdEnd st = false := by simpa using hend
      have HR := Lib.hid (FBad.out st ms HK.out.2.2.1 (.inl hend'))
      have he1 : (er != 0) = true := by
        rcases her with ⟨_, h⟩ | ⟨h, _⟩
        · rw [hend'] at h; cases h
        · simpa using h
      clear her hend' hend
      go_wp2_with fail
      go_ret2
      exact retMems_none HR.out HK.out.1.2.2.1

end Go.Proofs.YtjimgkefacnamaaGreatDoor

/- The reference's Unpack. -/
namespace Go.Proofs.YtjimgkefacnamaaGreatDoor
open Go.RowKit Go.Maps Go.ChangeMaps

/-- The reader of the reference's Unpack. -/
def Vfx (w : World) (base : Nat) (st : Option C.Bs) (wr : World) : Prop := RdT 122 wr w.heap.size st ∧ Ext w wr ∧ w.heap.size < base ∧ base ≤ wr.heap.size
section
variable {w : World} {base : Nat} {st : Option C.Bs} {wr : World}
theorem Vfx.keepBut (h : Vfx w base st wr) {w' : World} {row : Option Nat} (g : wr.grownBy w' row) (hr : ∀ k, row = some k → base ≤ k) : Vfx w base st w' := by
  obtain ⟨h1, h5, b1, h7⟩ := h
  exact ⟨h1.keep (g.block _ h1.lt fun e => by have := hr _ e.symm; omega), Below.grown h5 g h5.size fun k hk => by have := hr k hk; omega, b1, Nat.le_trans h7 g.size⟩
theorem Vfx.ext (h : Vfx w base st wr) {w' : World} (d : Ext wr w') : Vfx w base st w' := h.keepBut (row := none) ⟨d.os, d.tape, d.output, d.size, fun k hk _ => d.block k hk⟩ fun _ e => by cases e
theorem Vfx.reader (h : Vfx w base st wr) {w' : World} {st' : Option C.Bs} (hr : RdT 122 w' w.heap.size st') (g : wr.grownBy w' (some w.heap.size)) : Vfx w base st' w' := by
  obtain ⟨h1, h5, b1, h7⟩ := h
  exact ⟨hr, h5.own (Nat.le_refl _) g, b1, Nat.le_trans h7 g.size⟩
end
theorem vfx_push {w : World} {base n : Nat} {vv v' : Value} {st : Option C.Bs} {W W1 w5 : World} {l : List C.Mem} {xs us : List Value} {a : C.Mem} (h : Vfx w base st W) (hn : n = l.length)
    (hoa : OwnAt W base 52 memR.size vv n xs) (hfl : Flat memR W (Bl W base vv) l xs) (he : Ext W W1) (ha : memR.is W1 (Bl W1 base vv) a us)
    (ho : OwnAt w5 base 52 memR.size v' (n + 1) (xs ++ us)) (hg : W1.grownBy w5 vv.ownBlock) (hv : v'.ownBlock = vv.ownBlock ∨ ∃ g, v'.ownBlock = some g ∧ W1.heap.size ≤ g ∧ g < w5.heap.size) :
    Vfx w base st w5 ∧ OwnF memR w5 base 52 v' (n + 1) (l ++ [a]) := by
  have hlow := own_low hoa
  refine ⟨(h.ext he).keepBut hg hlow, ?_⟩
  exact OwnF.push hn (hfl.keep (fun k hk => ⟨hk.1, Nat.lt_of_lt_of_le hk.2.1 he.size, hk.2.2⟩) fun k hk => he.block k hk.2.1) ha ho hg hv

set_option maxRecDepth 100000 in
set_option maxHeartbeats 8000000 in
theorem rUnpack_any (data : ByteArray) (w : World) (hds : data.size ≤ 9000000000000000000) :
    Calls Tryz.prog 26 #[.string data] w (RetMems w (C.unpB okN okP data.data.toList)) := by
  have hdl : data.data.toList.length = data.size := by simp
  obtain ⟨R, hR⟩ : ∃ R, R = C.unpB okN okP data.data.toList := ⟨_, rfl⟩
  rw [← hR]
  have HDL := Lib.hid hdl
  have FLong := Lib.hid (fun h => hR.trans (unp_long h))
  have FHead := Lib.hid (fun h => hR.trans (unp_head h))
  have FNone := Lib.hid (fun h => hR.trans (unp_none h))
  have FBad := Lib.hid (fun st ms h he => hR.trans (unp_bad (st := st) (ms := ms) h he))
  have FGood := Lib.hid (fun st ms hl h he hc => hR.trans (unp_good (st := st) (ms := ms) hl h he hc))
  have HARC := Lib.hid (fun hw k hk => @arc_eq data.data.toList hw k hk)
  obtain ⟨P, hP⟩ : ∃ P, P = C.pArc okN data.data.toList := ⟨_, rfl⟩
  rw [← hP] at FNone FBad FGood HARC
  clear hdl hR hP
  rcases Nat.lt_or_ge 65536 data.size with hbig | hbig
  · have HR := Lib.hid (FLong.out (by have := HDL.out; omega))
    go_enter Tryz.func26, Tryz.ntmps26
    go_wp2_with fail
    go_ret2
    exact retMems_none HR.out (Ext.refl w)
  obtain ⟨W0, hW0⟩ : ∃ W0, W0 = w.alloc (.cells #[.string data, .int .i64 0] 122) := ⟨_, rfl⟩
  have hd0 : Vfx w (w.heap.size + 1) (some data.data.toList) W0 := by
    rw [hW0]
    exact ⟨⟨data, 0, heap_alloc_new w _, hds, rfl, rfl⟩, (Ext.refl w).alloc _, Nat.lt_succ_self _, by simp⟩
  have HD0 := Lib.hid hd0
  have HW0 := Lib.hid hW0
  clear hd0 hW0 hds
  go_enter Tryz.func26, Tryz.ntmps26
  go_wp2_with fail
  rw [← HW0.out]
  refine (Text_ar 7 7 rfl (by decide) (some data.data.toList) _ W0 HD0.out.1).mono ?_
  rintro e w1 ⟨rfl, h1, g1⟩
  have HD1 := Lib.hid (HD0.out.reader h1 g1)
  clear h1 g1
  obtain ⟨hd, hhd⟩ : ∃ hd, hd = (nT 7 (some data.data.toList)).1 := ⟨_, rfl⟩
  rw [← hhd] at FHead HARC ⊢
  obtain ⟨st0, hst0⟩ : ∃ x, x = (nT 7 (some data.data.toList)).2 := ⟨_, rfl⟩
  rw [← hst0] at HD1 HARC
  have HMB := Lib.hid (show (mkB hd).toList = hd by rw [ByteArray.toList_eq, mkB_data])
  obtain ⟨hb, hhb⟩ : ∃ hb, hb = mkB hd := ⟨_, rfl⟩
  rw [← hhb] at HMB ⊢
  clear hhd hst0 hhb
  go_wp2_with fail
  refine (Number_rr 0 64 st0 _ w1 HD1.out.1).mono ?_
  rintro e w2 ⟨rfl, h2, g2⟩
  have hn0 := nN_range 0 64 (by decide) (by decide) st0
  obtain ⟨N0, hN0⟩ : ∃ N0 : Nat, (nN 0 64 st0).1 = (N0 : Int) := ⟨(nN 0 64 st0).1.toNat, by omega⟩
  have hd2 := HD1.out.reader h2 g2
  have HX0 := Lib.hid (fun hw => HARC.out hw N0 hN0)
  rw [hN0] at hn0 ⊢
  obtain ⟨st1, hst1⟩ : ∃ x, x = (nN 0 64 st0).2 := ⟨_, rfl⟩
  rw [← hst1] at hd2 HX0
  obtain ⟨X, hX⟩ : ∃ X, X = pMore (C.pMem okN) N0 st1 [] := ⟨_, rfl⟩
  rw [← hX] at HX0
  have hN8 : N0 ≤ 64 := by omega
  have FN2 : Hid (X = none → R = none) := fun hy => by
    by_cases hw : hd = C.wArchive
    · exact FNone.out ((HX0.out hw).symm.trans hy)
    · exact FHead.out hw
  have HST := Lib.hid (show Vfx w (w.heap.size + 1) st1 w2 ∧ OwnF memR w2 (w.heap.size + 1) 52 (.slice none 0 0) 0 [] ∧ pMore (C.pMem okN) N0 st1 [] = X ∧ MemSizes [] from ⟨hd2, OwnF.nil _ _ _ _, hX.symm, fun _ h => by cases h⟩)
  clear h2 g2 hd2 hX hN0 hn0 hst1 HD0 HD1 HW0 HARC
  go_upto_block 0 with fail
  go_cut [7] (fun v wx => ∃ (n : Nat) (A : Option Addr) (c : Nat) (st : Option C.Bs) (ms : List C.Mem), v = .slice A n c ∧ n ≤ 64 ∧ Hid (Vfx w (w.heap.size + 1) st wx ∧ OwnF memR wx (w.heap.size + 1) 52 (.slice A n c) n ms ∧ st.map (fun q => (ms, q)) = X ∧ MemSizes ms))
  case first =>
    go_wp2_with fail
    go_loopw [7, 8] (fun v iv wr => ∃ (i n : Nat) (A : Option Addr) (c : Nat) (st : Option C.Bs) (ms : List C.Mem), v = .slice A n c ∧ iv = .int .i64 i ∧ i ≤ N0 ∧ n ≤ i ∧ Hid (Vfx w (w.heap.size + 1) st wr ∧ OwnF memR wr (w.heap.size + 1) 52 (.slice A n c) n ms ∧ pMore (C.pMem okN) (N0 - i) st ms = X ∧ MemSizes ms)) (fun _ iv _ => N0 - (intOf iv).toNat)
    case atStart => exact ⟨0, 0, none, 0, st1, [], rfl, rfl, Nat.zero_le _, Nat.le_refl _, HST⟩
    case round =>
      clear HST
      obtain ⟨i, n, A, c, st, ms, rfl, rfl, hi, hni, HK⟩ := hrel
      obtain ⟨er, her, hst⟩ := HK.out.1.1.err
      by_cases hin : i < N0
      · rcases hst with ⟨hst, rfl⟩ | ⟨rfl, hst⟩
        · obtain ⟨j, hj⟩ : ∃ j, N0 - i = j + 1 := ⟨N0 - i - 1, by omega⟩
          have HJ := Lib.hid hj
          have hj2 : N0 - (i + 1) = j := by omega
          have HJ2 := Lib.hid hj2
          clear hst hj hj2
          have HF0 := Lib.hid HK.out.2.1
          obtain ⟨i1, hi1, hz10, hz11, hz12⟩ := info_parts mem_info
          have HD0 := Lib.hid HK.out.1
          have HP : Hid (pMore (C.pMem okN) (j + 1) st ms = X) := by unfold Hid; rw [← HJ.out]; exact HK.out.2.2.1
          have HSY := Lib.hid (fun o h => @mem_steps st o h)
          have HSN := Lib.hid (mem_no st)
          have N1 := Lib.hid (fun W h => Text_ar 128 128 rfl (by decide) st w.heap.size W h)
          have hl1 := nT_len 128 st
          have hs128 : (mkB (nT 128 st).1).size ≤ 128 := by rw [mkB_size]; exact hl1
          unfold RetT at N1
          obtain ⟨sy, hsy⟩ : ∃ x, x = mkB (nT 128 st).1 := ⟨_, rfl⟩
          obtain ⟨s1, hs1⟩ : ∃ x, x = (nT 128 st).2 := ⟨_, rfl⟩
          rw [← hsy] at N1 hs128 HSY
          rw [← hs1] at N1 HSY HSN
          have N2 := Lib.hid (fun W h => Text_ar 65536 65536 rfl (by decide) s1 w.heap.size W h)
          have hl2 := nT_len 65536 s1
          have hb2 : (mkB (nT 65536 s1).1).size ≤ 65536 := by rw [mkB_size]; exact hl2
          have hbd : (mkB (nT 65536 s1).1).data.toList = (nT 65536 s1).1 := mkB_data _
          unfold RetT at N2
          obtain ⟨bd, hbd1⟩ : ∃ x, x = mkB (nT 65536 s1).1 := ⟨_, rfl⟩
          obtain ⟨s2, hs2⟩ : ∃ x, x = (nT 65536 s1).2 := ⟨_, rfl⟩
          rw [← hbd1] at N2 hb2 hbd
          rw [← hbd] at HSY HSN
          rw [← hs2] at N2 HSY
          have HDE := Lib.hid (fun W => rDecode_any bd W (by omega))
          have HSZ := Lib.hid (fun o (ho : C.decB okN bd.data.toList = some o) => mem_sizes_push HK.out.2.2.2 hs128 ho)
          obtain ⟨D, hD⟩ : ∃ D, D = C.decB okN bd.data.toList := ⟨_, rfl⟩
          rw [← hD] at HSY HSN HDE HSZ
          have HNX := Lib.hid (fun o h => (pMore_step (C.pMem okN) j st s2 ms _ (HSY.out o h)).trans HP.out)
          have HNO := Lib.hid (fun h => HP.out.symm.trans (pMore_stop (n := j) (acc := ms) (HSN.out h)))
          clear HK hl1 hl2 hsy hs1 hs2 hbd hbd1 hD
          go_wp2_with fail
          refine (N1.out _ HD0.out.1).mono ?_
          rintro e w7 ⟨rfl, h7, g7⟩
          have HD7 := Lib.hid (HD0.out.reader h7 g7)
          have HF7 := Lib.hid (HF0.out.grownLow g7 (Nat.lt_succ_self _))
          clear h7 g7
          go_wp2_with fail
          refine (N2.out _ HD7.out.1).mono ?_
          rintro e w8 ⟨rfl, h8, g8⟩
          have HD8 := Lib.hid (HD7.out.reader h8 g8)
          have HF8 := Lib.hid (HF7.out.grownLow g8 (Nat.lt_succ_self _))
          clear h8 g8
          go_wp2_with fail
          refine (HDE.out _).mono ?_
          rintro e w9 ⟨d9, hret⟩
          have HE9 := Lib.hid d9
          clear d9 HDE
          cases D with
          | none =>
            have HR := Lib.hid (FN2.out (HNO.out rfl))
            simp only at hret
            obtain rfl := hret
            go_wp2_with fail
            go_ret2
            exact retMems_none HR.out ((HD8.out.2.1.trans HE9.out).alloc _)
          | some o =>
            obtain ⟨SA, sn, sc, SB, sm, sd, rfl, hsn, hsm, hSA, hSB⟩ := hret
            have HSN1 := Lib.hid hsn
            have HSM1 := Lib.hid hsm
            have HSA := Lib.hid hSA
            have HSB2 := Lib.hid hSB
            have HNX2 := Lib.hid (HNX.out o rfl)
            have HSZ2 := Lib.hid (HSZ.out o rfl)
            clear hsn hsm hSA hSB HNX HNO HSZ HSY HSN
            have E10 : Ext w9 ((w9.alloc (.cells #[.slice SA sn sc, .slice SB sm sd] 25)).alloc (.cells #[.string sy, .slice SA sn sc, .slice SB sm sd] 52)) := ((Ext.refl w9).alloc _).alloc _
            have HE10 := Lib.hid E10
            obtain ⟨hnn, xs, hoa, hfl⟩ := (HF8.out.ext HE9.out)
            have HNN := Lib.hid hnn
            have HFL := Lib.hid hfl
            have HOA := Lib.hid hoa
            have hold := own_old (HF8.out.2.choose_spec.1)
            have HEL := Lib.hid (memR_is (s := sy) (show sy.size ≤ 9223372036854775807 by omega) HSN1.out (HSA.out.newBl (base := w.heap.size + 1) (v := .slice A n c) HD8.out.2.2.2 hold HE10.out) HSM1.out (HSB2.out.newBl (base := w.heap.size + 1) (v := .slice A n c) HD8.out.2.2.2 hold HE10.out))
            have HD9 := Lib.hid (HD8.out.ext HE9.out)
            clear hnn hfl hoa hold E10
            go_wp2_with (at_builtin; (refine wpList_append_ownAt _ rfl (.tmp 39) (.tmp 43) 43 rfl (w.heap.size + 1) 52 i1 (.agg #[.string ⟨#[]⟩, .slice none 0 0, .slice none 0 0]) 3 64 Tryz.underlying43 hi1 hz10 hz11 hz12 rfl (by decide) _ _ _ rfl (HOA.out.ext HE10.out) ⟨w9.heap.size + 1, 0, none⟩ 1 1 [.string sy, .slice SA sn sc, .slice SB sm sd] rfl rfl (cells_new_list (w9.alloc (.cells #[.slice SA sn sc, .slice SB sm sd] 25)) [.string sy, .slice SA sn sc, .slice SB sm sd] 52 _ (by simp)) (by intro u hu; simp at hu; rcases hu with rfl | rfl | rfl <;> rfl) (by unfold maxLen; omega) (by omega) (by have := HE10.out.size; have := HD9.out.2.2.2; omega) (by decide) ?_); intro v' w10 hown' hgrow _ hloc; have hpu := vfx_push (a := ((sy, o) : C.Mem)) HD9.out HNN.out HOA.out HFL.out HE10.out HEL.out hown' hgrow hloc; obtain ⟨A3, c3, rfl⟩ := own_form2 hown'; have HPD := Lib.hid hpu.1; have HPF := Lib.hid hpu.2; clear hown' hgrow hloc hpu)
            exact ⟨⟨i + 1, n + 1, A3, c3, s2, ms ++ [(sy, o)], rfl, by go_num, by omega, by omega, HPD.out, HPF.out, by rw [HJ2.out]; exact HNX2.out, HSZ2.out⟩, by simp [intOf]; omega⟩
        · go_wp2_with fail
          go_meet
          exact ⟨n, A, c, none, ms, rfl, by omega, HK.out.1, HK.out.2.1, pMore_or HK.out.2.2.1 (.inr rfl), HK.out.2.2.2⟩
      · go_wp2_with fail
        go_meet
        exact ⟨n, A, c, st, ms, rfl, by omega, HK.out.1, HK.out.2.1, pMore_or HK.out.2.2.1 (.inl (by omega)), HK.out.2.2.2⟩
  case rest =>
    clear HST hN8
    obtain ⟨n, A, c, st, ms, rfl, hn, HK⟩ := hcut
    by_cases hw : ¬ hd = C.wArchive
    · have HR := Lib.hid (FHead.out hw)
      have e1 : ¬ hb.toList = [97, 114, 99, 104, 105, 118, 101] := by rw [HMB.out]; exact hw
      clear hw
      go_wp2_with fail
      go_ret2
      exact retMems_none HR.out HK.out.1.2.1
    · have hw' := Classical.not_not.1 hw
      have e1 : hb.toList = [97, 114, 99, 104, 105, 118, 101] := by rw [HMB.out]; exact hw'
      have HP := Lib.hid (HK.out.2.2.1.trans (HX0.out hw'))
      clear hw hw'
      go_wp2_with fail
      refine (Close_rr st _ _ HK.out.1.1).mono ?_
      rintro e w8 ⟨⟨er, rfl, her⟩, rfl⟩
      by_cases hend : rdEnd st = true
      · have he0 : er = 0 := by
          rcases her with ⟨h, _⟩ | ⟨_, h⟩
          · exact h
          · rw [hend] at h; cases h
        subst he0
        clear her
        obtain ⟨A', c', hv, hsl⟩ := HK.out.2.1.slice
        cases hv
        have HMM := Lib.hid (CheckMembers_any ms A c n wc HK.out.2.1.1 (hsl.sub fun k hk => hk.2) HK.out.2.2.2)
        have HSL := Lib.hid hsl
        by_cases hck : C.memsB okN okP ms = true
        · have HR := Lib.hid (FGood.out st ms (by have := HDL.out; omega) HP.out hend hck)
          rw [hck] at HMM
          clear hck hsl hend
          go_wp2_with fail
          refine HMM.out.mono ?_
          rintro e w9 ⟨rfl, d9⟩
          go_wp2_with fail
          go_ret2
          exact retMems_some HR.out (HK.out.1.2.1.trans d9) HK.out.2.1.1 (Nat.le_succ _) (((HSL.out.rangeExt d9 (Nat.le_refl _))).sub fun k hk => ⟨hk.1, Nat.lt_of_lt_of_le hk.2 d9.size⟩)
        · have hck' : C.memsB okN okP ms = false := by simpa using hck
          have HR := Lib.hid (FBad.out st ms HP.out (.inr hck'))
          rw [hck'] at HMM
          clear hck hck' hsl hend
          go_wp2_with fail
          refine HMM.out.mono ?_
          rintro e w9 ⟨rfl, d9⟩
          go_wp2_with fail
          go_ret2
          exact retMems_none HR.out (HK.out.1.2.1.trans d9)
      · have hend' : rdEnd st = false := by simpa using hend
        have HR := Lib.hid (FBad.out st ms HP.out (.inl hend'))
        have he1 : (er != 0) = true := by
          rcases her with ⟨_, h⟩ | ⟨h, _⟩
          · rw [hend'] at h; cases h
          · simpa using h
        clear her hend' hend
        go_wp2_with fail
        go_ret2
        exact retMems_none HR.out HK.out.1.2.1

end Go.Proofs.YtjimgkefacnamaaGreatDoor

/- Same, SameSection, SameMembers of equal arguments; slices.Equal of equal lists. -/
namespace Go.Proofs.YtjimgkefacnamaaGreatDoor
open Go.RowKit Go.Maps Go.ChangeMaps Go.Sort

set_option maxRecDepth 8000 in
set_option maxHeartbeats 2000000 in
theorem SameSection_refl (kd : Int) (d : ByteArray) (rs : List C.Rel) (A A' : Option Addr) (c c' n : Nat) (w : World) (hn : n = rs.length) (hA : SliceAt relR w (Old w) A c rs) (hA' : SliceAt relR w (Old w) A' c' rs) :
    Calls Tryz.prog 67 #[.agg #[.int .i64 kd, .string d, .slice A n c], .agg #[.int .i64 kd, .string d, .slice A' n c']] w (Al (.bool true) w) := by
  have hn2 : n ≤ 9223372036854775807 := by have := hA.1; have := hA.2.1; omega
  have HN := Lib.hid hn
  have HA := Lib.hid hA
  have HB := Lib.hid hA'
  obtain ⟨W1, hW1⟩ : ∃ W1, W1 = (w.alloc (.cells #[.int .i64 kd, .string d, .slice A n c] 85)).alloc (.cells #[.int .i64 kd, .string d, .slice A' n c'] 85) := ⟨_, rfl⟩
  have X1 : Ext w W1 := by rw [hW1]; exact ((Ext.refl w).alloc _).alloc _
  have a0 : W1.cell? ⟨w.heap.size, 0, none⟩ = some (.int .i64 kd) := by rw [hW1]; exact alloc_keepc _ (cell_new w #[.int .i64 kd, .string d, .slice A n c] 85 0)
  have a1 : W1.cell? ⟨w.heap.size, 1, none⟩ = some (.string d) := by rw [hW1]; exact alloc_keepc _ (cell_new w #[.int .i64 kd, .string d, .slice A n c] 85 1)
  have a2 : W1.cell? ⟨w.heap.size, 2, none⟩ = some (.slice A n c) := by rw [hW1]; exact alloc_keepc _ (cell_new w #[.int .i64 kd, .string d, .slice A n c] 85 2)
  have hsz : (w.alloc (.cells #[.int .i64 kd, .string d, .slice A n c] 85)).heap.size = w.heap.size + 1 := by simp
  have b0 : W1.cell? ⟨w.heap.size + 1, 0, none⟩ = some (.int .i64 kd) := by rw [hW1, ← hsz]; exact cell_new _ #[.int .i64 kd, .string d, .slice A' n c'] 85 0
  have b1 : W1.cell? ⟨w.heap.size + 1, 1, none⟩ = some (.string d) := by rw [hW1, ← hsz]; exact cell_new _ #[.int .i64 kd, .string d, .slice A' n c'] 85 1
  have b2 : W1.cell? ⟨w.heap.size + 1, 2, none⟩ = some (.slice A' n c') := by rw [hW1, ← hsz]; exact cell_new _ #[.int .i64 kd, .string d, .slice A' n c'] 85 2
  have HW1 := Lib.hid hW1
  have HX1 := Lib.hid X1
  clear hn hA hA' hW1 X1 hsz
  go_enter Tryz.func67, Tryz.ntmps67
  go_wp2_with fail
  rw [← HW1.out]
  go_loopw [30] (fun i wr => ∃ k : Nat, k ≤ n ∧ i = .int .i64 k ∧ Hid (Dr W1 wr)) (fun i _ => n - (intOf i).toNat)
  case atStart => exact ⟨0, Nat.zero_le _, rfl, Dr.refl _⟩
  case round =>
    obtain ⟨k, hk, rfl, HK⟩ := hrel
    obtain ⟨m, rfl⟩ := HK.out
    by_cases hlt : k < n
    · have hkz : k < rs.length := by rw [← HN.out]; exact hlt
      obtain ⟨b, off, a, s, rfl, hgk, hwa, hs, hc⟩ := rel_get HA.out hkz
      obtain ⟨b', off', a', s', rfl, hgk', _, _, hc'⟩ := rel_get HB.out hkz
      rw [hgk] at hgk'
      cases hgk'
      obtain ⟨c1, c2⟩ := hc W1 HX1.out
      obtain ⟨e1, e2⟩ := hc' W1 HX1.out
      clear hc hc' hgk HK
      go_wp2_with fail
      go_quiet (fail)
      go_wp2_with fail
      go_roundw
      case rel => exact ⟨k + 1, by omega, by go_num, ⟨_, rfl⟩⟩
      case measure => simp [intOf]; omega
    · go_wp2_with fail
      go_ret
      exact ⟨rfl, HX1.out.drewN m⟩

set_option maxRecDepth 8000 in
set_option maxHeartbeats 4000000 in
theorem Same_refl (o : C.Obj) (A A' B B' : Option Addr) (c c' d d' n m : Nat) (w : World) (hn : n = o.1.length) (hA : SliceAt symR w (Old w) A c o.1) (hA' : SliceAt symR w (Old w) A' c' o.1)
    (hm : m = o.2.length) (hB : SliceAt secR w (Old w) B d o.2) (hB' : SliceAt secR w (Old w) B' d' o.2) :
    Calls Tryz.prog 27 #[.agg #[.slice A n c, .slice B m d], .agg #[.slice A' n c', .slice B' m d']] w (Al (.bool true) w) := by
  have hn2 : n ≤ 9223372036854775807 := by have := hA.1; have := hA.2.1; omega
  have hm2 : m ≤ 9223372036854775807 := by have := hB.1; have := hB.2.1; omega
  have HN := Lib.hid hn
  have HM := Lib.hid hm
  have HA := Lib.hid hA
  have HA' := Lib.hid hA'
  have HB := Lib.hid hB
  have HB' := Lib.hid hB'
  obtain ⟨W1, hW1⟩ : ∃ W1, W1 = (w.alloc (.cells #[.slice A n c, .slice B m d] 25)).alloc (.cells #[.slice A' n c', .slice B' m d'] 25) := ⟨_, rfl⟩
  have X1 : Ext w W1 := by rw [hW1]; exact ((Ext.refl w).alloc _).alloc _
  have a0 : W1.cell? ⟨w.heap.size, 0, none⟩ = some (.slice A n c) := by rw [hW1]; exact alloc_keepc _ (cell_new w #[.slice A n c, .slice B m d] 25 0)
  have a1 : W1.cell? ⟨w.heap.size, 1, none⟩ = some (.slice B m d) := by rw [hW1]; exact alloc_keepc _ (cell_new w #[.slice A n c, .slice B m d] 25 1)
  have hsz : (w.alloc (.cells #[.slice A n c, .slice B m d] 25)).heap.size = w.heap.size + 1 := by simp
  have b0 : W1.cell? ⟨w.heap.size + 1, 0, none⟩ = some (.slice A' n c') := by rw [hW1, ← hsz]; exact cell_new _ #[.slice A' n c', .slice B' m d'] 25 0
  have b1 : W1.cell? ⟨w.heap.size + 1, 1, none⟩ = some (.slice B' m d') := by rw [hW1, ← hsz]; exact cell_new _ #[.slice A' n c', .slice B' m d'] 25 1
  have HW1 := Lib.hid hW1
  have HX1 := Lib.hid X1
  have KA0 := Lib.hid a0
  have KA1 := Lib.hid a1
  have KB0 := Lib.hid b0
  have KB1 := Lib.hid b1
  clear hn hm hA hA' hB hB' hW1 X1 hsz
  go_enter Tryz.func27, Tryz.ntmps27
  go_wp2_with fail
  rw [← HW1.out]
  go_loopw [26] (fun i wr => ∃ k : Nat, k ≤ n ∧ i = .int .i64 k ∧ Hid (Ext W1 wr)) (fun i _ => n - (intOf i).toNat)
  case atStart => exact ⟨0, Nat.zero_le _, rfl, Ext.refl _⟩
  case round =>
    clear a0 a1 b0 b1
    obtain ⟨k, hk, rfl, HK⟩ := hrel
    have a0 := HK.out.keepc KA0.out
    have a1 := HK.out.keepc KA1.out
    have b0 := HK.out.keepc KB0.out
    have b1 := HK.out.keepc KB1.out
    by_cases hlt : k < n
    · have hkz : k < o.1.length := by rw [← HN.out]; exact hlt
      obtain ⟨b, off, s, md, q, rfl, hgk, hs, hwm, hwq, hc⟩ := sym_get HA.out hkz
      obtain ⟨b', off', s', md', q', rfl, hgk', _, _, _, hc'⟩ := sym_get HA'.out hkz
      rw [hgk] at hgk'
      cases hgk'
      obtain ⟨c1, c2, c3⟩ := hc wr (HX1.out.trans HK.out)
      obtain ⟨e1, e2, e3⟩ := hc' wr (HX1.out.trans HK.out)
      clear hc hc' hgk
      go_wp2_with fail
      go_quiet (fail)
      go_wp2_with fail
      go_roundw
      case rel => exact ⟨k + 1, by omega, by go_num, HK.out.drewN _⟩
      case measure => simp [intOf]; omega
    · go_wp2_with fail
      go_loopw [44] (fun i wr => ∃ k : Nat, k ≤ m ∧ i = .int .i64 k ∧ Hid (Ext W1 wr)) (fun i _ => m - (intOf i).toNat)
      case atStart => exact ⟨0, Nat.zero_le _, rfl, HK.out⟩
      case round =>
        clear a0 a1 b0 b1 HK hlt hk
        obtain ⟨k, hk, rfl, HK⟩ := hrel
        have a0 := HK.out.keepc KA0.out
        have a1 := HK.out.keepc KA1.out
        have b0 := HK.out.keepc KB0.out
        have b1 := HK.out.keepc KB1.out
        by_cases hlt : k < m
        · have hkz : k < o.2.length := by rw [← HM.out]; exact hlt
          obtain ⟨b, off, kd, dd, rs, A2, c2, rfl, hgk, hwk, hds, hrs, hc⟩ := sec_get HB.out hkz
          obtain ⟨b', off', kd', dd', rs', A2', c2', rfl, hgk', _, _, hrs', hc'⟩ := sec_get HB'.out hkz
          rw [hgk] at hgk'
          cases hgk'
          obtain ⟨nr, hnr⟩ : ∃ nr, nr = rs.length := ⟨_, rfl⟩
          rw [← hnr] at hc hc'
          have HC := Lib.hid hc
          have HC' := Lib.hid hc'
          have X2 := Lib.hid (HX1.out.trans HK.out)
          obtain ⟨c1, c2, c3⟩ := hc wr X2.out
          obtain ⟨e1, e2, e3⟩ := hc' wr X2.out
          have HS := Lib.hid (fun W (h : Ext w W) => SameSection_refl kd dd rs A2 A2' _ _ nr W hnr (hrs.ext h) (hrs'.ext h))
          have fx0 : ∀ x : Lat (Ext wr), x.w'.cell? ⟨w.heap.size, 1, none⟩ = _ := fun x => x.h.keepc a1
          have fx1 : ∀ x : Lat (Ext wr), x.w'.cell? ⟨w.heap.size + 1, 1, none⟩ = _ := fun x => x.h.keepc b1
          have fx2 : ∀ x : Lat (Ext wr), x.w'.cell? ⟨b, off + k * 3, none⟩ = _ := fun x => x.h.keepc c1
          have fx3 : ∀ x : Lat (Ext wr), x.w'.cell? ⟨b, off + k * 3 + 1, none⟩ = _ := fun x => x.h.keepc c2
          have fx4 : ∀ x : Lat (Ext wr), x.w'.cell? ⟨b, off + k * 3 + 1 + 1, none⟩ = _ := fun x => x.h.keepc c3
          have fx5 : ∀ x : Lat (Ext wr), x.w'.cell? ⟨b', off' + k * 3, none⟩ = _ := fun x => x.h.keepc e1
          have fx6 : ∀ x : Lat (Ext wr), x.w'.cell? ⟨b', off' + k * 3 + 1, none⟩ = _ := fun x => x.h.keepc e2
          have fx7 : ∀ x : Lat (Ext wr), x.w'.cell? ⟨b', off' + k * 3 + 1 + 1, none⟩ = _ := fun x => x.h.keepc e3
          have hne := Lat.some (Φ := Ext wr) ((Ext.refl wr).drew)
          clear hc hc' hgk hnr hrs hrs'
          go_wp2_with fail
          refine wp_region_lat [10] (Ext wr) ((Ext.refl wr).drew) (by kernel_rfl) (by kernel_rfl) (by kernel_rfl) ?_
          repeat (refine lex_pure rfl rfl rfl ?_; intro K hK; go_big_quiet_op; go_big_quiet_on)
          refine lex_eff rfl ?_
          go_wp2_with fail
          refine (HS.out _ (X2.out.trans (Ext.refl wr).drew)).mono ?_
          rintro e w5 ⟨rfl, d5⟩
          have D5 := Lib.hid ((Ext.refl wr).drew.trans d5)
          clear d5
          go_wp2_with fail
          refine ⟨⟨⟨w5, D5.out⟩, rfl⟩, ?_⟩
          repeat (refine lex_pure rfl rfl rfl ?_; intro K hK; go_big_quiet_op; go_big_quiet_on)
          refine lex_nil ?_
          clear fx0 fx1 fx2 fx3 fx4 fx5 fx6 fx7 hne
          go_wp2_with fail
          exact ⟨⟨k + 1, by omega, by go_num, HK.out.trans D5.out⟩, by simp [intOf]; omega⟩
        · go_wp2_with fail
          go_ret
          exact ⟨rfl, HX1.out.trans HK.out⟩

set_option maxRecDepth 8000 in
set_option maxHeartbeats 4000000 in
theorem SameMembers_refl (l : List C.Mem) (A A' : Option Addr) (c c' n : Nat) (w : World) (hn : n = l.length) (hA : SliceAt memR w (Old w) A c l) (hA' : SliceAt memR w (Old w) A' c' l) :
    Calls Tryz.prog 28 #[.slice A n c, .slice A' n c'] w (Al (.bool true) w) := by
  have hn2 : n ≤ 9223372036854775807 := by have := hA.1; have := hA.2.1; omega
  have HN := Lib.hid hn
  have HA := Lib.hid hA
  have HA' := Lib.hid hA'
  clear hn hA hA'
  go_enter Tryz.func28, Tryz.ntmps28
  go_wp2_with fail
  go_loopw [13] (fun i wr => ∃ k : Nat, k ≤ n ∧ i = .int .i64 k ∧ Hid (Ext w wr)) (fun i _ => n - (intOf i).toNat)
  case atStart => exact ⟨0, Nat.zero_le _, rfl, Ext.refl _⟩
  case round =>
    obtain ⟨k, hk, rfl, HK⟩ := hrel
    by_cases hlt : k < n
    · have hkz : k < l.length := by rw [← HN.out]; exact hlt
      obtain ⟨b, off, s, SA, sc, SB, sd, rfl, _, hgk, hs, hSA, hSB, c0, c1, c2⟩ := mem_getB (HA.out.ext HK.out) hkz
      obtain ⟨b', off', s', SA', sc', SB', sd', rfl, _, hgk', _, hSA', hSB', e0, e1, e2⟩ := mem_getB (HA'.out.ext HK.out) hkz
      rw [hgk] at hgk'
      cases hgk'
      generalize l[k].2 = o at hSA hSB hSA' hSB' c1 c2 e1 e2
      obtain ⟨sn, hsn⟩ : ∃ x, x = o.1.length := ⟨_, rfl⟩
      obtain ⟨sm, hsm⟩ : ∃ x, x = o.2.length := ⟨_, rfl⟩
      rw [← hsn] at c1 e1
      rw [← hsm] at c2 e2
      have HS := Lib.hid (fun W (h : Ext wr W) => Same_refl o SA SA' SB SB' _ _ _ _ sn sm W hsn (hSA.ext h) (hSA'.ext h) hsm (hSB.ext h) (hSB'.ext h))
      have fx0 : ∀ x : Lat (Ext wr), x.w'.cell? ⟨b, off + k * 3, none⟩ = _ := fun x => x.h.keepc c0
      have fx1 : ∀ x : Lat (Ext wr), x.w'.cell? ⟨b, off + k * 3 + 1, none⟩ = _ := fun x => x.h.keepc c1
      have fx2 : ∀ x : Lat (Ext wr), x.w'.cell? ⟨b, off + k * 3 + 1 + 1, none⟩ = _ := fun x => x.h.keepc c2
      have fx3 : ∀ x : Lat (Ext wr), x.w'.cell? ⟨b', off' + k * 3, none⟩ = _ := fun x => x.h.keepc e0
      have fx4 : ∀ x : Lat (Ext wr), x.w'.cell? ⟨b', off' + k * 3 + 1, none⟩ = _ := fun x => x.h.keepc e1
      have fx5 : ∀ x : Lat (Ext wr), x.w'.cell? ⟨b', off' + k * 3 + 1 + 1, none⟩ = _ := fun x => x.h.keepc e2
      have hne := Lat.some (Φ := Ext wr) ((Ext.refl wr).drew)
      clear hgk hsn hsm hSA hSB hSA' hSB'
      go_wp2_with fail
      refine wp_region_lat [22] (Ext wr) ((Ext.refl wr).drew) (by kernel_rfl) (by kernel_rfl) (by kernel_rfl) ?_
      repeat (refine lex_pure rfl rfl rfl ?_; intro K hK; go_big_quiet_op; go_big_quiet_on)
      refine lex_eff rfl ?_
      go_wp2_with fail
      refine (HS.out _ ((Ext.refl wr).drew)).mono ?_
      rintro e w5 ⟨rfl, d5⟩
      have D5 := Lib.hid ((Ext.refl wr).drew.trans d5)
      clear d5
      go_wp2_with fail
      refine ⟨⟨⟨w5, D5.out⟩, rfl⟩, ?_⟩
      repeat (refine lex_pure rfl rfl rfl ?_; intro K hK; go_big_quiet_op; go_big_quiet_on)
      refine lex_nil ?_
      clear fx0 fx1 fx2 fx3 fx4 fx5 hne
      go_wp2_with fail
      exact ⟨⟨k + 1, by omega, by go_num, HK.out.trans D5.out⟩, by simp [intOf]; omega⟩
    · go_wp2_with fail
      go_ret
      exact ⟨rfl, HK.out⟩

/-- The slice v reads as these strings, now and later. -/
def StrL (w : World) (v : Value) (l : List C.Bs) : Prop := ∃ A n c, v = .slice A n c ∧ n = l.length ∧ n ≤ 9223372036854775807 ∧ ∀ j (_ : j < l.length), ∃ g off x, A = some ⟨g, off, none⟩ ∧ l[j]? = some x.data.toList ∧ ∀ w', Ext w w' → w'.cell? ⟨g, off + j, none⟩ = some (.string x)
theorem StrL.of_own {w : World} {base n : Nat} {v : Value} {l : List C.Bs} (h : OwnS w base v n l) (hn : n ≤ 9223372036854775807) : StrL w v l := by
  obtain ⟨A, c, rfl, _, hc⟩ := h.form
  exact ⟨A, n, c, rfl, h.1, hn, hc⟩
theorem StrL.ext {w w1 : World} {v : Value} {l : List C.Bs} (h : StrL w v l) (he : Ext w w1) : StrL w1 v l := by
  obtain ⟨A, n, c, rfl, h1, h2, h3⟩ := h
  refine ⟨A, n, c, rfl, h1, h2, fun j hj => ?_⟩
  obtain ⟨g, off, x, h4, h5, h6⟩ := h3 j hj
  exact ⟨g, off, x, h4, h5, fun w' h' => h6 w' (he.trans h')⟩
set_option maxRecDepth 8000 in
set_option maxHeartbeats 2000000 in
theorem EqualS_refl (l : List C.Bs) (v v' : Value) (w : World) (h : StrL w v l) (h' : StrL w v' l) : Calls Tryz.prog 16 #[v, v'] w (Al (.bool true) w) := by
  obtain ⟨A, n, c, rfl, hn, hn2, hc⟩ := h
  obtain ⟨A', n', c', rfl, hn', hn2', hc'⟩ := h'
  obtain rfl : n = n' := hn.trans hn'.symm
  have HN := Lib.hid hn
  have HC := Lib.hid hc
  have HC' := Lib.hid hc'
  clear hn hn' hc hc'
  go_enter Tryz.func16, Tryz.ntmps16
  go_wp2_with fail
  go_loopw [13] (fun i wr => ∃ k : Nat, k ≤ n ∧ i = .int .i64 k ∧ Hid (Ext w wr)) (fun i _ => n - (intOf i).toNat)
  case atStart => exact ⟨0, Nat.zero_le _, rfl, Ext.refl _⟩
  case round =>
    obtain ⟨k, hk, rfl, HK⟩ := hrel
    by_cases hlt : k < n
    · have hkz : k < l.length := by rw [← HN.out]; exact hlt
      obtain ⟨g, off, x, rfl, hg, hx⟩ := HC.out k hkz
      obtain ⟨g', off', x', rfl, hg', hx'⟩ := HC'.out k hkz
      rw [hg] at hg'
      obtain rfl : x = x' := ByteArray.ext (Array.toList_inj.1 (Option.some.inj hg'))
      have c1 := hx wr HK.out
      have e1 := hx' wr HK.out
      clear hx hx' hg hg'
      go_wp2_with fail
      go_quiet (fail)
      go_wp2_with fail
      go_roundw
      case rel => exact ⟨k + 1, by omega, by go_num, HK.out.drewN _⟩
      case measure => simp [intOf]; omega
    · go_wp2_with fail
      go_ret
      exact ⟨rfl, HK.out⟩

end Go.Proofs.YtjimgkefacnamaaGreatDoor

/- Few, FewMembers: whatever the object, a bool; where it is true, the object is small. -/
namespace Go.Proofs.YtjimgkefacnamaaGreatDoor
open Go.RowKit Go.Maps Go.ChangeMaps Go.Sort

def BdO (o : C.Obj) : Prop := o.1.length ≤ 140737488351232 ∧ o.2.length ≤ 140737488351232 ∧ ∀ s ∈ o.2, s.2.1.size ≤ 140737488351232 ∧ s.2.2.length ≤ 140737488351232
def FewO (o : C.Obj) : Prop := (∀ s ∈ o.1, s.1.size ≤ 100) ∧ o.1.length ≤ 140 ∧ o.2.length ≤ 140 ∧ ∀ s ∈ o.2, s.2.2.length ≤ 300
/-- It returns a bool; where it is true, P. -/
def RetB (w : World) (P : Prop) (e : Ending) (w' : World) : Prop := Ext w w' ∧ ∃ b, e = .returned (.bool b) ∧ (b = true → P)
theorem retB_false {w w' : World} {P : Prop} (h : Ext w w') : RetB w P (.returned (.bool false)) w' := ⟨h, false, rfl, fun h => by cases h⟩
theorem retB_true {w w' : World} {P : Prop} (h : Ext w w') (hp : P) : RetB w P (.returned (.bool true)) w' := ⟨h, true, rfl, fun _ => hp⟩
def symsTo (l : List C.Sym) (k : Nat) : Prop := ∀ i (h : i < l.length), i < k → l[i].1.size ≤ 100
def secsTo (l : List C.Sec) (k : Nat) : Prop := ∀ i (h : i < l.length), i < k → l[i].2.2.length ≤ 300
theorem symsTo_succ {l : List C.Sym} {k : Nat} (h : symsTo l k) (hk : k < l.length) (h1 : l[k].1.size ≤ 100) : symsTo l (k + 1) := by
  intro i hi hik
  by_cases e : i = k
  · subst e; exact h1
  · exact h i hi (by omega)
theorem secsTo_succ {l : List C.Sec} {k : Nat} (h : secsTo l k) (hk : k < l.length) (h1 : l[k].2.2.length ≤ 300) : secsTo l (k + 1) := by
  intro i hi hik
  by_cases e : i = k
  · subst e; exact h1
  · exact h i hi (by omega)
theorem fewO_of {o : C.Obj} (h1 : symsTo o.1 o.1.length) (h2 : o.1.length ≤ 140) (h3 : o.2.length ≤ 140) (h4 : secsTo o.2 o.2.length) : FewO o :=
  ⟨fun s hs => by obtain ⟨i, hi, rfl⟩ := List.getElem_of_mem hs; exact h1 i hi hi, h2, h3, fun s hs => by obtain ⟨i, hi, rfl⟩ := List.getElem_of_mem hs; exact h4 i hi hi⟩

set_option maxRecDepth 8000 in
set_option maxHeartbeats 4000000 in
theorem Few_any (o : C.Obj) (A B : Option Addr) (c d n m : Nat) (w : World) (hn : n = o.1.length) (hA : SliceAt symR w (Old w) A c o.1) (hm : m = o.2.length) (hB : SliceAt secR w (Old w) B d o.2) (hb : BdO o) :
    Calls Tryz.prog 11 #[.agg #[.slice A n c, .slice B m d]] w (RetB w (FewO o)) := by
  have hn2 : n ≤ 140737488351232 := by have := hb.1; omega
  have hm2 : m ≤ 140737488351232 := by have := hb.2.1; omega
  have HF := Lib.hid (@fewO_of o)
  obtain ⟨P, hP⟩ : ∃ P, P = FewO o := ⟨_, rfl⟩
  rw [← hP] at HF ⊢
  have HN := Lib.hid hn
  have HM := Lib.hid hm
  have HA := Lib.hid hA
  have HB := Lib.hid hB
  have HD := Lib.hid hb.2.2
  obtain ⟨W1, hW1⟩ : ∃ W1, W1 = w.alloc (.cells #[.slice A n c, .slice B m d] 25) := ⟨_, rfl⟩
  have X1 : Ext w W1 := by rw [hW1]; exact (Ext.refl w).alloc _
  have a0 : W1.cell? ⟨w.heap.size, 0, none⟩ = some (.slice A n c) := by rw [hW1]; exact cell_new w #[.slice A n c, .slice B m d] 25 0
  have a1 : W1.cell? ⟨w.heap.size, 1, none⟩ = some (.slice B m d) := by rw [hW1]; exact cell_new w #[.slice A n c, .slice B m d] 25 1
  have HW1 := Lib.hid hW1
  have HX1 := Lib.hid X1
  have KA0 := Lib.hid a0
  have KA1 := Lib.hid a1
  clear hn hm hA hB hW1 X1 hb hP
  go_enter Tryz.func11, Tryz.ntmps11
  go_wp2_with fail
  rw [← HW1.out]
  go_loopw [14] (fun i wr => ∃ k : Nat, k ≤ n ∧ i = .int .i64 k ∧ Hid (symsTo o.1 k ∧ Ext W1 wr)) (fun i _ => n - (intOf i).toNat)
  case atStart => exact ⟨0, Nat.zero_le _, rfl, fun _ _ h => absurd h (Nat.not_lt_zero _), Ext.refl _⟩
  case round =>
    clear a0 a1
    obtain ⟨k, hk, rfl, HK⟩ := hrel
    have a0 := HK.out.2.keepc KA0.out
    have a1 := HK.out.2.keepc KA1.out
    by_cases hlt : k < n
    · have hkz : k < o.1.length := by rw [← HN.out]; exact hlt
      obtain ⟨b, off, s, md, q, rfl, hgk, hs, hwm, hwq, hc⟩ := sym_get HA.out hkz
      obtain ⟨c1, c2, c3⟩ := hc wr (HX1.out.trans HK.out.2)
      have hg : o.1[k].1 = s := by rw [List.getElem?_eq_getElem hkz] at hgk; rw [Option.some.inj hgk]
      have H9 := Lib.hid (fun h1 => symsTo_succ HK.out.1 hkz (by rw [hg]; exact h1))
      clear hc hgk hg
      by_cases hbig : 100 < s.size
      · go_wp2_with fail
        go_ret
        exact retB_false ((HX1.out.trans HK.out.2).alloc _)
      · have H8 := Lib.hid (H9.out (by omega))
        go_wp2_with fail
        go_roundw
        case rel => exact ⟨k + 1, by omega, by go_num, H8.out, HK.out.2.alloc _⟩
        case measure => simp [intOf]; omega
    · have HS := Lib.hid (show symsTo o.1 o.1.length by have := HK.out.1; rwa [show k = o.1.length by have := HN.out; omega] at this)
      go_wp2_with fail
      go_loopw [3, 4, 26] (fun zv qv i wr => ∃ (z q : Int) (k : Nat), k ≤ m ∧ i = .int .i64 k ∧ zv = .int .i64 z ∧ qv = .int .i64 q ∧ 0 ≤ z ∧ z ≤ 3000 + 8194 * k ∧ (z ≤ 3000 ∨ m ≤ 1) ∧ 0 ≤ q ∧ q ≤ 300 ∧ Hid (secsTo o.2 k ∧ Ext W1 wr)) (fun _ _ i _ => m - (intOf i).toNat)
      case atStart => exact ⟨0, 0, 0, Nat.zero_le _, rfl, rfl, rfl, by omega, by omega, .inl (by omega), by omega, by omega, fun _ _ h => absurd h (Nat.not_lt_zero _), HK.out.2⟩
      case round =>
        clear a0 a1 HK hlt hk
        obtain ⟨z, q, k, hk, rfl, rfl, rfl, hz0, hz1, hz2, hq0, hq1, HK⟩ := hrel
        have a0 := HK.out.2.keepc KA0.out
        have a1 := HK.out.2.keepc KA1.out
        by_cases hlt : k < m
        · have hkz : k < o.2.length := by rw [← HM.out]; exact hlt
          have hz3 : z ≤ 3000 := by omega
          obtain ⟨b, off, kd, dd, rs, A2, c2, rfl, hgk, hwk, hds, hrs, hc⟩ := sec_get HB.out hkz
          have hbd := HD.out _ (List.getElem_mem hkz)
          have H9 := Lib.hid (fun h1 => secsTo_succ HK.out.1 hkz h1)
          rw [hgk] at hbd H9
          obtain ⟨hd1, hd2⟩ := hbd
          simp only at hd1 hd2 H9
          obtain ⟨nr, hnr⟩ : ∃ nr, nr = rs.length := ⟨_, rfl⟩
          rw [← hnr] at hc hd2 H9
          obtain ⟨c1, c2', c3⟩ := hc wr (HX1.out.trans HK.out.2)
          have HNR := Lib.hid hnr
          have HRS := Lib.hid hrs
          obtain ⟨W2, hW2⟩ : ∃ W2, W2 = wr.alloc (.cells #[.int .i64 kd, .string dd, .slice A2 nr c2] 85) := ⟨_, rfl⟩
          have y1 : W2.cell? ⟨wr.heap.size, 1, none⟩ = some (.string dd) := by rw [hW2]; exact cell_new wr _ 85 1
          have y2 : W2.cell? ⟨wr.heap.size, 2, none⟩ = some (.slice A2 nr c2) := by rw [hW2]; exact cell_new wr _ 85 2
          have b1 : W2.cell? ⟨w.heap.size, 1, none⟩ = some (.slice (some ⟨b, off, none⟩) m d) := by rw [hW2]; exact alloc_keepc _ a1
          have bx := alloc_keepc (.cells #[.int .i64 kd, .string dd, .slice A2 nr c2] 85) a1
          have HX2 : Hid (Ext W1 W2) := by unfold Hid; rw [hW2]; exact HK.out.2.alloc _
          have HW2 := Lib.hid hW2
          clear hc hgk hnr hrs hW2
          by_cases h1 : 300 < q + nr
          · go_wp2_with fail
            go_ret
            exact retB_false (HX1.out.trans (HK.out.2.alloc _))
          have H8 := Lib.hid (H9.out (by omega))
          by_cases h2 : 3000 < z + dd.size
          · by_cases h3 : dd.size < 8190
            · go_wp2_with fail
              go_ret
              exact retB_false (HX1.out.trans (HK.out.2.alloc _))
            by_cases h4 : 8194 < dd.size
            · go_wp2_with fail
              go_ret
              exact retB_false (HX1.out.trans (HK.out.2.alloc _))
            by_cases h5 : 1 < m
            · go_wp2_with fail
              go_ret
              exact retB_false (HX1.out.trans (HK.out.2.alloc _))
            go_wp2_with fail
            rw [← HW2.out]
            go_loopw [67] (fun i wr => ∃ j : Nat, j ≤ nr ∧ i = .int .i64 j ∧ Hid (Ext W2 wr)) (fun i _ => nr - (intOf i).toNat)
            case atStart => exact ⟨0, Nat.zero_le _, rfl, Ext.refl _⟩
            case round =>
              clear y1 y2 b1 bx
              obtain ⟨j, hj, rfl, HJ⟩ := hrel
              by_cases hjt : j < nr
              · have hjz : j < rs.length := by rw [← HNR.out]; exact hjt
                obtain ⟨b3, off3, a, s, rfl, hgj, hwa, hs, hc⟩ := rel_get HRS.out hjz
                obtain ⟨x1, x2⟩ := hc wr (HX1.out.trans (HX2.out.trans HJ.out))
                clear hc hgj
                by_cases h6 : 100 < s.size
                · go_wp2_with fail
                  go_ret
                  exact retB_false (HX1.out.trans ((HX2.out.trans HJ.out).alloc _))
                · go_wp2_with fail
                  go_roundw
                  case rel => exact ⟨j + 1, by omega, by go_num, HJ.out.alloc _⟩
                  case measure => simp [intOf]; omega
              · go_wp2_with fail
                exact ⟨⟨z + dd.size, q + nr, k + 1, by omega, by go_num, rfl, rfl, by omega, by omega, .inr (by omega), by omega, by omega, H8.out, HX2.out.trans HJ.out⟩, by simp [intOf]; omega⟩
          · go_wp2_with fail
            rw [← HW2.out]
            go_loopw [67] (fun i wr => ∃ j : Nat, j ≤ nr ∧ i = .int .i64 j ∧ Hid (Ext W2 wr)) (fun i _ => nr - (intOf i).toNat)
            case atStart => exact ⟨0, Nat.zero_le _, rfl, Ext.refl _⟩
            case round =>
              clear y1 y2 b1 bx
              obtain ⟨j, hj, rfl, HJ⟩ := hrel
              by_cases hjt : j < nr
              · have hjz : j < rs.length := by rw [← HNR.out]; exact hjt
                obtain ⟨b3, off3, a, s, rfl, hgj, hwa, hs, hc⟩ := rel_get HRS.out hjz
                obtain ⟨x1, x2⟩ := hc wr (HX1.out.trans (HX2.out.trans HJ.out))
                clear hc hgj
                by_cases h6 : 100 < s.size
                · go_wp2_with fail
                  go_ret
                  exact retB_false (HX1.out.trans ((HX2.out.trans HJ.out).alloc _))
                · go_wp2_with fail
                  go_roundw
                  case rel => exact ⟨j + 1, by omega, by go_num, HJ.out.alloc _⟩
                  case measure => simp [intOf]; omega
              · go_wp2_with fail
                exact ⟨⟨z + dd.size, q + nr, k + 1, by omega, by go_num, rfl, rfl, by omega, by omega, .inl (by omega), by omega, by omega, H8.out, HX2.out.trans HJ.out⟩, by simp [intOf]; omega⟩
        · have HS2 := Lib.hid (show secsTo o.2 o.2.length by have := HK.out.1; rwa [show k = o.2.length by have := HM.out; omega] at this)
          by_cases h1 : n ≤ 140
          · have HP := Lib.hid (fun h2 : m ≤ 140 => HF.out HS.out (by have := HN.out; omega) (by have := HM.out; omega) HS2.out)
            go_wp2_with fail
            go_ret
            exact ⟨HX1.out.trans HK.out.2, decide ((m : Int) ≤ 140), rfl, fun h => HP.out (by have := of_decide_eq_true h; omega)⟩
          · go_wp2_with fail
            go_ret
            exact retB_false (HX1.out.trans HK.out.2)

def BdM (l : List C.Mem) : Prop := l.length ≤ 140737488351232 ∧ ∀ m ∈ l, BdO m.2
def FewM (l : List C.Mem) : Prop := l.length ≤ 70 ∧ ∀ m ∈ l, m.1.size ≤ 300 ∧ FewO m.2
def memsTo (l : List C.Mem) (k : Nat) : Prop := ∀ i (h : i < l.length), i < k → l[i].1.size ≤ 300 ∧ FewO l[i].2
theorem memsTo_succ {l : List C.Mem} {k : Nat} (h : memsTo l k) (hk : k < l.length) (h1 : l[k].1.size ≤ 300 ∧ FewO l[k].2) : memsTo l (k + 1) := by
  intro i hi hik
  by_cases e : i = k
  · subst e; exact h1
  · exact h i hi (by omega)
theorem fewM_of {l : List C.Mem} (h1 : memsTo l l.length) (h2 : l.length ≤ 70) : FewM l :=
  ⟨h2, fun m hm => by obtain ⟨i, hi, rfl⟩ := List.getElem_of_mem hm; exact h1 i hi hi⟩
theorem FewM.sizes {l : List C.Mem} (h : FewM l) : MemSizes l := fun m hm => ⟨by have := (h.2 m hm).1; omega, fun s hs => by have := (h.2 m hm).2.1 s hs; omega⟩

set_option maxRecDepth 8000 in
set_option maxHeartbeats 4000000 in
theorem FewMembers_any (l : List C.Mem) (A : Option Addr) (c n : Nat) (w : World) (hn : n = l.length) (hA : SliceAt memR w (Old w) A c l) (hb : BdM l) :
    Calls Tryz.prog 29 #[.slice A n c] w (RetB w (FewM l)) := by
  have hn2 : n ≤ 140737488351232 := by have := hb.1; omega
  have HF := Lib.hid (@fewM_of l)
  obtain ⟨P, hP⟩ : ∃ P, P = FewM l := ⟨_, rfl⟩
  rw [← hP] at HF ⊢
  have HN := Lib.hid hn
  have HA := Lib.hid hA
  have HD := Lib.hid hb.2
  clear hn hA hb hP
  go_enter Tryz.func29, Tryz.ntmps29
  go_wp2_with fail
  go_loopw [7] (fun i wr => ∃ k : Nat, k ≤ n ∧ i = .int .i64 k ∧ Hid (memsTo l k ∧ Ext w wr)) (fun i _ => n - (intOf i).toNat)
  case atStart => exact ⟨0, Nat.zero_le _, rfl, fun _ _ h => absurd h (Nat.not_lt_zero _), Ext.refl _⟩
  case round =>
    obtain ⟨k, hk, rfl, HK⟩ := hrel
    by_cases hlt : k < n
    · have hkz : k < l.length := by rw [← HN.out]; exact hlt
      obtain ⟨b, off, s, SA, sc, SB, sd, rfl, hB, hgk, hs, hSA, hSB, c0, c1, c2⟩ := mem_getB (HA.out.ext HK.out.2) hkz
      have hbd := HD.out _ (List.getElem_mem hkz)
      have H9 := Lib.hid (fun h1 => memsTo_succ HK.out.1 hkz h1)
      rw [hgk] at H9
      generalize l[k].2 = o at hSA hSB c1 c2 hbd H9
      obtain ⟨sn, hsn⟩ : ∃ x, x = o.1.length := ⟨_, rfl⟩
      obtain ⟨sm, hsm⟩ : ∃ x, x = o.2.length := ⟨_, rfl⟩
      rw [← hsn] at c1
      rw [← hsm] at c2
      have hsn2 : sn ≤ 140737488351232 := by have := hbd.1; omega
      have HFW := Lib.hid (fun W (h : Ext wr W) => Few_any o SA SB sc sd sn sm W hsn (hSA.ext h) hsm (hSB.ext h) hbd)
      have E1 : Ext wr (wr.alloc (.cells #[.string s, .slice SA sn sc, .slice SB sm sd] 52)) := (Ext.refl wr).alloc _
      have HE1 := Lib.hid E1
      clear hgk hsn hsm hSA hSB hbd E1
      by_cases hbig : 300 < s.size
      · go_wp2_with fail
        go_ret
        exact retB_false (HK.out.2.trans HE1.out)
      go_wp2_with fail
      refine (HFW.out _ HE1.out).mono ?_
      rintro e w2 ⟨d2, bb, rfl, hbb⟩
      have x1 := d2.keepc (cell_new wr #[.string s, .slice SA sn sc, .slice SB sm sd] 52 1)
      have HX2 := Lib.hid (HK.out.2.trans (HE1.out.trans d2))
      clear d2 c0 c1 c2
      cases bb with
      | false =>
        clear hbb
        go_wp2_with fail
        go_ret
        exact retB_false HX2.out
      | true =>
        have H8 := Lib.hid (H9.out ⟨by omega, hbb rfl⟩)
        clear hbb
        by_cases h6 : 6 < n
        · by_cases h1 : 1 < sn
          · go_wp2_with fail
            go_ret
            exact retB_false HX2.out
          · go_wp2_with fail
            go_roundw
            case rel => exact ⟨k + 1, by omega, by go_num, H8.out, HX2.out⟩
            case measure => simp [intOf]; omega
        · go_wp2_with fail
          go_roundw
          case rel => exact ⟨k + 1, by omega, by go_num, H8.out, HX2.out⟩
          case measure => simp [intOf]; omega
    · have HS := Lib.hid (show memsTo l l.length by have := HK.out.1; rwa [show k = l.length by have := HN.out; omega] at this)
      have HP := Lib.hid (fun h2 : n ≤ 70 => HF.out HS.out (by have := HN.out; omega))
      go_wp2_with fail
      go_ret
      exact ⟨HK.out.2, decide ((n : Int) ≤ 70), rfl, fun h => HP.out (by have := of_decide_eq_true h; omega)⟩

end Go.Proofs.YtjimgkefacnamaaGreatDoor

/- The example of chapter 10: its bytes, and what reads them. -/
namespace Go.Proofs.YtjimgkefacnamaaGreatDoor
open Go.RowKit Go.Maps Go.ChangeMaps Go.Sort

def exN : ByteArray := ⟨#[102]⟩
def exS : List C.Sym := [(exN, 1, 0)]
def exT : List C.Sec := [(2, ⟨#[0, 0, 0, 0]⟩, [(0, exN)])]
def exO : C.Obj := (exS, exT)
def exBad : C.Obj := ([(exN, 3, 0)], exT)
def exP : ByteArray := ⟨#[97, 47, 98]⟩
theorem path_len {s : ByteArray} (h : okP s = true) : s.size ≤ 128 := by
  unfold okP pathL at h
  simp only [Bool.and_eq_true, decide_eq_true_eq] at h
  have := h.1.1
  simpa using this
theorem okN_ex : okN exN = true := by decide +kernel
theorem okP_ex : okP exP = true := by decide +kernel
theorem ex_check : C.checkB okN exO = true := by decide +kernel
theorem ex_bad : C.checkB okN exBad = false := by decide +kernel
def exB : C.Bs := [54, 58, 111, 98, 106, 101, 99, 116, 44, 49, 59, 49, 58, 102, 44, 49, 59, 49, 59, 49, 59, 50, 59, 52, 58, 0, 0, 0, 0, 44, 49, 59, 48, 59, 48, 59]
theorem ex_enc : C.encObj exO = exB := by
  have e : C.idx exS exN.data.toList = some 0 := by decide +kernel
  have d : ∀ n, n < 10 → C.dec n = [UInt8.ofNat (48 + n)] := fun n h => C.dec_small h
  simp only [C.encObj, exO, exS, exT, C.txt, C.num, C.encSym, C.encSec, C.encRel, List.flatMap_cons, List.flatMap_nil, C.nm, List.length_cons, List.length_nil, List.append_nil]
  rw [show (exN, ((1 : Int), (0 : Int))) :: [] = exS from rfl, e]
  simp only [C.wObject, exN, List.length_cons, List.length_nil, Nat.reduceAdd, Option.getD_some]
  rw [show (0 + 1 : Int).toNat = 1 from rfl, show Int.toNat 2 = 2 from rfl, show Int.toNat 1 = 1 from rfl, show Int.toNat 0 = 0 from rfl]
  rw [d 6 (by decide), d 1 (by decide), d 2 (by decide), d 4 (by decide), d 0 (by decide)]
  rfl
theorem ex_dec : C.decB okN exB = some exO := by
  rw [← ex_enc]
  exact C.decB_print okN (fun _ h => name_len h) ex_check (by rw [ex_enc]; decide)
theorem ex_encV : encV exO = .tuple #[.string ⟨exB.toArray⟩, .int .i64 0] := by
  unfold encV
  rw [if_pos ex_check, ex_enc, if_pos (by decide)]
  rfl
theorem exA_mems : C.memsB okN okP [(exP, exO)] = true := by
  rw [C.memsB_iff]
  refine ⟨by simp, fun i hi => ?_⟩
  obtain rfl : i = 0 := by simp at hi; omega
  exact ⟨okP_ex, ex_check, fun j _ h => absurd h (Nat.not_lt_zero _)⟩
theorem exA_all : ([((exP, exO) : C.Mem)].all fun m => decide ((C.encObj m.2).length ≤ 65536)) = true := by
  simp only [List.all_cons, List.all_nil, Bool.and_true]
  exact decide_eq_true (by show (C.encObj exO).length ≤ 65536; rw [ex_enc]; decide)
theorem dec_le (n : Nat) : (C.dec n).length ≤ n + 1 := by
  induction n using Nat.strongRecOn with
  | _ n ih =>
    by_cases h : n < 10
    · rw [C.dec_small h]; simp
    · rw [C.dec_big h, List.length_append, List.length_singleton]
      have := ih (n / 10) (by omega)
      omega
theorem num_len2 (n : Nat) : (C.num n).length ≤ n + 2 := by
  have := dec_le n
  unfold C.num
  rw [List.length_append, List.length_singleton]
  omega
theorem txt_len2 (s : C.Bs) : (C.txt s).length ≤ 2 * s.length + 3 := by
  have := dec_le s.length
  unfold C.txt
  simp only [List.length_append, List.length_cons, List.length_nil]
  omega
theorem exA_len : (C.encArc [(exP, exO)]).length ≤ 65536 := by
  have e : C.encArc [(exP, exO)] = C.txt C.wArchive ++ (C.num 1 ++ (C.txt exP.data.toList ++ C.txt exB)) := by
    unfold C.encArc
    rw [List.flatMap_cons, List.flatMap_nil, List.append_nil, C.encMem, ex_enc]
    rfl
  have h1 := txt_len2 C.wArchive
  have h2 := num_len2 1
  have h3 := txt_len2 exP.data.toList
  have h4 := txt_len2 exB
  have e1 : C.wArchive.length = 7 := rfl
  have e3 : exP.data.toList.length = 3 := rfl
  have e4 : exB.length = 36 := rfl
  rw [e, List.length_append, List.length_append, List.length_append]
  omega
theorem exA_pack : packV [(exP, exO)] = .tuple #[.string (mkB (C.encArc [(exP, exO)])), .int .i64 0] := by
  unfold packV C.packB
  rw [if_pos exA_mems, if_pos exA_all, if_pos exA_len]
theorem exA_unp : C.unpB okN okP (C.encArc [(exP, exO)]) = some [(exP, exO)] := C.unpB_print okN okP (fun _ h => name_len h) (fun _ h => path_len h) exA_mems exA_all exA_len
theorem nil_pack : packV [] = .tuple #[.string ⟨#[55, 58, 97, 114, 99, 104, 105, 118, 101, 44, 48, 59]⟩, .int .i64 0] := by
  have d : ∀ n, n < 10 → C.dec n = [UInt8.ofNat (48 + n)] := fun n h => C.dec_small h
  have hm : C.memsB okN okP [] = true := by rw [C.memsB_iff]; exact ⟨by simp, fun i hi => absurd hi (Nat.not_lt_zero _)⟩
  have e : C.encArc [] = [55, 58, 97, 114, 99, 104, 105, 118, 101, 44, 48, 59] := by
    unfold C.encArc C.num C.txt
    rw [show C.wArchive.length = 7 from rfl, d 7 (by decide), show ([] : List C.Mem).length = 0 from rfl, d 0 (by decide)]
    rfl
  unfold packV C.packB
  rw [if_pos hm, if_pos (by simp), e, if_pos (by decide)]
  rfl

/-- One element, in a row that was just made. -/
theorem slice_one {α : Type} {r : Rep α} {w w' : World} {B : Nat → Prop} {a : α} {cs : Array Value} {T : TypeId} {g : Nat} (hg : g = w.heap.size) (hB : B g) (hk : Ext (w.alloc (.cells cs T)) w') (h : r.is w' B a cs.toList) : SliceAt r w' B (some ⟨g, 0, none⟩) 1 [a] := by
  subst hg
  refine ⟨by simp, by omega, fun _ => ⟨_, _, rfl, hB, fun i hi => ?_⟩⟩
  obtain rfl : i = 0 := by simp at hi; omega
  refine ⟨cs.toList, h, fun j u hj => ?_⟩
  refine hk.keepc ?_
  rw [Nat.zero_mul, Nat.zero_add, Nat.zero_add, cell_new]
  simpa using hj
def RetEx (w : World) (e : Ending) (w' : World) : Prop :=
  Ext w w' ∧ ∃ A B, e = .returned (.agg #[.slice A 1 1, .slice B 1 1]) ∧ SliceAt symR w' (Old w') A 1 exS ∧ SliceAt secR w' (Old w') B 1 exT
theorem retEx_of (w : World) (o : Obj) : RetEx w (.returned (.agg #[.slice (some ⟨w.heap.size + 1, 0, none⟩) 1 1, .slice (some ⟨w.heap.size + 1 + 1 + 1, 0, none⟩) 1 1]))
    ((((w.alloc o).alloc (.cells #[.string ⟨#[102]⟩, .int .i64 1, .int .i64 0] 29)).alloc (.cells #[.int .i64 0, .string ⟨#[102]⟩] 87)).alloc (.cells #[.int .i64 2, .string ⟨#[0, 0, 0, 0]⟩, .slice (some ⟨w.heap.size + 1 + 1, 0, none⟩) 1 1] 85)) := by
  refine ⟨((((Ext.refl w).alloc _).alloc _).alloc _).alloc _, _, _, rfl, ?_, ?_⟩
  · refine slice_one (w := w.alloc o) (cs := #[.string ⟨#[102]⟩, .int .i64 1, .int .i64 0]) (T := 29) (by simp) (show _ < _ by simp) (((Ext.refl _).alloc _).alloc _) ?_
    exact ⟨[.string ⟨#[102]⟩], [.int .i64 1, .int .i64 0], rfl, ⟨rfl, by decide⟩, [.int .i64 1], [.int .i64 0], rfl, ⟨rfl, by decide⟩, rfl, by decide⟩
  · refine slice_one (w := ((w.alloc o).alloc (.cells #[.string ⟨#[102]⟩, .int .i64 1, .int .i64 0] 29)).alloc (.cells #[.int .i64 0, .string ⟨#[102]⟩] 87)) (cs := #[.int .i64 2, .string ⟨#[0, 0, 0, 0]⟩, .slice (some ⟨w.heap.size + 1 + 1, 0, none⟩) 1 1]) (T := 85) (by simp) (show _ < _ by simp) (Ext.refl _) ?_
    refine ⟨[.int .i64 2], [.string ⟨#[0, 0, 0, 0]⟩, .slice (some ⟨w.heap.size + 1 + 1, 0, none⟩) 1 1], rfl, ⟨rfl, by decide⟩, [.string ⟨#[0, 0, 0, 0]⟩], _, rfl, ⟨rfl, by decide⟩, _, _, rfl, ?_⟩
    refine slice_one (w := (w.alloc o).alloc (.cells #[.string ⟨#[102]⟩, .int .i64 1, .int .i64 0] 29)) (cs := #[.int .i64 0, .string ⟨#[102]⟩]) (T := 87) (by simp) (show _ < _ by simp) ((Ext.refl _).alloc _) ?_
    exact ⟨[.int .i64 0], [.string ⟨#[102]⟩], rfl, ⟨rfl, by decide⟩, rfl, by decide⟩
set_option maxRecDepth 8000 in
set_option maxHeartbeats 2000000 in
theorem example_any (w : World) : Calls Tryz.prog 37 #[] w (RetEx w) := by
  go_enter Tryz.func37, Tryz.ntmps37
  go_wp2_with fail
  exact bodyPost_ret (v := .agg #[.slice (some ⟨w.heap.size + 1, 0, none⟩) 1 1, .slice (some ⟨w.heap.size + 1 + 1 + 1, 0, none⟩) 1 1]) (by simp [results, Tryz.results37, go_sem]) rfl (retEx_of w _)

end Go.Proofs.YtjimgkefacnamaaGreatDoor

/- awake of chapter 10: it returns true. -/
namespace Go.Proofs.YtjimgkefacnamaaGreatDoor
open Go.RowKit Go.Maps Go.ChangeMaps Go.Sort

theorem ex_find : findV exS [102] = .tuple #[.agg #[.string ⟨#[102]⟩, .int .i64 1, .int .i64 0], .bool true] := by
  have e : C.idx exS [102] = some 0 := by decide +kernel
  unfold findV
  rw [e]
  rfl
theorem ex_exports : (expL exS).foldl C.insB [] = [[102]] := by
  have e : expL exS = [[102]] := by decide +kernel
  rw [e]
  decide +kernel
theorem ex_needs : needsL exT 0 = [[102]] := by decide +kernel
theorem ex_sizes : ∀ s ∈ exO.1, s.1.size ≤ 9000000 := by
  intro s hs
  simp only [exO, exS, List.mem_singleton] at hs
  subst hs
  decide
theorem ex_relocs : ∀ s ∈ exT, s.2.2.length ≤ 100000 := by
  intro s hs
  simp only [exT, List.mem_singleton] at hs
  subst hs
  decide
theorem ex_bsizes : ∀ s ∈ exBad.1, s.1.size ≤ 9000000 := by
  intro s hs
  simp only [exBad, List.mem_singleton] at hs
  subst hs
  decide
theorem OwnS.le {w : World} {base n : Nat} {v : Value} {l : List C.Bs} (h : OwnS w base v n l) : n ≤ 9223372036854775807 := by
  obtain ⟨hn, hl, ⟨rfl, rfl⟩ | ⟨g, off, cap, cur, rfl, hb, hh, hnc, hc, hs, hx⟩⟩ := h
  · decide
  · omega
theorem retS_strL {w w' : World} {l : List C.Bs} {e : Ending} (h : RetS w l e w') : Ext w w' ∧ ∃ v, e = .returned v ∧ StrL w' v l := by
  obtain ⟨h1, v, n, rfl, h2⟩ := h
  exact ⟨h1, v, rfl, .of_own h2 h2.le⟩
/-- One string, in a row that was just made. -/
theorem strL_one {w w' : World} {s : ByteArray} {g : Nat} (hg : g = w.heap.size) (hk : Ext (w.alloc (.cells #[.string s] 9)) w') : StrL w' (.slice (some ⟨g, 0, none⟩) 1 1) [s.data.toList] := by
  subst hg
  refine ⟨_, _, _, rfl, rfl, by decide, fun j hj => ⟨_, _, s, rfl, ?_, fun w2 h2 => ?_⟩⟩
  · obtain rfl : j = 0 := by simp at hj; omega
    rfl
  · obtain rfl : j = 0 := by simp at hj; omega
    exact h2.keepc (hk.keepc (cell_new w #[.string s] 9 0))
theorem SliceAt.newOld {α : Type} {r : Rep α} {w w' : World} {A : Option Addr} {c : Nat} {l : List α} (h : SliceAt r w' (New w w') A c l) : SliceAt r w' (Old w') A c l := h.sub fun _ hk => hk.2

set_option maxRecDepth 100000 in
set_option maxHeartbeats 8000000 in
theorem awake_any (w : World) (hg : Gl w) : Calls Tryz.prog 10 #[] w (Al (.bool true) w) := by
  have HG := Lib.hid hg
  clear hg
  obtain ⟨sE, hsE⟩ : ∃ s : ByteArray, s = ⟨exB.toArray⟩ := ⟨_, rfl⟩
  have hsl : sE.toList = [54, 58, 111, 98, 106, 101, 99, 116, 44, 49, 59, 49, 58, 102, 44, 49, 59, 49, 59, 49, 59, 50, 59, 52, 58, 0, 0, 0, 0, 44, 49, 59, 48, 59, 48, 59] := by rw [hsE, ByteArray.toList_eq]; rfl
  have hsd : sE.data.toList = exB := by rw [hsE]
  have hen : encV exO = .tuple #[.string sE, .int .i64 0] := by rw [hsE]; exact ex_encV
  have hsz : sE.size ≤ 9000000000000000000 := by rw [hsE]; decide
  obtain ⟨p0, hp0⟩ : ∃ s : ByteArray, s = ⟨#[55, 58, 97, 114, 99, 104, 105, 118, 101, 44, 48, 59]⟩ := ⟨_, rfl⟩
  have hpl : p0.toList = [55, 58, 97, 114, 99, 104, 105, 118, 101, 44, 48, 59] := by rw [hp0, ByteArray.toList_eq]
  have hpn : packV [] = .tuple #[.string p0, .int .i64 0] := by rw [hp0]; exact nil_pack
  obtain ⟨pA, hpA⟩ : ∃ s : ByteArray, s = mkB (C.encArc [(exP, exO)]) := ⟨_, rfl⟩
  have hpa : packV [(exP, exO)] = .tuple #[.string pA, .int .i64 0] := by rw [hpA]; exact exA_pack
  have hpd : pA.data.toList = C.encArc [(exP, exO)] := by rw [hpA, mkB_data]
  have hpz : pA.size ≤ 9000000000000000000 := by have := exA_len; rw [hpA, mkB_size]; omega
  have HSD := Lib.hid hsd
  have HEN := Lib.hid hen
  have HPN := Lib.hid hpn
  have HPA := Lib.hid hpa
  have HPD := Lib.hid hpd
  have HSL := Lib.hid hsl
  have HPL := Lib.hid hpl
  clear hsE hsd hen hp0 hpn hpA hpa hpd hsl hpl
  go_enter Tryz.func10, Tryz.ntmps10
  go_wp2_with fail
  refine (example_any _).mono ?_
  rintro e w1 ⟨d1, A, B, rfl, hS, hT⟩
  obtain ⟨W2, hW2⟩ : ∃ W2, W2 = w1.alloc (.cells #[.slice A 1 1, .slice B 1 1] 25) := ⟨_, rfl⟩
  have a0 : W2.cell? ⟨w1.heap.size, 0, none⟩ = some (.slice A 1 1) := by rw [hW2]; exact cell_new w1 #[.slice A 1 1, .slice B 1 1] 25 0
  have a1 : W2.cell? ⟨w1.heap.size, 1, none⟩ = some (.slice B 1 1) := by rw [hW2]; exact cell_new w1 #[.slice A 1 1, .slice B 1 1] 25 1
  have E2 : Ext w1 W2 := by rw [hW2]; exact (Ext.refl w1).alloc _
  have HX2 := Lib.hid (d1.trans E2)
  have HS := Lib.hid (hS.ext E2)
  have HT := Lib.hid (hT.ext E2)
  have KA0 := Lib.hid a0
  have KA1 := Lib.hid a1
  have HENC := Lib.hid (fun W (h : Ext W2 W) => Encode_any exO A B 1 1 1 1 W rfl (HS.out.ext h) rfl (HT.out.ext h) ex_sizes (HG.out.ext (HX2.out.trans h)))
  rw [HEN.out] at HENC
  have HDEC := Lib.hid (fun W (h : Ext W2 W) => Decode_any sE W hsz (HG.out.ext (HX2.out.trans h)))
  rw [HSD.out, ex_dec] at HDEC
  have HPK0 := Lib.hid (fun W (h : Ext W2 W) => Pack_any [] none 0 0 W rfl (SliceAt.nil _ _ _ _ _ (by decide)) (fun _ h => by cases h) (by decide) (HG.out.ext (HX2.out.trans h)))
  rw [HPN.out] at HPK0
  have HUNP := Lib.hid (fun W (h : Ext W2 W) => Unpack_any pA W hpz (HG.out.ext (HX2.out.trans h)))
  rw [HPD.out, exA_unp] at HUNP
  have HFND := Lib.hid (fun W (h : Ext W2 W) => Find_any exS A B 1 1 1 1 ⟨#[102]⟩ W rfl (HS.out.ext h) (by decide))
  rw [show (⟨#[102]⟩ : ByteArray).data.toList = [102] from rfl, ex_find] at HFND
  clear d1 hS hT E2 HEN HSD HPN HPD
  go_wp2_with fail
  rw [← hW2]
  clear hW2
  refine (HENC.out _ (Ext.refl _)).mono ?_
  rintro e w3 ⟨rfl, d3⟩
  have HX3 := Lib.hid d3
  clear d3 a0 a1
  go_wp2_with fail
  refine (HDEC.out _ HX3.out).mono ?_
  rintro e w4 ⟨d4, A2, n2, c2, B2, m2, dd2, rfl, hn2, hm2, hS2, hT2⟩
  obtain rfl : n2 = 1 := hn2
  obtain rfl : m2 = 1 := hm2
  obtain ⟨W5, hW5⟩ : ∃ W5, W5 = w4.alloc (.cells #[.slice A2 1 c2, .slice B2 1 dd2] 25) := ⟨_, rfl⟩
  have p0' : W5.cell? ⟨w4.heap.size, 0, none⟩ = some (.slice A2 1 c2) := by rw [hW5]; exact cell_new w4 #[.slice A2 1 c2, .slice B2 1 dd2] 25 0
  have p1' : W5.cell? ⟨w4.heap.size, 1, none⟩ = some (.slice B2 1 dd2) := by rw [hW5]; exact cell_new w4 #[.slice A2 1 c2, .slice B2 1 dd2] 25 1
  have E5 : Ext w4 W5 := by rw [hW5]; exact (Ext.refl w4).alloc _
  have HX5 := Lib.hid ((HX3.out.trans d4).trans E5)
  have HS2 := Lib.hid (hS2.newOld.ext E5)
  have HT2 := Lib.hid (hT2.newOld.ext E5)
  have KP0 := Lib.hid p0'
  have KP1 := Lib.hid p1'
  clear d4 hS2 hT2 E5 p0' p1' HX3
  go_wp2_with fail
  rw [← hW5]
  clear hW5
  refine (HPK0.out _ HX5.out).mono ?_
  rintro e w6 ⟨rfl, d6⟩
  have HX6 := Lib.hid d6
  have a0 := (HX5.out.trans d6).keepc KA0.out
  have a1 := (HX5.out.trans d6).keepc KA1.out
  obtain ⟨W7, hW7⟩ : ∃ W7, W7 = w6.alloc (.cells #[.string ⟨#[97, 47, 98]⟩, .slice A 1 1, .slice B 1 1] 52) := ⟨_, rfl⟩
  have E7 : Ext w6 W7 := by rw [hW7]; exact (Ext.refl w6).alloc _
  have HX7 := Lib.hid (d6.trans E7)
  have HM : Hid (SliceAt memR W7 (Old W7) (some ⟨w6.heap.size, 0, none⟩) 1 [(exP, exO)]) := by
    unfold Hid
    refine slice_one (w := w6) (cs := #[.string ⟨#[97, 47, 98]⟩, .slice A 1 1, .slice B 1 1]) (T := 52) rfl (show _ < _ by rw [hW7]; simp) (by rw [← hW7]; exact Ext.refl _) ?_
    exact memR_is (s := ⟨#[97, 47, 98]⟩) (o := exO) (by decide) rfl (HS.out.ext (HX5.out.trans HX7.out)) rfl (HT.out.ext (HX5.out.trans HX7.out))
  have HPKA := Lib.hid (fun W (h : Ext W7 W) => Pack_any [(exP, exO)] (some ⟨w6.heap.size, 0, none⟩) 1 1 W rfl (HM.out.ext h) (fun m hm => by simp only [List.mem_singleton] at hm; subst hm; exact ⟨by decide, ex_sizes⟩) (by decide) (HG.out.ext (HX2.out.trans ((HX5.out.trans HX7.out).trans h))))
  rw [HPA.out] at HPKA
  clear d6 E7 HX6 HPA
  go_wp2_with fail
  rw [← hW7]
  clear hW7 a0 a1
  refine (HPKA.out _ (Ext.refl _)).mono ?_
  rintro e w8 ⟨rfl, d8⟩
  have HX8 := Lib.hid (HX7.out.trans d8)
  clear d8 HPKA
  go_wp2_with fail
  refine (HUNP.out _ (HX5.out.trans HX8.out)).mono ?_
  rintro e w9 ⟨d9, A3, n3, c3, rfl, hn3, hM3⟩
  obtain rfl : n3 = 1 := hn3
  have HX9 := Lib.hid (HX8.out.trans d9)
  have a0 := (HX5.out.trans HX9.out).keepc KA0.out
  have a1 := (HX5.out.trans HX9.out).keepc KA1.out
  clear d9 hM3 HX8 HX7
  go_wp2_with fail
  refine (HFND.out _ (HX5.out.trans HX9.out)).mono ?_
  rintro e w10 ⟨rfl, d10⟩
  have HX10 := Lib.hid (HX9.out.trans d10)
  clear d10 a0 a1 HX9
  have EX := Lib.hid (HX2.out.trans (HX5.out.trans HX10.out))
  obtain ⟨W, hW⟩ : ∃ W, W = ((w10.alloc (.cells #[.string ⟨#[102]⟩, .int .i64 1, .int .i64 0] 29)).alloc (.cells #[.slice (some ⟨w10.heap.size + 1 + 1, 0, none⟩) 1 1, .slice B 1 1] 25)).alloc (.cells #[.string ⟨#[102]⟩, .int .i64 3, .int .i64 0] 29) := ⟨_, rfl⟩
  have E10 : Ext w10 W := by rw [hW]; exact (((Ext.refl w10).alloc _).alloc _).alloc _
  have a0 := E10.keepc ((HX5.out.trans HX10.out).keepc KA0.out)
  have a1 := E10.keepc ((HX5.out.trans HX10.out).keepc KA1.out)
  have b0 := E10.keepc (HX10.out.keepc KP0.out)
  have b1 := E10.keepc (HX10.out.keepc KP1.out)
  have x1 : W.cell? ⟨w10.heap.size, 1, none⟩ = some (.int .i64 1) := by
    rw [hW]
    exact (((Ext.refl _).alloc _).alloc _).keepc (cell_new w10 #[.string ⟨#[102]⟩, .int .i64 1, .int .i64 0] 29 1)
  have y0 : W.cell? ⟨w10.heap.size + 1, 0, none⟩ = some (.slice (some ⟨w10.heap.size + 1 + 1, 0, none⟩) 1 1) := by
    rw [hW]
    refine ((Ext.refl _).alloc _).keepc ?_
    simp
  have y1 : W.cell? ⟨w10.heap.size + 1, 1, none⟩ = some (.slice B 1 1) := by
    rw [hW]
    refine ((Ext.refl _).alloc _).keepc ?_
    simp
  have HBD : Hid (SliceAt symR W (Old W) (some ⟨w10.heap.size + 1 + 1, 0, none⟩) 1 exBad.1) := by
    unfold Hid
    refine slice_one (w := (w10.alloc (.cells #[.string ⟨#[102]⟩, .int .i64 1, .int .i64 0] 29)).alloc (.cells #[.slice (some ⟨w10.heap.size + 1 + 1, 0, none⟩) 1 1, .slice B 1 1] 25)) (cs := #[.string ⟨#[102]⟩, .int .i64 3, .int .i64 0]) (T := 29) (by simp) (show _ < _ by rw [hW]; simp) (by rw [← hW]; exact Ext.refl _) ?_
    exact ⟨[.string ⟨#[102]⟩], [.int .i64 3, .int .i64 0], rfl, ⟨rfl, by decide⟩, [.int .i64 3], [.int .i64 0], rfl, ⟨rfl, by decide⟩, rfl, by decide⟩
  have E2W := Lib.hid ((HX5.out.trans HX10.out).trans E10)
  have E5W := Lib.hid (HX10.out.trans E10)
  have HWW := Lib.hid ((HX2.out.trans (HX5.out.trans HX10.out)).trans E10)
  have HSAME := Lib.hid (fun V (h : Ext W V) => Same_refl exO A A2 B B2 1 c2 1 dd2 1 1 V rfl (HS.out.ext (E2W.out.trans h)) (HS2.out.ext (E5W.out.trans h)) rfl (HT.out.ext (E2W.out.trans h)) (HT2.out.ext (E5W.out.trans h)))
  have HEXP := Lib.hid (fun V (h : Ext W V) => Exports_any exS A B 1 1 1 1 V rfl (HS.out.ext (E2W.out.trans h)) (by decide))
  rw [ex_exports] at HEXP
  have HNEE := Lib.hid (fun V (h : Ext W V) => Needs_any exT A B 1 1 1 1 0 V rfl (HT.out.ext (E2W.out.trans h)) (by decide) ex_relocs)
  rw [ex_needs] at HNEE
  have HCHK := Lib.hid (fun V (h : Ext W V) => Check_any exO A B 1 1 1 1 V rfl (HS.out.ext (E2W.out.trans h)) rfl (HT.out.ext (E2W.out.trans h)) ex_sizes)
  rw [ex_check, show chk true = 0 from rfl] at HCHK
  have HCHB := Lib.hid (fun V (h : Ext W V) => Check_any exBad (some ⟨w10.heap.size + 1 + 1, 0, none⟩) B 1 1 1 1 V rfl (HBD.out.ext h) rfl (HT.out.ext (E2W.out.trans h)) ex_bsizes)
  rw [ex_bad, show chk false = 1 from rfl] at HCHB
  have z0 := alloc_keepc (.cells #[.string ⟨#[102]⟩, .int .i64 1, .int .i64 0] 29) ((HX5.out.trans HX10.out).keepc KA0.out)
  have z1 := alloc_keepc (.cells #[.string ⟨#[102]⟩, .int .i64 1, .int .i64 0] 29) ((HX5.out.trans HX10.out).keepc KA1.out)
  have KA0' := Lib.hid a0
  have KA1' := Lib.hid a1
  have KY0 := Lib.hid y0
  have KY1 := Lib.hid y1
  have KX1 := Lib.hid x1
  have KB0 := Lib.hid b0
  have KB1 := Lib.hid b1
  have HW := Lib.hid hW
  clear E10 a0 a1 b0 b1 x1 y0 y1 HX2 HX5 HX10 KA0 KA1 KP0 KP1 HENC HDEC HPK0 HUNP HFND HS HT HS2 HT2 HM HBD E2W E5W
  have a0 := KA0'.out
  have a1 := KA1'.out
  have b0 := KB0.out
  have b1 := KB1.out
  rw [hW] at a0 a1 b0 b1
  have hsl := HSL.out
  have hpl := HPL.out
  clear hW
  go_wp2_with fail
  rw [← HW.out]
  clear a0 a1 b0 b1 z0 z1
  refine (HSAME.out _ (Ext.refl _)).mono ?_
  rintro e w11 ⟨rfl, d11⟩
  have H11 := Lib.hid d11
  have a0 := d11.keepc KA0'.out
  have a1 := d11.keepc KA1'.out
  have x1 := d11.keepc KX1.out
  clear d11
  go_wp2_with fail
  refine (HEXP.out _ H11.out).mono ?_
  intro e w12 hr
  obtain ⟨d12, v12, rfl, hv12⟩ := retS_strL hr
  have H12 := Lib.hid (H11.out.trans d12)
  have HV12 := Lib.hid hv12
  clear hr d12 hv12 a0 a1 x1 H11
  go_wp2_with fail
  obtain ⟨W13, hW13⟩ : ∃ W13, W13 = w12.alloc (.cells #[.string ⟨#[102]⟩] 9) := ⟨_, rfl⟩
  rw [← hW13]
  have E13 : Ext w12 W13 := by rw [hW13]; exact (Ext.refl _).alloc _
  have H13 := Lib.hid (H12.out.trans E13)
  have HEQ := Lib.hid (EqualS_refl [[102]] v12 (.slice (some ⟨w12.heap.size, 0, none⟩) 1 1) W13 (HV12.out.ext E13) (strL_one (s := ⟨#[102]⟩) rfl (by rw [← hW13]; exact Ext.refl _)))
  clear E13 hW13 H12 HV12
  refine HEQ.out.mono ?_
  rintro e w14 ⟨rfl, d14⟩
  have H14 := Lib.hid (H13.out.trans d14)
  clear d14 H13 HEQ
  have a0 := H14.out.keepc KA0'.out
  have a1 := H14.out.keepc KA1'.out
  go_wp2_with fail
  refine (HNEE.out _ H14.out).mono ?_
  intro e w15 hr
  obtain ⟨d15, v15, rfl, hv15⟩ := retS_strL hr
  have H15 := Lib.hid (H14.out.trans d15)
  have HV15 := Lib.hid hv15
  clear hr d15 hv15 a0 a1 H14
  go_wp2_with fail
  obtain ⟨W16, hW16⟩ : ∃ W13, W13 = w15.alloc (.cells #[.string ⟨#[102]⟩] 9) := ⟨_, rfl⟩
  rw [← hW16]
  have E16 : Ext w15 W16 := by rw [hW16]; exact (Ext.refl _).alloc _
  have H16 := Lib.hid (H15.out.trans E16)
  have HEQ := Lib.hid (EqualS_refl [[102]] v15 (.slice (some ⟨w15.heap.size, 0, none⟩) 1 1) W16 (HV15.out.ext E16) (strL_one (s := ⟨#[102]⟩) rfl (by rw [← hW16]; exact Ext.refl _)))
  clear E16 hW16 H15 HV15
  refine HEQ.out.mono ?_
  rintro e w17 ⟨rfl, d17⟩
  have H17 := Lib.hid (H16.out.trans d17)
  clear d17 H16 HEQ
  have a0 := H17.out.keepc KA0'.out
  have a1 := H17.out.keepc KA1'.out
  go_wp2_with fail
  refine (HCHK.out _ H17.out).mono ?_
  rintro e w18 ⟨rfl, d18⟩
  have H18 := Lib.hid (H17.out.trans d18)
  clear d18 H17 a0 a1
  have y0 := H18.out.keepc KY0.out
  have y1 := H18.out.keepc KY1.out
  go_wp2_with fail
  refine (HCHB.out _ H18.out).mono ?_
  rintro e w19 ⟨rfl, d19⟩
  have H19 := Lib.hid (H18.out.trans d19)
  clear d19 H18 y0 y1
  go_wp2_with fail
  go_ret
  exact ⟨rfl, HWW.out.trans H19.out⟩

end Go.Proofs.YtjimgkefacnamaaGreatDoor
