/- The texts Nc of the seat, joined. -/
import Derived.Test.YtclhbcicbnoohaaGreatDoorG15
import Derived.BigQuiet
/- tree.Differ. -/
namespace Go.Proofs.YtclhbcicbnoohaaGreatDoor
open Go.RowKit

set_option maxRecDepth 100000 in
set_option maxHeartbeats 2000000 in
theorem Differ_any (t s : T.Tr) (A B : Option Addr) (c c' n m : Nat) (w : World) (hn : n = t.length) (hm : m = s.length) (hA : SliceAt fileR w (Old w) A c t) (hB : SliceAt fileR w (Old w) B c' s) (hp : ∀ f ∈ t, f.1.size ≤ 1000000) (hq : ∀ f ∈ s, f.1.size ≤ 1000000) (hgl : Gl w) :
    Calls Tryz.prog 38 #[.slice A n c, .slice B m c'] w (RetCh w (T.differE t s)) := by
  obtain ⟨i0, hi, hz0, hz1, hz2⟩ := info_parts ch_info
  have hck : Hid (Calls Tryz.prog 24 #[.slice A n c] w (Al (.int .i64 (T.checkE okB t)) w)) := Check_any t A c n w hn hA hp hgl
  have hckB : Hid (∀ W, Ext w W → Calls Tryz.prog 24 #[.slice B m c'] W (Al (.int .i64 (T.checkE okB s)) W)) := fun W hW => Check_any s B c' m W hm (hB.ext hW) hq (hgl.ext hW)
  have HFI : Hid (∀ x W, x.size ≤ 100000000000 → Calls Tryz.prog 68 #[.string x] W (Al (.string (fidB x)) W)) := fun x W hx => fileID_any x W hx
  have hn63 : n ≤ 9223372036854775807 := by have := hA.1; have := hA.2.1; omega
  have hm63 : m ≤ 9223372036854775807 := by have := hB.1; have := hB.2.1; omega
  obtain ⟨Z, hZ⟩ : ∃ Z, Z = T.differE t s := ⟨_, rfl⟩
  rw [← hZ]
  have HZ := Lib.hid hZ
  have HN := Lib.hid hn
  have HM := Lib.hid hm
  have HA := Lib.hid hA
  have HB := Lib.hid hB
  clear hZ hn hA hp hm hB hq hgl
  by_cases h0 : T.checkE okB t = 0
  · rw [h0] at hck
    have hok := checkE_ok h0
    by_cases h1 : T.checkE okB s = 0
    · rw [h1] at hckB
      have hokB := checkE_ok h1
      have hn64 : n ≤ 64 := by rw [HN.out]; exact hok.few
      have hm64 : m ≤ 64 := by rw [HM.out]; exact hokB.few
      have HZ2 : Hid (Z = (T.diffT (fun l => fidB (T.mkF l)) t s, 0)) := by unfold Hid; rw [HZ.out, T.differE, if_pos ⟨h0, h1⟩]
      have HOK := Lib.hid hok
      have HOKB := Lib.hid hokB
      clear HZ hok hokB h0 h1
      go_enter Tryz.func38, Tryz.ntmps38
      go_wp2_with fail
      refine hck.out.mono ?_
      rintro e w1 ⟨rfl, d1⟩
      go_wp2_with fail
      refine (hckB.out _ d1).mono ?_
      rintro e w2 ⟨rfl, d2⟩
      have X2 := Lib.hid (d1.trans d2)
      clear d1 d2
      go_wp2_with fail
      go_loopw [7, 8, 6] (fun i j v wr => ∃ k l : Nat, k ≤ n ∧ l ≤ m ∧ i = .int .i64 k ∧ j = .int .i64 l ∧ ∃ out : List T.Ch, OwnCh wr w.heap.size v out ∧ out.length ≤ k + l ∧ Hid (out ++ T.diffT (fun l => fidB (T.mkF l)) (t.drop k) (s.drop l) = T.diffT (fun l => fidB (T.mkF l)) t s) ∧ Hid (Ext w wr)) (fun i j _ _ => n + m - (intOf i).toNat - (intOf j).toNat)
      case atStart => exact ⟨0, 0, Nat.zero_le _, Nat.zero_le _, rfl, rfl, [], own_ch_nil _ _, Nat.zero_le _, rfl, X2.out⟩
      case round =>
        obtain ⟨k, l, hk, hl, rfl, rfl, out, hown, hol, HO, HX⟩ := hrel
        by_cases hlt : k < n
        · have hkl : k < t.length := by rw [← HN.out]; exact hlt
          obtain ⟨b, off, hAe, hba, wa0, wa1, za1, za2⟩ := file_get HA.out hkl
          subst hAe
          rw [← Nat.add_assoc] at wa1
          have ca0 := HX.out.keepc wa0
          have ca1 := HX.out.keepc wa1
          have HDS : Hid (t[k].2.size ≤ 100000000000) := by have := HOK.out.size t[k] (List.getElem_mem hkl); unfold Hid; omega
          obtain ⟨q, Ao, co, hq, rfl, hown'⟩ := own_ch_q hown
          have HQ := Lib.hid hq
          have hql : q ≤ 128 := by omega
          clear hown hq
          by_cases hlm : l < m
          · have hll : l < s.length := by rw [← HM.out]; exact hlm
            obtain ⟨b2, off2, hBe, hbb, wb0, wb1, zb1, zb2⟩ := file_get HB.out hll
            subst hBe
            rw [← Nat.add_assoc] at wb1
            have cb0 := HX.out.keepc wb0
            have cb1 := HX.out.keepc wb1
            have HDG : Hid (s[l].2.size ≤ 100000000000) := by have := HOKB.out.size s[l] (List.getElem_mem hll); unfold Hid; omega
            have hn1 : ((l : Int) == (m : Int)) = false := by simp; omega
            have hn2 : ((k : Int) == (n : Int)) = false := by simp; omega
            have hn3 : decide ((l : Int) = (m : Int)) = false := by simp; omega
            have hn4 : decide ((k : Int) = (n : Int)) = false := by simp; omega
            by_cases hw1 : T.pth t[k] < T.pth s[l]
            · have HST := Lib.hid (diff_rem (fun l => fidB (T.mkF l)) t s (i := k) (j := l) hkl (.inr ⟨hll, hw1⟩))
              have hc1 : Op.bytesLess t[k].1.toList s[l].1.toList = true := by rw [less_dec]; exact decide_eq_true hw1
              clear hw1
              generalize t[k] = f at *
              obtain ⟨fp, fd⟩ := f
              simp only at ca0 ca1 wa0 wa1 za1 za2 HDS hc1
              generalize s[l] = g at *
              obtain ⟨gp, gd⟩ := g
              simp only at cb0 cb1 wb0 wb1 zb1 zb2 HDG hc1
              go_wp2_with fail
              go_quiet (fail)
              obtain ⟨W1, hW1⟩ : ∃ W1, W1 = wr.drewN nq := ⟨_, rfl⟩
              have HEW1 : Hid (Ext wr W1) := by rw [hW1]; exact (Ext.refl wr).drewN _
              rw [← hW1]
              clear hW1 nq
              have ca0W1 := HEW1.out.keepc ca0
              have ca1W1 := HEW1.out.keepc ca1
              have cb0W1 := HEW1.out.keepc cb0
              have cb1W1 := HEW1.out.keepc cb1
              go_wp2_with fail
              have hown5 := hown'.ext HEW1.out
              obtain ⟨Φ, hΦ⟩ : ∃ Φ : World → Prop, ∀ x, Φ x ↔ Ext w x := ⟨_, fun _ => Iff.rfl⟩
              have h0 : Φ W1.drew := (hΦ _).2 ((HX.out.trans HEW1.out).drew)
              have fa0 : ∀ x : Lat Φ, x.w'.cell? ⟨b, off + k * 2, none⟩ = some (.string fp) := fun x => ((hΦ _).1 x.h).keepc wa0
              have fa1 : ∀ x : Lat Φ, x.w'.cell? ⟨b, off + k * 2 + 1, none⟩ = some (.string fd) := fun x => ((hΦ _).1 x.h).keepc wa1
              have hne' := Lat.some h0
              have HΦ := Lib.hid hΦ
              clear hΦ
              refine wp_region_lat [11, 13, 14] Φ h0 (by kernel_rfl) (by kernel_rfl) (by kernel_rfl) ?_
              iterate 11 (refine lex_pure rfl rfl rfl ?_; intro K hK; go_big_quiet_op; go_big_quiet_on)
              refine lex_eff rfl ?_
              have HE6 : Hid (Ext wr W1.drew) := HEW1.out.drew
              have hown6 : OwnAt W1.drew w.heap.size 59 4 (.slice Ao q co) q (ccells out) := hown5.dr ⟨1, rfl⟩
              generalize W1.drew = w6 at hown6 HE6 h0 ⊢
              go_wp2_with fail
              refine (HFI.out fd _ HDS.out).mono ?_
              rintro e w7 ⟨rfl, d7⟩
              go_wp2_with fail
              have HE7 : Hid (Ext wr w7) := HE6.out.trans d7
              have hown7 := hown6.ext d7
              clear hown6 hown5
              refine ⟨⟨⟨_, (HΦ.out w7).2 (HX.out.trans HE7.out)⟩, rfl⟩, ?_⟩
              refine lex_pure rfl rfl rfl ?_; intro K hK; go_big_quiet_op; go_big_quiet_on
              refine lex_eff rfl ?_
              go_wp2_with fail
              refine ⟨⟨⟨_, (HΦ.out _).2 ((HX.out.trans HE7.out).alloc _)⟩, rfl⟩, ?_⟩
              refine lex_eff rfl ?_
              refine wpList_append_ownAt _ rfl (.tmp 87) (.tmp 100) 54 rfl w.heap.size 59 i0 (.agg #[.string ⟨#[]⟩, .int .i64 0, .string ⟨#[]⟩, .string ⟨#[]⟩]) 4 56 Tryz.underlying54 hi hz0 hz1 hz2 rfl (by decide) _ _ _ rfl (hown7.alloc _) ⟨_, 0, none⟩ 1 1 (ccells [(fp, 2, fidB fd, ⟨#[]⟩)]) rfl rfl (cells_ch_at _ _ _ (by simp)) (ccells_one _) (by unfold maxLen; omega) (by omega) (Nat.le_trans (HX.out.trans HE7.out).size (by simp)) (by decide) ?_
              intro v4 w4 hown4 hg4 hold4 _
              go_wp2_with fail
              have e4 : Ext w w4 := ((HX.out.trans HE7.out).alloc _).grown hold4 hg4
              refine ⟨⟨⟨_, (HΦ.out w4).2 e4⟩, rfl⟩, ?_⟩
              repeat (refine lex_pure rfl rfl rfl ?_; intro K hK; go_big_quiet_op; go_big_quiet_on)
              refine lex_nil ?_
              clear fa0 fa1 hne'
              go_wp2_with fail
              go_roundw
              case rel => exact ⟨k + 1, l, by omega, by omega, by go_num, by go_num, _, own_ch_snoc HQ.out hown4, by rw [List.length_append, List.length_singleton]; omega, by unfold Hid; rw [← HO.out, HST.out, List.append_assoc]; rfl, e4⟩
              case measure => simp [intOf]; omega
            · by_cases hw2 : T.pth s[l] < T.pth t[k]
              · have HST := Lib.hid (diff_add (fun l => fidB (T.mkF l)) t s (i := k) (j := l) hll (.inr ⟨hkl, hw2⟩))
                have hc1 : Op.bytesLess t[k].1.toList s[l].1.toList = false := by rw [less_dec]; exact decide_eq_false hw1
                have hc2 : Op.bytesLess s[l].1.toList t[k].1.toList = true := by rw [less_dec]; exact decide_eq_true hw2
                have hc5 : (t[k].1.toList == s[l].1.toList) = false := by rw [eq_dec]; exact decide_eq_false fun e => hw1.elim (absurd (show T.pth s[l] < T.pth s[l] from (show T.pth t[k] = T.pth s[l] from e) ▸ hw2) (List.lt_irrefl _))
                clear hw1 hw2
                generalize t[k] = f at *
                obtain ⟨fp, fd⟩ := f
                simp only at ca0 ca1 wa0 wa1 za1 za2 HDS hc5 hc1 hc2
                generalize s[l] = g at *
                obtain ⟨gp, gd⟩ := g
                simp only at cb0 cb1 wb0 wb1 zb1 zb2 HDG hc5 hc1 hc2
                go_wp2_with fail
                go_quiet (fail)
                obtain ⟨W1, hW1⟩ : ∃ W1, W1 = wr.drewN nq := ⟨_, rfl⟩
                have HEW1 : Hid (Ext wr W1) := by rw [hW1]; exact (Ext.refl wr).drewN _
                rw [← hW1]
                clear hW1 nq
                have ca0W1 := HEW1.out.keepc ca0
                have ca1W1 := HEW1.out.keepc ca1
                have cb0W1 := HEW1.out.keepc cb0
                have cb1W1 := HEW1.out.keepc cb1
                go_wp2_with fail
                go_quiet (fail)
                obtain ⟨W2, hW2⟩ : ∃ W2, W2 = W1.drewN nq := ⟨_, rfl⟩
                have HEW2 : Hid (Ext wr W2) := by rw [hW2]; exact HEW1.out.trans ((Ext.refl W1).drewN _)
                rw [← hW2]
                clear hW2 nq
                have ca0W2 := HEW2.out.keepc ca0
                have ca1W2 := HEW2.out.keepc ca1
                have cb0W2 := HEW2.out.keepc cb0
                have cb1W2 := HEW2.out.keepc cb1
                go_wp2_with fail
                have hown5 := hown'.ext HEW2.out
                obtain ⟨Φ, hΦ⟩ : ∃ Φ : World → Prop, ∀ x, Φ x ↔ Ext w x := ⟨_, fun _ => Iff.rfl⟩
                have h0 : Φ W2.drew := (hΦ _).2 ((HX.out.trans HEW2.out).drew)
                have fb0 : ∀ x : Lat Φ, x.w'.cell? ⟨b2, off2 + l * 2, none⟩ = some (.string gp) := fun x => ((hΦ _).1 x.h).keepc wb0
                have fb1 : ∀ x : Lat Φ, x.w'.cell? ⟨b2, off2 + l * 2 + 1, none⟩ = some (.string gd) := fun x => ((hΦ _).1 x.h).keepc wb1
                have hne' := Lat.some h0
                have HΦ := Lib.hid hΦ
                clear hΦ
                refine wp_region_lat [11, 13, 14] Φ h0 (by kernel_rfl) (by kernel_rfl) (by kernel_rfl) ?_
                iterate 11 (refine lex_pure rfl rfl rfl ?_; intro K hK; go_big_quiet_op; go_big_quiet_on)
                refine lex_eff rfl ?_
                have HE6 : Hid (Ext wr W2.drew) := HEW2.out.drew
                have hown6 : OwnAt W2.drew w.heap.size 59 4 (.slice Ao q co) q (ccells out) := hown5.dr ⟨1, rfl⟩
                generalize W2.drew = w6 at hown6 HE6 h0 ⊢
                go_wp2_with fail
                refine (HFI.out gd _ HDG.out).mono ?_
                rintro e w7 ⟨rfl, d7⟩
                go_wp2_with fail
                have HE7 : Hid (Ext wr w7) := HE6.out.trans d7
                have hown7 := hown6.ext d7
                clear hown6 hown5
                refine ⟨⟨⟨_, (HΦ.out w7).2 (HX.out.trans HE7.out)⟩, rfl⟩, ?_⟩
                refine lex_pure rfl rfl rfl ?_; intro K hK; go_big_quiet_op; go_big_quiet_on
                refine lex_eff rfl ?_
                go_wp2_with fail
                refine ⟨⟨⟨_, (HΦ.out _).2 ((HX.out.trans HE7.out).alloc _)⟩, rfl⟩, ?_⟩
                refine lex_eff rfl ?_
                refine wpList_append_ownAt _ rfl (.tmp 122) (.tmp 135) 54 rfl w.heap.size 59 i0 (.agg #[.string ⟨#[]⟩, .int .i64 0, .string ⟨#[]⟩, .string ⟨#[]⟩]) 4 56 Tryz.underlying54 hi hz0 hz1 hz2 rfl (by decide) _ _ _ rfl (hown7.alloc _) ⟨_, 0, none⟩ 1 1 (ccells [(gp, 1, ⟨#[]⟩, fidB gd)]) rfl rfl (cells_ch_at _ _ _ (by simp)) (ccells_one _) (by unfold maxLen; omega) (by omega) (Nat.le_trans (HX.out.trans HE7.out).size (by simp)) (by decide) ?_
                intro v4 w4 hown4 hg4 hold4 _
                go_wp2_with fail
                have e4 : Ext w w4 := ((HX.out.trans HE7.out).alloc _).grown hold4 hg4
                refine ⟨⟨⟨_, (HΦ.out w4).2 e4⟩, rfl⟩, ?_⟩
                repeat (refine lex_pure rfl rfl rfl ?_; intro K hK; go_big_quiet_op; go_big_quiet_on)
                refine lex_nil ?_
                clear fb0 fb1 hne'
                go_wp2_with fail
                go_roundw
                case rel => exact ⟨k, l + 1, by omega, by omega, by go_num, by go_num, _, own_ch_snoc HQ.out hown4, by rw [List.length_append, List.length_singleton]; omega, by unfold Hid; rw [← HO.out, HST.out, List.append_assoc]; rfl, e4⟩
                case measure => simp [intOf]; omega
              · have HST := Lib.hid (diff_both (fun l => fidB (T.mkF l)) t s (i := k) (j := l) hkl hll hw1 hw2)
                have hc1 : Op.bytesLess t[k].1.toList s[l].1.toList = false := by rw [less_dec]; exact decide_eq_false hw1
                have hc2 : Op.bytesLess s[l].1.toList t[k].1.toList = false := by rw [less_dec]; exact decide_eq_false hw2
                have hc5 : (t[k].1.toList == s[l].1.toList) = true := by rw [eq_dec]; exact decide_eq_true (List.le_antisymm (List.not_lt.1 hw2) (List.not_lt.1 hw1))
                clear hw1 hw2
                by_cases hw3 : T.dat t[k] = T.dat s[l]
                · have hc3 : (t[k].2.toList == s[l].2.toList) = true := by rw [eq_dec]; exact decide_eq_true hw3
                  have HST2 := Lib.hid (HST.out.trans (by rw [if_pos hw3]))
                  clear hw3 HST
                  generalize t[k] = f at *
                  obtain ⟨fp, fd⟩ := f
                  simp only at ca0 ca1 wa0 wa1 za1 za2 HDS hc5 hc1 hc2 hc3
                  generalize s[l] = g at *
                  obtain ⟨gp, gd⟩ := g
                  simp only at cb0 cb1 wb0 wb1 zb1 zb2 HDG hc5 hc1 hc2 hc3
                  go_wp2_with fail
                  go_quiet (fail)
                  obtain ⟨W1, hW1⟩ : ∃ W1, W1 = wr.drewN nq := ⟨_, rfl⟩
                  have HEW1 : Hid (Ext wr W1) := by rw [hW1]; exact (Ext.refl wr).drewN _
                  rw [← hW1]
                  clear hW1 nq
                  have ca0W1 := HEW1.out.keepc ca0
                  have ca1W1 := HEW1.out.keepc ca1
                  have cb0W1 := HEW1.out.keepc cb0
                  have cb1W1 := HEW1.out.keepc cb1
                  go_wp2_with fail
                  go_quiet (fail)
                  obtain ⟨W2, hW2⟩ : ∃ W2, W2 = W1.drewN nq := ⟨_, rfl⟩
                  have HEW2 : Hid (Ext wr W2) := by rw [hW2]; exact HEW1.out.trans ((Ext.refl W1).drewN _)
                  rw [← hW2]
                  clear hW2 nq
                  have ca0W2 := HEW2.out.keepc ca0
                  have ca1W2 := HEW2.out.keepc ca1
                  have cb0W2 := HEW2.out.keepc cb0
                  have cb1W2 := HEW2.out.keepc cb1
                  go_wp2_with fail
                  go_quiet (fail)
                  obtain ⟨W3, hW3⟩ : ∃ W3, W3 = W2.drewN nq := ⟨_, rfl⟩
                  have HEW3 : Hid (Ext wr W3) := by rw [hW3]; exact HEW2.out.trans ((Ext.refl W2).drewN _)
                  rw [← hW3]
                  clear hW3 nq
                  have ca0W3 := HEW3.out.keepc ca0
                  have ca1W3 := HEW3.out.keepc ca1
                  have cb0W3 := HEW3.out.keepc cb0
                  have cb1W3 := HEW3.out.keepc cb1
                  go_wp2_with fail
                  go_roundw
                  case rel => exact ⟨k + 1, l + 1, by omega, by omega, by go_num, by go_num, out, by unfold OwnCh; rw [← HQ.out]; exact hown'.ext HEW3.out, by omega, by unfold Hid; rw [← HO.out, HST2.out]; rfl, HX.out.trans HEW3.out⟩
                  case measure => simp [intOf]; omega
                · have hc3 : (t[k].2.toList == s[l].2.toList) = false := by rw [eq_dec]; exact decide_eq_false hw3
                  have hc4 : (!(t[k].2.toList == s[l].2.toList)) = true := by rw [hc3]; rfl
                  rw [if_neg hw3] at HST
                  clear hw3
                  generalize t[k] = f at *
                  obtain ⟨fp, fd⟩ := f
                  simp only at ca0 ca1 wa0 wa1 za1 za2 HDS hc5 hc1 hc2 hc3 hc4
                  generalize s[l] = g at *
                  obtain ⟨gp, gd⟩ := g
                  simp only at cb0 cb1 wb0 wb1 zb1 zb2 HDG hc5 hc1 hc2 hc3 hc4
                  go_wp2_with fail
                  go_quiet (fail)
                  obtain ⟨W1, hW1⟩ : ∃ W1, W1 = wr.drewN nq := ⟨_, rfl⟩
                  have HEW1 : Hid (Ext wr W1) := by rw [hW1]; exact (Ext.refl wr).drewN _
                  rw [← hW1]
                  clear hW1 nq
                  have ca0W1 := HEW1.out.keepc ca0
                  have ca1W1 := HEW1.out.keepc ca1
                  have cb0W1 := HEW1.out.keepc cb0
                  have cb1W1 := HEW1.out.keepc cb1
                  go_wp2_with fail
                  go_quiet (fail)
                  obtain ⟨W2, hW2⟩ : ∃ W2, W2 = W1.drewN nq := ⟨_, rfl⟩
                  have HEW2 : Hid (Ext wr W2) := by rw [hW2]; exact HEW1.out.trans ((Ext.refl W1).drewN _)
                  rw [← hW2]
                  clear hW2 nq
                  have ca0W2 := HEW2.out.keepc ca0
                  have ca1W2 := HEW2.out.keepc ca1
                  have cb0W2 := HEW2.out.keepc cb0
                  have cb1W2 := HEW2.out.keepc cb1
                  go_wp2_with fail
                  go_quiet (fail)
                  obtain ⟨W3, hW3⟩ : ∃ W3, W3 = W2.drewN nq := ⟨_, rfl⟩
                  have HEW3 : Hid (Ext wr W3) := by rw [hW3]; exact HEW2.out.trans ((Ext.refl W2).drewN _)
                  rw [← hW3]
                  clear hW3 nq
                  have ca0W3 := HEW3.out.keepc ca0
                  have ca1W3 := HEW3.out.keepc ca1
                  have cb0W3 := HEW3.out.keepc cb0
                  have cb1W3 := HEW3.out.keepc cb1
                  go_wp2_with fail
                  have hown5 := hown'.ext HEW3.out
                  obtain ⟨Φ, hΦ⟩ : ∃ Φ : World → Prop, ∀ x, Φ x ↔ Ext w x := ⟨_, fun _ => Iff.rfl⟩
                  have h0 : Φ W3.drew := (hΦ _).2 ((HX.out.trans HEW3.out).drew)
                  have fa0 : ∀ x : Lat Φ, x.w'.cell? ⟨b, off + k * 2, none⟩ = some (.string fp) := fun x => ((hΦ _).1 x.h).keepc wa0
                  have fa1 : ∀ x : Lat Φ, x.w'.cell? ⟨b, off + k * 2 + 1, none⟩ = some (.string fd) := fun x => ((hΦ _).1 x.h).keepc wa1
                  have fb0 : ∀ x : Lat Φ, x.w'.cell? ⟨b2, off2 + l * 2, none⟩ = some (.string gp) := fun x => ((hΦ _).1 x.h).keepc wb0
                  have fb1 : ∀ x : Lat Φ, x.w'.cell? ⟨b2, off2 + l * 2 + 1, none⟩ = some (.string gd) := fun x => ((hΦ _).1 x.h).keepc wb1
                  have hne' := Lat.some h0
                  have HΦ := Lib.hid hΦ
                  clear hΦ
                  refine wp_region_lat [11, 17, 19, 20] Φ h0 (by kernel_rfl) (by kernel_rfl) (by kernel_rfl) ?_
                  iterate 11 (refine lex_pure rfl rfl rfl ?_; intro K hK; go_big_quiet_op; go_big_quiet_on)
                  refine lex_eff rfl ?_
                  have HE6 : Hid (Ext wr W3.drew) := HEW3.out.drew
                  have hown6 : OwnAt W3.drew w.heap.size 59 4 (.slice Ao q co) q (ccells out) := hown5.dr ⟨1, rfl⟩
                  generalize W3.drew = w6 at hown6 HE6 h0 ⊢
                  go_wp2_with fail
                  refine (HFI.out fd _ HDS.out).mono ?_
                  rintro e w7 ⟨rfl, d7⟩
                  go_wp2_with fail
                  have HE7 : Hid (Ext wr w7) := HE6.out.trans d7
                  have hown7 := hown6.ext d7
                  clear hown6 hown5
                  refine ⟨⟨⟨_, (HΦ.out w7).2 (HX.out.trans HE7.out)⟩, rfl⟩, ?_⟩
                  iterate 5 (refine lex_pure rfl rfl rfl ?_; intro K hK; go_big_quiet_op; go_big_quiet_on)
                  refine lex_eff rfl ?_
                  go_wp2_with fail
                  refine (HFI.out gd _ HDG.out).mono ?_
                  rintro e w8 ⟨rfl, d8⟩
                  go_wp2_with fail
                  have HE8 : Hid (Ext wr w8) := HE7.out.trans d8
                  have hown8 := hown7.ext d8
                  clear hown7
                  refine ⟨⟨⟨_, (HΦ.out w8).2 (HX.out.trans HE8.out)⟩, rfl⟩, ?_⟩
                  refine lex_pure rfl rfl rfl ?_; intro K hK; go_big_quiet_op; go_big_quiet_on
                  refine lex_eff rfl ?_
                  go_wp2_with fail
                  refine ⟨⟨⟨_, (HΦ.out _).2 ((HX.out.trans HE8.out).alloc _)⟩, rfl⟩, ?_⟩
                  refine lex_eff rfl ?_
                  refine wpList_append_ownAt _ rfl (.tmp 38) (.tmp 57) 54 rfl w.heap.size 59 i0 (.agg #[.string ⟨#[]⟩, .int .i64 0, .string ⟨#[]⟩, .string ⟨#[]⟩]) 4 56 Tryz.underlying54 hi hz0 hz1 hz2 rfl (by decide) _ _ _ rfl (hown8.alloc _) ⟨_, 0, none⟩ 1 1 (ccells [(fp, 3, fidB fd, fidB gd)]) rfl rfl (cells_ch_at _ _ _ (by simp)) (ccells_one _) (by unfold maxLen; omega) (by omega) (Nat.le_trans (HX.out.trans HE8.out).size (by simp)) (by decide) ?_
                  intro v4 w4 hown4 hg4 hold4 _
                  go_wp2_with fail
                  have e4 : Ext w w4 := ((HX.out.trans HE8.out).alloc _).grown hold4 hg4
                  refine ⟨⟨⟨_, (HΦ.out w4).2 e4⟩, rfl⟩, ?_⟩
                  repeat (refine lex_pure rfl rfl rfl ?_; intro K hK; go_big_quiet_op; go_big_quiet_on)
                  refine lex_nil ?_
                  clear fa0 fa1 fb0 fb1 hne'
                  go_wp2_with fail
                  go_roundw
                  case rel => exact ⟨k + 1, l + 1, by omega, by omega, by go_num, by go_num, _, own_ch_snoc HQ.out hown4, by rw [List.length_append, List.length_singleton]; omega, by unfold Hid; rw [← HO.out, HST.out, List.append_assoc]; rfl, e4⟩
                  case measure => simp [intOf]; omega
          · obtain rfl : l = m := by omega
            have HST := Lib.hid (diff_rem (fun l => fidB (T.mkF l)) t s (i := k) (j := l) hkl (.inl (by rw [HM.out]; omega)))
            generalize t[k] = f at *
            obtain ⟨fp, fd⟩ := f
            simp only at ca0 ca1 wa0 wa1 za1 za2 HDS 
            go_wp2_with fail
            go_quiet (fail)
            obtain ⟨W1, hW1⟩ : ∃ W1, W1 = wr.drewN nq := ⟨_, rfl⟩
            have HEW1 : Hid (Ext wr W1) := by rw [hW1]; exact (Ext.refl wr).drewN _
            rw [← hW1]
            clear hW1 nq
            have ca0W1 := HEW1.out.keepc ca0
            have ca1W1 := HEW1.out.keepc ca1
            go_wp2_with fail
            have hown5 := hown'.ext HEW1.out
            obtain ⟨Φ, hΦ⟩ : ∃ Φ : World → Prop, ∀ x, Φ x ↔ Ext w x := ⟨_, fun _ => Iff.rfl⟩
            have h0 : Φ W1.drew := (hΦ _).2 ((HX.out.trans HEW1.out).drew)
            have fa0 : ∀ x : Lat Φ, x.w'.cell? ⟨b, off + k * 2, none⟩ = some (.string fp) := fun x => ((hΦ _).1 x.h).keepc wa0
            have fa1 : ∀ x : Lat Φ, x.w'.cell? ⟨b, off + k * 2 + 1, none⟩ = some (.string fd) := fun x => ((hΦ _).1 x.h).keepc wa1
            have hne' := Lat.some h0
            have HΦ := Lib.hid hΦ
            clear hΦ
            refine wp_region_lat [11, 13, 14] Φ h0 (by kernel_rfl) (by kernel_rfl) (by kernel_rfl) ?_
            iterate 11 (refine lex_pure rfl rfl rfl ?_; intro K hK; go_big_quiet_op; go_big_quiet_on)
            refine lex_eff rfl ?_
            have HE6 : Hid (Ext wr W1.drew) := HEW1.out.drew
            have hown6 : OwnAt W1.drew w.heap.size 59 4 (.slice Ao q co) q (ccells out) := hown5.dr ⟨1, rfl⟩
            generalize W1.drew = w6 at hown6 HE6 h0 ⊢
            go_wp2_with fail
            refine (HFI.out fd _ HDS.out).mono ?_
            rintro e w7 ⟨rfl, d7⟩
            go_wp2_with fail
            have HE7 : Hid (Ext wr w7) := HE6.out.trans d7
            have hown7 := hown6.ext d7
            clear hown6 hown5
            refine ⟨⟨⟨_, (HΦ.out w7).2 (HX.out.trans HE7.out)⟩, rfl⟩, ?_⟩
            refine lex_pure rfl rfl rfl ?_; intro K hK; go_big_quiet_op; go_big_quiet_on
            refine lex_eff rfl ?_
            go_wp2_with fail
            refine ⟨⟨⟨_, (HΦ.out _).2 ((HX.out.trans HE7.out).alloc _)⟩, rfl⟩, ?_⟩
            refine lex_eff rfl ?_
            refine wpList_append_ownAt _ rfl (.tmp 87) (.tmp 100) 54 rfl w.heap.size 59 i0 (.agg #[.string ⟨#[]⟩, .int .i64 0, .string ⟨#[]⟩, .string ⟨#[]⟩]) 4 56 Tryz.underlying54 hi hz0 hz1 hz2 rfl (by decide) _ _ _ rfl (hown7.alloc _) ⟨_, 0, none⟩ 1 1 (ccells [(fp, 2, fidB fd, ⟨#[]⟩)]) rfl rfl (cells_ch_at _ _ _ (by simp)) (ccells_one _) (by unfold maxLen; omega) (by omega) (Nat.le_trans (HX.out.trans HE7.out).size (by simp)) (by decide) ?_
            intro v4 w4 hown4 hg4 hold4 _
            go_wp2_with fail
            have e4 : Ext w w4 := ((HX.out.trans HE7.out).alloc _).grown hold4 hg4
            refine ⟨⟨⟨_, (HΦ.out w4).2 e4⟩, rfl⟩, ?_⟩
            repeat (refine lex_pure rfl rfl rfl ?_; intro K hK; go_big_quiet_op; go_big_quiet_on)
            refine lex_nil ?_
            clear fa0 fa1 hne'
            go_wp2_with fail
            go_roundw
            case rel => exact ⟨k + 1, l, by omega, by omega, by go_num, by go_num, _, own_ch_snoc HQ.out hown4, by rw [List.length_append, List.length_singleton]; omega, by unfold Hid; rw [← HO.out, HST.out, List.append_assoc]; rfl, e4⟩
            case measure => simp [intOf]; omega
        · obtain rfl : k = n := by omega
          by_cases hlm : l < m
          · have hll : l < s.length := by rw [← HM.out]; exact hlm
            obtain ⟨b2, off2, hBe, hbb, wb0, wb1, zb1, zb2⟩ := file_get HB.out hll
            subst hBe
            rw [← Nat.add_assoc] at wb1
            have cb0 := HX.out.keepc wb0
            have cb1 := HX.out.keepc wb1
            have HDG : Hid (s[l].2.size ≤ 100000000000) := by have := HOKB.out.size s[l] (List.getElem_mem hll); unfold Hid; omega
            obtain ⟨q, Ao, co, hq, rfl, hown'⟩ := own_ch_q hown
            have HQ := Lib.hid hq
            have hql : q ≤ 128 := by omega
            clear hown hq
            have hn1 : ((l : Int) == (m : Int)) = false := by simp; omega
            have hn3 : decide ((l : Int) = (m : Int)) = false := by simp; omega
            have HST := Lib.hid (diff_add (fun l => fidB (T.mkF l)) t s (i := k) (j := l) hll (.inl (by rw [HN.out]; omega)))
            generalize s[l] = g at *
            obtain ⟨gp, gd⟩ := g
            simp only at cb0 cb1 wb0 wb1 zb1 zb2 HDG 
            go_wp2_with fail
            go_quiet (fail)
            obtain ⟨W1, hW1⟩ : ∃ W1, W1 = wr.drewN nq := ⟨_, rfl⟩
            have HEW1 : Hid (Ext wr W1) := by rw [hW1]; exact (Ext.refl wr).drewN _
            rw [← hW1]
            clear hW1 nq
            have cb0W1 := HEW1.out.keepc cb0
            have cb1W1 := HEW1.out.keepc cb1
            go_wp2_with fail
            go_quiet (fail)
            obtain ⟨W2, hW2⟩ : ∃ W2, W2 = W1.drewN nq := ⟨_, rfl⟩
            have HEW2 : Hid (Ext wr W2) := by rw [hW2]; exact HEW1.out.trans ((Ext.refl W1).drewN _)
            rw [← hW2]
            clear hW2 nq
            have cb0W2 := HEW2.out.keepc cb0
            have cb1W2 := HEW2.out.keepc cb1
            go_wp2_with fail
            have hown5 := hown'.ext HEW2.out
            obtain ⟨Φ, hΦ⟩ : ∃ Φ : World → Prop, ∀ x, Φ x ↔ Ext w x := ⟨_, fun _ => Iff.rfl⟩
            have h0 : Φ W2.drew := (hΦ _).2 ((HX.out.trans HEW2.out).drew)
            have fb0 : ∀ x : Lat Φ, x.w'.cell? ⟨b2, off2 + l * 2, none⟩ = some (.string gp) := fun x => ((hΦ _).1 x.h).keepc wb0
            have fb1 : ∀ x : Lat Φ, x.w'.cell? ⟨b2, off2 + l * 2 + 1, none⟩ = some (.string gd) := fun x => ((hΦ _).1 x.h).keepc wb1
            have hne' := Lat.some h0
            have HΦ := Lib.hid hΦ
            clear hΦ
            refine wp_region_lat [11, 13, 14] Φ h0 (by kernel_rfl) (by kernel_rfl) (by kernel_rfl) ?_
            iterate 11 (refine lex_pure rfl rfl rfl ?_; intro K hK; go_big_quiet_op; go_big_quiet_on)
            refine lex_eff rfl ?_
            have HE6 : Hid (Ext wr W2.drew) := HEW2.out.drew
            have hown6 : OwnAt W2.drew w.heap.size 59 4 (.slice Ao q co) q (ccells out) := hown5.dr ⟨1, rfl⟩
            generalize W2.drew = w6 at hown6 HE6 h0 ⊢
            go_wp2_with fail
            refine (HFI.out gd _ HDG.out).mono ?_
            rintro e w7 ⟨rfl, d7⟩
            go_wp2_with fail
            have HE7 : Hid (Ext wr w7) := HE6.out.trans d7
            have hown7 := hown6.ext d7
            clear hown6 hown5
            refine ⟨⟨⟨_, (HΦ.out w7).2 (HX.out.trans HE7.out)⟩, rfl⟩, ?_⟩
            refine lex_pure rfl rfl rfl ?_; intro K hK; go_big_quiet_op; go_big_quiet_on
            refine lex_eff rfl ?_
            go_wp2_with fail
            refine ⟨⟨⟨_, (HΦ.out _).2 ((HX.out.trans HE7.out).alloc _)⟩, rfl⟩, ?_⟩
            refine lex_eff rfl ?_
            refine wpList_append_ownAt _ rfl (.tmp 122) (.tmp 135) 54 rfl w.heap.size 59 i0 (.agg #[.string ⟨#[]⟩, .int .i64 0, .string ⟨#[]⟩, .string ⟨#[]⟩]) 4 56 Tryz.underlying54 hi hz0 hz1 hz2 rfl (by decide) _ _ _ rfl (hown7.alloc _) ⟨_, 0, none⟩ 1 1 (ccells [(gp, 1, ⟨#[]⟩, fidB gd)]) rfl rfl (cells_ch_at _ _ _ (by simp)) (ccells_one _) (by unfold maxLen; omega) (by omega) (Nat.le_trans (HX.out.trans HE7.out).size (by simp)) (by decide) ?_
            intro v4 w4 hown4 hg4 hold4 _
            go_wp2_with fail
            have e4 : Ext w w4 := ((HX.out.trans HE7.out).alloc _).grown hold4 hg4
            refine ⟨⟨⟨_, (HΦ.out w4).2 e4⟩, rfl⟩, ?_⟩
            repeat (refine lex_pure rfl rfl rfl ?_; intro K hK; go_big_quiet_op; go_big_quiet_on)
            refine lex_nil ?_
            clear fb0 fb1 hne'
            go_wp2_with fail
            go_roundw
            case rel => exact ⟨k, l + 1, by omega, by omega, by go_num, by go_num, _, own_ch_snoc HQ.out hown4, by rw [List.length_append, List.length_singleton]; omega, by unfold Hid; rw [← HO.out, HST.out, List.append_assoc]; rfl, e4⟩
            case measure => simp [intOf]; omega
          · obtain rfl : l = m := by omega
            have hd := diff_end (fun l => fidB (T.mkF l)) t s (i := k) (j := l) (by rw [HN.out]; omega) (by rw [HM.out]; omega)
            have HR : Hid (Z = (out, 0)) := by unfold Hid; rw [HZ2.out, ← HO.out, hd, List.append_nil]
            clear hd
            go_wp2_with fail
            go_ret2
            exact ⟨_, by rw [HR.out]; rfl, by rw [HR.out]; exact hown, HX.out⟩
    · have HF : Hid (Z = ([], 1)) := by unfold Hid; rw [HZ.out, T.differE, if_neg (fun h => h1 h.2)]
      have hd0 : ((T.checkE okB s) == 0) = false := by simp [h1]
      generalize T.checkE okB s = x at hckB h1 hd0
      have hd2 : (!(x == 0)) = true := by rw [hd0]; rfl
      clear HZ hok h0
      go_enter Tryz.func38, Tryz.ntmps38
      go_wp2_with fail
      refine hck.out.mono ?_
      rintro e w1 ⟨rfl, d1⟩
      go_wp2_with fail
      refine (hckB.out _ d1).mono ?_
      rintro e w2 ⟨rfl, d2⟩
      go_wp2_with fail
      go_ret2
      exact ⟨_, by rw [HF.out]; rfl, by rw [HF.out]; exact own_ch_nil _ _, d1.trans d2⟩
  · have HF : Hid (Z = ([], 1)) := by unfold Hid; rw [HZ.out, T.differE, if_neg (fun h => h0 h.1)]
    have hd0 : ((T.checkE okB t) == 0) = false := by simp [h0]
    generalize T.checkE okB t = x at hck h0 hd0
    have hd2 : (!(x == 0)) = true := by rw [hd0]; rfl
    clear HZ
    go_enter Tryz.func38, Tryz.ntmps38
    go_wp2_with fail
    refine hck.out.mono ?_
    rintro e w1 ⟨rfl, d1⟩
    go_wp2_with fail
    go_ret2
    exact ⟨_, by rw [HF.out]; rfl, by rw [HF.out]; exact own_ch_nil _ _, d1⟩
end Go.Proofs.YtclhbcicbnoohaaGreatDoor
