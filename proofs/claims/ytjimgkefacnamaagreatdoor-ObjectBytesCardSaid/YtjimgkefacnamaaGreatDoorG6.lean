/- The texts Ok of the seat, joined. -/
import Derived.Test.YtjimgkefacnamaaGreatDoorG5
/- The reference's Check. -/
namespace Go.Proofs.YtjimgkefacnamaaGreatDoor
open Go.RowKit Go.Maps Go.ChangeMaps
set_option linter.unusedVariables false

theorem idx_bad {l : List C.Sym} {k : Nat} (hk : k < l.length) (h : C.idx l (C.nm l[k]) ≠ some k) : C.namesB okN l = false := by
  rw [Bool.eq_false_iff]
  intro hn
  exact h ((C.namesB_iff okN l).1 hn k hk).2
theorem okTo2_succ {l : List C.Sym} {k : Nat} (h : okTo2 l k) (hk : k < l.length) (h1 : okN l[k].1 = true) (h2 : C.idx l (C.nm l[k]) = some k) : okTo2 l (k + 1) := by
  intro i hi hik
  by_cases e : i = k
  · subst e
    exact ⟨h1, h2⟩
  · exact h i hi (by omega)
theorem idxI_is (x : Option Nat) (k : Nat) : idxI x = (k : Int) ↔ x = some k := by
  cases x with
  | none => simp [idxI]
  | some i => simp only [idxI, Option.some.injEq]; omega

set_option maxRecDepth 8000 in
set_option maxHeartbeats 4000000 in
theorem rCheck_any (o : C.Obj) (SA SB : Option Addr) (sc sd sn sm : Nat) (w : World) (hsn : sn = o.1.length) (hS : SliceAt symR w (Old w) SA sc o.1) (hsm : sm = o.2.length) (hT : SliceAt secR w (Old w) SB sd o.2) (hs : ∀ s ∈ o.1, s.1.size ≤ 9000000) :
    Calls Tryz.prog 15 #[.agg #[.slice SA sn sc, .slice SB sm sd]] w (Al (.int .i64 (chk (C.checkB okN o))) w) := by
  have hsm2 : sm ≤ 9223372036854775807 := by have := hT.1; have := hT.2.1; omega
  have hsn2 : sn ≤ 9223372036854775807 := by have := hS.1; have := hS.2.1; omega
  have FL := Lib.hid (@chk_len o)
  have FN := Lib.hid (@chk_names o)
  have FS := Lib.hid (fun k => @chk_sym o k)
  have FO := Lib.hid (fun k => @chk_own o k)
  have FE := Lib.hid (@chk_end o)
  generalize chk (C.checkB okN o) = R at FL FN FS FO FE ⊢
  by_cases h1 : sn ≤ 128
  · by_cases h2 : sm ≤ 128
    · have HSN := Lib.hid hsn
      have HSM := Lib.hid hsm
      have HS := Lib.hid hS
      have HT := Lib.hid hT
      have h1' : (sn : Int) ≤ 128 := by omega
      have h2' : (sm : Int) ≤ 128 := by omega
      have b0 : (w.alloc (.cells #[.slice SA sn sc, .slice SB sm sd] 25)).cell? ⟨w.heap.size, 0, none⟩ = some (.slice SA sn sc) := cell_new w #[.slice SA sn sc, .slice SB sm sd] 25 0
      have b1 : (w.alloc (.cells #[.slice SA sn sc, .slice SB sm sd] 25)).cell? ⟨w.heap.size, 1, none⟩ = some (.slice SB sm sd) := cell_new w #[.slice SA sn sc, .slice SB sm sd] 25 1
      clear hsn hsm hS hT h1 h2
      go_enter Tryz.func15, Tryz.ntmps15
      go_wp2_with (at_make; refine wpList_make_full _ rfl _ _ 94 rfl (w.heap.size + 1) 3 _ _ 1 rfl rfl rfl rfl .i64 .i64 _ _ sm rfl rfl rfl rfl (by show 8 * sm ≤ 281474976710656; omega) (by unfold maxLen; omega) (by simp) ?_; intro w2 hown hgrow; have e12 : Ext (w.alloc (.cells #[.slice SA sn sc, .slice SB sm sd] 25)) w2 := Below.grown (Ext.refl _) hgrow (Nat.le_refl _) (fun k hk => by cases hk); have b0' := e12.keepc b0; have b1' := e12.keepc b1)
      have hz0 : (madeCells (Value.int IntKind.i64 0).cells (sm * 1)).toList = ownV (o.1.take 0) sm := by
        rw [List.take_zero, ownV_zero, Nat.mul_one]
        exact toList_madeCells_one _ _
      rw [hz0] at hown
      have hsz : (w.alloc (.cells #[.slice SA sn sc, .slice SB sm sd] 25)).heap.size = w.heap.size + 1 := by simp
      rw [hsz] at hown
      have HST := Lib.hid (show okTo2 o.1 0 ∧ symTo o.1 o.2.length 0 ∧ w2.ownsRow (w.heap.size + 1) 3 1 (.slice (some ⟨w.heap.size + 1, 0, none⟩) sm sm) sm (ownV (o.1.take 0) sm) ∧ Ext (w.alloc (.cells #[.slice SA sn sc, .slice SB sm sd] 25)) w2 from ⟨fun _ _ h => absurd h (Nat.not_lt_zero _), fun _ _ h => absurd h (Nat.not_lt_zero _), hown, e12⟩)
      clear hz0 hown hgrow b0' b1' hsz
      go_loopw [25] (fun i wr => ∃ k : Nat, k ≤ sn ∧ i = .int .i64 k ∧ Hid (okTo2 o.1 k ∧ symTo o.1 o.2.length k ∧ wr.ownsRow (w.heap.size + 1) 3 1 (.slice (some ⟨w.heap.size + 1, 0, none⟩) sm sm) sm (ownV (o.1.take k) sm) ∧ Ext (w.alloc (.cells #[.slice SA sn sc, .slice SB sm sd] 25)) wr)) (fun i _ => sn - (intOf i).toNat)
      case atStart => exact ⟨0, Nat.zero_le _, rfl, HST.out⟩
      case round =>
        obtain ⟨k, hk, rfl, HK⟩ := hrel
        have hww : Ext w wr := ((Ext.refl w).alloc _).trans HK.out.2.2.2
        have HWW := Lib.hid hww
        by_cases hlt : k < sn
        · have hkz : k < o.1.length := by rw [← HSN.out]; exact hlt
          obtain ⟨bb, off, s, md, q, rfl, hg, hs1, hwm, hwq, hc⟩ := sym_get HS.out hkz
          have hgk : o.1[k] = (s, md, q) := by rw [List.getElem?_eq_getElem hkz] at hg; simpa using hg
          obtain ⟨c1, c2, c3⟩ := hc wr hww
          have E1 : Ext wr (wr.alloc (.cells #[.string s, .int .i64 md, .int .i64 q] 29)) := (Ext.refl wr).alloc _
          have b0' := E1.keepc (HK.out.2.2.2.keepc b0)
          have b1' := E1.keepc (HK.out.2.2.2.keepc b1)
          have x0 : (wr.alloc (.cells #[.string s, .int .i64 md, .int .i64 q] 29)).cell? ⟨wr.heap.size, 0, none⟩ = some (.string s) := cell_new wr #[.string s, .int .i64 md, .int .i64 q] 29 0
          have x1 : (wr.alloc (.cells #[.string s, .int .i64 md, .int .i64 q] 29)).cell? ⟨wr.heap.size, 1, none⟩ = some (.int .i64 md) := cell_new wr #[.string s, .int .i64 md, .int .i64 q] 29 1
          have x2 : (wr.alloc (.cells #[.string s, .int .i64 md, .int .i64 q] 29)).cell? ⟨wr.heap.size, 2, none⟩ = some (.int .i64 q) := cell_new wr #[.string s, .int .i64 md, .int .i64 q] 29 2
          have hfn := fun h => FN.out (names_bad hkz h)
          have hfi := fun h => FN.out (idx_bad hkz h)
          have hfs := FS.out k hkz
          have hon := @symTo_succ o.1 o.2.length k HK.out.2.1 hkz
          have hok := @okTo2_succ o.1 k HK.out.1 hkz
          rw [hgk] at hfn hfi hok
          rw [hgk, ← HSM.out] at hfs
          rw [hgk] at hon
          have HFN := Lib.hid hfn
          have HFI := Lib.hid hfi
          have HFS := Lib.hid hfs
          have HON := Lib.hid hon
          have HOK := Lib.hid hok
          have HGK := Lib.hid hgk
          have HNM := Lib.hid (fun w' => refName_any s w' hs1)
          clear hc hg hgk hfs hon hfn hfi hok
          go_wp2_with fail
          refine (HNM.out _).mono ?_
          rintro e w3 ⟨rfl, d3⟩
          have y0 := d3.keepc b0'
          have y1 := d3.keepc b1'
          have z0 := d3.keepc x0
          have z1 := d3.keepc x1
          have z2 := d3.keepc x2
          have HE3 := Lib.hid (E1.trans d3)
          clear b0' b1' x0 x1 x2 d3 E1
          rcases Bool.eq_false_or_eq_true (K.name s.data.toList) with hn | hn
          · rw [hn]
            have HIX := Lib.hid (fun w' (h : Ext w w') => Index_any o.1 _ SB sc sd sn sm s w' HSN.out (HS.out.ext h) (by omega) hs1)
            have HOK2 := Lib.hid (HOK.out hn)
            have hii := idxI_is (C.idx o.1 s.data.toList) k
            have HII := Lib.hid hii
            clear hii
            go_wp2_with fail
            refine (HIX.out _ (HWW.out.trans HE3.out)).mono ?_
            rintro e w4 ⟨rfl, d4⟩
            have y0' := d4.keepc y0
            have y1' := d4.keepc y1
            have z0' := d4.keepc z0
            have z1' := d4.keepc z1
            have z2' := d4.keepc z2
            have HE4 := Lib.hid (HE3.out.trans d4)
            clear y0 y1 z0 z1 z2 d4
            by_cases hi : C.idx o.1 s.data.toList = some k
            · have hi2 := HII.out.2 hi
              have HOK3 := Lib.hid (HOK2.out hi)
              clear hi
              rw [hi2]
              clear hi2
              rcases Bool.eq_false_or_eq_true (C.symB sm (s, md, q)) with hy | hy
              · have H9 := Lib.hid (HON.out (by rw [← HSM.out]; exact hy))
                have hcs := symB_yes hy
                clear hy
                have HTK := Lib.hid (show o.1.take (k + 1) = o.1.take k ++ [(s, md, q)] by rw [List.take_succ_eq_append_getElem hkz, HGK.out])
                have hown1 := ownsRow_ext HK.out.2.2.1 HE4.out
                have HO1 := Lib.hid hown1
                have HX4 := Lib.hid (HK.out.2.2.2.trans HE4.out)
                rcases hcs with ⟨h3, h4, h5, h6⟩ | hcs
                · have hq : q.toNat < sm := by omega
                  have hcell := (hown1.cellAt q.toNat (by omega)).trans (ownV_get _ hq)
                  have hfz := hown1.frozenAt q.toNat
                  have HS2 := Lib.hid (fun u => hown1.stored q.toNat u)
                  have hle : C.own (o.1.take k) q.toNat ≤ 128 := by
                    have := own_le (o.1.take k) q.toNat
                    rw [List.length_take] at this
                    have := HSN.out
                    omega
                  have HVS := Lib.hid (ownV_set (o.1.take k) (s, md, q) sm h5)
                  clear hown1
                  go_wp2_with fail
                  all_goals
                    go_region
                    go_wp2_with fail
                    refine ⟨⟨k + 1, by omega, by go_num, HOK3.out, H9.out, ?_, (Ext.mapBlock (m := w.heap.size + 1) HX4.out (by simp) (HS2.out _).2).drew⟩, by simp [intOf]; omega⟩
                    rw [HTK.out, HVS.out]
                    exact ownsRow_ext (HS2.out _).1 ((Ext.refl _).drew)
                · have HVO := Lib.hid (ownV_other (o.1.take k) (s, md, q) sm (show q < 0 by omega))
                  clear hown1
                  rcases hcs with ⟨rfl, rfl⟩ | ⟨rfl, rfl⟩
                  all_goals
                    go_wp2_with fail
                    refine ⟨⟨k + 1, by omega, by go_num, HOK3.out, H9.out, ?_, HX4.out⟩, by simp [intOf]; omega⟩
                    rw [HTK.out, HVO.out]
                    exact HO1.out
              · have HR := Lib.hid (HFS.out hy)
                have hcs := symB_no hy
                clear hy
                rcases hcs with h3 | h3 | ⟨h3, h4, h5⟩ | ⟨h3, h4, h5⟩ | ⟨rfl, h4, h5⟩ | ⟨rfl, rfl⟩ | ⟨rfl, rfl⟩
                all_goals
                  go_wp2_with fail
                  go_ret
                  exact ⟨by rw [HR.out]; rfl, HWW.out.trans HE4.out⟩
            · have hi2 : idxI (C.idx o.1 s.data.toList) ≠ (k : Int) := fun h => hi (HII.out.1 h)
              have HR := Lib.hid (HFI.out hi)
              clear hi
              generalize idxI (C.idx o.1 s.data.toList) = z at hi2 ⊢
              go_wp2_with fail
              go_ret
              exact ⟨by rw [HR.out]; rfl, HWW.out.trans HE4.out⟩
          · rw [hn]
            have HR := Lib.hid (HFN.out hn)
            go_wp2_with fail
            go_ret
            exact ⟨by rw [HR.out]; rfl, HWW.out.trans HE3.out⟩
        · have hkn : k = sn := by omega
          subst hkn
          have HNB := Lib.hid (names_end (l := o.1) (by have := HK.out.1; rwa [HSN.out] at this))
          have HY := Lib.hid (show symTo o.1 o.2.length o.1.length by have := HK.out.2.1; rwa [HSN.out] at this)
          have HST2 := Lib.hid (show secTo o 0 ∧ wr.ownsRow (w.heap.size + 1) 3 1 (.slice (some ⟨w.heap.size + 1, 0, none⟩) sm sm) sm (ownV o.1 sm) ∧ Ext (w.alloc (.cells #[.slice SA k sc, .slice SB sm sd] 25)) wr from ⟨fun _ _ h => absurd h (Nat.not_lt_zero _), by have := HK.out.2.2.1; rwa [List.take_of_length_le (by have := HSN.out; omega)] at this, HK.out.2.2.2⟩)
          have b0' := HK.out.2.2.2.keepc b0
          have b1' := HK.out.2.2.2.keepc b1
          go_wp2_with fail
          go_loopw [103] (fun i wr => ∃ j : Nat, j ≤ sm ∧ i = .int .i64 j ∧ Hid (secTo o j ∧ wr.ownsRow (w.heap.size + 1) 3 1 (.slice (some ⟨w.heap.size + 1, 0, none⟩) sm sm) sm (ownV o.1 sm) ∧ Ext (w.alloc (.cells #[.slice SA k sc, .slice SB sm sd] 25)) wr)) (fun i _ => sm - (intOf i).toNat)
          case atStart => exact ⟨0, Nat.zero_le _, rfl, HST2.out⟩
          case round =>
            obtain ⟨j, hj, rfl, HJ⟩ := hrel
            have HWQ := Lib.hid (show Ext w wr from ((Ext.refl w).alloc _).trans HJ.out.2.2)
            by_cases hjt : j < sm
            · have hjz : j < o.2.length := by rw [← HSM.out]; exact hjt
              obtain ⟨bb, off, kd, d, rs, A2, c2, rfl, hgk, hwk, hds, hrs, hc⟩ := sec_get HT.out hjz
              obtain ⟨nr, hnr⟩ : ∃ nr, nr = rs.length := ⟨_, rfl⟩
              rw [← hnr] at hc
              obtain ⟨c1, c2', c3⟩ := hc wr HWQ.out
              have hSEC := fun w' (h : Ext w w') => rsection_any o.1 SA (some ⟨bb, off, none⟩) sc sd k sm kd d rs A2 c2 nr w' HSN.out (HS.out.ext h) (by omega) hnr (hrs.ext h) hds hwk
              have hfo := FO.out j hjz
              have hon := @secTo_succ o j HJ.out.1 hjz
              rw [hgk] at hfo hon
              have HFO := Lib.hid hfo
              have HON := Lib.hid hon
              have HSEC := Lib.hid hSEC
              have E1 : Ext wr (wr.alloc (.cells #[.int .i64 kd, .string d, .slice A2 nr c2] 85)) := (Ext.refl wr).alloc _
              have hown1 := HJ.out.2.1.alloc (.cells #[.int .i64 kd, .string d, .slice A2 nr c2] 85)
              have hcell := (hown1.cellAt j (by omega)).trans (ownV_get _ hjt)
              have HO1 := Lib.hid hown1
              have b0q := E1.keepc (HJ.out.2.2.keepc b0)
              have b1q := E1.keepc (HJ.out.2.2.keepc b1)
              have HE1 := Lib.hid E1
              clear hfo hon hSEC hown1 hc hgk hrs hnr E1
              by_cases ho : C.own o.1 j = 1
              · rw [ho] at hcell
                generalize C.secB o.1 (kd, d, rs) = sb at HFO HON HSEC
                go_wp2_with fail
                refine (HSEC.out _ (HWQ.out.trans HE1.out)).mono ?_
                rintro e w3 ⟨rfl, d3⟩
                have HE3 := Lib.hid (HE1.out.trans d3)
                have HO3 := Lib.hid (ownsRow_ext HO1.out d3)
                cases sb with
                | false =>
                  have HR := Lib.hid (HFO.out (fun h => Bool.noConfusion h.2))
                  go_wp2_with fail
                  go_ret
                  exact ⟨by rw [HR.out]; rfl, HWQ.out.trans HE3.out⟩
                | true =>
                  have H9 := Lib.hid (HON.out ho rfl)
                  go_wp2_with fail
                  exact ⟨⟨j + 1, by omega, by go_num, H9.out, HO3.out, HJ.out.2.2.trans HE3.out⟩, by simp [intOf]; omega⟩
              · have HR := Lib.hid (HFO.out (fun h => ho h.1))
                have ho' : (C.own o.1 j : Int) ≠ 1 := by omega
                generalize (C.own o.1 j : Int) = ow at hcell ho'
                clear ho
                go_wp2_with fail
                go_ret
                exact ⟨by rw [HR.out]; rfl, HWQ.out.trans HE1.out⟩
            · have hkn : j = sm := by omega
              have HR := Lib.hid (FE.out (by have := HSN.out; omega) (by have := HSM.out; omega) HNB.out HY.out (by have := HJ.out.1; rw [hkn, HSM.out] at this; exact this))
              go_wp2_with fail
              go_ret
              exact ⟨by rw [HR.out]; rfl, HWQ.out⟩
    · have HR := Lib.hid (FL.out (fun h => h2 (by omega)))
      have h1' : (sn : Int) ≤ 128 := by omega
      have h2' : (sm : Int) > 128 := by omega
      clear hsn hsm hS hT h1 h2
      go_enter Tryz.func15, Tryz.ntmps15
      go_wp2_with fail
      go_ret
      exact ⟨by rw [HR.out]; rfl, (Ext.refl w).alloc _⟩
  · have HR := Lib.hid (FL.out (fun h => h1 (by omega)))
    have h1' : (sn : Int) > 128 := by omega
    clear hsn hsm hS hT h1
    go_enter Tryz.func15, Tryz.ntmps15
    go_wp2_with fail
    go_ret
    exact ⟨by rw [HR.out]; rfl, (Ext.refl w).alloc _⟩

end Go.Proofs.YtjimgkefacnamaaGreatDoor
