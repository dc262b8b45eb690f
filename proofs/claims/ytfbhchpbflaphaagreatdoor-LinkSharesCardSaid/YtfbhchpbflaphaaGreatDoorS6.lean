/- The texts Ok Ol Exq Om On Set Me Lnk of the seat, joined. -/
import Derived.Test.YtfbhchpbflaphaaGreatDoorS5
import Derived.Lib.SlicesCompact
import Derived.Sort.OwnSorted
import Derived.Maps.OwnOps
import Derived.Maps.OwnSet
import Derived.Maps.Views
import Derived.StringKeys
import Derived.ChangeKeysEq
namespace Go.Proofs.YtfbhchpbflaphaaGreatDoor
open Go.RowKit Go.Maps Go.ChangeMaps
set_option linter.unusedVariables false
theorem idx_bad {l : List C.Sym} {k : Nat} (hk : k < l.length) (h : C.idx l (C.nm l[k]) ≠ some k) : C.namesB okN l = false := by
 rw [Bool.eq_false_iff]
 intro hn
 exact h ((C.namesB_iff okN l).1 hn k hk).2
theorem okTo2_succ {l : List C.Sym} {k : Nat} (h : okTo2 l k) (hk : k < l.length) (h1 : okN l[k].1 = true) (h2 : C.idx l (C.nm l[k]) = some k) : okTo2 l (k + 1) := by
 intro i hi hik
 by_cases e : i = k
 ·subst e
  exact ⟨h1, h2⟩
 ·exact h i hi (by omega)
theorem idxI_is (x : Option Nat) (k : Nat) : idxI x = (k : Int) ↔ x = some k := by
 cases x with
 | none => simp [idxI]
 | some i => simp only [idxI, Option.some.injEq]; omega
set_option maxRecDepth 8000 in
set_option maxHeartbeats 4000000 in
theorem rCheck_any (o : C.Obj) (SA SB : Option Addr) (sc sd sn sm : Nat) (w : World) (hsn : sn = o.1.length) (hS : SliceAt symR w (Old w) SA sc o.1) (hsm : sm = o.2.length) (hT : SliceAt secR w (Old w) SB sd o.2) (hs : ∀ s ∈ o.1, s.1.size <= 9000000) :
 Calls Tryz.prog 116 #[.agg #[.slice SA sn sc, .slice SB sm sd]] w (Al (.int .i64 (chk (C.checkB okN o))) w) := by
 have hsm2 : sm <= 9223372036854775807 := by have := hT.1; have := hT.2.1; omega
 have hsn2 : sn <= 9223372036854775807 := by have := hS.1; have := hS.2.1; omega
 have FL := Lib.hid (@chk_len o)
 have FN := Lib.hid (@chk_names o)
 have FS := Lib.hid (fun k => @chk_sym o k)
 have FO := Lib.hid (fun k => @chk_own o k)
 have FE := Lib.hid (@chk_end o)
 generalize chk (C.checkB okN o) = R at FL FN FS FO FE ⊢
 by_cases h1 : sn <= 128
 ·by_cases h2 : sm <= 128
  ·have HSN := Lib.hid hsn
   have HSM := Lib.hid hsm
   have HS := Lib.hid hS
   have HT := Lib.hid hT
   have h1' : (sn : Int) <= 128 := by omega
   have h2' : (sm : Int) <= 128 := by omega
   have b0 : (w.alloc (.cells #[.slice SA sn sc, .slice SB sm sd] 56)).cell? ⟨w.heap.size, 0, none⟩ = some (.slice SA sn sc) := cell_new w #[.slice SA sn sc, .slice SB sm sd] 56 0
   have b1 : (w.alloc (.cells #[.slice SA sn sc, .slice SB sm sd] 56)).cell? ⟨w.heap.size, 1, none⟩ = some (.slice SB sm sd) := cell_new w #[.slice SA sn sc, .slice SB sm sd] 56 1
   clear hsn hsm hS hT h1 h2
   go_enter Tryz.func116, Tryz.ntmps116
   go_wp2_with (at_make; refine wpList_make_full _ rfl _ _ 30 rfl (w.heap.size + 1) 3 _ _ 1 rfl rfl rfl rfl .i64 .i64 _ _ sm rfl rfl rfl rfl (by show 8 * sm <= 281474976710656; omega) (by unfold maxLen; omega) (by simp) ?_; intro w2 hown hgrow; have e12 : Ext (w.alloc (.cells #[.slice SA sn sc, .slice SB sm sd] 56)) w2 := Below.grown (Ext.refl _) hgrow (Nat.le_refl _) (fun k hk => by cases hk); have b0' := e12.keepc b0; have b1' := e12.keepc b1)
   have hz0 : (madeCells (Value.int IntKind.i64 0).cells (sm * 1)).toList = ownV (o.1.take 0) sm := by
    rw [List.take_zero, ownV_zero, Nat.mul_one]
    exact toList_madeCells_one _ _
   rw [hz0] at hown
   have hsz : (w.alloc (.cells #[.slice SA sn sc, .slice SB sm sd] 56)).heap.size = w.heap.size + 1 := by simp
   rw [hsz] at hown
   have HST := Lib.hid (show okTo2 o.1 0 /\ symTo o.1 o.2.length 0 /\ w2.ownsRow (w.heap.size + 1) 3 1 (.slice (some ⟨w.heap.size + 1, 0, none⟩) sm sm) sm (ownV (o.1.take 0) sm) /\ Ext (w.alloc (.cells #[.slice SA sn sc, .slice SB sm sd] 56)) w2 from ⟨fun _ _ h => absurd h (Nat.not_lt_zero _), fun _ _ h => absurd h (Nat.not_lt_zero _), hown, e12⟩)
   clear hz0 hown hgrow b0' b1' hsz
   go_loopw [25] (fun i wr => ∃ k : Nat, k <= sn /\ i = .int .i64 k /\ Hid (okTo2 o.1 k /\ symTo o.1 o.2.length k /\ wr.ownsRow (w.heap.size + 1) 3 1 (.slice (some ⟨w.heap.size + 1, 0, none⟩) sm sm) sm (ownV (o.1.take k) sm) /\ Ext (w.alloc (.cells #[.slice SA sn sc, .slice SB sm sd] 56)) wr)) (fun i _ => sn - (intOf i).toNat)
   case atStart => exact ⟨0, Nat.zero_le _, rfl, HST.out⟩
   case round =>
    obtain ⟨k, hk, rfl, HK⟩ := hrel
    have hww : Ext w wr := ((Ext.refl w).alloc _).trans HK.out.2.2.2
    have HWW := Lib.hid hww
    by_cases hlt : k < sn
    ·have hkz : k < o.1.length := by rw [<- HSN.out]; exact hlt
     obtain ⟨bb, off, s, md, q, rfl, hg, hs1, hwm, hwq, hc⟩ := sym_get HS.out hkz
     have hgk : o.1[k] = (s, md, q) := by rw [List.getElem?_eq_getElem hkz] at hg; simpa using hg
     obtain ⟨c1, c2, c3⟩ := hc wr hww
     have E1 : Ext wr (wr.alloc (.cells #[.string s, .int .i64 md, .int .i64 q] 60)) := (Ext.refl wr).alloc _
     have b0' := E1.keepc (HK.out.2.2.2.keepc b0)
     have b1' := E1.keepc (HK.out.2.2.2.keepc b1)
     have x0 : (wr.alloc (.cells #[.string s, .int .i64 md, .int .i64 q] 60)).cell? ⟨wr.heap.size, 0, none⟩ = some (.string s) := cell_new wr #[.string s, .int .i64 md, .int .i64 q] 60 0
     have x1 : (wr.alloc (.cells #[.string s, .int .i64 md, .int .i64 q] 60)).cell? ⟨wr.heap.size, 1, none⟩ = some (.int .i64 md) := cell_new wr #[.string s, .int .i64 md, .int .i64 q] 60 1
     have x2 : (wr.alloc (.cells #[.string s, .int .i64 md, .int .i64 q] 60)).cell? ⟨wr.heap.size, 2, none⟩ = some (.int .i64 q) := cell_new wr #[.string s, .int .i64 md, .int .i64 q] 60 2
     have hfn := fun h => FN.out (names_bad hkz h)
     have hfi := fun h => FN.out (idx_bad hkz h)
     have hfs := FS.out k hkz
     have hon := @symTo_succ o.1 o.2.length k HK.out.2.1 hkz
     have hok := @okTo2_succ o.1 k HK.out.1 hkz
     rw [hgk] at hfn hfi hok
     rw [hgk, <- HSM.out] at hfs
     rw [hgk] at hon
     have HFN := Lib.hid hfn
     have HFI := Lib.hid hfi
     have HFS := Lib.hid hfs
     have HON := Lib.hid hon
     have HOK := Lib.hid hok
     have HGK := Lib.hid hgk
     have HNM := Lib.hid (fun w' => refName_any s w' hs1)
     clear hc hg hgk hfs hon hfn hfi hok
     go_wp2_with fail
     refine (HNM.out _).mono ?_
     rintro e w3 ⟨rfl, d3⟩
     have y0 := d3.keepc b0'
     have y1 := d3.keepc b1'
     have z0 := d3.keepc x0
     have z1 := d3.keepc x1
     have z2 := d3.keepc x2
     have HE3 := Lib.hid (E1.trans d3)
     clear b0' b1' x0 x1 x2 d3 E1
     rcases Bool.eq_false_or_eq_true (K.name s.data.toList) with hn | hn
     ·rw [hn]
      have HIX := Lib.hid (fun w' (h : Ext w w') => Index_any o.1 _ SB sc sd sn sm s w' HSN.out (HS.out.ext h) (by omega) hs1)
      have HOK2 := Lib.hid (HOK.out hn)
      have hii := idxI_is (C.idx o.1 s.data.toList) k
      have HII := Lib.hid hii
      clear hii
      go_wp2_with fail
      refine (HIX.out _ (HWW.out.trans HE3.out)).mono ?_
      rintro e w4 ⟨rfl, d4⟩
      have y0' := d4.keepc y0
      have y1' := d4.keepc y1
      have z0' := d4.keepc z0
      have z1' := d4.keepc z1
      have z2' := d4.keepc z2
      have HE4 := Lib.hid (HE3.out.trans d4)
      clear y0 y1 z0 z1 z2 d4
      by_cases hi : C.idx o.1 s.data.toList = some k
      ·have hi2 := HII.out.2 hi
       have HOK3 := Lib.hid (HOK2.out hi)
       clear hi
       rw [hi2]
       clear hi2
       rcases Bool.eq_false_or_eq_true (C.symB sm (s, md, q)) with hy | hy
       ·have H9 := Lib.hid (HON.out (by rw [<- HSM.out]; exact hy))
        have hcs := symB_yes hy
        clear hy
        have HTK := Lib.hid (show o.1.take (k + 1) = o.1.take k ++ [(s, md, q)] by rw [List.take_succ_eq_append_getElem hkz, HGK.out])
        have hown1 := ownsRow_ext HK.out.2.2.1 HE4.out
        have HO1 := Lib.hid hown1
        have HX4 := Lib.hid (HK.out.2.2.2.trans HE4.out)
        rcases hcs with ⟨h3, h4, h5, h6⟩ | hcs
        ·have hq : q.toNat < sm := by omega
         have hcell := (hown1.cellAt q.toNat (by omega)).trans (ownV_get _ hq)
         have hfz := hown1.frozenAt q.toNat
         have HS2 := Lib.hid (fun u => hown1.stored q.toNat u)
         have hle : C.own (o.1.take k) q.toNat <= 128 := by
          have := own_le (o.1.take k) q.toNat
          rw [List.length_take] at this
          have := HSN.out
          omega
         have HVS := Lib.hid (ownV_set (o.1.take k) (s, md, q) sm h5)
         clear hown1
         go_wp2_with fail
         all_goals
          go_region
          go_wp2_with fail
          refine ⟨⟨k + 1, by omega, by go_num, HOK3.out, H9.out, ?_, (Ext.mapBlock (m := w.heap.size + 1) HX4.out (by simp) (HS2.out _).2).drew⟩, by simp [intOf]; omega⟩
          rw [HTK.out, HVS.out]
          exact ownsRow_ext (HS2.out _).1 ((Ext.refl _).drew)
        ·have HVO := Lib.hid (ownV_other (o.1.take k) (s, md, q) sm (show q < 0 by omega))
         clear hown1
         rcases hcs with ⟨rfl, rfl⟩ | ⟨rfl, rfl⟩
         all_goals
          go_wp2_with fail
          refine ⟨⟨k + 1, by omega, by go_num, HOK3.out, H9.out, ?_, HX4.out⟩, by simp [intOf]; omega⟩
          rw [HTK.out, HVO.out]
          exact HO1.out
       ·have HR := Lib.hid (HFS.out hy)
        have hcs := symB_no hy
        clear hy
        rcases hcs with h3 | h3 | ⟨h3, h4, h5⟩ | ⟨h3, h4, h5⟩ | ⟨rfl, h4, h5⟩ | ⟨rfl, rfl⟩ | ⟨rfl, rfl⟩
        all_goals
         go_wp2_with fail
         go_ret
         exact ⟨by rw [HR.out]; rfl, HWW.out.trans HE4.out⟩
      ·have hi2 : idxI (C.idx o.1 s.data.toList) ≠ (k : Int) := fun h => hi (HII.out.1 h)
       have HR := Lib.hid (HFI.out hi)
       clear hi
       generalize idxI (C.idx o.1 s.data.toList) = z at hi2 ⊢
       go_wp2_with fail
       go_ret
       exact ⟨by rw [HR.out]; rfl, HWW.out.trans HE4.out⟩
     ·rw [hn]
      have HR := Lib.hid (HFN.out hn)
      go_wp2_with fail
      go_ret
      exact ⟨by rw [HR.out]; rfl, HWW.out.trans HE3.out⟩
    ·have hkn : k = sn := by omega
     subst hkn
     have HNB := Lib.hid (names_end (l := o.1) (by have := HK.out.1; rwa [HSN.out] at this))
     have HY := Lib.hid (show symTo o.1 o.2.length o.1.length by have := HK.out.2.1; rwa [HSN.out] at this)
     have HST2 := Lib.hid (show secTo o 0 /\ wr.ownsRow (w.heap.size + 1) 3 1 (.slice (some ⟨w.heap.size + 1, 0, none⟩) sm sm) sm (ownV o.1 sm) /\ Ext (w.alloc (.cells #[.slice SA k sc, .slice SB sm sd] 56)) wr from ⟨fun _ _ h => absurd h (Nat.not_lt_zero _), by have := HK.out.2.2.1; rwa [List.take_of_length_le (by have := HSN.out; omega)] at this, HK.out.2.2.2⟩)
     have b0' := HK.out.2.2.2.keepc b0
     have b1' := HK.out.2.2.2.keepc b1
     go_wp2_with fail
     go_loopw [103] (fun i wr => ∃ j : Nat, j <= sm /\ i = .int .i64 j /\ Hid (secTo o j /\ wr.ownsRow (w.heap.size + 1) 3 1 (.slice (some ⟨w.heap.size + 1, 0, none⟩) sm sm) sm (ownV o.1 sm) /\ Ext (w.alloc (.cells #[.slice SA k sc, .slice SB sm sd] 56)) wr)) (fun i _ => sm - (intOf i).toNat)
     case atStart => exact ⟨0, Nat.zero_le _, rfl, HST2.out⟩
     case round =>
      obtain ⟨j, hj, rfl, HJ⟩ := hrel
      have HWQ := Lib.hid (show Ext w wr from ((Ext.refl w).alloc _).trans HJ.out.2.2)
      by_cases hjt : j < sm
      ·have hjz : j < o.2.length := by rw [<- HSM.out]; exact hjt
       obtain ⟨bb, off, kd, d, rs, A2, c2, rfl, hgk, hwk, hds, hrs, hc⟩ := sec_get HT.out hjz
       obtain ⟨nr, hnr⟩ : ∃ nr, nr = rs.length := ⟨_, rfl⟩
       rw [<- hnr] at hc
       obtain ⟨c1, c2', c3⟩ := hc wr HWQ.out
       have hSEC := fun w' (h : Ext w w') => rsection_any o.1 SA (some ⟨bb, off, none⟩) sc sd k sm kd d rs A2 c2 nr w' HSN.out (HS.out.ext h) (by omega) hnr (hrs.ext h) hds hwk
       have hfo := FO.out j hjz
       have hon := @secTo_succ o j HJ.out.1 hjz
       rw [hgk] at hfo hon
       have HFO := Lib.hid hfo
       have HON := Lib.hid hon
       have HSEC := Lib.hid hSEC
       have E1 : Ext wr (wr.alloc (.cells #[.int .i64 kd, .string d, .slice A2 nr c2] 67)) := (Ext.refl wr).alloc _
       have hown1 := HJ.out.2.1.alloc (.cells #[.int .i64 kd, .string d, .slice A2 nr c2] 67)
       have hcell := (hown1.cellAt j (by omega)).trans (ownV_get _ hjt)
       have HO1 := Lib.hid hown1
       have b0q := E1.keepc (HJ.out.2.2.keepc b0)
       have b1q := E1.keepc (HJ.out.2.2.keepc b1)
       have HE1 := Lib.hid E1
       clear hfo hon hSEC hown1 hc hgk hrs hnr E1
       by_cases ho : C.own o.1 j = 1
       ·rw [ho] at hcell
        generalize C.secB o.1 (kd, d, rs) = sb at HFO HON HSEC
        go_wp2_with fail
        refine (HSEC.out _ (HWQ.out.trans HE1.out)).mono ?_
        rintro e w3 ⟨rfl, d3⟩
        have HE3 := Lib.hid (HE1.out.trans d3)
        have HO3 := Lib.hid (ownsRow_ext HO1.out d3)
        cases sb with
        | false =>
         have HR := Lib.hid (HFO.out (fun h => Bool.noConfusion h.2))
         go_wp2_with fail
         go_ret
         exact ⟨by rw [HR.out]; rfl, HWQ.out.trans HE3.out⟩
        | true =>
         have H9 := Lib.hid (HON.out ho rfl)
         go_wp2_with fail
         exact ⟨⟨j + 1, by omega, by go_num, H9.out, HO3.out, HJ.out.2.2.trans HE3.out⟩, by simp [intOf]; omega⟩
       ·have HR := Lib.hid (HFO.out (fun h => ho h.1))
        have ho' : (C.own o.1 j : Int) ≠ 1 := by omega
        generalize (C.own o.1 j : Int) = ow at hcell ho'
        clear ho
        go_wp2_with fail
        go_ret
        exact ⟨by rw [HR.out]; rfl, HWQ.out.trans HE1.out⟩
      ·have hkn : j = sm := by omega
       have HR := Lib.hid (FE.out (by have := HSN.out; omega) (by have := HSM.out; omega) HNB.out HY.out (by have := HJ.out.1; rw [hkn, HSM.out] at this; exact this))
       go_wp2_with fail
       go_ret
       exact ⟨by rw [HR.out]; rfl, HWQ.out⟩
  ·have HR := Lib.hid (FL.out (fun h => h2 (by omega)))
   have h1' : (sn : Int) <= 128 := by omega
   have h2' : (sm : Int) > 128 := by omega
   clear hsn hsm hS hT h1 h2
   go_enter Tryz.func116, Tryz.ntmps116
   go_wp2_with fail
   go_ret
   exact ⟨by rw [HR.out]; rfl, (Ext.refl w).alloc _⟩
 ·have HR := Lib.hid (FL.out (fun h => h1 (by omega)))
  have h1' : (sn : Int) > 128 := by omega
  clear hsn hsm hS hT h1
  go_enter Tryz.func116, Tryz.ntmps116
  go_wp2_with fail
  go_ret
  exact ⟨by rw [HR.out]; rfl, (Ext.refl w).alloc _⟩
end Go.Proofs.YtfbhchpbflaphaaGreatDoor

namespace Go.Proofs.YtfbhchpbflaphaaGreatDoor
open Go.RowKit Go.Maps Go.ChangeMaps
theorem Ext.keepf {a b : World} (h : Ext a b) {p : Addr} {v : Bool} (hp : p.block < a.heap.size) (hf : a.frozen? p = v) : b.frozen? p = v := (Below.frozen h hp).trans hf
theorem frozen_new (w : World) (cs : Array Value) (t : TypeId) (i : Nat) : (w.alloc (.cells cs t)).frozen? ⟨w.heap.size, i, none⟩ = false := by
 have h := heap_alloc_new w (.cells cs t)
 simp only [World.frozen?]
 rw [h]
 simp
theorem Ext.set3 {a b : World} (h : Ext a b) {g : Nat} (hp : a.heap.size <= g) (i j k : Nat) (u v x : Value) : Ext a (((b.setCell ⟨g, i, none⟩ u).setCell ⟨g, j, none⟩ v).setCell ⟨g, k, none⟩ x) :=
 ((h.setCell (p := ⟨g, i, none⟩) hp u).setCell (p := ⟨g, j, none⟩) hp v).setCell (p := ⟨g, k, none⟩) hp x
theorem eg39 : ∀ (args : Array Value) (w : World), (callFunc 114 args).run Tryz.prog w = .ok (.enter 114 args) w := enters_of Tryz.func114 (by kernel_rfl) rfl
set_option maxHeartbeats 400000 in
theorem isname_any (s x : ByteArray) (m q : Int) (bp : Nat) (w : World) (c1 : w.cell? ⟨bp, 0, none⟩ = some (.string x)) (_hs : s.size <= 9223372036854775807) :
 Calls Tryz.prog 114 #[.agg #[.string s, .int .i64 m, .int .i64 q], .pointer (some ⟨bp, 0, none⟩)] w (Al (.bool (s.toList == x.toList)) w) := by
 have d1 := alloc_keepc (.cells #[.string s, .int .i64 m, .int .i64 q] 60) c1
 clear c1
 generalize hb : (s.toList == x.toList) = b
 go_enter Tryz.func114, Tryz.ntmps114
 go_wp2_with fail
 go_ret
 exact ⟨rfl, (Ext.refl w).alloc _⟩
set_option maxRecDepth 8000 in
set_option maxHeartbeats 2000000 in
theorem IndexFunc_any (l : List C.Sym) (A : Option Addr) (c n bp : Nat) (x : ByteArray) (w : World) (hn : n = l.length) (hA : SliceAt symR w (Old w) A c l) (hn2 : n <= 9000000000000000000) (c1 : w.cell? ⟨bp, 0, none⟩ = some (.string x)) :
 Calls Tryz.prog 113 #[.slice A n c, .func (.func 114) #[] #[.pointer (some ⟨bp, 0, none⟩)]] w (Al (.int .i64 (idxI (C.idx l x.data.toList))) w) := by
 have h0 : notTo l x.data.toList 0 := fun _ _ h => absurd h (Nat.not_lt_zero _)
 have HN := Lib.hid hn
 have HA := Lib.hid hA
 have FY := Lib.hid (fun k => @idx_yes l x.data.toList k)
 have FE := Lib.hid (@idx_no l x.data.toList)
 generalize idxI (C.idx l x.data.toList) = R at FY FE ⊢
 have HC1 := Lib.hid c1
 clear hn hA c1
 have eg := eg39
 go_enter Tryz.func113, Tryz.ntmps113
 go_wp2_with fail
 go_loopw [5, 8] (fun _ i wr => ∃ k : Nat, k <= n /\ i = .int .i64 k /\ Hid (notTo l x.data.toList k /\ Ext w wr)) (fun _ i _ => n - (intOf i).toNat)
 case atStart => exact ⟨0, Nat.zero_le _, rfl, h0, Ext.refl w⟩
 case round =>
  obtain ⟨k, hk, rfl, HK⟩ := hrel
  by_cases hlt : k < n
  ·have hkz : k < l.length := by rw [<- HN.out]; exact hlt
   obtain ⟨b, off, s, md, sc, rfl, hg, hs, hwm, hws, hc⟩ := sym_get HA.out hkz
   have hgk : l[k] = (s, md, sc) := by rw [List.getElem?_eq_getElem hkz] at hg; simpa using hg
   have HC := Lib.hid hc
   obtain ⟨c1, c2, c3⟩ := hc wr HK.out.2
   have hfy := FY.out k HK.out.1 hkz
   have hon := @notTo_succ l x.data.toList k HK.out.1 hkz
   rw [hgk] at hfy hon
   have HFY := Lib.hid hfy
   have HON := Lib.hid hon
   have HCALL := Lib.hid (isname_any s x md sc bp wr (HK.out.2.keepc HC1.out) hs)
   clear hc hg hgk hfy hon
   rcases Bool.eq_false_or_eq_true (s.toList == x.toList) with he | he
   ·have hr := HFY.out (by have := eq_of_beq he; rwa [ByteArray.toList_eq, ByteArray.toList_eq] at this)
    have HR := Lib.hid hr
    rw [he] at HCALL
    clear he hr
    go_wp2_with (go_at_fn 114; refine HCALL.out.mono ?_; rintro e w1 ⟨rfl, d1⟩)
    go_ret
    exact ⟨by rw [HR.out]; rfl, HK.out.2.trans d1⟩
   ·have hr := HON.out (by intro h'; have : C.nm (s, md, sc) = s.data.toList := rfl; rw [this] at h'; rw [ByteArray.toList_eq, ByteArray.toList_eq, h'] at he; simp at he)
    have HR := Lib.hid hr
    rw [he] at HCALL
    clear he hr
    go_wp2_with (go_at_fn 114; refine HCALL.out.mono ?_; rintro e w1 ⟨rfl, d1⟩)
    go_roundw
    case rel => exact ⟨k + 1, by omega, by go_num, HR.out, HK.out.2.trans d1⟩
    case measure => simp [intOf]; omega
  ·have hr := FE.out (by have := HK.out.1; rwa [show k = l.length by have := HN.out; omega] at this)
   go_wp2_with fail
   go_ret
   exact ⟨by rw [hr]; rfl, HK.out.2⟩
def symV (s : C.Sym) : Value := .agg #[.string s.1, .int .i64 s.2.1, .int .i64 s.2.2]
def findV (l : List C.Sym) (x : List UInt8) : Value := match (C.idx l x).bind fun i => l[i]? with
 | some s => .tuple #[symV s, .bool true]
 | none => .tuple #[.agg #[.string ⟨#[]⟩, .int .i64 0, .int .i64 0], .bool false]
theorem findV_none {l : List C.Sym} {x : List UInt8} (h : C.idx l x = none) : findV l x = .tuple #[.agg #[.string ⟨#[]⟩, .int .i64 0, .int .i64 0], .bool false] := by unfold findV; rw [h]; rfl
theorem findV_some {l : List C.Sym} {x : List UInt8} {i : Nat} {s : ByteArray} {m q : Int} (h : C.idx l x = some i) (h2 : l[i]? = some (s, m, q)) : findV l x = .tuple #[.agg #[.string s, .int .i64 m, .int .i64 q], .bool true] := by
 unfold findV
 rw [h, Option.bind_some, h2]
 rfl
set_option maxRecDepth 8000 in
set_option maxHeartbeats 2000000 in
theorem Find_any (l : List C.Sym) (A B : Option Addr) (c d n m : Nat) (x : ByteArray) (w : World) (hn : n = l.length) (hA : SliceAt symR w (Old w) A c l) (hn2 : n <= 9000000000000000000) :
 Calls Tryz.prog 83 #[.agg #[.slice A n c, .slice B m d], .string x] w (Al (findV l x.data.toList) w) := by
 have HI := Lib.hid (fun (w' : World) (bp : Nat) (h : Ext w w') (hc : w'.cell? ⟨bp, 0, none⟩ = some (.string x)) => IndexFunc_any l A c n bp x w' hn (hA.ext h) hn2 hc)
 have HN := Lib.hid hn
 have HA := Lib.hid hA
 have b0 : ((w.alloc (.cells #[.slice A n c, .slice B m d] 56)).alloc (.cells #[.string x] 9)).cell? ⟨w.heap.size, 0, none⟩ = some (.slice A n c) := alloc_keepc _ (cell_new w #[.slice A n c, .slice B m d] 56 0)
 have x0 : ((w.alloc (.cells #[.slice A n c, .slice B m d] 56)).alloc (.cells #[.string x] 9)).cell? ⟨w.heap.size + 1, 0, none⟩ = some (.string x) := by
  have := cell_new (w.alloc (.cells #[.slice A n c, .slice B m d] 56)) #[.string x] 9 0
  rwa [show (w.alloc (.cells #[.slice A n c, .slice B m d] 56)).heap.size = w.heap.size + 1 by simp] at this
 have e0 : Ext w ((w.alloc (.cells #[.slice A n c, .slice B m d] 56)).alloc (.cells #[.string x] 9)) := ((Ext.refl w).alloc _).alloc _
 have E0 := Lib.hid e0
 clear hn hA e0
 have FS := Lib.hid (fun (i : Nat) (s : ByteArray) (mm q : Int) => @findV_some l x.data.toList i s mm q)
 have FN := Lib.hid (@findV_none l x.data.toList)
 generalize findV l x.data.toList = R at FS FN ⊢
 go_enter Tryz.func83, Tryz.ntmps83
 go_wp2_with fail
 refine (HI.out _ _ (E0.out.alloc _) (alloc_keepc _ x0)).mono ?_
 rintro e w1 ⟨rfl, d1⟩
 have hz : ((w.alloc (.cells #[.slice A n c, .slice B m d] 56)).alloc (.cells #[.string x] 9)).heap.size = w.heap.size + 1 + 1 := by simp
 have k0 := d1.keepc (cell_new _ #[.string ⟨#[]⟩, .int .i64 0, .int .i64 0] 60 0)
 have k1 := d1.keepc (cell_new _ #[.string ⟨#[]⟩, .int .i64 0, .int .i64 0] 60 1)
 have k2 := d1.keepc (cell_new _ #[.string ⟨#[]⟩, .int .i64 0, .int .i64 0] 60 2)
 have f0 := d1.keepf (by simp) (frozen_new _ #[.string ⟨#[]⟩, .int .i64 0, .int .i64 0] 60 0)
 have f1 := d1.keepf (by simp) (frozen_new _ #[.string ⟨#[]⟩, .int .i64 0, .int .i64 0] 60 1)
 have f2 := d1.keepf (by simp) (frozen_new _ #[.string ⟨#[]⟩, .int .i64 0, .int .i64 0] 60 2)
 rw [hz] at k0 k1 k2 f0 f1 f2
 have b0' := d1.keepc (alloc_keepc (.cells #[.string ⟨#[]⟩, .int .i64 0, .int .i64 0] 60) b0)
 have HW1 := Lib.hid (show Ext w w1 from (E0.out.alloc _).trans d1)
 clear b0 x0 hz d1
 cases hi : C.idx l x.data.toList with
 | none =>
  have HR := Lib.hid (FN.out hi)
  have hz : idxI none = -1 := rfl
  rw [hz]
  clear hi hz
  go_wp2_with fail
  refine bodyPost_ret (v := .tuple #[.agg #[.string ⟨#[]⟩, .int .i64 0, .int .i64 0], .bool false]) (by simp [results, Tryz.results83, go_sem, k0, k1, k2]) rfl ⟨by rw [HR.out], ?_⟩
  exact HW1.out.set3 (by omega) _ _ _ _ _ _
 | some i =>
  obtain ⟨h1, h2⟩ := C.idx_lt hi
  obtain ⟨b, off, s, md, sc, rfl, hg, hs, hwm, hws, hc⟩ := sym_get HA.out h1
  have HR := Lib.hid (FS.out i s md sc hi hg)
  have hz : idxI (some i) = (i : Int) := rfl
  rw [hz]
  obtain ⟨c1, c2, c3⟩ := hc w1 HW1.out
  have hin : i < n := by rw [HN.out]; exact h1
  clear hi hz h1 h2 hg hc
  go_wp2_with fail
  refine bodyPost_ret (v := .tuple #[.agg #[.string s, .int .i64 md, .int .i64 sc], .bool true]) (by simp [results, Tryz.results83, go_sem, k0, k1, k2]) rfl ⟨by rw [HR.out], ?_⟩
  exact HW1.out.set3 (by omega) _ _ _ _ _ _
set_option maxRecDepth 8000 in
set_option maxHeartbeats 2000000 in
theorem rFind_any (l : List C.Sym) (A B : Option Addr) (c d n m : Nat) (x : ByteArray) (w : World) (hn : n = l.length) (hA : SliceAt symR w (Old w) A c l) (hn2 : n <= 100000) (hx : x.size <= 9223372036854775807) :
 Calls Tryz.prog 23 #[.agg #[.slice A n c, .slice B m d], .string x] w (Al (findV l x.data.toList) w) := by
 have HI := Lib.hid (fun (w' : World) (h : Ext w w') => Index_any l A B c d n m x w' hn (hA.ext h) hn2 hx)
 have HN := Lib.hid hn
 have HA := Lib.hid hA
 have b0 : (w.alloc (.cells #[.slice A n c, .slice B m d] 56)).cell? ⟨w.heap.size, 0, none⟩ = some (.slice A n c) := cell_new w #[.slice A n c, .slice B m d] 56 0
 have b1 : (w.alloc (.cells #[.slice A n c, .slice B m d] 56)).cell? ⟨w.heap.size, 1, none⟩ = some (.slice B m d) := cell_new w #[.slice A n c, .slice B m d] 56 1
 have e0 : Ext w (w.alloc (.cells #[.slice A n c, .slice B m d] 56)) := (Ext.refl w).alloc _
 have E0 := Lib.hid e0
 clear hn hA e0
 have FS := Lib.hid (fun (i : Nat) (s : ByteArray) (mm q : Int) => @findV_some l x.data.toList i s mm q)
 have FN := Lib.hid (@findV_none l x.data.toList)
 generalize findV l x.data.toList = R at FS FN ⊢
 have hz : (w.alloc (.cells #[.slice A n c, .slice B m d] 56)).heap.size = w.heap.size + 1 := by simp
 have HZ := Lib.hid hz
 clear hz
 go_enter Tryz.func23, Tryz.ntmps23
 go_wp2_with fail
 refine (HI.out _ (E0.out.alloc _)).mono ?_
 rintro e w1 ⟨rfl, d1⟩
 have k0 := d1.keepc (cell_new _ #[.string ⟨#[]⟩, .int .i64 0, .int .i64 0] 60 0)
 have k1 := d1.keepc (cell_new _ #[.string ⟨#[]⟩, .int .i64 0, .int .i64 0] 60 1)
 have k2 := d1.keepc (cell_new _ #[.string ⟨#[]⟩, .int .i64 0, .int .i64 0] 60 2)
 have f0 := d1.keepf (by simp) (frozen_new _ #[.string ⟨#[]⟩, .int .i64 0, .int .i64 0] 60 0)
 have f1 := d1.keepf (by simp) (frozen_new _ #[.string ⟨#[]⟩, .int .i64 0, .int .i64 0] 60 1)
 have f2 := d1.keepf (by simp) (frozen_new _ #[.string ⟨#[]⟩, .int .i64 0, .int .i64 0] 60 2)
 rw [HZ.out] at k0 k1 k2 f0 f1 f2
 have b0' := d1.keepc (alloc_keepc (.cells #[.string ⟨#[]⟩, .int .i64 0, .int .i64 0] 60) b0)
 have HW1 := Lib.hid (show Ext w w1 from (E0.out.alloc _).trans d1)
 clear b0 b1 d1
 cases hi : C.idx l x.data.toList with
 | none =>
  have HR := Lib.hid (FN.out hi)
  have hz : idxI none = -1 := rfl
  rw [hz]
  clear hi hz
  go_wp2_with fail
  refine bodyPost_ret (v := .tuple #[.agg #[.string ⟨#[]⟩, .int .i64 0, .int .i64 0], .bool false]) (by simp [results, Tryz.results23, go_sem, k0, k1, k2]) rfl ⟨by rw [HR.out], ?_⟩
  exact HW1.out.set3 (by omega) _ _ _ _ _ _
 | some i =>
  obtain ⟨h1, h2⟩ := C.idx_lt hi
  obtain ⟨b, off, s, md, sc, rfl, hg, hs, hwm, hws, hc⟩ := sym_get HA.out h1
  have HR := Lib.hid (FS.out i s md sc hi hg)
  have hz : idxI (some i) = (i : Int) := rfl
  rw [hz]
  obtain ⟨c1, c2, c3⟩ := hc w1 HW1.out
  have hin : i < n := by rw [HN.out]; exact h1
  clear hi hz h1 h2 hg hc
  go_wp2_with fail
  refine bodyPost_ret (v := .tuple #[.agg #[.string s, .int .i64 md, .int .i64 sc], .bool true]) (by simp [results, Tryz.results23, go_sem, k0, k1, k2]) rfl ⟨by rw [HR.out], ?_⟩
  exact HW1.out.set3 (by omega) _ _ _ _ _ _
end Go.Proofs.YtfbhchpbflaphaaGreatDoor

namespace Go.Proofs.YtfbhchpbflaphaaGreatDoor.C
abbrev Bt := List UInt8
def insF (s : Bt) : List Bt -> Bool -> List Bt
 | [], d => if d then [] else [s]
 | x :: l, d => (if !d && decide (s <= x) then [s] else []) ++ ((if x = s then [] else [x]) ++ insF s l (d || decide (s <= x)))
def insB (l : List Bt) (s : Bt) : List Bt := insF s l false
theorem insF_mem (s y : Bt) : ∀ (l : List Bt) (d : Bool), y ∈ insF s l d ↔ (y ∈ l /\ y ≠ s) ∨ (d = false /\ y = s)
 | [], d => by cases d <;> simp [insF]
 | x :: l, d => by
  have ih := insF_mem s y l (d || decide (s <= x))
  rw [insF, List.mem_append, List.mem_append, ih, List.mem_cons]
  by_cases hx : x = s
  ·subst hx
   have hle : decide (x <= x) = true := decide_eq_true (List.le_refl x)
   rw [hle]
   cases d <;> simp
   ·by_cases hy : y = x <;> simp [hy]
   ·intro h1 h2; exact absurd h2 h1
  ·by_cases hle : s <= x
   ·cases d <;> simp [hle, hx]
    ·by_cases hy : y = s
     ·subst hy; simp
     ·simp [hy]
    ·by_cases hy : y = s
     ·subst hy; simp; exact fun h => hx h.symm
     ·simp [hy]
   ·cases d <;> simp [hle, hx]
    ·by_cases hy : y = s
     ·subst hy; simp
     ·simp [hy]
    ·by_cases hy : y = s
     ·subst hy; simp; exact fun h => hx h.symm
     ·simp [hy]
theorem insF_true (s : Bt) : ∀ l : List Bt, insF s l true = l.filter fun x => decide (x ≠ s)
 | [] => rfl
 | x :: l => by
  rw [insF, Bool.true_or, insF_true s l]
  by_cases hx : x = s <;> simp [hx]
theorem lt_of_not_le {x y : Bt} (h : ¬ x <= y) : y < x := by
 rcases List.le_total y x with h1 | h1
 ·rcases List.le_iff_lt_or_eq.1 h1 with h2 | h2
  ·exact h2
  ·subst h2; exact absurd (List.le_refl y) h
 ·exact absurd h1 h
theorem insF_sorted (s : Bt) : ∀ (l : List Bt), l.Pairwise (· < ·) -> (insF s l false).Pairwise (· < ·)
 | [], _ => by simp [insF]
 | x :: l, h => by
  obtain ⟨h1, h2⟩ := List.pairwise_cons.1 h
  rw [insF]
  by_cases hle : s <= x
  ·rw [Bool.false_or, decide_eq_true hle, insF_true]
   simp only [Bool.not_false, Bool.and_true, if_true]
   have hf : (l.filter fun x => decide (x ≠ s)).Pairwise (· < ·) := h2.filter _
   by_cases hx : x = s
   ·subst hx
    simp only [if_true, List.nil_append, List.singleton_append]
    exact List.pairwise_cons.2 ⟨fun y hy => h1 y (List.mem_filter.1 hy).1, hf⟩
   ·rw [if_neg hx]
    have hlt : s < x := by
     rcases List.le_iff_lt_or_eq.1 hle with h3 | h3
     ·exact h3
     ·exact absurd h3.symm hx
    simp only [List.singleton_append]
    refine List.pairwise_cons.2 ⟨fun y hy => ?_, List.pairwise_cons.2 ⟨fun y hy => h1 y (List.mem_filter.1 hy).1, hf⟩⟩
    rcases List.mem_cons.1 hy with rfl | hy
    ·exact hlt
    ·exact List.lt_trans hlt (h1 y (List.mem_filter.1 hy).1)
  ·have hlt := lt_of_not_le hle
   have hx : x ≠ s := by rintro rfl; exact hle (List.le_refl _)
   rw [Bool.false_or, decide_eq_false hle, if_neg hx]
   simp only [Bool.and_false, Bool.false_eq_true, if_false, List.nil_append, List.singleton_append]
   refine List.pairwise_cons.2 ⟨fun y hy => ?_, insF_sorted s l h2⟩
   rcases (insF_mem s y l false).1 hy with h3 | h3
   ·exact h1 y h3.1
   ·rw [h3.2]; exact hlt
theorem sorted_eq : ∀ {l m : List Bt}, l.Pairwise (· < ·) -> m.Pairwise (· < ·) -> (∀ y, y ∈ l ↔ y ∈ m) -> l = m
 | [], [], _, _, _ => rfl
 | [], b :: m, _, _, h => by have := (h b).2 List.mem_cons_self; cases this
 | a :: l, [], _, _, h => by have := (h a).1 List.mem_cons_self; cases this
 | a :: l, b :: m, hl, hm, h => by
  obtain ⟨l1, l2⟩ := List.pairwise_cons.1 hl
  obtain ⟨m1, m2⟩ := List.pairwise_cons.1 hm
  have hab : a = b := by
   rcases List.mem_cons.1 ((h a).1 List.mem_cons_self) with h1 | h1
   ·exact h1
   ·rcases List.mem_cons.1 ((h b).2 List.mem_cons_self) with h2 | h2
    ·exact h2.symm
    ·exact absurd (List.lt_trans (m1 a h1) (l1 b h2)) (List.lt_irrefl b)
  subst hab
  rw [sorted_eq l2 m2 fun y => ?_]
  constructor
  ·intro hy
   rcases List.mem_cons.1 ((h y).1 (List.mem_cons_of_mem _ hy)) with h1 | h1
   ·subst h1; exact absurd (l1 y hy) (List.lt_irrefl y)
   ·exact h1
  ·intro hy
   rcases List.mem_cons.1 ((h y).2 (List.mem_cons_of_mem _ hy)) with h1 | h1
   ·subst h1; exact absurd (m1 y hy) (List.lt_irrefl y)
   ·exact h1
theorem compact_mem_of (zs : List Bt) (y : Bt) (h : y ∈ Lib.compact zs) : y ∈ zs := by
 unfold Lib.compact Lib.compactUpTo at h
 obtain ⟨j, hj, rfl⟩ := List.mem_map.1 h
 have hj' := List.mem_range.1 (List.mem_filter.1 hj).1
 rw [getElem!_pos zs.toArray j (by simpa using hj')]
 simp
theorem compact_mem_to (zs : List Bt) : ∀ (j : Nat) (h : j < zs.length), zs[j] ∈ Lib.compact zs
 | 0, h => by
  unfold Lib.compact Lib.compactUpTo
  refine List.mem_map.2 ⟨0, List.mem_filter.2 ⟨List.mem_range.2 h, by simp [Lib.keeps]⟩, ?_⟩
  rw [getElem!_pos zs.toArray 0 (by simpa using h)]
  simp
 | j + 1, h => by
  by_cases e : zs[j + 1] = zs[j]
  ·rw [e]; exact compact_mem_to zs j (by omega)
  ·unfold Lib.compact Lib.compactUpTo
   refine List.mem_map.2 ⟨j + 1, List.mem_filter.2 ⟨List.mem_range.2 h, ?_⟩, ?_⟩
   ·refine Lib.keeps_pos ?_
    rw [getElem!_pos zs.toArray (j + 1) (by simpa using h), getElem!_pos zs.toArray (j + 1 - 1) (by simp; omega)]
    simpa using e
   ·rw [getElem!_pos zs.toArray (j + 1) (by simpa using h)]
    simp
theorem compact_sorted (zs : List Bt) (h : zs.Pairwise (· <= ·)) : (Lib.compact zs).Pairwise (· < ·) := by
 unfold Lib.compact Lib.compactUpTo
 rw [List.pairwise_map]
 have hr : ((List.range zs.length).filter (Lib.keeps zs.toArray)).Pairwise (· < ·) := List.Pairwise.filter _ List.pairwise_lt_range
 refine List.Pairwise.imp_of_mem (R := (· < ·)) (fun {i j} hi hj hij => ?_) hr
 have hil := List.mem_range.1 (List.mem_filter.1 hi).1
 have hjl := List.mem_range.1 (List.mem_filter.1 hj).1
 have hk := (List.mem_filter.1 hj).2
 have hk2 : zs.toArray[j]! ≠ zs.toArray[j - 1]! := by
  rcases of_decide_eq_true hk with h0 | h0
  ·omega
  ·exact h0
 rw [getElem!_pos zs.toArray j (by simpa using hjl), getElem!_pos zs.toArray (j - 1) (by simp; omega)] at hk2
 rw [getElem!_pos zs.toArray j (by simpa using hjl), getElem!_pos zs.toArray i (by simpa using hil)]
 simp only [List.getElem_toArray] at hk2 ⊢
 have hp := List.pairwise_iff_getElem.1 h
 have h1 : zs[j - 1] < zs[j] := by
  rcases List.le_iff_lt_or_eq.1 (hp (j - 1) j (by omega) hjl (by omega)) with h2 | h2
  ·exact h2
  ·exact absurd h2.symm hk2
 by_cases e : i = j - 1
 ·subst e; exact h1
 ·exact List.lt_of_le_of_lt (hp i (j - 1) hil (by omega) (by omega)) h1
theorem foldl_ins : ∀ (l a : List Bt), a.Pairwise (· < ·) -> (l.foldl insB a).Pairwise (· < ·) /\ ∀ y, y ∈ l.foldl insB a ↔ y ∈ a ∨ y ∈ l
 | [], a, h => ⟨h, fun y => by simp⟩
 | s :: l, a, h => by
  obtain ⟨h1, h2⟩ := foldl_ins l (insB a s) (insF_sorted s a h)
  refine ⟨h1, fun y => ?_⟩
  rw [List.foldl_cons, h2, List.mem_cons]
  unfold insB
  rw [insF_mem]
  by_cases hy : y = s
  ·simp [hy]
  ·simp [hy]
theorem mergeSort_sorted (l : List Bt) : (l.mergeSort fun x y => decide (x <= y)).Pairwise (· <= ·) := by
 have h := List.pairwise_mergeSort (le := fun x y : Bt => decide (x <= y)) (fun a b c h1 h2 => decide_eq_true (List.le_trans (of_decide_eq_true h1) (of_decide_eq_true h2))) (fun a b => by
  rcases List.le_total a b with h | h
  ·simp [h]
  ·simp [h]) l
 exact h.imp fun h => of_decide_eq_true h
theorem exports_eq (l : List Bt) : Lib.compact (l.mergeSort fun x y => decide (x <= y)) = l.foldl insB [] := by
 obtain ⟨h1, h2⟩ := foldl_ins l [] List.Pairwise.nil
 refine sorted_eq (compact_sorted _ (mergeSort_sorted l)) h1 fun y => ?_
 rw [h2]
 constructor
 ·intro h
  exact .inr (List.mem_mergeSort.1 (compact_mem_of _ y h))
 ·rintro (h | h)
  ·cases h
  ·obtain ⟨j, hj, rfl⟩ := List.getElem_of_mem (List.mem_mergeSort (le := fun x y : Bt => decide (x <= y)).2 h)
   exact compact_mem_to _ j hj
end Go.Proofs.YtfbhchpbflaphaaGreatDoor.C

namespace Go.Proofs.YtfbhchpbflaphaaGreatDoor
open Go.RowKit Go.Maps Go.ChangeMaps Go.Sort
def OwnS (w : World) (base : Nat) (v : Value) (n : Nat) (l : List C.Bs) : Prop := n = l.length /\ OwnAt w base 9 1 v n (l.map encStr)
theorem OwnS.ext {w w' : World} {base n : Nat} {v : Value} {l : List C.Bs} (h : OwnS w base v n l) (he : Ext w w') : OwnS w' base v n l := ⟨h.1, h.2.ext he⟩
theorem OwnS.nil (w : World) (base : Nat) : OwnS w base (.slice none 0 0) 0 [] := ⟨rfl, OwnAt.nil _ _ _ _⟩
def RetS (w : World) (l : List C.Bs) (e : Ending) (w' : World) : Prop := Ext w w' /\ ∃ v n, e = .returned v /\ OwnS w' w.heap.size v n l
theorem heap_put {w : World} {g off : Nat} {cur : Array Value} {e : TypeId} {fr : Nat × Nat} (d : Array C.Bs) (hb : w.heap[g]? = some (.cells cur e fr)) (n : Nat) (os : Array Obj) :
 (grow (putRow encStr (Sort.ahead w n) g off d) os).heap[g]? = some (.cells (putCells encStr off d cur) e fr) := by
 have hg : g < w.heap.size := (hltA hb)
 rw [heap_grow_old _ _ (by simpa using hg)]
 simp [putRow, mapBlock, Sort.ahead, Array.getElem?_modify, hb, onCells]
theorem grownBy_put {w : World} {g off n : Nat} {os : Array Obj} (d : Array C.Bs) : w.grownBy (grow (putRow encStr (Sort.ahead w n) g off d) os) (some g) := by
 refine ⟨rfl, rfl, rfl, by simp, fun k hk hne => ?_⟩
 rw [heap_grow_old _ _ (by simpa using hk)]
 have : g ≠ k := fun e => hne (by rw [e])
 simp [putRow, mapBlock, Sort.ahead, Array.getElem?_modify, this]
theorem OwnS.holds {w : World} {base g off cap n : Nat} {l : List C.Bs} (h : OwnS w base (.slice (some ⟨g, off, none⟩) n cap) n l) : Holds encStr w g off l.toArray /\ g < w.heap.size /\ base <= g /\ n <= cap := by
 obtain ⟨hn, h1, ⟨h2, _⟩ | ⟨g', off', cap', cur, hv, hb, hh, hnc, hc, hs, hx⟩⟩ := h
 ·cases h2
 ·cases hv
  refine ⟨fun j hj => ?_, (hltA hh), hb, hnc⟩
  have hj' : j < l.length := by simpa using hj
  refine ⟨?_, by simp [World.frozen?, hh]⟩
  rw [cell_of_row w g _ cur 9 (0, 0) hh, hx j (by omega)]
  simp [hj']
theorem OwnS.put {w : World} {base g off cap n : Nat} {l m : List C.Bs} (h : OwnS w base (.slice (some ⟨g, off, none⟩) n cap) n l) (k : Nat) (os : Array Obj) (d : Array C.Bs) (hd : d.size = n) (hm : m = d.toList.take m.length) :
 OwnS (grow (putRow encStr (Sort.ahead w k) g off d) os) base (.slice (some ⟨g, off, none⟩) m.length cap) m.length m := by
 obtain ⟨hn, h1, ⟨h2, _⟩ | ⟨g', off', cap', cur, hv, hb, hh, hnc, hc, hs, hx⟩⟩ := h
 ·cases h2
 ·cases hv
  have hml : m.length <= n := by
   have := congrArg List.length hm
   simp at this
   omega
  refine ⟨rfl, by simp, .inr ⟨g, off, cap, _, rfl, hb, heap_put d hh k os, by omega, hc, by simp [putCells]; omega, fun j hj => ?_⟩⟩
  have hj' : j < m.length := by omega
  have hjd : j < d.size := by omega
  have e1 : m[j]? = some d[j] := by
   rw [hm, List.getElem?_take_of_lt hj', Array.getElem?_toList, Array.getElem?_eq_getElem hjd]
  simp only [putCells, Array.getElem?_mapIdx, List.getElem?_map, e1, Option.map_some]
  rw [Array.getElem?_eq_getElem (show off + j < cur.size by omega), Option.map_some, if_pos ⟨by omega, by omega⟩, show off + j - off = j by omega, getElem!_pos d j hjd]
theorem sort_own (L : List C.Bs) (g off cap base n : Nat) (w : World) (h : OwnS w base (.slice (some ⟨g, off, none⟩) n cap) n L) (hl : n <= 100000) :
 Calls Tryz.prog 26 #[.slice (some ⟨g, off, none⟩) n cap] w fun e w' => e = .returned (.tuple #[]) /\ OwnS w' base (.slice (some ⟨g, off, none⟩) n cap) n (L.mergeSort fun x y => decide (x <= y)) /\ w.grownBy w' (some g) := by
 obtain ⟨h1, h2, _, _⟩ := h.holds
 have hn := h.1
 subst hn
 refine (Tryz.slices_Sort_string g off cap L w h1 h2 (by omega)).mono ?_
 rintro e w' ⟨rfl, k, os, rfl⟩
 refine ⟨rfl, ?_, grownBy_put _⟩
 have := h.put (m := L.mergeSort fun x y => decide (x <= y)) k os (L.mergeSort fun x y => decide (x <= y)).toArray (by simp) (List.take_of_length_le (Nat.le_refl _)).symm
 rwa [List.length_mergeSort] at this
theorem compact_own (L : List C.Bs) (g off cap base n : Nat) (w : World) (h : OwnS w base (.slice (some ⟨g, off, none⟩) n cap) n L) (hl : n <= 100000) :
 Calls Tryz.prog 27 #[.slice (some ⟨g, off, none⟩) n cap] w fun e w' => e = .returned (.slice (some ⟨g, off, none⟩) (Lib.compact L).length cap) /\ OwnS w' base (.slice (some ⟨g, off, none⟩) (Lib.compact L).length cap) (Lib.compact L).length (Lib.compact L) /\ w.grownBy w' (some g) := by
 obtain ⟨h1, h2, _, h4⟩ := h.holds
 have hn := h.1
 subst hn
 refine (Tryz.slices_Compact_string g off cap L w h1 (by omega) h4).mono ?_
 rintro e w' ⟨rfl, k, rfl⟩
 have hle := Lib.compact_length_le L
 have hp := h.put (m := Lib.compact L) k #[] (Lib.compact L ++ List.replicate (L.length - (Lib.compact L).length) []).toArray (by simp; omega) (by simp)
 have hg := grownBy_put (w := w) (g := g) (off := off) (n := k) (os := #[]) (Lib.compact L ++ List.replicate (L.length - (Lib.compact L).length) []).toArray
 rw [grow_empty] at hp hg
 exact ⟨rfl, hp, hg⟩
theorem Ext.own {a b c : World} (h : Ext a b) {g : Nat} (hg : a.heap.size <= g) (k : b.grownBy c (some g)) : Ext a c := Below.grown h k h.size fun _ hk => by cases hk; exact hg
def expL (l : List C.Sym) : List C.Bs := (l.filter fun s => decide (s.2.1 = 1) || decide (s.2.1 = 2)).map C.nm
theorem expL_snoc (l : List C.Sym) (s : C.Sym) : expL (l ++ [s]) = expL l ++ if s.2.1 = 1 ∨ s.2.1 = 2 then [C.nm s] else [] := by
 unfold expL
 rw [List.filter_append, List.map_append]
 by_cases h : s.2.1 = 1 ∨ s.2.1 = 2
 ·rw [if_pos h]
  rcases h with h | h <;> simp [h]
 ·rw [if_neg h]
  have h1 : s.2.1 ≠ 1 := fun e => h (.inl e)
  have h2 : s.2.1 ≠ 2 := fun e => h (.inr e)
  simp [h1, h2]
theorem expL_len (l : List C.Sym) : (expL l).length <= l.length := by
 unfold expL
 rw [List.length_map]
 exact List.length_filter_le _ _
theorem expL_yes {l : List C.Sym} {k : Nat} (hk : k < l.length) {s : ByteArray} {m q : Int} (hg : l[k] = (s, m, q)) (h : m = 1 ∨ m = 2) : expL (l.take (k + 1)) = expL (l.take k) ++ [s.data.toList] := by
 rw [List.take_succ_eq_append_getElem hk, expL_snoc, hg, if_pos h]
 rfl
theorem expL_no {l : List C.Sym} {k : Nat} (hk : k < l.length) {s : ByteArray} {m q : Int} (hg : l[k] = (s, m, q)) (h : ¬ (m = 1 ∨ m = 2)) : expL (l.take (k + 1)) = expL (l.take k) := by
 rw [List.take_succ_eq_append_getElem hk, expL_snoc, hg, if_neg h, List.append_nil]
theorem mkB_enc (s : ByteArray) : Value.string s = encStr s.data.toList := by cases s; rfl
theorem cells_new_str (W : World) (s : ByteArray) (b : Nat) (hb : b = W.heap.size) : ∀ j u, ([s.data.toList].map encStr)[j]? = some u -> (W.alloc (.cells #[.string s] 9)).cell? ((⟨b, 0, none⟩ : Addr).add j) = some u := by
 subst hb
 intro j u hj
 rw [Addr.add_lit, Nat.zero_add, cell_new, mkB_enc]
 cases j with
 | zero => simpa using hj
 | succ j => simp at hj
theorem enc_one (l : List C.Bs) : ∀ u ∈ l.map encStr, u.oneCell' = true := by intro u hu; obtain ⟨n, _, rfl⟩ := List.mem_map.1 hu; rfl
set_option maxRecDepth 8000 in
set_option maxHeartbeats 2000000 in
theorem Exports_any (l : List C.Sym) (A B : Option Addr) (c d n m : Nat) (w : World) (hn : n = l.length) (hA : SliceAt symR w (Old w) A c l) (hn2 : n <= 100000) :
 Calls Tryz.prog 60 #[.agg #[.slice A n c, .slice B m d]] w (RetS w ((expL l).foldl C.insB [])) := by
 obtain ⟨i0, hi, hz0, hz1, hz2⟩ := info_parts str_info
 obtain ⟨R, hR⟩ : ∃ R, R = (expL l).foldl C.insB [] := ⟨_, rfl⟩
 rw [<- hR]
 have HRR := Lib.hid hR
 clear hR
 have HN := Lib.hid hn
 have HA := Lib.hid hA
 have b0 : (w.alloc (.cells #[.slice A n c, .slice B m d] 56)).cell? ⟨w.heap.size, 0, none⟩ = some (.slice A n c) := cell_new w #[.slice A n c, .slice B m d] 56 0
 clear hn hA
 go_enter Tryz.func60, Tryz.ntmps60
 go_wp2_with fail
 go_loopw [3, 9] (fun v i wr => ∃ k : Nat, k <= n /\ i = .int .i64 k /\ Hid (OwnS wr w.heap.size v (expL (l.take k)).length (expL (l.take k)) /\ Ext w wr)) (fun _ i _ => n - (intOf i).toNat)
 case atStart => exact ⟨0, Nat.zero_le _, rfl, OwnS.nil _ _, (Ext.refl w).alloc _⟩
 case round =>
  obtain ⟨k, hk, rfl, HK⟩ := hrel
  by_cases hlt : k < n
  ·have hkz : k < l.length := by rw [<- HN.out]; exact hlt
   obtain ⟨b, off, s, md, sc, rfl, hg, hs, hwm, hws, hc⟩ := sym_get HA.out hkz
   have hgk : l[k] = (s, md, sc) := by rw [List.getElem?_eq_getElem hkz] at hg; simpa using hg
   obtain ⟨c1, c2, c3⟩ := hc wr HK.out.2
   by_cases hm : md = 1 ∨ md = 2
   ·have HE := Lib.hid (expL_yes hkz hgk hm)
    have hll : (expL (l.take k)).length <= 100000 := by
     have := expL_len (l.take k)
     rw [List.length_take] at this
     omega
    have HLL := Lib.hid hll
    obtain ⟨L, hL⟩ : ∃ L, L = expL (l.take k) := ⟨_, rfl⟩
    have HK2 := HK.out
    rw [<- hL] at HK2 hll
    have HE2 : Hid (expL (l.take (k + 1)) = L ++ [s.data.toList]) := by rw [hL]; exact HE.out
    have HE0 := Lib.hid HK2.2
    have hown := HK2.1.2
    have hsE : Value.string s = encStr s.data.toList := mkB_enc s
    have HSE := Lib.hid hsE
    clear hc hg hgk HE HK2 hL hsE
    rcases hm with rfl | rfl
    all_goals
     go_wp2_with (at_builtin; refine wpList_append_ownAt _ rfl (.tmp 21) (.tmp 24) 36 rfl w.heap.size 9 i0 (.string ⟨#[]⟩) 1 16 Tryz.underlying36 hi hz0 hz1 hz2 rfl (by decide) _ _ _ rfl ((hown.alloc _).alloc _) ⟨wr.heap.size + 1, 0, none⟩ 1 1 ([s.data.toList].map encStr) rfl rfl (cells_new_str _ _ _ (by simp)) (enc_one _) (by unfold maxLen; omega) (by omega) (by have := HE0.out.size; simp at this ⊢; omega) (by decide) ?_; intro v2 w2 hown2 hg2 _ _)
     go_roundw
     case rel => exact ⟨k + 1, by omega, by go_num, by rw [HE2.out]; exact ⟨by simp, by rw [List.length_append, List.map_append]; exact hown2⟩, ((HE0.out.alloc _).alloc _).grown hown hg2⟩
     case measure => simp [intOf]; omega
   ·have HE := Lib.hid (expL_no hkz hgk hm)
    have h1 : (md == 1) = false := beq_eq_false_iff_ne.2 fun e => hm (.inl e)
    have h2 : (md == 2) = false := beq_eq_false_iff_ne.2 fun e => hm (.inr e)
    clear hc hg hgk hm
    go_wp2_with fail
    go_roundw
    case rel => exact ⟨k + 1, by omega, by go_num, by rw [HE.out]; exact HK.out.1.ext ((Ext.refl _).alloc _), HK.out.2.alloc _⟩
    case measure => simp [intOf]; omega
  ·obtain rfl : k = n := by omega
   obtain ⟨L, hL⟩ : ∃ L, L = expL l := ⟨_, rfl⟩
   have hKK : OwnS wr w.heap.size u3 L.length L /\ Ext w wr := by
    have := HK.out
    rwa [List.take_of_length_le (by have := HN.out; omega), <- hL] at this
   have HLL := Lib.hid (show L.length <= 100000 by rw [hL]; have := expL_len l; have := HN.out; omega)
   have HR : Hid (R = Lib.compact (L.mergeSort fun x y => decide (x <= y))) := by unfold Hid; rw [HRR.out, hL, C.exports_eq]
   have hv := hKK.1
   have HE0 := Lib.hid hKK.2
   clear hKK hL HK HRR
   rcases hv.2.2 with ⟨rfl, h0⟩ | ⟨g, off, cap, cur, rfl, hgb, _, _, _, _, _⟩
   ·obtain rfl : L = [] := List.eq_nil_of_length_eq_zero h0
    clear hv h0
    go_wp2_with fail
    refine (Tryz.slices_Sort_string_none none 0 wr).mono ?_
    rintro e w1 ⟨rfl, rfl⟩
    go_wp2_with fail
    refine (Tryz.slices_Compact_string_empty none 0 _).mono ?_
    rintro e w2 ⟨rfl, rfl⟩
    go_wp2_with fail
    go_ret
    have hR0 : R = [] := by rw [HR.out, C.exports_eq]; rfl
    exact ⟨HE0.out, _, 0, rfl, by rw [hR0]; exact OwnS.nil _ _⟩
   ·have HV := Lib.hid hv
    have HGB := Lib.hid hgb
    obtain ⟨q, hq⟩ : ∃ q, q = L.length := ⟨_, rfl⟩
    rw [<- hq] at HV HLL ⊢
    have HQ := Lib.hid hq
    clear hv hq hgb
    go_wp2_with fail
    refine (sort_own L g off cap w.heap.size q wr HV.out HLL.out).mono ?_
    rintro e w1 ⟨rfl, h1, h2⟩
    have H1 := Lib.hid h1
    have HE1 := Lib.hid (HE0.out.own HGB.out h2)
    clear h1 h2
    go_wp2_with fail
    refine (compact_own _ g off cap w.heap.size q w1 H1.out HLL.out).mono ?_
    rintro e w2 ⟨rfl, h1, h2⟩
    rw [<- HR.out] at h1 ⊢
    have H2 := Lib.hid h1
    have HE2 := Lib.hid (HE1.out.own HGB.out h2)
    clear h1 h2
    go_wp2_with fail
    go_ret
    exact ⟨HE2.out, _, _, rfl, H2.out⟩
end Go.Proofs.YtfbhchpbflaphaaGreatDoor

namespace Go.Proofs.YtfbhchpbflaphaaGreatDoor
open Go.RowKit Go.Maps Go.ChangeMaps Go.Sort
theorem OwnS.form {w : World} {base n : Nat} {v : Value} {l : List C.Bs} (h : OwnS w base v n l) :
 ∃ A c, v = .slice A n c /\ n <= c /\ ∀ j (_ : j < l.length), ∃ g off x, A = some ⟨g, off, none⟩ /\ l[j]? = some x.data.toList /\ ∀ w', Ext w w' -> w'.cell? ⟨g, off + j, none⟩ = some (.string x) := by
 obtain ⟨hn, hl, ⟨rfl, rfl⟩ | ⟨g, off, cap, cur, rfl, hb, hh, hnc, hc, hs, hx⟩⟩ := h
 ·exact ⟨none, 0, rfl, Nat.le_refl _, fun j hj => by omega⟩
 ·refine ⟨_, cap, rfl, hnc, fun j hj => ⟨g, off, ⟨l[j].toArray⟩, rfl, by rw [List.getElem?_eq_getElem hj], fun w' he => he.keepc ?_⟩⟩
  rw [cell_of_row w g _ cur 9 (0, 0) hh, hx j (by omega)]
  simp [hj]
theorem bytesLess_dec : ∀ (x y : List UInt8), Op.bytesLess x y = decide (x < y)
 | [], [] => by simp [Op.bytesLess]
 | _ :: _, [] => by simp [Op.bytesLess]
 | [], _ :: _ => by simp [Op.bytesLess]
 | a :: x, b :: y => by
  rw [Op.bytesLess, bytesLess_dec x y]
  simp only [List.cons_lt_cons_iff]
  by_cases h1 : a < b <;> by_cases h2 : a = b <;> by_cases h3 : x < y <;> simp [h1, h2, h3]
theorem less_le (x y : ByteArray) : Op.bytesLess x.toList y.toList = !decide (y.data.toList <= x.data.toList) := by
 rw [bytesLess_dec, ByteArray.toList_eq, ByteArray.toList_eq]
 generalize x.data.toList = a
 generalize y.data.toList = b
 by_cases h : b <= a
 ·have h2 : ¬ a < b := fun h' => absurd (List.lt_of_le_of_lt h h') (List.lt_irrefl b)
  rw [decide_eq_false h2, decide_eq_true h]
  rfl
 ·rw [decide_eq_true (C.lt_of_not_le h), decide_eq_false h]
  rfl
theorem eq_dec (x y : ByteArray) : (x.toList == y.toList) = decide (x.data.toList = y.data.toList) := by
 rw [ByteArray.toList_eq, ByteArray.toList_eq]
 generalize x.data.toList = a
 generalize y.data.toList = b
 by_cases h : a = b <;> simp [h]
theorem ins_step {l L R : List C.Bs} {s : C.Bs} {x : ByteArray} {k : Nat} {d : Bool} (h : L ++ C.insF s (l.drop k) d = R) (hk : k < l.length) (hx : l[k]? = some x.data.toList) :
 L ++ ((if !d && decide (s <= x.data.toList) then [s] else []) ++ (if x.data.toList = s then [] else [x.data.toList])) ++ C.insF s (l.drop (k + 1)) (d || decide (s <= x.data.toList)) = R := by
 have e : l[k] = x.data.toList := by rw [List.getElem?_eq_getElem hk] at hx; exact Option.some.inj hx
 rw [List.drop_eq_getElem_cons hk, e, C.insF] at h
 rw [<- h]
 simp
theorem ins_ways {l L R : List C.Bs} {s x : ByteArray} {k : Nat} {d : Bool} (h : L ++ C.insF s.data.toList (l.drop k) d = R) (hk : k < l.length) (hx : l[k]? = some x.data.toList) :
 (d = true /\ (x.toList == s.toList) = true /\ (!(x.toList == s.toList)) = false /\ Hid (L ++ C.insF s.data.toList (l.drop (k + 1)) true = R)) ∨
 (d = true /\ (x.toList == s.toList) = false /\ (!(x.toList == s.toList)) = true /\ Hid (L ++ [x.data.toList] ++ C.insF s.data.toList (l.drop (k + 1)) true = R)) ∨
 (d = false /\ (Op.bytesLess x.toList s.toList = false /\ (!Op.bytesLess x.toList s.toList) = true) /\ ((x.toList == s.toList) = true /\ (!(x.toList == s.toList)) = false) /\ Hid (L ++ [s.data.toList] ++ C.insF s.data.toList (l.drop (k + 1)) true = R)) ∨
 (d = false /\ (Op.bytesLess x.toList s.toList = false /\ (!Op.bytesLess x.toList s.toList) = true) /\ ((x.toList == s.toList) = false /\ (!(x.toList == s.toList)) = true) /\ Hid (L ++ [s.data.toList] ++ [x.data.toList] ++ C.insF s.data.toList (l.drop (k + 1)) true = R)) ∨
 (d = false /\ (Op.bytesLess x.toList s.toList = true /\ (!Op.bytesLess x.toList s.toList) = false) /\ ((x.toList == s.toList) = false /\ (!(x.toList == s.toList)) = true) /\ Hid (L ++ [x.data.toList] ++ C.insF s.data.toList (l.drop (k + 1)) false = R)) := by
 have hst := ins_step h hk hx
 rw [less_le, eq_dec]
 unfold Hid
 by_cases hE : x.data.toList = s.data.toList
 ·have hA : s.data.toList <= x.data.toList := by rw [hE]; exact List.le_refl _
  rw [decide_eq_true hA, if_pos hE] at hst
  rw [decide_eq_true hA, decide_eq_true hE]
  cases d
  ·refine .inr (.inr (.inl ⟨rfl, ⟨rfl, rfl⟩, ⟨rfl, rfl⟩, ?_⟩))
   rw [<- hst]; simp
  ·refine .inl ⟨rfl, rfl, rfl, ?_⟩
   rw [<- hst]; simp
 ·rw [if_neg hE] at hst
  rw [decide_eq_false hE]
  cases d
  ·by_cases hA : s.data.toList <= x.data.toList
   ·rw [decide_eq_true hA] at hst ⊢
    refine .inr (.inr (.inr (.inl ⟨rfl, ⟨rfl, rfl⟩, ⟨rfl, rfl⟩, ?_⟩)))
    rw [<- hst]; simp
   ·rw [decide_eq_false hA] at hst ⊢
    refine .inr (.inr (.inr (.inr ⟨rfl, ⟨rfl, rfl⟩, ⟨rfl, rfl⟩, ?_⟩)))
    rw [<- hst]; simp
  ·refine .inr (.inl ⟨rfl, rfl, rfl, ?_⟩)
   rw [<- hst]; simp
theorem ins_end {l L R : List C.Bs} {s : C.Bs} {k : Nat} {d : Bool} (h : L ++ C.insF s (l.drop k) d = R) (hk : l.length <= k) : (L ++ if d then [] else [s]) = R := by
 rw [List.drop_eq_nil_of_le hk] at h
 exact h
theorem own_snoc2 {w : World} {base n : Nat} {v : Value} {L : List C.Bs} {s : ByteArray} (hn : n = L.length) (h : OwnAt w base 9 1 v (n + 1) (L.map encStr ++ [s.data.toList].map encStr)) : OwnS w base v (L ++ [s.data.toList]).length (L ++ [s.data.toList]) :=
 ⟨rfl, by rw [List.length_append, List.map_append]; rw [hn] at h; exact h⟩
set_option maxRecDepth 8000 in
set_option maxHeartbeats 4000000 in
theorem Insert_any (l : List C.Bs) (v : Value) (n base : Nat) (s : ByteArray) (w : World) (h : OwnS w base v n l) (hn2 : n <= 100000) :
 Calls Tryz.prog 62 #[v, .string s] w (RetS w (C.insB l s.data.toList)) := by
 obtain ⟨i0, hi, hz0, hz1, hz2⟩ := info_parts str_info
 have HN := Lib.hid h.1
 obtain ⟨A, c, rfl, _, hcs⟩ := h.form
 have HCS := Lib.hid hcs
 obtain ⟨R, hR⟩ : ∃ R, R = C.insB l s.data.toList := ⟨_, rfl⟩
 rw [<- hR]
 have HR := Lib.hid hR
 clear h hcs hR
 go_enter Tryz.func62, Tryz.ntmps62
 go_wp2_with fail
 go_loopw [5, 6, 11] (fun v dn i wr => ∃ (k : Nat) (d : Bool) (L : List C.Bs), k <= n /\ L.length <= k + 1 /\ i = .int .i64 k /\ dn = .bool d /\ Hid (L ++ C.insF s.data.toList (l.drop k) d = R /\ OwnS wr w.heap.size v L.length L /\ Ext w wr /\ (d = false -> L.length <= k))) (fun _ _ i _ => n - (intOf i).toNat)
 case atStart => exact ⟨0, false, [], Nat.zero_le _, by simp, rfl, rfl, HR.out.symm, OwnS.nil _ _, Ext.refl w, fun _ => Nat.le_refl 0⟩
 case round =>
  obtain ⟨k, d, L, hk, hL, rfl, rfl, HK⟩ := hrel
  by_cases hlt : k < n
  ·have hkz : k < l.length := by rw [<- HN.out]; exact hlt
   obtain ⟨g, off, x, rfl, hg, hc⟩ := HCS.out k hkz
   have c1 := hc wr HK.out.2.2.1
   have hways := ins_ways HK.out.1 hkz hg
   have HO := Lib.hid HK.out.2.1.2
   have HX := Lib.hid HK.out.2.2.1
   have HLQ := Lib.hid hL
   have HD := HK.out.2.2.2
   obtain ⟨q, hq⟩ : ∃ q, q = L.length := ⟨_, rfl⟩
   have HQ := Lib.hid hq
   rw [<- hq] at HO HLQ HD
   clear hc hg hq HK hL
   have hq2 := HLQ.out
   have hown := HO.out
   have hbs := HX.out.size
   rcases hways with ⟨rfl, e1, e2, H9⟩ | ⟨rfl, e1, e2, H9⟩ | ⟨rfl, ⟨e3, e4⟩, ⟨e1, e2⟩, H9⟩ | ⟨rfl, ⟨e3, e4⟩, ⟨e1, e2⟩, H9⟩ | ⟨rfl, ⟨e3, e4⟩, ⟨e1, e2⟩, H9⟩
   ·clear HD
    go_wp2_with fail
    go_roundw
    case rel => exact ⟨k + 1, true, L, by omega, by have := HQ.out; omega, by go_num, rfl, H9.out, ⟨rfl, by rw [<- HQ.out]; exact hown⟩, HX.out, fun h => by cases h⟩
    case measure => simp [intOf]; omega
   ·clear HD
    go_wp2_with (at_builtin; refine wpList_append_ownAt _ rfl (.tmp 29) (.tmp 31) 36 rfl w.heap.size 9 i0 (.string ⟨#[]⟩) 1 16 Tryz.underlying36 hi hz0 hz1 hz2 rfl (by decide) _ _ _ rfl (hown.alloc _) ⟨wr.heap.size, 0, none⟩ 1 1 ([x.data.toList].map encStr) rfl rfl (cells_new_str _ _ _ rfl) (enc_one _) (by unfold maxLen; omega) (by omega) (by simp; omega) (by decide) ?_; intro v2 w2 hown2 hg2 _ _)
    go_roundw
    case rel => exact ⟨k + 1, true, L ++ [x.data.toList], by omega, by have := HQ.out; simp; omega, by go_num, rfl, H9.out, own_snoc2 HQ.out hown2, (HX.out.alloc _).grown hown hg2, fun h => by first | (cases h; done) | (have := HQ.out; simp; omega)⟩
    case measure => simp [intOf]; omega
   ·have hd := HD rfl
    clear HD
    go_wp2_with (at_builtin; refine wpList_append_ownAt _ rfl (.tmp 22) (.tmp 24) 36 rfl w.heap.size 9 i0 (.string ⟨#[]⟩) 1 16 Tryz.underlying36 hi hz0 hz1 hz2 rfl (by decide) _ _ _ rfl (hown.alloc _) ⟨wr.heap.size, 0, none⟩ 1 1 ([s.data.toList].map encStr) rfl rfl (cells_new_str _ _ _ rfl) (enc_one _) (by unfold maxLen; omega) (by omega) (by simp; omega) (by decide) ?_; intro v2 w2 hown2 hg2 _ _)
    go_roundw
    case rel => exact ⟨k + 1, true, L ++ [s.data.toList], by omega, by have := HQ.out; simp; omega, by go_num, rfl, H9.out, own_snoc2 HQ.out hown2, (HX.out.alloc _).grown hown hg2, fun h => by first | (cases h; done) | (have := HQ.out; simp; omega)⟩
    case measure => simp [intOf]; omega
   ·have hd := HD rfl
    clear HD
    go_wp2_with (first | (at_builtin; (refine wpList_append_ownAt _ rfl (.tmp 22) (.tmp 24) 36 rfl w.heap.size 9 i0 (.string ⟨#[]⟩) 1 16 Tryz.underlying36 hi hz0 hz1 hz2 rfl (by decide) _ _ _ rfl (hown.alloc _) ⟨wr.heap.size, 0, none⟩ 1 1 ([s.data.toList].map encStr) rfl rfl (cells_new_str _ _ _ rfl) (enc_one _) (by unfold maxLen; omega) (by omega) (by simp; omega) (by decide) ?_); intro v2 w2 hown2 hg2 _ _; have hs2 := hg2.size; have hs3 : w.heap.size <= w2.heap.size := by simp at hs2; omega) | (at_builtin; (refine wpList_append_ownAt _ rfl (.tmp 29) (.tmp 31) 36 rfl w.heap.size 9 i0 (.string ⟨#[]⟩) 1 16 Tryz.underlying36 hi hz0 hz1 hz2 rfl (by decide) _ _ _ rfl (hown2.alloc _) ⟨w2.heap.size, 0, none⟩ 1 1 ([x.data.toList].map encStr) rfl rfl (cells_new_str _ _ _ rfl) (enc_one _) (by unfold maxLen; omega) (by omega) (by simp; omega) (by decide) ?_); intro v3 w3 hown3 hg3 _ _))
    go_roundw
    case rel =>
     refine ⟨k + 1, true, L ++ [s.data.toList] ++ [x.data.toList], by omega, ?_, by go_num, rfl, H9.out, ?_, (((HX.out.alloc _).grown hown hg2).alloc _).grown hown2 hg3, fun h => by cases h⟩
     ·have := HQ.out
      simp
      omega
     ·refine ⟨by simp, ?_⟩
      have hl : (L ++ [s.data.toList] ++ [x.data.toList]).length = q + 1 + 1 := by have := HQ.out; simp; omega
      rw [hl, List.map_append, List.map_append]
      exact hown3
    case measure => simp [intOf]; omega
   ·have hd := HD rfl
    clear HD
    go_wp2_with (at_builtin; refine wpList_append_ownAt _ rfl (.tmp 29) (.tmp 31) 36 rfl w.heap.size 9 i0 (.string ⟨#[]⟩) 1 16 Tryz.underlying36 hi hz0 hz1 hz2 rfl (by decide) _ _ _ rfl (hown.alloc _) ⟨wr.heap.size, 0, none⟩ 1 1 ([x.data.toList].map encStr) rfl rfl (cells_new_str _ _ _ rfl) (enc_one _) (by unfold maxLen; omega) (by omega) (by simp; omega) (by decide) ?_; intro v2 w2 hown2 hg2 _ _)
    go_roundw
    case rel => exact ⟨k + 1, false, L ++ [x.data.toList], by omega, by have := HQ.out; simp; omega, by go_num, rfl, H9.out, own_snoc2 HQ.out hown2, (HX.out.alloc _).grown hown hg2, fun h => by first | (cases h; done) | (have := HQ.out; simp; omega)⟩
    case measure => simp [intOf]; omega
  ·have hen := ins_end HK.out.1 (by have := HN.out; omega)
   have HO := Lib.hid HK.out.2.1.2
   have HX := Lib.hid HK.out.2.2.1
   have HLQ := Lib.hid hL
   obtain ⟨q, hq⟩ : ∃ q, q = L.length := ⟨_, rfl⟩
   have HQ := Lib.hid hq
   rw [<- hq] at HO HLQ
   clear hq HK hL
   have hq2 := HLQ.out
   have hown := HO.out
   have hbs := HX.out.size
   cases d
   ·have HEN := Lib.hid hen
    clear hen
    go_wp2_with (at_builtin; refine wpList_append_ownAt _ rfl (.tmp 36) (.tmp 38) 36 rfl w.heap.size 9 i0 (.string ⟨#[]⟩) 1 16 Tryz.underlying36 hi hz0 hz1 hz2 rfl (by decide) _ _ _ rfl (hown.alloc _) ⟨wr.heap.size, 0, none⟩ 1 1 ([s.data.toList].map encStr) rfl rfl (cells_new_str _ _ _ rfl) (enc_one _) (by unfold maxLen; omega) (by omega) (by simp; omega) (by decide) ?_; intro v2 w2 hown2 hg2 _ _)
    go_ret
    exact ⟨(HX.out.alloc _).grown hown hg2, _, _, rfl, by rw [<- HEN.out]; exact own_snoc2 HQ.out hown2⟩
   ·have HEN := Lib.hid (show L = R by simpa using hen)
    clear hen
    go_wp2_with fail
    go_ret
    exact ⟨HX.out, _, _, rfl, by rw [<- HEN.out]; exact ⟨rfl, by rw [<- HQ.out]; exact hown⟩⟩
theorem insF_len (s : C.Bs) : ∀ (l : List C.Bs) (d : Bool), (C.insF s l d).length <= l.length + if d then 0 else 1
 | [], d => by cases d <;> simp [C.insF]
 | x :: l, d => by
  have ih := insF_len s l (d || decide (s <= x))
  rw [C.insF, List.length_append, List.length_append, List.length_cons]
  have h2 : (if x = s then ([] : List C.Bs) else [x]).length <= 1 := by split <;> simp
  cases d
  ·by_cases h : s <= x
   ·simp [h] at ih ⊢; omega
   ·simp [h] at ih ⊢; omega
  ·simp at ih ⊢; omega
theorem foldl_len : ∀ (l a : List C.Bs), (l.foldl C.insB a).length <= a.length + l.length
 | [], a => by simp
 | s :: l, a => by
  have h1 := foldl_len l (C.insB a s)
  have h2 := insF_len s a false
  unfold C.insB at *
  rw [List.foldl_cons, List.length_cons]
  simp at h2
  omega
theorem OwnS.mono {w : World} {base base' n : Nat} {v : Value} {l : List C.Bs} (h : OwnS w base v n l) (hb : base' <= base) : OwnS w base' v n l := ⟨h.1, h.2.mono hb⟩
set_option maxRecDepth 8000 in
set_option maxHeartbeats 4000000 in
theorem rExports_any (l : List C.Sym) (A B : Option Addr) (c d n m : Nat) (w : World) (hn : n = l.length) (hA : SliceAt symR w (Old w) A c l) (hn2 : n <= 50000) :
 Calls Tryz.prog 25 #[.agg #[.slice A n c, .slice B m d]] w (RetS w ((expL l).foldl C.insB [])) := by
 obtain ⟨R, hR⟩ : ∃ R, R = (expL l).foldl C.insB [] := ⟨_, rfl⟩
 rw [<- hR]
 have HRR := Lib.hid hR
 have HN := Lib.hid hn
 have HA := Lib.hid hA
 have b0 : (w.alloc (.cells #[.slice A n c, .slice B m d] 56)).cell? ⟨w.heap.size, 0, none⟩ = some (.slice A n c) := cell_new w #[.slice A n c, .slice B m d] 56 0
 clear hn hA hR
 go_enter Tryz.func25, Tryz.ntmps25
 go_wp2_with fail
 go_loopw [3, 9] (fun v i wr => ∃ (k q : Nat) (L : List C.Bs), k <= n /\ q <= 50000 /\ i = .int .i64 k /\ Hid (L = (expL (l.take k)).foldl C.insB []) /\ Hid (OwnS wr w.heap.size v q L /\ Ext w wr)) (fun _ i _ => n - (intOf i).toNat)
 case atStart => exact ⟨0, 0, [], Nat.zero_le _, Nat.zero_le _, rfl, rfl, OwnS.nil _ _, (Ext.refl w).alloc _⟩
 case round =>
  obtain ⟨k, q, L, hk, hq, rfl, HL, HK⟩ := hrel
  by_cases hlt : k < n
  ·have hkz : k < l.length := by rw [<- HN.out]; exact hlt
   obtain ⟨b, off, s, md, sc, rfl, hg, hs, hwm, hws, hc⟩ := sym_get HA.out hkz
   have hgk : l[k] = (s, md, sc) := by rw [List.getElem?_eq_getElem hkz] at hg; simpa using hg
   obtain ⟨c1, c2, c3⟩ := hc wr HK.out.2
   have hdr : (expL (l.take (k + 1))).length <= 50000 := by
    have := expL_len (l.take (k + 1))
    rw [List.length_take] at this
    omega
   have HDR := Lib.hid hdr
   by_cases hm : md = 1 ∨ md = 2
   ·have HE := Lib.hid (expL_yes hkz hgk hm)
    have HI := Lib.hid (fun (w' : World) (h : Ext wr w') => Insert_any L u3 q w.heap.size s w' (HK.out.1.ext h) (by omega))
    have HX := Lib.hid HK.out.2
    clear hc hg hgk hdr HK
    rcases hm with rfl | rfl
    all_goals
     go_wp2_with fail
     refine (HI.out _ ((Ext.refl wr).alloc _)).mono ?_
     rintro e w1 ⟨d1, v1, n1, rfl, ho⟩
     have HO := Lib.hid (show OwnS w1 w.heap.size v1 n1 (C.insB L s.data.toList) from ho.mono (by have := HX.out.size; simp; omega))
     have HX1 := Lib.hid ((HX.out.alloc _).trans d1)
     have HL1 : Hid (C.insB L s.data.toList = (expL (l.take (k + 1))).foldl C.insB []) := by unfold Hid; rw [HE.out, List.foldl_append, <- HL.out]; rfl
     have hn1 : n1 <= 50000 := by
      have h1 := HO.out.1
      have h2 := foldl_len (expL (l.take (k + 1))) []
      have h3 := HDR.out
      have h4 := HL1.out
      rw [h1, h4]
      simp at h2
      omega
     clear ho d1
     go_wp2_with fail
     go_roundw
     case rel => exact ⟨k + 1, n1, _, by omega, hn1, by go_num, HL1, HO.out, HX1.out⟩
     case measure => simp [intOf]; omega
   ·have HE := Lib.hid (expL_no hkz hgk hm)
    have h1 : (md == 1) = false := beq_eq_false_iff_ne.2 fun e => hm (.inl e)
    have h2 : (md == 2) = false := beq_eq_false_iff_ne.2 fun e => hm (.inr e)
    clear hc hg hgk hm hdr
    go_wp2_with fail
    go_roundw
    case rel => exact ⟨k + 1, q, L, by omega, hq, by go_num, by unfold Hid; rw [HE.out]; exact HL.out, HK.out.1.ext ((Ext.refl _).alloc _), HK.out.2.alloc _⟩
    case measure => simp [intOf]; omega
  ·have HE : Hid (L = R) := by
    unfold Hid
    rw [HL.out, HRR.out, List.take_of_length_le (by have := HN.out; omega)]
   go_wp2_with fail
   go_ret
   exact ⟨HK.out.2, _, _, rfl, by rw [<- HE.out]; exact HK.out.1⟩
end Go.Proofs.YtfbhchpbflaphaaGreatDoor

namespace Go.Proofs.YtfbhchpbflaphaaGreatDoor
open Go.RowKit Go.Maps Go.ChangeMaps
def setD (l : List (List UInt8)) : DataW Unit := l.foldl (fun D x => D.put (.string x) (.lit (.bool true))) (.map [])
theorem setD_snoc (l : List (List UInt8)) (x : List UInt8) : setD (l ++ [x]) = (setD l).put (.string x) (.lit (.bool true)) := by
 unfold setD
 rw [List.foldl_append]
 rfl
theorem setD_map_aux : ∀ (l : List (List UInt8)) (D : DataW Unit), IsMap D -> IsMap (l.foldl (fun D x => D.put (.string x) (.lit (.bool true))) D)
 | [], _, h => h
 | _ :: l, _, h => setD_map_aux l _ (h.put _ _)
theorem setD_map (l : List (List UInt8)) : IsMap (setD l) := setD_map_aux l _ isMap_empty
theorem setD_at (x : List UInt8) : ∀ l : List (List UInt8), (setD l).atKey (.string x) (.lit (.bool false)) = .lit (.bool (decide (x ∈ l))) := by
 intro l
 have key : ∀ (r : List (List UInt8)), (setD r.reverse).atKey (.string x) (.lit (.bool false)) = .lit (.bool (decide (x ∈ r))) := by
  intro r
  induction r with
  | nil => rfl
  | cons y r ih =>
   rw [List.reverse_cons, setD_snoc]
   by_cases e : y = x
   ·subst e
    rw [atKey_put_same (setD_map _) (show Go.WideAt.IsKeyLit (Lit.string _) from trivial)]
    simp
   ·rw [atKey_put_other (by intro h; cases h; exact e rfl), ih]
    have e2 : ¬ x = y := fun h => e h.symm
    simp [e2]
 have := key l.reverse
 rw [List.reverse_reverse] at this
 rw [this]
 simp
def SetTo (P : Program) (k e : TypeId) (w : World) (b n : Nat) (l : List (List UInt8)) : Prop := w.ownsMap (H := Unit) P k (plainElem P e) b n (setD l)
theorem SetTo.ext {P : Program} {k e : TypeId} {w w' : World} {b n : Nat} {l : List (List UInt8)} (h : SetTo P k e w b n l) (he : Ext w w') : SetTo P k e w' b n l := by
 obtain ⟨es, clock, hb, r⟩ := h
 refine ⟨es, clock, (he.block b ?_).trans hb, r⟩
 rcases Nat.lt_or_ge b w.heap.size with h' | h'
 ·exact h'
 ·rw [Array.getElem?_eq_none h'] at hb; cases hb
theorem SetTo.made (P : Program) (k e : TypeId) (w : World) : SetTo P k e (w.alloc (.map #[] 0)) w.heap.size 0 [] := World.ownsMap_made (H := Unit) w P k (plainElem P e)
theorem SetTo.grown {P : Program} {k e : TypeId} {w w' : World} {b n : Nat} {v : Value} {l : List (List UInt8)} (h : SetTo P k e w b n l) (hg : w.grownBy w' v.ownBlock) (hne : some b ≠ v.ownBlock) : SetTo P k e w' b n l := World.ownsMap.kept h hg hne
theorem plainElem_bool_inv {P : Program} {e : TypeId} (he : P.underlying e = some .bool) {v : Value} {z : DataW Unit × List MemPlace} (h : plainElem P e v = some z) : ∃ a, v = .bool a /\ z = (.lit (.bool a), []) := by
 unfold plainElem at h
 rw [he] at h
 cases v <;> simp at h
 subst h
 exact ⟨_, rfl, rfl⟩
theorem wpList_lookup_set {P : Program} (w : World) {ops : Array Oper} {rest : List Oper} {o : Oper} {a : Act} {Q : Exit -> Act -> World -> Prop}
 (hg : o.guard = none) (m x : Operand) (t : TypeId) (hop : o.op = Op.lookup t m x false)
 (k e : TypeId) (hk : P.underlying k = some .string) (ht : P.underlying t = some (.map k e)) (he : P.underlying e = some .bool) (hz : ∀ w, (zeroValue e).run P w = .ok (.bool false) w) (b n : Nat) (l : List (List UInt8))
 (hm : a.eval m = .map (some b)) (hown : SetTo P k e w b n l) (s : ByteArray) (hx : a.eval x = .string s) (hs : s.size <= maxLen)
 (hK : wpList P ops Q rest (a.put o.dst (.bool (decide (s.data.toList ∈ l)))) w) :
 wpList P ops Q (o :: rest) a w := by
 refine wpList_plain hg fun K' hK' => ?_
 obtain ⟨v, ps, hrun, hv⟩ := World.ownsMap.lookup hown (string_keyed hk) ht (hz w) (plainElem_bool he false) (WideMaps.keyOf_string_mk hk hs)
 obtain ⟨c, rfl, hc⟩ := plainElem_bool_inv he hv
 rw [setD_at] at hc
 have hcc : c = decide (s.data.toList ∈ l) := by
  have := congrArg Prod.fst hc
  simpa using this.symm
 subst hcc
 unfold Oper.wp
 simp [execOp, hop, hm, hx, hrun, Result.andThen]
 exact hK' _ _ hK
theorem wpList_put_set {P : Program} (w : World) {ops : Array Oper} {rest : List Oper} {o : Oper} {a : Act} {Q : Exit -> Act -> World -> Prop}
 (hg : o.guard = none) (m x v : Operand) (t : TypeId) (hop : o.op = Op.mapUpdate t m x v)
 (k e : TypeId) (hk : P.underlying k = some .string) (ht : P.underlying t = some (.map k e)) (he : P.underlying e = some .bool) (b n : Nat) (l : List (List UInt8))
 (hm : a.eval m = .map (some b)) (hown : SetTo P k e w b n l) (hn : n < maxLen) (s : ByteArray) (hx : a.eval x = .string s) (hv : a.eval v = .bool true) (hs : s.size <= maxLen)
 (hK : ∀ w', SetTo P k e w' b (n + 1) (l ++ [s.data.toList]) -> w.grownBy w' (some b) -> wpList P ops Q rest (a.put o.dst undef) w') :
 wpList P ops Q (o :: rest) a w :=
 wpList_mapUpdate_own w hg m x v t hop k e (string_keyed hk) ht (plainElem P e) b n (setD l) hm hown hn _ _ _ hx hv (WideMaps.keyOf_string_mk hk hs) _ [] (plainElem_bool he true) fun w' h1 h2 => hK w' (by unfold SetTo; rw [setD_snoc]; exact h1) h2
end Go.Proofs.YtfbhchpbflaphaaGreatDoor

namespace Go.Proofs.YtfbhchpbflaphaaGreatDoor
open Go.RowKit Go.Maps Go.ChangeMaps
def okP (s : ByteArray) : Bool := pathL s.data.toList
def mnm (m : C.Mem) : C.Bs := m.1.data.toList
def memGood (l : List C.Mem) (k : Nat) (h : k < l.length) : Prop := okP l[k].1 = true /\ C.checkB okN l[k].2 = true /\ ¬ mnm l[k] ∈ (l.take k).map mnm
def memTo (l : List C.Mem) (k : Nat) : Prop := ∀ i (h : i < l.length), i < k -> memGood l i h
theorem mem_in_take {l : List C.Mem} {k : Nat} {x : C.Bs} : x ∈ (l.take k).map mnm ↔ ∃ j, ∃ h : j < l.length, j < k /\ mnm l[j] = x := by
 constructor
 ·intro hx
  obtain ⟨m, hm, rfl⟩ := List.mem_map.1 hx
  obtain ⟨j, hj, rfl⟩ := List.getElem_of_mem hm
  simp only [List.length_take] at hj
  exact ⟨j, by omega, by omega, by simp⟩
 ·rintro ⟨j, h, hjk, rfl⟩
  refine List.mem_map.2 ⟨l[j], ?_, rfl⟩
  have : (l.take k)[j]'(by simp; omega) = l[j] := by simp
  rw [<- this]
  exact List.getElem_mem _
theorem mems_bad {l : List C.Mem} {k : Nat} (hk : k < l.length) (h : ¬ memGood l k hk) : C.memsB okN okP l = false := by
 rw [Bool.eq_false_iff]
 intro h'
 obtain ⟨_, h2⟩ := (C.memsB_iff okN okP l).1 h'
 obtain ⟨a, b, c⟩ := h2 k hk
 refine h ⟨a, b, fun hm => ?_⟩
 obtain ⟨j, hj, hjk, e⟩ := mem_in_take.1 hm
 exact c j hj hjk e
theorem mems_long {l : List C.Mem} (h : ¬ l.length <= 64) : C.memsB okN okP l = false := by
 rw [Bool.eq_false_iff]
 intro h'
 exact h ((C.memsB_iff okN okP l).1 h').1
theorem mems_end {l : List C.Mem} (h : memTo l l.length) : C.memsB okN okP l = decide (l.length <= 64) := by
 by_cases hl : l.length <= 64
 ·rw [decide_eq_true hl]
  refine (C.memsB_iff okN okP l).2 ⟨hl, fun i hi => ?_⟩
  obtain ⟨a, b, c⟩ := h i hi hi
  exact ⟨a, b, fun j hj hji e => c (mem_in_take.2 ⟨j, hj, hji, e⟩)⟩
 ·rw [decide_eq_false hl, mems_long hl]
theorem memTo_succ {l : List C.Mem} {k : Nat} (h : memTo l k) (hk : k < l.length) (h1 : memGood l k hk) : memTo l (k + 1) := by
 intro i hi hik
 by_cases e : i = k
 ·subst e; exact h1
 ·exact h i hi (by omega)
theorem mem_take_snoc {l : List C.Mem} {k : Nat} (hk : k < l.length) : (l.take (k + 1)).map mnm = (l.take k).map mnm ++ [mnm l[k]] := by
 rw [List.take_succ_eq_append_getElem hk, List.map_append]
 rfl
theorem mem_getB {w : World} {B : Nat -> Prop} {A : Option Addr} {c k : Nat} {l : List C.Mem} (h : SliceAt memR w B A c l) (hk : k < l.length) :
 ∃ b off s SA sc SB sd, A = some ⟨b, off, none⟩ /\ B b /\ l[k].1 = s /\ s.size <= 9223372036854775807 /\ SliceAt symR w B SA sc l[k].2.1 /\ SliceAt secR w B SB sd l[k].2.2 /\
  (w.cell? ⟨b, off + k * 3, none⟩ = some (.string s) /\ w.cell? ⟨b, off + k * 3 + 1, none⟩ = some (.slice SA l[k].2.1.length sc) /\ w.cell? ⟨b, off + k * 3 + 1 + 1, none⟩ = some (.slice SB l[k].2.2.length sd)) := by
 obtain ⟨b, off, rfl, hb, hr⟩ := h.2.2 (by intro h; rw [h] at hk; simp at hk)
 obtain ⟨us, ⟨x, y, rfl, ⟨rfl, hs⟩, x2, y2, rfl, ⟨SA, sc, rfl, hSA⟩, SB, sd, rfl, hSB⟩, hc⟩ := hr k hk
 exact ⟨b, off, l[k].1, SA, sc, SB, sd, rfl, hb, rfl, hs, hSA, hSB, hc 0 _ rfl, hc 1 _ rfl, hc 2 _ rfl⟩
def MemSizes (l : List C.Mem) : Prop := ∀ m ∈ l, m.1.size <= 1000000 /\ ∀ s ∈ m.2.1, s.1.size <= 9000000
theorem memGood_iff {l : List C.Mem} {k : Nat} (hk : k < l.length) : memGood l k hk ↔ (¬ mnm l[k] ∈ (l.take k).map mnm) /\ okP l[k].1 = true /\ C.checkB okN l[k].2 = true := by
 unfold memGood
 constructor
 ·rintro ⟨a, b, c⟩; exact ⟨c, a, b⟩
 ·rintro ⟨c, a, b⟩; exact ⟨a, b, c⟩
end Go.Proofs.YtfbhchpbflaphaaGreatDoor

namespace Go.Proofs.YtfbhchpbflaphaaGreatDoor.L
open C
abbrev Shelf := ByteArray × List Mem
abbrev Expd := ByteArray × Int
abbrev Plc := ByteArray × (ByteArray × (Int × (Int × Int)))
abbrev Impt := ByteArray × (ByteArray × Int)
abbrev Note := ByteArray × ByteArray
abbrev Bin := Int × (Int × (ByteArray × (List Plc × (List Int × (List Impt × (List Expd × List Note))))))
abbrev Libr := ByteArray × Bin
def exps (l : Libr) : List Expd := l.2.2.2.2.2.2.2.1
def full (p n : ByteArray) : ByteArray := ⟨(p.data.toList ++ (33 :: n.data.toList)).toArray⟩
def memsOf (s : List Shelf) : List Mem := s.flatMap fun x => x.2.map fun m => (full x.1 m.1, m.2)
structure Env where
 objs : List Mem
 mems : List Mem
 libs : List Libr
def Env.units (E : Env) : List Mem := E.objs ++ E.mems
def symP (o : C.Obj) (x : ByteArray) : Option Sym := (idx o.1 x.data.toList).bind fun i => o.1[i]?
def modeP (o : C.Obj) (x : ByteArray) : Int := match symP o x with | some s => s.2.1 | none => -1
def scanO (x : ByteArray) : List Mem -> Nat -> Int -> Int -> Option (Int × Int)
 | [], _, e, w => some (e, w)
 | m :: l, i, e, w =>
  if modeP m.2 x = 1 then (if 0 <= e then none else scanO x l (i + 1) i w)
  else if modeP m.2 x = 2 /\ w < 0 then scanO x l (i + 1) e i
  else scanO x l (i + 1) e w
inductive Hit
 | twice
 | unknown
 | unit (u m : Nat)
 | lib (j : Nat)
def pick (e w : Int) : Int := if 0 <= e then e else w
def isDef (x : ByteArray) (m : Mem) : Bool := decide (modeP m.2 x = 1) || decide (modeP m.2 x = 2)
def isIn (x : ByteArray) (l : Libr) : Bool := (exps l).any fun y => y.1.data.toList == x.data.toList
def later (x : ByteArray) (n : Nat) (mems : List Mem) (libs : List Libr) : Hit :=
 match mems.findIdx? (isDef x) with
 | some i => .unit (n + i) (i + 1)
 | none => match libs.findIdx? (isIn x) with
  | some j => .lib j
  | none => .unknown
def hit (E : Env) (x : ByteArray) : Hit :=
 match scanO x E.objs 0 (-1) (-1) with
 | none => .twice
 | some (e, w) => if 0 <= pick e w then .unit (pick e w).toNat 0 else later x E.objs.length E.mems E.libs
abbrev Spot := Nat × ByteArray
abbrev St := List Spot × (Nat × Nat)
def Env.sym (E : Env) (p : Spot) : Option Sym := (E.units[p.1]?).bind fun m => symP m.2 p.2
def Env.sec? (E : Env) (p : Spot) : Option Sec := (E.units[p.1]?).bind fun m => (symP m.2 p.2).bind fun s => if 0 <= s.2.2 then m.2.2[s.2.2.toNat]? else none
def Env.sec (E : Env) (p : Spot) : Sec := (E.sec? p).getD (0, ⟨#[]⟩, [])
def Env.data (E : Env) (p : Spot) : Bs := (E.sec p).2.1.data.toList
def Env.rels (E : Env) (p : Spot) : List Rel := (E.sec p).2.2
inductive Aim
 | bad (e : Int)
 | spot (p : Spot)
 | lib (j : Nat)
def aim (E : Env) (u : Nat) (x : ByteArray) : Aim :=
 match E.sym (u, x) with
 | none => .bad 8
 | some s => if s.2.1 = 0 then (if s.2.2 < 0 then .bad 8 else .spot (u, x)) else
  match hit E x with
  | .twice => .bad 6
  | .unknown => .bad 8
  | .unit v _ => .spot (v, x)
  | .lib j => .lib j
def aimN (E : Env) (u : Nat) (x : ByteArray) : Nat × Nat :=
 match E.sym (u, x) with
 | none => (0, 0)
 | some s => if s.2.1 = 0 then (0, 0) else
  match hit E x with
  | .unit _ m => (m, 0)
  | .lib j => (E.mems.length, j + 1)
  | _ => (0, 0)
def note (st : St) (m : Nat × Nat) : St := (st.1, max st.2.1 m.1, max st.2.2 m.2)
def has (L : List Spot) (p : Spot) : Bool := L.any fun q => decide (q = p)
def pos (L : List Spot) (p : Spot) : Nat := L.findIdx fun q => decide (q = p)
def addS (st : St) (p : Spot) : Except Int St := if has st.1 p then .ok st else if 128 <= st.1.length then .error 10 else .ok (st.1 ++ [p], st.2)
def stepR (E : Env) (u : Nat) (st : St) (x : ByteArray) : Except Int St :=
 match aim E u x with
 | .bad e => .error e
 | .spot p => addS (note st (aimN E u x)) p
 | .lib _ => .ok (note st (aimN E u x))
def relsF (E : Env) (u : Nat) : List Rel -> St -> Except Int St
 | [], st => .ok st
 | r :: l, st => match stepR E u st r.2 with
  | .error e => .error e
  | .ok st' => relsF E u l st'
def selF (E : Env) : Nat -> Nat -> St -> Except Int St
 | 0, _, st => .ok st
 | f + 1, k, st => match st.1[k]? with
  | none => .ok st
  | some p => match relsF E p.1 (E.rels p) st with
   | .error e => .error e
   | .ok st' => selF E f (k + 1) st'
def up (n : Nat) : Nat := (n + 3) / 4 * 4
def ats : List Nat -> Nat -> List Nat
 | [], _ => []
 | s :: l, e => up e :: ats l (up e + s)
def fin : List Nat -> Nat -> Nat
 | [], e => e
 | s :: l, e => fin l (up e + s)
def Env.sizes (E : Env) (L : List Spot) : List Nat := L.map fun p => (E.sec p).2.1.size
def Env.atL (E : Env) (L : List Spot) : List Nat := ats (E.sizes L) 0
def Env.at (E : Env) (L : List Spot) (p : Spot) : Nat := (E.atL L).getD (pos L p) 0
def word (v : Nat) : Bs := [UInt8.ofNat v, UInt8.ofNat (v / 256), UInt8.ofNat (v / 65536), UInt8.ofNat (v / 16777216)]
def putAt (l : Bs) (i : Nat) (d : Bs) : Bs := l.take i ++ (d ++ l.drop (i + d.length))
def patch (E : Env) (L : List Spot) (u : Nat) : List Rel -> Bs -> Bs
 | [], d => d
 | r :: l, d => match aim E u r.2 with
  | .spot p => patch E L u l (putAt d r.1.toNat (word (E.at L p)))
  | _ => patch E L u l d
def imgF (f : Spot -> Bs) : List Spot -> Nat -> Bs
 | [], _ => []
 | p :: l, e => List.replicate (up e - e) 0 ++ (f p ++ imgF f l (up e + (f p).length))
def Env.chunk (E : Env) (L : List Spot) (p : Spot) : Bs := patch E L p.1 (E.rels p) (E.data p)
def Env.img (E : Env) (L : List Spot) : Bs := imgF (E.chunk L) L 0
def fixF (E : Env) (u : Nat) (a : Nat) (l : List Rel) : List Int := l.filterMap fun r => match aim E u r.2 with | .spot _ => some ((a : Int) + r.1) | _ => none
def impF (E : Env) (u : Nat) (a : Nat) (l : List Rel) : List Impt := l.filterMap fun r => match aim E u r.2 with | .lib j => some ((E.libs[j]?.map (·.1)).getD ⟨#[]⟩, r.2, (a : Int) + r.1) | _ => none
def Env.fixes (E : Env) (L : List Spot) : List Int := (L.zip (E.atL L)).flatMap fun q => fixF E q.1.1 q.2 (E.rels q.1)
def Env.imps (E : Env) (L : List Spot) : List Impt := (L.zip (E.atL L)).flatMap fun q => impF E q.1.1 q.2 (E.rels q.1)
def Env.name (E : Env) (u : Nat) : ByteArray := (E.units[u]?.map (·.1)).getD ⟨#[]⟩
def Env.places (E : Env) (L : List Spot) : List Plc := (L.zip (E.atL L)).map fun q => (E.name q.1.1, q.1.2, (E.sec q.1).1, (q.2 : Int), ((E.sec q.1).2.1.size : Int))
abbrev Rd := List ByteArray × List ByteArray
def Env.reading (E : Env) (m : Nat × Nat) : Rd := ((E.units.take (E.objs.length + m.1)).map (·.1), (E.libs.take m.2).map (·.1))
def Env.bin (E : Env) (L : List Spot) (kind entry : Int) (ex : List Expd) : Bin := (kind, entry, ⟨(E.img L).toArray⟩, E.places L, E.fixes L, E.imps L, ex, [])
def finish (E : Env) (st : St) : Except Int St :=
 match selF E 129 0 st with
 | .error e => .error e
 | .ok st => if 65536 < fin (E.sizes st.1) 0 then .error 10 else .ok st
section
variable (okN okP : ByteArray -> Bool)
def distB (l : List ByteArray) : Bool := l.all okP && decide (l.length <= 64) && decide (l.map fun s => s.data.toList).Nodup
def strictB : List Expd -> Bool
 | [] => true
 | x :: l => okN x.1 && (match l with | [] => true | y :: _ => decide (x.1.data.toList < y.1.data.toList)) && strictB l
def libB (l : Libr) : Bool := decide (l.2.1 = 2) && strictB okN (exps l)
def validB (objs : List Mem) (sh : List Shelf) (libs : List Libr) : Bool :=
 memsB okN okP objs && sh.all (fun s => memsB okN okP s.2) && distB okP (sh.map (·.1)) && libs.all (libB okN) && distB okP (libs.map (·.1))
def envOf (objs : List Mem) (sh : List Shelf) (libs : List Libr) : Env := ⟨objs, memsOf sh, libs⟩
def resolveL (x : ByteArray) (objs : List Mem) (sh : List Shelf) (libs : List Libr) : ByteArray × (Bool × Int) :=
 if validB okN okP objs sh libs && okN x then
  match hit (envOf objs sh libs) x with
  | .twice => (⟨#[]⟩, false, 6)
  | .unknown => (⟨#[]⟩, false, 8)
  | .unit u _ => ((envOf objs sh libs).name u, false, 0)
  | .lib j => ((libs[j]?.map (·.1)).getD ⟨#[]⟩, true, 0)
 else (⟨#[]⟩, false, 1)
def linkL (x : ByteArray) (objs : List Mem) (sh : List Shelf) (libs : List Libr) : Except Int (Bin × Rd) :=
 if validB okN okP objs sh libs && okN x then
  match hit (envOf objs sh []) x with
  | .unit u m => if ((envOf objs sh libs).sec (u, x)).1 ≠ 1 then .error 9 else
   match finish (envOf objs sh libs) ([(u, x)], m, 0) with
   | .error e => .error e
   | .ok st => .ok ((envOf objs sh libs).bin st.1 1 0 [], (envOf objs sh libs).reading st.2)
  | .twice => .error 6
  | _ => .error 8
 else .error 1
def starts (E : Env) : List ByteArray -> St -> Except Int St
 | [], st => .ok st
 | x :: l, st => match hit E x with
  | .unit u m => match addS (note st (m, 0)) (u, x) with
   | .error e => .error e
   | .ok st' => starts E l st'
  | .twice => .error 6
  | _ => .error 8
def expNames (objs : List Mem) : List Bs := (objs.flatMap fun m => (m.2.1.filter fun s => decide (s.2.1 = 1) || decide (s.2.1 = 2)).map nm).foldl C.insB []
def shareL (objs : List Mem) : Except Int (Bin × Rd) :=
 if memsB okN okP objs then
  let ns := (expNames objs).map fun b => (⟨b.toArray⟩ : ByteArray)
  if ns = [] then .error 7 else
  match starts (envOf objs [] []) ns ([], 0, 0) with
  | .error e => .error e
  | .ok st => match finish (envOf objs [] []) st with
   | .error e => .error e
   | .ok s => .ok ((envOf objs [] []).bin s.1 2 (-1) ((ns.zip ((envOf objs [] []).atL s.1)).map fun q => (q.1, (q.2 : Int))), (envOf objs [] []).reading s.2)
 else .error 1
end
end Go.Proofs.YtfbhchpbflaphaaGreatDoor.L
