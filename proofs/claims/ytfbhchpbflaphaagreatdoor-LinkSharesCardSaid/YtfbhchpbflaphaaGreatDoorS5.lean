/- The texts Oj of the seat, joined. -/
import Derived.Test.YtfbhchpbflaphaaGreatDoorS4
import Derived.OwnWalk
import Derived.Laws.OwnMore
namespace Go.Proofs.YtfbhchpbflaphaaGreatDoor
open Go.RowKit Go.Maps Go.ChangeMaps
set_option linter.unusedVariables false
theorem symB_no {n : Nat} {x : ByteArray} {m q : Int} (h : C.symB n (x, m, q) = false) : m < 0 ∨ m > 3 ∨ (0 <= m /\ m <= 3 /\ q < -1) ∨ (0 <= m /\ m <= 3 /\ q ≥ (n : Int)) ∨ (m = 3 /\ 0 <= q /\ q < n) ∨ (m = 1 /\ q = -1) ∨ (m = 2 /\ q = -1) := by
 unfold C.symB at h
 simp at h
 by_cases h1 : 0 <= m /\ m <= 3
 ·by_cases h2 : -1 <= q /\ q < (n : Int)
  ·have := h h1.1 h1.2 h2.1 h2.2
   by_cases h3 : m = 3 /\ 0 <= q
   ·exact Or.inr (Or.inr (Or.inr (Or.inr (Or.inl ⟨h3.1, h3.2, h2.2⟩))))
   ·have h4 := this (by omega)
    omega
  ·omega
 ·omega
theorem symB_yes {n : Nat} {x : ByteArray} {m q : Int} (h : C.symB n (x, m, q) = true) : (0 <= m /\ m < 3 /\ 0 <= q /\ q < (n : Int)) ∨ (m = 0 /\ q = -1) ∨ (m = 3 /\ q = -1) := by
 unfold C.symB at h
 simp at h
 omega
theorem ownsRow_ext {w w' : World} {base size n : Nat} {e : TypeId} {v : Value} {xs : List Value} (h : w.ownsRow base e size v n xs) (he : Ext w w') : w'.ownsRow base e size v n xs := by
 obtain ⟨h1, h2 | ⟨g, cap, cur, rfl, hb, hg, r⟩⟩ := h
 ·exact ⟨h1, .inl h2⟩
 ·refine ⟨h1, .inr ⟨g, cap, cur, rfl, hb, (he.block g ?_).trans hg, r⟩⟩
  rcases Nat.lt_or_ge g w.heap.size with h' | h'
  ·exact h'
  ·rw [Array.getElem?_eq_none h'] at hg; cases hg
theorem sec_get {w : World} {A : Option Addr} {c k : Nat} {l : List C.Sec} (h : SliceAt secR w (Old w) A c l) (hk : k < l.length) :
 ∃ b off kd d rs A2 c2, A = some ⟨b, off, none⟩ /\ l[k] = (kd, d, rs) /\ (Lit.int .i64 kd).wf = true /\ d.size <= 9223372036854775807 /\ SliceAt relR w (Old w) A2 c2 rs /\
  ∀ w', Ext w w' -> w'.cell? ⟨b, off + k * 3, none⟩ = some (.int .i64 kd) /\ w'.cell? ⟨b, off + k * 3 + 1, none⟩ = some (.string d) /\ w'.cell? ⟨b, off + k * 3 + 1 + 1, none⟩ = some (.slice A2 rs.length c2) := by
 obtain ⟨b, off, rfl, _, hr⟩ := h.2.2 (by intro h; rw [h] at hk; simp at hk)
 obtain ⟨us, ⟨x, y, rfl, ⟨rfl, hm⟩, x2, y2, rfl, ⟨rfl, hd⟩, A2, c2, rfl, hs⟩, hc⟩ := hr k hk
 exact ⟨b, off, l[k].1, l[k].2.1, l[k].2.2, A2, c2, rfl, rfl, hm, hd, hs, fun w' h' => ⟨h'.keepc (hc 0 _ rfl), h'.keepc (hc 1 _ rfl), h'.keepc (hc 2 _ rfl)⟩⟩
set_option maxRecDepth 8000 in
set_option maxHeartbeats 4000000 in
theorem Check_any (o : C.Obj) (SA SB : Option Addr) (sc sd sn sm : Nat) (w : World) (hsn : sn = o.1.length) (hS : SliceAt symR w (Old w) SA sc o.1) (hsm : sm = o.2.length) (hT : SliceAt secR w (Old w) SB sd o.2) (hs : ∀ s ∈ o.1, s.1.size <= 9000000) :
 Calls Tryz.prog 109 #[.agg #[.slice SA sn sc, .slice SB sm sd]] w (Al (.int .i64 (chk (C.checkB okN o))) w) := by
 have hsm2 : sm <= 9223372036854775807 := by have := hT.1; have := hT.2.1; omega
 have hsn2 : sn <= 9223372036854775807 := by have := hS.1; have := hS.2.1; omega
 have FL := Lib.hid (@chk_len o)
 have FN := Lib.hid (@chk_names o)
 have FS := Lib.hid (fun k => @chk_sym o k)
 have FO := Lib.hid (fun k => @chk_own o k)
 have FE := Lib.hid (@chk_end o)
 generalize chk (C.checkB okN o) = R at FL FN FS FO FE ⊢
 by_cases h1 : sn <= 128
 ·by_cases h2 : sm <= 128
  ·have HI := Lib.hid (fun w' (h : Ext w w') => index_any o.1 SA SB sc sd sn sm w' hsn (hS.ext h) hs (by omega))
   have HSN := Lib.hid hsn
   have HSM := Lib.hid hsm
   have HS := Lib.hid hS
   have HT := Lib.hid hT
   have h1' : (sn : Int) <= 128 := by omega
   have h2' : (sm : Int) <= 128 := by omega
   clear hsn hsm hS hT h1 h2
   go_enter Tryz.func109, Tryz.ntmps109
   go_wp2_with fail
   refine (HI.out _ ((Ext.refl w).alloc _)).mono ?_
   rintro e w1 ⟨d1, hh⟩
   have HW1 : Hid (Ext w w1) := ((Ext.refl w).alloc _).trans d1
   rcases hh with ⟨hb, rfl⟩ | ⟨hb, b, hbs, rfl, hmt⟩
   ·have HR := Lib.hid (FN.out hb)
    clear hb
    go_wp2_with fail
    go_ret
    exact ⟨by rw [HR.out]; rfl, HW1.out⟩
   ·have b0 : w1.cell? ⟨w.heap.size, 0, none⟩ = some (.slice SA sn sc) := d1.keepc (cell_new w #[.slice SA sn sc, .slice SB sm sd] 56 0)
    have b1 : w1.cell? ⟨w.heap.size, 1, none⟩ = some (.slice SB sm sd) := d1.keepc (cell_new w #[.slice SA sn sc, .slice SB sm sd] 56 1)
    go_wp2_with (at_make; (refine wpList_make_full _ rfl _ _ 30 rfl w1.heap.size 3 _ _ 1 rfl rfl rfl rfl .i64 .i64 _ _ sm rfl rfl rfl rfl (by show 8 * sm <= 281474976710656; omega) (by unfold maxLen; omega) (Nat.le_refl _) ?_); intro w2 hown hgrow; have e12 : Ext w1 w2 := Below.grown (Ext.refl w1) hgrow (Nat.le_refl _) (fun k hk => by cases hk); have b0' := e12.keepc b0; have b1' := e12.keepc b1)
    have hz0 : (madeCells (Value.int IntKind.i64 0).cells (sm * 1)).toList = ownV (o.1.take 0) sm := by
     rw [List.take_zero, ownV_zero, Nat.mul_one]
     exact toList_madeCells_one _ _
    rw [hz0] at hown
    have HST := Lib.hid (show symTo o.1 o.2.length 0 /\ w2.ownsRow w1.heap.size 3 1 (.slice (some ⟨w1.heap.size, 0, none⟩) sm sm) sm (ownV (o.1.take 0) sm) /\ Ext w1 w2 from ⟨fun _ _ h => absurd h (Nat.not_lt_zero _), hown, e12⟩)
    clear hz0 hown hgrow b0' b1'
    go_loopw [34] (fun i wr => ∃ k : Nat, k <= sn /\ i = .int .i64 k /\ Hid (symTo o.1 o.2.length k /\ wr.ownsRow w1.heap.size 3 1 (.slice (some ⟨w1.heap.size, 0, none⟩) sm sm) sm (ownV (o.1.take k) sm) /\ Ext w1 wr)) (fun i _ => sn - (intOf i).toNat)
    case atStart => exact ⟨0, Nat.zero_le _, rfl, HST.out⟩
    case round =>
     obtain ⟨k, hk, rfl, HK⟩ := hrel
     by_cases hlt : k < sn
     ·have hkz : k < o.1.length := by rw [<- HSN.out]; exact hlt
      obtain ⟨bb, off, s, md, q, rfl, hg, hs1, hwm, hwq, hc⟩ := sym_get HS.out hkz
      have hgk : o.1[k] = (s, md, q) := by rw [List.getElem?_eq_getElem hkz] at hg; simpa using hg
      obtain ⟨c1, c2, c3⟩ := hc wr (HW1.out.trans HK.out.2.2)
      have E1 : Ext wr (wr.alloc (.cells #[.string s, .int .i64 md, .int .i64 q] 60)) := (Ext.refl wr).alloc _
      have b0' := E1.keepc (HK.out.2.2.keepc b0)
      have b1' := E1.keepc (HK.out.2.2.keepc b1)
      have hfs := FS.out k hkz
      have hon := @symTo_succ o.1 o.2.length k HK.out.1 hkz
      rw [hgk, <- HSM.out] at hfs
      rw [hgk] at hon
      have HFS := Lib.hid hfs
      have HON := Lib.hid hon
      have HGK := Lib.hid hgk
      clear hc hg hgk hfs hon
      rcases Bool.eq_false_or_eq_true (C.symB sm (s, md, q)) with hy | hy
      ·have H9 := Lib.hid (HON.out (by rw [<- HSM.out]; exact hy))
       have hcs := symB_yes hy
       clear hy
       have htk : o.1.take (k + 1) = o.1.take k ++ [(s, md, q)] := by rw [List.take_succ_eq_append_getElem hkz, HGK.out]
       have HTK := Lib.hid htk
       have hown1 := HK.out.2.1.alloc (.cells #[.string s, .int .i64 md, .int .i64 q] 60)
       have HO1 := Lib.hid hown1
       clear htk
       rcases hcs with ⟨h3, h4, h5, h6⟩ | hcs
       ·have hq : q.toNat < sm := by omega
        have hcell := (hown1.cellAt q.toNat (by omega)).trans (ownV_get _ hq)
        have hfz := hown1.frozenAt q.toNat
        have hst := fun u => hown1.stored q.toNat u
        have HS2 := Lib.hid hst
        have hle : C.own (o.1.take k) q.toNat <= 128 := by
         have := own_le (o.1.take k) q.toNat
         rw [List.length_take] at this
         have := HSN.out
         omega
        have hvs := ownV_set (o.1.take k) (s, md, q) sm h5
        have HVS := Lib.hid hvs
        clear hst hvs hown1
        go_wp2_with fail
        refine ⟨⟨k + 1, by omega, by go_num, H9.out, ?_, Ext.mapBlock (HK.out.2.2.alloc _) (Nat.le_refl _) (HS2.out _).2⟩, by simp [intOf]; omega⟩
        rw [HTK.out, HVS.out]
        exact (HS2.out _).1
       ·have hvo := ownV_other (o.1.take k) (s, md, q) sm (show q < 0 by omega)
        have HVO := Lib.hid hvo
        clear hvo hown1
        rcases hcs with ⟨rfl, rfl⟩ | ⟨rfl, rfl⟩
        all_goals
         go_wp2_with fail
         refine ⟨⟨k + 1, by omega, by go_num, H9.out, ?_, HK.out.2.2.alloc _⟩, by simp [intOf]; omega⟩
         rw [HTK.out, HVO.out]
         exact HO1.out
      ·have HR := Lib.hid (HFS.out hy)
       have hcs := symB_no hy
       clear hy
       rcases hcs with h3 | h3 | ⟨h3, h4, h5⟩ | ⟨h3, h4, h5⟩ | ⟨rfl, h4, h5⟩ | ⟨rfl, rfl⟩ | ⟨rfl, rfl⟩
       all_goals
        go_wp2_with fail
        go_ret
        exact ⟨by rw [HR.out]; rfl, (HW1.out.trans HK.out.2.2).alloc _⟩
     ·have hkn : k = sn := by omega
      subst hkn
      have HST2 := Lib.hid (show secTo o 0 /\ wr.ownsRow w1.heap.size 3 1 (.slice (some ⟨w1.heap.size, 0, none⟩) sm sm) sm (ownV o.1 sm) /\ Ext w1 wr from ⟨fun _ _ h => absurd h (Nat.not_lt_zero _), by have := HK.out.2.1; rwa [List.take_of_length_le (by have := HSN.out; omega)] at this, HK.out.2.2⟩)
      have HY := Lib.hid (show symTo o.1 o.2.length o.1.length by have := HK.out.1; rwa [HSN.out] at this)
      have HMT := Lib.hid hmt
      have HNB := Lib.hid hb
      have b0' := HK.out.2.2.keepc b0
      have b1' := HK.out.2.2.keepc b1
      clear hmt hb
      go_wp2_with fail
      go_loopw [96] (fun i wr => ∃ j : Nat, j <= sm /\ i = .int .i64 j /\ Hid (secTo o j /\ wr.ownsRow w1.heap.size 3 1 (.slice (some ⟨w1.heap.size, 0, none⟩) sm sm) sm (ownV o.1 sm) /\ Ext w1 wr)) (fun i _ => sm - (intOf i).toNat)
      case atStart => exact ⟨0, Nat.zero_le _, rfl, HST2.out⟩
      case round =>
       obtain ⟨j, hj, rfl, HJ⟩ := hrel
       by_cases hjt : j < sm
       ·have hjz : j < o.2.length := by rw [<- HSM.out]; exact hjt
        obtain ⟨bb, off, kd, d, rs, A2, c2, rfl, hgk, hwk, hds, hrs, hc⟩ := sec_get HT.out hjz
        obtain ⟨nr, hnr⟩ : ∃ nr, nr = rs.length := ⟨_, rfl⟩
        rw [<- hnr] at hc
        obtain ⟨c1, c2', c3⟩ := hc wr (HW1.out.trans HJ.out.2.2)
        have hSEC := fun w' (h : Ext w w') (h1 : Ext w1 w') => section_any o.1 kd d rs A2 c2 nr b w' hnr (hrs.ext h) (HMT.out.ext h1) hds hwk
        have hfo := FO.out j hjz
        have hon := @secTo_succ o j HJ.out.1 hjz
        rw [hgk] at hfo hon
        have HFO := Lib.hid hfo
        have HON := Lib.hid hon
        have HSEC := Lib.hid hSEC
        have hown1 := HJ.out.2.1.alloc (.cells #[.int .i64 kd, .string d, .slice A2 nr c2] 67)
        have hcell := (hown1.cellAt j (by omega)).trans (ownV_get _ hjt)
        have HO1 := Lib.hid hown1
        clear hfo hon hSEC hown1 hc hgk hrs hnr
        by_cases ho : C.own o.1 j = 1
        ·rw [ho] at hcell
         generalize C.secB o.1 (kd, d, rs) = sb at HFO HON HSEC
         go_wp2_with fail
         refine (HSEC.out _ ((HW1.out.trans HJ.out.2.2).alloc _) (HJ.out.2.2.alloc _)).mono ?_
         rintro e w3 ⟨rfl, d3⟩
         have HE3 := Lib.hid (show Ext w1 w3 from (HJ.out.2.2.alloc _).trans d3)
         have HO3 := Lib.hid (ownsRow_ext HO1.out d3)
         cases sb with
         | false =>
          have HR := Lib.hid (HFO.out (fun h => Bool.noConfusion h.2))
          go_wp2_with fail
          go_ret
          exact ⟨by rw [HR.out]; rfl, HW1.out.trans HE3.out⟩
         | true =>
          have H9 := Lib.hid (HON.out ho rfl)
          go_wp2_with fail
          exact ⟨⟨j + 1, by omega, by go_num, H9.out, HO3.out, HE3.out⟩, by simp [intOf]; omega⟩
        ·have HR := Lib.hid (HFO.out (fun h => ho h.1))
         have ho' : (C.own o.1 j : Int) ≠ 1 := by omega
         generalize (C.own o.1 j : Int) = ow at hcell ho'
         clear ho
         go_wp2_with fail
         go_ret
         exact ⟨by rw [HR.out]; rfl, (HW1.out.trans HJ.out.2.2).alloc _⟩
       ·have hkn : j = sm := by omega
        have HR := Lib.hid (FE.out (by have := HSN.out; omega) (by have := HSM.out; omega) HNB.out HY.out (by have := HJ.out.1; rw [hkn, HSM.out] at this; exact this))
        go_wp2_with fail
        go_ret
        exact ⟨by rw [HR.out]; rfl, HW1.out.trans HJ.out.2.2⟩
  ·have HR := Lib.hid (FL.out (fun h => h2 (by omega)))
   have h1' : (sn : Int) <= 128 := by omega
   have h2' : (sm : Int) > 128 := by omega
   clear hsn hsm hS hT h1 h2
   go_enter Tryz.func109, Tryz.ntmps109
   go_wp2_with fail
   go_ret
   exact ⟨by rw [HR.out]; rfl, (Ext.refl w).alloc _⟩
 ·have HR := Lib.hid (FL.out (fun h => h1 (by omega)))
  have h1' : (sn : Int) > 128 := by omega
  clear hsn hsm hS hT h1
  go_enter Tryz.func109, Tryz.ntmps109
  go_wp2_with fail
  go_ret
  exact ⟨by rw [HR.out]; rfl, (Ext.refl w).alloc _⟩
end Go.Proofs.YtfbhchpbflaphaaGreatDoor
