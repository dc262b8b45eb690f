/- The texts Fw of the seat, joined. -/
import Derived.Test.YtfbhchpbflaphaaGreatDoorS21
namespace Go.Proofs.YtfbhchpbflaphaaGreatDoor
open Go.RowKit Go.Maps Go.ChangeMaps Go.Sort
def BdO (o : C.Obj) : Prop := o.1.length <= 140737488351232 /\ o.2.length <= 140737488351232 /\ ∀ s ∈ o.2, s.2.1.size <= 140737488351232 /\ s.2.2.length <= 140737488351232
def FewO (o : C.Obj) : Prop := (∀ s ∈ o.1, s.1.size <= 100) /\ o.1.length <= 140 /\ o.2.length <= 140 /\ ∀ s ∈ o.2, s.2.2.length <= 300
def RetB (w : World) (P : Prop) (e : Ending) (w' : World) : Prop := Ext w w' /\ ∃ b, e = .returned (.bool b) /\ (b = true -> P)
theorem retB_false {w w' : World} {P : Prop} (h : Ext w w') : RetB w P (.returned (.bool false)) w' := ⟨h, false, rfl, fun h => by cases h⟩
theorem retB_true {w w' : World} {P : Prop} (h : Ext w w') (hp : P) : RetB w P (.returned (.bool true)) w' := ⟨h, true, rfl, fun _ => hp⟩
def symsTo (l : List C.Sym) (k : Nat) : Prop := ∀ i (h : i < l.length), i < k -> l[i].1.size <= 100
def secsTo (l : List C.Sec) (k : Nat) : Prop := ∀ i (h : i < l.length), i < k -> l[i].2.2.length <= 300
theorem symsTo_succ {l : List C.Sym} {k : Nat} (h : symsTo l k) (hk : k < l.length) (h1 : l[k].1.size <= 100) : symsTo l (k + 1) := by
 intro i hi hik
 by_cases e : i = k
 ·subst e; exact h1
 ·exact h i hi (by omega)
theorem secsTo_succ {l : List C.Sec} {k : Nat} (h : secsTo l k) (hk : k < l.length) (h1 : l[k].2.2.length <= 300) : secsTo l (k + 1) := by
 intro i hi hik
 by_cases e : i = k
 ·subst e; exact h1
 ·exact h i hi (by omega)
theorem fewO_of {o : C.Obj} (h1 : symsTo o.1 o.1.length) (h2 : o.1.length <= 140) (h3 : o.2.length <= 140) (h4 : secsTo o.2 o.2.length) : FewO o :=
 ⟨fun s hs => by obtain ⟨i, hi, rfl⟩ := List.getElem_of_mem hs; exact h1 i hi hi, h2, h3, fun s hs => by obtain ⟨i, hi, rfl⟩ := List.getElem_of_mem hs; exact h4 i hi hi⟩
set_option maxRecDepth 8000 in
set_option maxHeartbeats 4000000 in
theorem Few_any (o : C.Obj) (A B : Option Addr) (c d n m : Nat) (w : World) (hn : n = o.1.length) (hA : SliceAt symR w (Old w) A c o.1) (hm : m = o.2.length) (hB : SliceAt secR w (Old w) B d o.2) (hb : BdO o) :
 Calls Tryz.prog 75 #[.agg #[.slice A n c, .slice B m d]] w (RetB w (FewO o)) := by
 have hn2 : n <= 140737488351232 := by have := hb.1; omega
 have hm2 : m <= 140737488351232 := by have := hb.2.1; omega
 have HF := Lib.hid (@fewO_of o)
 obtain ⟨P, hP⟩ : ∃ P, P = FewO o := ⟨_, rfl⟩
 rw [<- hP] at HF ⊢
 have HN := Lib.hid hn
 have HM := Lib.hid hm
 have HA := Lib.hid hA
 have HB := Lib.hid hB
 have HD := Lib.hid hb.2.2
 obtain ⟨W1, hW1⟩ : ∃ W1, W1 = w.alloc (.cells #[.slice A n c, .slice B m d] 56) := ⟨_, rfl⟩
 have X1 : Ext w W1 := by rw [hW1]; exact (Ext.refl w).alloc _
 have a0 : W1.cell? ⟨w.heap.size, 0, none⟩ = some (.slice A n c) := by rw [hW1]; exact cell_new w #[.slice A n c, .slice B m d] 56 0
 have a1 : W1.cell? ⟨w.heap.size, 1, none⟩ = some (.slice B m d) := by rw [hW1]; exact cell_new w #[.slice A n c, .slice B m d] 56 1
 have HW1 := Lib.hid hW1
 have HX1 := Lib.hid X1
 have KA0 := Lib.hid a0
 have KA1 := Lib.hid a1
 clear hn hm hA hB hW1 X1 hb hP
 go_enter Tryz.func75, Tryz.ntmps75
 go_wp2_with fail
 rw [<- HW1.out]
 go_loopw [14] (fun i wr => ∃ k : Nat, k <= n /\ i = .int .i64 k /\ Hid (symsTo o.1 k /\ Ext W1 wr)) (fun i _ => n - (intOf i).toNat)
 case atStart => exact ⟨0, Nat.zero_le _, rfl, fun _ _ h => absurd h (Nat.not_lt_zero _), Ext.refl _⟩
 case round =>
  clear a0 a1
  obtain ⟨k, hk, rfl, HK⟩ := hrel
  have a0 := HK.out.2.keepc KA0.out
  have a1 := HK.out.2.keepc KA1.out
  by_cases hlt : k < n
  ·have hkz : k < o.1.length := by rw [<- HN.out]; exact hlt
   obtain ⟨b, off, s, md, q, rfl, hgk, hs, hwm, hwq, hc⟩ := sym_get HA.out hkz
   obtain ⟨c1, c2, c3⟩ := hc wr (HX1.out.trans HK.out.2)
   have hg : o.1[k].1 = s := by rw [List.getElem?_eq_getElem hkz] at hgk; rw [Option.some.inj hgk]
   have H9 := Lib.hid (fun h1 => symsTo_succ HK.out.1 hkz (by rw [hg]; exact h1))
   clear hc hgk hg
   by_cases hbig : 100 < s.size
   ·go_wp2_with fail
    go_ret
    exact retB_false ((HX1.out.trans HK.out.2).alloc _)
   ·have H8 := Lib.hid (H9.out (by omega))
    go_wp2_with fail
    go_roundw
    case rel => exact ⟨k + 1, by omega, by go_num, H8.out, HK.out.2.alloc _⟩
    case measure => simp [intOf]; omega
  ·have HS := Lib.hid (show symsTo o.1 o.1.length by have := HK.out.1; rwa [show k = o.1.length by have := HN.out; omega] at this)
   go_wp2_with fail
   go_loopw [3, 4, 26] (fun zv qv i wr => ∃ (z q : Int) (k : Nat), k <= m /\ i = .int .i64 k /\ zv = .int .i64 z /\ qv = .int .i64 q /\ 0 <= z /\ z <= 3000 + 8194 * k /\ (z <= 3000 ∨ m <= 1) /\ 0 <= q /\ q <= 300 /\ Hid (secsTo o.2 k /\ Ext W1 wr)) (fun _ _ i _ => m - (intOf i).toNat)
   case atStart => exact ⟨0, 0, 0, Nat.zero_le _, rfl, rfl, rfl, by omega, by omega, .inl (by omega), by omega, by omega, fun _ _ h => absurd h (Nat.not_lt_zero _), HK.out.2⟩
   case round =>
    clear a0 a1 HK hlt hk
    obtain ⟨z, q, k, hk, rfl, rfl, rfl, hz0, hz1, hz2, hq0, hq1, HK⟩ := hrel
    have a0 := HK.out.2.keepc KA0.out
    have a1 := HK.out.2.keepc KA1.out
    by_cases hlt : k < m
    ·have hkz : k < o.2.length := by rw [<- HM.out]; exact hlt
     have hz3 : z <= 3000 := by omega
     obtain ⟨b, off, kd, dd, rs, A2, c2, rfl, hgk, hwk, hds, hrs, hc⟩ := sec_get HB.out hkz
     have hbd := HD.out _ (List.getElem_mem hkz)
     have H9 := Lib.hid (fun h1 => secsTo_succ HK.out.1 hkz h1)
     rw [hgk] at hbd H9
     obtain ⟨hd1, hd2⟩ := hbd
     simp only at hd1 hd2 H9
     obtain ⟨nr, hnr⟩ : ∃ nr, nr = rs.length := ⟨_, rfl⟩
     rw [<- hnr] at hc hd2 H9
     obtain ⟨c1, c2', c3⟩ := hc wr (HX1.out.trans HK.out.2)
     have HNR := Lib.hid hnr
     have HRS := Lib.hid hrs
     obtain ⟨W2, hW2⟩ : ∃ W2, W2 = wr.alloc (.cells #[.int .i64 kd, .string dd, .slice A2 nr c2] 67) := ⟨_, rfl⟩
     have y1 : W2.cell? ⟨wr.heap.size, 1, none⟩ = some (.string dd) := by rw [hW2]; exact cell_new wr _ 67 1
     have y2 : W2.cell? ⟨wr.heap.size, 2, none⟩ = some (.slice A2 nr c2) := by rw [hW2]; exact cell_new wr _ 67 2
     have b1 : W2.cell? ⟨w.heap.size, 1, none⟩ = some (.slice (some ⟨b, off, none⟩) m d) := by rw [hW2]; exact alloc_keepc _ a1
     have bx := alloc_keepc (.cells #[.int .i64 kd, .string dd, .slice A2 nr c2] 67) a1
     have HX2 : Hid (Ext W1 W2) := by unfold Hid; rw [hW2]; exact HK.out.2.alloc _
     have HW2 := Lib.hid hW2
     clear hc hgk hnr hrs hW2
     by_cases h1 : 300 < q + nr
     ·go_wp2_with fail
      go_ret
      exact retB_false (HX1.out.trans (HK.out.2.alloc _))
     have H8 := Lib.hid (H9.out (by omega))
     by_cases h2 : 3000 < z + dd.size
     ·by_cases h3 : dd.size < 8190
      ·go_wp2_with fail
       go_ret
       exact retB_false (HX1.out.trans (HK.out.2.alloc _))
      by_cases h4 : 8194 < dd.size
      ·go_wp2_with fail
       go_ret
       exact retB_false (HX1.out.trans (HK.out.2.alloc _))
      by_cases h5 : 1 < m
      ·go_wp2_with fail
       go_ret
       exact retB_false (HX1.out.trans (HK.out.2.alloc _))
      go_wp2_with fail
      rw [<- HW2.out]
      go_loopw [67] (fun i wr => ∃ j : Nat, j <= nr /\ i = .int .i64 j /\ Hid (Ext W2 wr)) (fun i _ => nr - (intOf i).toNat)
      case atStart => exact ⟨0, Nat.zero_le _, rfl, Ext.refl _⟩
      case round =>
       clear y1 y2 b1 bx
       obtain ⟨j, hj, rfl, HJ⟩ := hrel
       by_cases hjt : j < nr
       ·have hjz : j < rs.length := by rw [<- HNR.out]; exact hjt
        obtain ⟨b3, off3, a, s, rfl, hgj, hwa, hs, hc⟩ := rel_get HRS.out hjz
        obtain ⟨x1, x2⟩ := hc wr (HX1.out.trans (HX2.out.trans HJ.out))
        clear hc hgj
        by_cases h6 : 100 < s.size
        ·go_wp2_with fail
         go_ret
         exact retB_false (HX1.out.trans ((HX2.out.trans HJ.out).alloc _))
        ·go_wp2_with fail
         go_roundw
         case rel => exact ⟨j + 1, by omega, by go_num, HJ.out.alloc _⟩
         case measure => simp [intOf]; omega
       ·go_wp2_with fail
        exact ⟨⟨z + dd.size, q + nr, k + 1, by omega, by go_num, rfl, rfl, by omega, by omega, .inr (by omega), by omega, by omega, H8.out, HX2.out.trans HJ.out⟩, by simp [intOf]; omega⟩
     ·go_wp2_with fail
      rw [<- HW2.out]
      go_loopw [67] (fun i wr => ∃ j : Nat, j <= nr /\ i = .int .i64 j /\ Hid (Ext W2 wr)) (fun i _ => nr - (intOf i).toNat)
      case atStart => exact ⟨0, Nat.zero_le _, rfl, Ext.refl _⟩
      case round =>
       clear y1 y2 b1 bx
       obtain ⟨j, hj, rfl, HJ⟩ := hrel
       by_cases hjt : j < nr
       ·have hjz : j < rs.length := by rw [<- HNR.out]; exact hjt
        obtain ⟨b3, off3, a, s, rfl, hgj, hwa, hs, hc⟩ := rel_get HRS.out hjz
        obtain ⟨x1, x2⟩ := hc wr (HX1.out.trans (HX2.out.trans HJ.out))
        clear hc hgj
        by_cases h6 : 100 < s.size
        ·go_wp2_with fail
         go_ret
         exact retB_false (HX1.out.trans ((HX2.out.trans HJ.out).alloc _))
        ·go_wp2_with fail
         go_roundw
         case rel => exact ⟨j + 1, by omega, by go_num, HJ.out.alloc _⟩
         case measure => simp [intOf]; omega
       ·go_wp2_with fail
        exact ⟨⟨z + dd.size, q + nr, k + 1, by omega, by go_num, rfl, rfl, by omega, by omega, .inl (by omega), by omega, by omega, H8.out, HX2.out.trans HJ.out⟩, by simp [intOf]; omega⟩
    ·have HS2 := Lib.hid (show secsTo o.2 o.2.length by have := HK.out.1; rwa [show k = o.2.length by have := HM.out; omega] at this)
     by_cases h1 : n <= 140
     ·have HP := Lib.hid (fun h2 : m <= 140 => HF.out HS.out (by have := HN.out; omega) (by have := HM.out; omega) HS2.out)
      go_wp2_with fail
      go_ret
      exact ⟨HX1.out.trans HK.out.2, decide ((m : Int) <= 140), rfl, fun h => HP.out (by have := of_decide_eq_true h; omega)⟩
     ·go_wp2_with fail
      go_ret
      exact retB_false (HX1.out.trans HK.out.2)
def BdM (l : List C.Mem) : Prop := l.length <= 140737488351232 /\ ∀ m ∈ l, BdO m.2
def FewM (l : List C.Mem) : Prop := l.length <= 70 /\ ∀ m ∈ l, m.1.size <= 300 /\ FewO m.2
def memsTo (l : List C.Mem) (k : Nat) : Prop := ∀ i (h : i < l.length), i < k -> l[i].1.size <= 300 /\ FewO l[i].2
theorem memsTo_succ {l : List C.Mem} {k : Nat} (h : memsTo l k) (hk : k < l.length) (h1 : l[k].1.size <= 300 /\ FewO l[k].2) : memsTo l (k + 1) := by
 intro i hi hik
 by_cases e : i = k
 ·subst e; exact h1
 ·exact h i hi (by omega)
theorem fewM_of {l : List C.Mem} (h1 : memsTo l l.length) (h2 : l.length <= 70) : FewM l :=
 ⟨h2, fun m hm => by obtain ⟨i, hi, rfl⟩ := List.getElem_of_mem hm; exact h1 i hi hi⟩
theorem FewM.sizes {l : List C.Mem} (h : FewM l) : MemSizes l := fun m hm => ⟨by have := (h.2 m hm).1; omega, fun s hs => by have := (h.2 m hm).2.1 s hs; omega⟩
set_option maxRecDepth 8000 in
set_option maxHeartbeats 4000000 in
theorem FewMembers_any (l : List C.Mem) (A : Option Addr) (c n : Nat) (w : World) (hn : n = l.length) (hA : SliceAt memR w (Old w) A c l) (hb : BdM l) :
 Calls Tryz.prog 41 #[.slice A n c] w (RetB w (FewM l)) := by
 have hn2 : n <= 140737488351232 := by have := hb.1; omega
 have HF := Lib.hid (@fewM_of l)
 obtain ⟨P, hP⟩ : ∃ P, P = FewM l := ⟨_, rfl⟩
 rw [<- hP] at HF ⊢
 have HN := Lib.hid hn
 have HA := Lib.hid hA
 have HD := Lib.hid hb.2
 clear hn hA hb hP
 go_enter Tryz.func41, Tryz.ntmps41
 go_wp2_with fail
 go_loopw [7] (fun i wr => ∃ k : Nat, k <= n /\ i = .int .i64 k /\ Hid (memsTo l k /\ Ext w wr)) (fun i _ => n - (intOf i).toNat)
 case atStart => exact ⟨0, Nat.zero_le _, rfl, fun _ _ h => absurd h (Nat.not_lt_zero _), Ext.refl _⟩
 case round =>
  obtain ⟨k, hk, rfl, HK⟩ := hrel
  by_cases hlt : k < n
  ·have hkz : k < l.length := by rw [<- HN.out]; exact hlt
   obtain ⟨b, off, s, SA, sc, SB, sd, rfl, hB, hgk, hs, hSA, hSB, c0, c1, c2⟩ := mem_getB (HA.out.ext HK.out.2) hkz
   have hbd := HD.out _ (List.getElem_mem hkz)
   have H9 := Lib.hid (fun h1 => memsTo_succ HK.out.1 hkz h1)
   rw [hgk] at H9
   generalize l[k].2 = o at hSA hSB c1 c2 hbd H9
   obtain ⟨sn, hsn⟩ : ∃ x, x = o.1.length := ⟨_, rfl⟩
   obtain ⟨sm, hsm⟩ : ∃ x, x = o.2.length := ⟨_, rfl⟩
   rw [<- hsn] at c1
   rw [<- hsm] at c2
   have hsn2 : sn <= 140737488351232 := by have := hbd.1; omega
   have HFW := Lib.hid (fun W (h : Ext wr W) => Few_any o SA SB sc sd sn sm W hsn (hSA.ext h) hsm (hSB.ext h) hbd)
   have E1 : Ext wr (wr.alloc (.cells #[.string s, .slice SA sn sc, .slice SB sm sd] 69)) := (Ext.refl wr).alloc _
   have HE1 := Lib.hid E1
   clear hgk hsn hsm hSA hSB hbd E1
   by_cases hbig : 300 < s.size
   ·go_wp2_with fail
    go_ret
    exact retB_false (HK.out.2.trans HE1.out)
   go_wp2_with fail
   refine (HFW.out _ HE1.out).mono ?_
   rintro e w2 ⟨d2, bb, rfl, hbb⟩
   have x1 := d2.keepc (cell_new wr #[.string s, .slice SA sn sc, .slice SB sm sd] 69 1)
   have HX2 := Lib.hid (HK.out.2.trans (HE1.out.trans d2))
   clear d2 c0 c1 c2
   cases bb with
   | false =>
    clear hbb
    go_wp2_with fail
    go_ret
    exact retB_false HX2.out
   | true =>
    have H8 := Lib.hid (H9.out ⟨by omega, hbb rfl⟩)
    clear hbb
    by_cases h6 : 6 < n
    ·by_cases h1 : 1 < sn
     ·go_wp2_with fail
      go_ret
      exact retB_false HX2.out
     ·go_wp2_with fail
      go_roundw
      case rel => exact ⟨k + 1, by omega, by go_num, H8.out, HX2.out⟩
      case measure => simp [intOf]; omega
    ·go_wp2_with fail
     go_roundw
     case rel => exact ⟨k + 1, by omega, by go_num, H8.out, HX2.out⟩
     case measure => simp [intOf]; omega
  ·have HS := Lib.hid (show memsTo l l.length by have := HK.out.1; rwa [show k = l.length by have := HN.out; omega] at this)
   have HP := Lib.hid (fun h2 : n <= 70 => HF.out HS.out (by have := HN.out; omega))
   go_wp2_with fail
   go_ret
   exact ⟨HK.out.2, decide ((n : Int) <= 70), rfl, fun h => HP.out (by have := of_decide_eq_true h; omega)⟩
end Go.Proofs.YtfbhchpbflaphaaGreatDoor
