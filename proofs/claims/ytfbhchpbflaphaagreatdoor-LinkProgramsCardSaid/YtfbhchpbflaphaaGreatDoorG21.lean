/- The texts Fx Ja Jb Hg Hi Hh of the seat, joined. -/
import Derived.Test.YtfbhchpbflaphaaGreatDoorG20
namespace Go.Proofs.YtfbhchpbflaphaaGreatDoor
open Go.RowKit Go.Maps Go.ChangeMaps Go.Sort
def fewL (l : L.Libr) : Prop := l.1.size ≤ 300 ∧ (L.exps l).length ≤ 200 ∧ ∀ y ∈ L.exps l, y.1.size ≤ 100
def FewL (libs : List L.Libr) : Prop := libs.length ≤ 6 ∧ ∀ l ∈ libs, fewL l
def libsTo (l : List L.Libr) (k : Nat) : Prop := ∀ i (h : i < l.length), i < k → fewL l[i]
theorem libsTo_succ {l : List L.Libr} {k : Nat} (h : libsTo l k) (hk : k < l.length) (h1 : fewL l[k]) : libsTo l (k + 1) := by
 intro i hi hik
 by_cases e : i = k
 ·subst e; exact h1
 ·exact h i hi (by omega)
def expsTo (l : List L.Expd) (k : Nat) : Prop := ∀ i (h : i < l.length), i < k → l[i].1.size ≤ 100
theorem expsTo_succ {l : List L.Expd} {k : Nat} (h : expsTo l k) (hk : k < l.length) (h1 : l[k].1.size ≤ 100) : expsTo l (k + 1) := by
 intro i hi hik
 by_cases e : i = k
 ·subst e; exact h1
 ·exact h i hi (by omega)
set_option maxRecDepth 8000 in
set_option maxHeartbeats 4000000 in
theorem FewLibs_any (l : List L.Libr) (A : Option Addr) (c n : Nat) (w : World) (hn : n = l.length) (hA : SliceAt librR w (Old w) A c l) :
  Calls Tryz.prog 42 #[.slice A n c] w (RetB w (FewL l)) := by
 have hn2 : n ≤ 9223372036854775807 := by have h1 := hA.1; have h2 := hA.2.1; omega
 have hF : libsTo l l.length → l.length ≤ 6 → FewL l := fun h1 h2 => ⟨h2, fun m hm => by obtain ⟨i, hi, rfl⟩ := List.getElem_of_mem hm; exact h1 i hi hi⟩
 have HF := Lib.hid hF
 obtain ⟨P, hP⟩ : ∃ P, P = FewL l := ⟨_, rfl⟩
 rw [← hP] at HF ⊢
 have HN := Lib.hid hn
 have HA := Lib.hid hA
 clear hn hA hP hF
 go_enter Tryz.func42, Tryz.ntmps42
 go_wp2_with fail
 go_loopw [9] (fun i wr => ∃ k : Nat, k ≤ n ∧ i = .int .i64 (k : Int) ∧ Hid (libsTo l k ∧ Ext w wr)) (fun i _ => n - (intOf i).toNat)
 case atStart => exact ⟨0, Nat.zero_le _, rfl, fun _ _ h => absurd h (Nat.not_lt_zero _), Ext.refl _⟩
 case round =>
  obtain ⟨k, hk, rfl, HK⟩ := hrel
  obtain ⟨W0, hW0⟩ : ∃ W0, W0 = wr := ⟨_, rfl⟩
  subst hW0
  by_cases hlt : k < n
  ·have hkl : k < l.length := by rw [← HN.out]; exact hlt
   obtain ⟨b, off, kd, en, im, A1, n1, c1, A2, n2, c2, A3, n3, c3, A4, c4, A5, n5, c5, rfl, hbo, hs, hkd, hEX, m0, m1, m2, m3, m4, m5, m6, m7, m8⟩ := lib_cells (HA.out.ext HK.out.2) hkl
   have H9 := Lib.hid (fun h1 => libsTo_succ HK.out.1 hkl h1)
   have hfd : fewL l[k] ↔ l[k].1.size ≤ 300 ∧ (L.exps l[k]).length ≤ 200 ∧ ∀ y ∈ L.exps l[k], y.1.size ≤ 100 := Iff.rfl
   rw [hfd] at H9
   have hb4 := hEX.1
   have hb4' := hEX.2.1
   generalize l[k].1 = s at m0 H9 hs
   obtain ⟨ex, hex⟩ : ∃ ex, ex = L.exps l[k] := ⟨_, rfl⟩
   rw [← hex] at hEX m7 H9 hb4
   obtain ⟨n4, hn4⟩ : ∃ n4, n4 = ex.length := ⟨_, rfl⟩
   rw [← hn4] at m7 hb4
   have HN4 := Lib.hid hn4
   obtain ⟨W4, hW4⟩ : ∃ W4, W4 = W0.alloc (.cells #[.string s, .int .i64 kd, .int .i64 en, .string im, .slice A1 n1 c1, .slice A2 n2 c2, .slice A3 n3 c3, .slice A4 n4 c4, .slice A5 n5 c5] 86) := ⟨_, rfl⟩
   obtain ⟨eb, heb⟩ : ∃ eb, eb = W0.heap.size := ⟨_, rfl⟩
   have E4 : Ext W0 W4 := by rw [hW4]; exact (Ext.refl W0).alloc _
   have hb4r : W4.heap[eb]? = some (.cells #[.string s, .int .i64 kd, .int .i64 en, .string im, .slice A1 n1 c1, .slice A2 n2 c2, .slice A3 n3 c3, .slice A4 n4 c4, .slice A5 n5 c5] 86 (0, 0)) := by rw [hW4, heb]; exact heap_alloc_new W0 _
   have t0 : W4.cell? ⟨eb, 0, none⟩ = _ := cell_of_row W4 eb 0 _ _ _ hb4r
   have t7 : W4.cell? ⟨eb, 7, none⟩ = _ := cell_of_row W4 eb 7 _ _ _ hb4r
   have HEB := Lib.hid heb
   have HEX := Lib.hid (hEX.ext E4)
   have HX4 := Lib.hid (HK.out.2.trans E4)
   clear hbo hkd hEX hex hn4 heb hb4r E4 HK hkl hfd
   go_upto_region 4 with (fail)
   rw [← hW4, ← HEB.out]
   clear hW4 m0 m1 m2 m3 m4 m5 m6 m7 m8
   by_cases h1 : 300 < s.size
   ·go_wp2_with fail
    go_ret
    exact retB_false HX4.out
   by_cases h2 : 200 < n4
   ·go_wp2_with fail
    go_ret
    exact retB_false HX4.out
   go_wp2_with fail
   clear t0 t7
   go_loopw [28] (fun i wx => ∃ e : Nat, e ≤ n4 ∧ i = .int .i64 (e : Int) ∧ Hid (expsTo ex e ∧ Ext W4 wx)) (fun i _ => n4 - (intOf i).toNat)
   case atStart => exact ⟨0, Nat.zero_le _, rfl, fun _ _ h => absurd h (Nat.not_lt_zero _), Ext.refl _⟩
   case round =>
    obtain ⟨e, he, rfl, HE⟩ := hrel
    by_cases hle : e < n4
    ·have hez : e < ex.length := by rw [← HN4.out]; exact hle
     obtain ⟨b5, off5, rfl, hb5, hs5, hw5, z0, z1⟩ := exp_get (HEX.out.ext HE.out.2) hez
     have H8 := Lib.hid (fun h1 => expsTo_succ HE.out.1 hez h1)
     generalize ex[e].1 = y at z0 H8 hs5
     generalize ex[e].2 = ya at z1 hw5
     clear hb5 hw5 hez
     by_cases h3 : 100 < y.size
     ·go_wp2_with fail
      go_ret
      exact retB_false (HX4.out.trans (HE.out.2.alloc _))
     ·have H7 := Lib.hid (H8.out (by omega))
      go_wp2_with fail
      go_roundw
      case rel => exact ⟨e + 1, by omega, by go_num, H7.out, HE.out.2.alloc _⟩
      case measure => simp [intOf]; omega
    ·obtain rfl : e = n4 := by omega
     have hall : ∀ y ∈ ex, y.1.size ≤ 100 := fun y hy => by
      obtain ⟨i, hi, rfl⟩ := List.getElem_of_mem hy
      exact HE.out.1 i hi (by rw [HN4.out]; exact hi)
     have H6 := Lib.hid (H9.out ⟨by omega, by have := HN4.out; omega, hall⟩)
     have HX5 := Lib.hid (HX4.out.trans HE.out.2)
     clear hall
     go_wp2_with fail
     exact ⟨⟨k + 1, by omega, by go_num, H6.out, HX5.out⟩, by simp [intOf]; omega⟩
  ·have HS := Lib.hid (show libsTo l l.length by have := HK.out.1; rwa [show k = l.length by have := HN.out; omega] at this)
   have HP := Lib.hid (fun h2 : n ≤ 6 => HF.out HS.out (by have := HN.out; omega))
   go_wp2_with fail
   go_ret
   exact ⟨HK.out.2, decide ((n : Int) ≤ 6), rfl, fun h => HP.out (by have := of_decide_eq_true h; omega)⟩
def FewC (x : ByteArray) (objs : List C.Mem) (sh : List L.Shelf) (libs : List L.Libr) : Prop := x.size ≤ 100 ∧ (FewM objs ∧ objs.length ≤ 8) ∧ (sh.length ≤ 4 ∧ ∀ s ∈ sh, s.1.size ≤ 300 ∧ FewM s.2 ∧ s.2.length ≤ 6) ∧ FewL libs
theorem FewC.ok {x : ByteArray} {objs : List C.Mem} {sh : List L.Shelf} {libs : List L.Libr} (h : FewC x objs sh libs) : CaseOk objs sh libs := by
 obtain ⟨_, ⟨h1, h2⟩, ⟨h3, h4⟩, h5, h6⟩ := h
 exact {
  mems := h1.sizes
  no := by omega
  shelves := fun s hs => by
   obtain ⟨k1, k2, k3⟩ := h4 s hs
   exact ⟨⟨by omega, k2.sizes, by omega⟩, by omega⟩
  ns := by omega
  lbs := fun l hl => by
   obtain ⟨k1, k2, k3⟩ := h6 l hl
   exact ⟨⟨by omega, by omega, fun y hy => by have := k3 y hy; omega⟩, by omega⟩
  nl := by omega }
def fewS (s : L.Shelf) : Prop := s.1.size ≤ 300 ∧ FewM s.2 ∧ s.2.length ≤ 6
def shTo (l : List L.Shelf) (k : Nat) : Prop := ∀ i (h : i < l.length), i < k → fewS l[i]
theorem shTo_succ {l : List L.Shelf} {k : Nat} (h : shTo l k) (hk : k < l.length) (h1 : fewS l[k]) : shTo l (k + 1) := by
 intro i hi hik
 by_cases e : i = k
 ·subst e; exact h1
 ·exact h i hi (by omega)
def BdC (objs : List C.Mem) (sh : List L.Shelf) : Prop := BdM objs ∧ ∀ s ∈ sh, BdM s.2
set_option maxRecDepth 8000 in
set_option maxHeartbeats 4000000 in
theorem few_any (x : ByteArray) (objs : List C.Mem) (sh : List L.Shelf) (libs : List L.Libr) (A B D : Option Addr) (a b d n m q : Nat) (w : World) (hn : n = objs.length) (hA : SliceAt memR w (Old w) A a objs) (hm : m = sh.length) (hB : SliceAt shelfR w (Old w) B b sh) (hq : q = libs.length) (hD : SliceAt librR w (Old w) D d libs)
  (hx : x.size ≤ 9223372036854775807) (hbd : BdC objs sh) :
  Calls Tryz.prog 11 #[.agg #[.string x, .slice A n a, .slice B m b, .slice D q d]] w (RetB w (FewC x objs sh libs)) := by
 have hn2 : n ≤ 9223372036854775807 := by have h1 := hA.1; have h2 := hA.2.1; omega
 have hm2 : m ≤ 9223372036854775807 := by have h1 := hB.1; have h2 := hB.2.1; omega
 have HFM := Lib.hid (fun W (e : Ext w W) => FewMembers_any objs A a n W hn (hA.ext e) hbd.1)
 have HFL := Lib.hid (fun W (e : Ext w W) => FewLibs_any libs D d q W hq (hD.ext e))
 have hF : x.size ≤ 100 → FewM objs → n ≤ 8 → shTo sh sh.length → m ≤ 4 → FewL libs → FewC x objs sh libs := fun h1 h2 h3 h4 h5 h6 => ⟨h1, ⟨h2, by omega⟩, ⟨by omega, fun s hs => by obtain ⟨i, hi, rfl⟩ := List.getElem_of_mem hs; exact h4 i hi hi⟩, h6⟩
 have HF := Lib.hid hF
 have HM := Lib.hid hm
 have HB := Lib.hid hB
 have HBD := Lib.hid hbd.2
 generalize FewC x objs sh libs = P at HF ⊢
 generalize FewM objs = P1 at HF HFM
 generalize FewL libs = P2 at HF HFL
 obtain ⟨W1, hW1⟩ : ∃ W1, W1 = w.alloc (.cells #[.string x, .slice A n a, .slice B m b, .slice D q d] 26) := ⟨_, rfl⟩
 have E1 : Ext w W1 := by rw [hW1]; exact (Ext.refl w).alloc _
 have hb1 : W1.heap[w.heap.size]? = some (.cells #[.string x, .slice A n a, .slice B m b, .slice D q d] 26 (0, 0)) := by rw [hW1]; exact heap_alloc_new w _
 have c2 : W1.cell? ⟨w.heap.size, 2, none⟩ = _ := cell_of_row W1 _ 2 _ _ _ hb1
 have HW1 := Lib.hid hW1
 have HE1 := Lib.hid E1
 have HB1 := Lib.hid hb1
 clear hn hA hm hB hq hD hbd hF hW1 E1 hb1
 go_enter Tryz.func11, Tryz.ntmps11
 go_upto_region 1 with (fail)
 rw [← HW1.out]
 go_wp2_with fail
 clear c2
 go_loopw [8] (fun i wr => ∃ k : Nat, k ≤ m ∧ i = .int .i64 (k : Int) ∧ Hid (shTo sh k ∧ Ext W1 wr)) (fun i _ => m - (intOf i).toNat)
 case atStart => exact ⟨0, Nat.zero_le _, rfl, fun _ _ h => absurd h (Nat.not_lt_zero _), Ext.refl _⟩
 case round =>
  obtain ⟨k, hk, rfl, HK⟩ := hrel
  obtain ⟨W0, hW0⟩ : ∃ W0, W0 = wr := ⟨_, rfl⟩
  subst hW0
  by_cases hlt : k < m
  ·have hkl : k < sh.length := by rw [← HM.out]; exact hlt
   obtain ⟨ub, uo, SA, sc, rfl, hbo, hps, hSA, u0, u1⟩ := shelf_get (HB.out.ext (HE1.out.trans HK.out.2)) hkl
   have H9 := Lib.hid (fun h1 => shTo_succ HK.out.1 hkl h1)
   have hfd : fewS sh[k] ↔ sh[k].1.size ≤ 300 ∧ FewM sh[k].2 ∧ sh[k].2.length ≤ 6 := Iff.rfl
   rw [hfd] at H9
   have hbm := HBD.out _ (List.getElem_mem hkl)
   have hsl := hSA.1
   have hsl2 := hSA.2.1
   generalize sh[k].1 = s at u0 H9 hps
   generalize sh[k].2 = ms at u1 H9 hSA hbm hsl
   obtain ⟨sm, hsm⟩ : ∃ sm, sm = ms.length := ⟨_, rfl⟩
   rw [← hsm] at u1 H9 hsl
   obtain ⟨W4, hW4⟩ : ∃ W4, W4 = W0.alloc (.cells #[.string s, .slice SA sm sc] 83) := ⟨_, rfl⟩
   obtain ⟨eb, heb⟩ : ∃ eb, eb = W0.heap.size := ⟨_, rfl⟩
   have E4 : Ext W0 W4 := by rw [hW4]; exact (Ext.refl W0).alloc _
   have hb4 : W4.heap[eb]? = some (.cells #[.string s, .slice SA sm sc] 83 (0, 0)) := by rw [hW4, heb]; exact heap_alloc_new W0 _
   have t0 : W4.cell? ⟨eb, 0, none⟩ = _ := cell_of_row W4 eb 0 _ _ _ hb4
   have t1 : W4.cell? ⟨eb, 1, none⟩ = _ := cell_of_row W4 eb 1 _ _ _ hb4
   have HEB := Lib.hid heb
   have HFW := Lib.hid (FewMembers_any ms SA sc sm W4 hsm (hSA.ext E4) hbm)
   have HX4 := Lib.hid (HK.out.2.trans E4)
   have HT1 := Lib.hid t1
   generalize FewM ms = P3 at H9 HFW
   clear hbo hSA hbm hsm heb hb4 E4 hkl hfd
   go_upto_region 4 with (fail)
   rw [← hW4, ← HEB.out]
   clear hW4 u0 u1
   by_cases h1 : 300 < s.size
   ·go_wp2_with fail
    go_ret
    exact retB_false (HE1.out.trans HX4.out)
   go_wp2_with fail
   refine HFW.out.mono ?_
   rintro e w5 ⟨e5, bb, rfl, hbb⟩
   have t1' := e5.keepc HT1.out
   have HX5 := Lib.hid (HX4.out.trans e5)
   clear e5 t0 t1
   cases bb with
   | false =>
    clear hbb
    go_wp2_with fail
    go_ret
    exact retB_false (HE1.out.trans HX5.out)
   | true =>
    have HBB := Lib.hid (hbb rfl)
    clear hbb
    by_cases h2 : 6 < sm
    ·go_wp2_with fail
     go_ret
     exact retB_false (HE1.out.trans HX5.out)
    ·have H8 := Lib.hid (H9.out ⟨by omega, HBB.out, by omega⟩)
     go_wp2_with fail
     go_roundw
     case rel => exact ⟨k + 1, by omega, by go_num, H8.out, HX5.out⟩
     case measure => simp [intOf]; omega
  ·have HS := Lib.hid (show shTo sh sh.length by have := HK.out.1; rwa [show k = sh.length by have := HM.out; omega] at this)
   have HX0 := Lib.hid (HE1.out.trans HK.out.2)
   have hrow := (HK.out.2.block _ (Array.getElem?_eq_some_iff.1 HB1.out).1).trans HB1.out
   have c0 : W0.cell? ⟨w.heap.size, 0, none⟩ = _ := cell_of_row W0 _ 0 _ _ _ hrow
   have c1 : W0.cell? ⟨w.heap.size, 1, none⟩ = _ := cell_of_row W0 _ 1 _ _ _ hrow
   have HROW := Lib.hid hrow
   clear hrow
   by_cases h1 : x.size ≤ 100
   ·go_wp2_with fail
    refine (HFM.out _ HX0.out).mono ?_
    rintro e w5 ⟨e5, bb, rfl, hbb⟩
    have hrow := (e5.block _ (Array.getElem?_eq_some_iff.1 HROW.out).1).trans HROW.out
    have c1' : w5.cell? ⟨w.heap.size, 1, none⟩ = _ := cell_of_row w5 _ 1 _ _ _ hrow
    have c2' : w5.cell? ⟨w.heap.size, 2, none⟩ = _ := cell_of_row w5 _ 2 _ _ _ hrow
    have c3' : w5.cell? ⟨w.heap.size, 3, none⟩ = _ := cell_of_row w5 _ 3 _ _ _ hrow
    have HX5 := Lib.hid (HX0.out.trans e5)
    clear e5 hrow c0 c1
    cases bb with
    | false =>
     clear hbb
     go_wp2_with fail
     go_ret
     exact retB_false HX5.out
    | true =>
     have HBB := Lib.hid (hbb rfl)
     clear hbb
     by_cases h2 : n ≤ 8
     ·by_cases h3 : m ≤ 4
      ·go_wp2_with fail
       refine (HFL.out _ HX5.out).mono ?_
       rintro e w6 ⟨e6, cc, rfl, hcc⟩
       have HX6 := Lib.hid (HX5.out.trans e6)
       clear e6
       cases cc with
       | false =>
        clear hcc
        go_wp2_with fail
        go_ret
        exact retB_false HX6.out
       | true =>
        have HR := Lib.hid (HF.out h1 HBB.out h2 HS.out h3 (hcc rfl))
        clear hcc
        go_wp2_with fail
        go_ret
        exact retB_true HX6.out HR.out
      ·go_wp2_with fail
       go_ret
       exact retB_false HX5.out
     ·go_wp2_with fail
      go_ret
      exact retB_false HX5.out
   ·go_wp2_with fail
    go_ret
    exact retB_false HX0.out
end Go.Proofs.YtfbhchpbflaphaaGreatDoor

namespace Go.Proofs.YtfbhchpbflaphaaGreatDoor
open Go.RowKit Go.Maps Go.ChangeMaps Go.Sort
def codeD : ByteArray := ⟨#[0, 0, 1, 0, 0, 0, 0, 13]⟩
def codeS (name : ByteArray) (mode : Int) (other : ByteArray) : List C.Sym := [(name, mode, 0), (other, 3, -1)]
def codeT (other : ByteArray) : List C.Sec := [(1, codeD, [(3, other)])]
def codeO (name : ByteArray) (mode : Int) (other : ByteArray) : C.Obj := (codeS name mode other, codeT other)
abbrev nMain : ByteArray := ⟨#[109, 97, 105, 110]⟩
abbrev nF : ByteArray := ⟨#[102]⟩
abbrev nG : ByteArray := ⟨#[103]⟩
abbrev nH : ByteArray := ⟨#[104]⟩
abbrev nO : ByteArray := ⟨#[111]⟩
abbrev nP : ByteArray := ⟨#[112]⟩
abbrev nX : ByteArray := ⟨#[120]⟩
abbrev nY : ByteArray := ⟨#[121]⟩
abbrev nK : ByteArray := ⟨#[107]⟩
abbrev nK2 : ByteArray := ⟨#[107, 50]⟩
abbrev nLib : ByteArray := ⟨#[108, 105, 98, 47, 97]⟩
abbrev nLX : ByteArray := ⟨#[108, 105, 98, 47, 97, 33, 120]⟩
abbrev nLY : ByteArray := ⟨#[108, 105, 98, 47, 97, 33, 121]⟩
def exM : List C.Mem := [(nO, codeO nMain 1 nF)]
def exM2 : List C.Mem := [(nO, codeO nMain 1 nF), (nP, codeO nF 2 nMain)]
def exSh : List L.Shelf := [(nLib, [(nX, codeO nG 1 nH), (nY, codeO nF 1 nMain)])]
def exM3 : List C.Mem := [(nO, codeO nK 2 nK2), (nP, codeO nK2 1 nK)]
def exI : ByteArray := ⟨#[0, 0, 1, 8, 0, 0, 0, 13, 0, 0, 1, 0, 0, 0, 0, 13]⟩
theorem ex_link1 : L.linkL okN okP nMain exM exSh [] = .ok ((1, 0, exI, [(nO, nMain, 1, 0, 8), (nLY, nF, 1, 8, 8)], [3, 11], [], [], []), ([nO, nLX, nLY], [])) := by kernel_rfl
theorem ex_link2 : L.linkL okN okP nMain exM2 exSh [] = .ok ((1, 0, exI, [(nO, nMain, 1, 0, 8), (nP, nF, 1, 8, 8)], [3, 11], [], [], []), ([nO, nP], [])) := by kernel_rfl
theorem ex_res : L.resolveL okN okP nG exM exSh [] = (nLX, false, 0) := by kernel_rfl
theorem ex_share : L.shareL okN okP exM3 = .ok ((2, -1, exI, [(nO, nK, 1, 0, 8), (nP, nK2, 1, 8, 8)], [3, 11], [], [(nK, 0), (nK2, 8)], []), ([nO, nP], [])) := by kernel_rfl
end Go.Proofs.YtfbhchpbflaphaaGreatDoor

namespace Go.Proofs.YtfbhchpbflaphaaGreatDoor
open Go.RowKit Go.Maps Go.ChangeMaps Go.Sort
theorem slice_new {α : Type} {r : Rep α} {w w' : World} {B : Nat → Prop} {l : List α} {cs : Array Value} {T : TypeId} {g n : Nat} (hg : g = w.heap.size) (hn : n = l.length) (hn2 : n ≤ 9223372036854775807) (hB : B g) (hk : Ext (w.alloc (.cells cs T)) w') (h : Flat r w' B l cs.toList) : SliceAt r w' B (some ⟨g, 0, none⟩) n l := by
 subst hg hn
 refine ⟨Nat.le_refl _, hn2, fun _ => ⟨_, _, rfl, hB, h.row fun j u hj => hk.keepc ?_⟩⟩
 rw [Nat.zero_add, cell_new]
 simpa using hj
theorem run_append_full {P : Program} {w : World} (t ty e : TypeId) (i : TypeInfo) (z : Value) (size bytes : Nat) (ht : P.underlying t = some (.slice e)) (hi : P.info? e = some i) (hz : i.zero = some z) (hsize : i.size = size) (hby : i.bytes = bytes)
  (b : Addr) (n cap : Nat) (xs : List Value) (hlx : xs.length = n * size) (hxs : ∀ j u, xs[j]? = some u → w.cell? (b.add j) = some u) (a : Addr) (m c : Nat) (news : List Value) (hl : news.length = m * size) (hnews : ∀ j u, news[j]? = some u → w.cell? (a.add j) = some u)
  (hfull : cap < n + m) (h63 : n + m ≤ maxLen) (hbytes : (n + m) * bytes ≤ 140737488355328) :
  ∃ g cp w', (Builtin.append_ #[t, t] ty #[.slice (some b) n cap, .slice (some a) m c]).run P w = .ok (.slice (some ⟨g, 0, none⟩) (n + m) cp) w' ∧ Ext w w' ∧ w.heap.size ≤ g ∧ g < w'.heap.size ∧ n + m ≤ cp ∧ cp ≤ maxLen ∧
   ∀ j u, (xs ++ news)[j]? = some u → w'.cell? ⟨g, j, none⟩ = some u := by
 subst hsize
 subst hby
 have hr := run_append_grow (P := P) w t ty e i z ht hi hz b n cap xs hlx hxs a m c news hl hnews hfull (by have := h63; simp only [maxLen] at this; omega) (growslice_fits (by omega) hbytes)
 refine ⟨_, _, _, hr, ⟨rfl, rfl, rfl, by simp, fun k hk => heap_alloc_old w.drew _ hk⟩, Nat.le_refl _, by simp, grownCap_ge _ _ _ _, grownCap_le_maxLen _ _ _ _ h63, fun j u hj => ?_⟩
 have h1 := cell_new w.drew (xs.toArray ++ news.toArray ++ Builtin.zeroCells z.cells (grownCap w (n + m) cap e - (n + m))) e j
 have h2 : w.drew.heap.size = w.heap.size := rfl
 rw [h2] at h1
 rw [h1, ← Array.getElem?_toList]
 simp only [Array.toList_append, List.append_assoc]
 rw [← List.append_assoc, List.getElem?_append_left (List.getElem?_eq_some_iff.1 hj).1]
 exact hj
theorem wpList_append_full {P : Program} {w : World} {ops : Array Oper} {rest : List Oper} {o : Oper} {a : Act} {Q : Exit → Act → World → Prop} (hgd : o.guard = none) (s x : Operand) (t : TypeId)
  (ho : o.op = .call { callee := .builtin .append, args := #[s, x], argTypes := #[t, t] }) {e : TypeId} {i : TypeInfo} {z : Value} {size bytes : Nat} (ht : P.underlying t = some (.slice e)) (hi : P.info? e = some i) (hz : i.zero = some z) (hsize : i.size = size) (hby : i.bytes = bytes)
  (b : Addr) (n cap : Nat) (xs : List Value) (hs : a.eval s = .slice (some b) n cap) (hlx : xs.length = n * size) (hxs : ∀ j u, xs[j]? = some u → w.cell? (b.add j) = some u) (ad : Addr) (m c : Nat) (news : List Value) (hx : a.eval x = .slice (some ad) m c) (hl : news.length = m * size) (hnews : ∀ j u, news[j]? = some u → w.cell? (ad.add j) = some u)
  (hfull : cap < n + m) (h63 : n + m ≤ maxLen) (hbytes : (n + m) * bytes ≤ 140737488355328)
  (h : ∀ g cp w', Ext w w' → w.heap.size ≤ g → g < w'.heap.size → n + m ≤ cp → cp ≤ maxLen → (∀ j u, (xs ++ news)[j]? = some u → w'.cell? ⟨g, j, none⟩ = some u) → wpList P ops Q rest (a.put o.dst (.slice (some ⟨g, 0, none⟩) (n + m) cp)) w') :
  wpList P ops Q (o :: rest) a w := by
 obtain ⟨g, cp, w', hr, h1, h2, h3, h4, h5, h6⟩ := run_append_full (P := P) (w := w) t o.type e i z size bytes ht hi hz hsize hby b n cap xs hlx hxs ad m c news hl hnews hfull h63 hbytes
 refine wpList_wanted' hgd ?_
 unfold Oper.wp execOp
 simp only [ho, resolve, invoke, builtin, Sem.run_bind, Sem.run_pure, Result.andThen_ok, List.map_toArray, List.map_cons, List.map_nil, hs, hx, hr]
 exact h g cp w' h1 h2 h3 h4 h5 h6
def RetCode (w : World) (name : ByteArray) (mode : Int) (other : ByteArray) (e : Ending) (w' : World) : Prop :=
 Ext w w' ∧ ∃ A B, e = .returned (.agg #[.slice A 2 2, .slice B 1 1]) ∧ SliceAt symR w' (Old w') A 2 (codeS name mode other) ∧ SliceAt secR w' (Old w') B 1 (codeT other)
theorem retCode_of (w : World) (o : Obj) (name : ByteArray) (mode : Int) (other : ByteArray) (hn : name.size ≤ 100) (ho : other.size ≤ 100) (hm : (Lit.int .i64 mode).wf = true) : RetCode w name mode other (.returned (.agg #[.slice (some ⟨w.heap.size + 1, 0, none⟩) 2 2, .slice (some ⟨w.heap.size + 1 + 1 + 1, 0, none⟩) 1 1]))
  ((((w.alloc o).alloc (.cells #[.string name, .int .i64 mode, .int .i64 0, .string other, .int .i64 3, .int .i64 (-1)] 60)).alloc (.cells #[.int .i64 3, .string other] 151)).alloc (.cells #[.int .i64 1, .string codeD, .slice (some ⟨w.heap.size + 1 + 1, 0, none⟩) 1 1] 67)) := by
 refine ⟨((((Ext.refl w).alloc _).alloc _).alloc _).alloc _, _, _, rfl, ?_, ?_⟩
 ·refine slice_new (w := w.alloc o) (cs := #[.string name, .int .i64 mode, .int .i64 0, .string other, .int .i64 3, .int .i64 (-1)]) (T := 60) (by simp) rfl (by decide) (show _ < _ by simp) (((Ext.refl _).alloc _).alloc _) ?_
  refine ⟨[.string name, .int .i64 mode, .int .i64 0], [.string other, .int .i64 3, .int .i64 (-1)], rfl, ⟨[.string name], [.int .i64 mode, .int .i64 0], rfl, ⟨rfl, by show name.size ≤ _; omega⟩, [.int .i64 mode], [.int .i64 0], rfl, ⟨rfl, hm⟩, rfl, (by decide : (Lit.int .i64 0).wf = true)⟩, ?_⟩
  exact ⟨[.string other, .int .i64 3, .int .i64 (-1)], [], rfl, ⟨[.string other], [.int .i64 3, .int .i64 (-1)], rfl, ⟨rfl, by show other.size ≤ _; omega⟩, [.int .i64 3], [.int .i64 (-1)], rfl, ⟨rfl, (by decide : (Lit.int .i64 3).wf = true)⟩, rfl, (by decide : (Lit.int .i64 (-1)).wf = true)⟩, rfl⟩
 ·refine slice_new (w := ((w.alloc o).alloc (.cells #[.string name, .int .i64 mode, .int .i64 0, .string other, .int .i64 3, .int .i64 (-1)] 60)).alloc (.cells #[.int .i64 3, .string other] 151)) (cs := #[.int .i64 1, .string codeD, .slice (some ⟨w.heap.size + 1 + 1, 0, none⟩) 1 1]) (T := 67) (by simp) rfl (by decide) (show _ < _ by simp) (Ext.refl _) ?_
  refine ⟨[.int .i64 1, .string codeD, .slice (some ⟨w.heap.size + 1 + 1, 0, none⟩) 1 1], [], rfl, ⟨[.int .i64 1], [.string codeD, .slice (some ⟨w.heap.size + 1 + 1, 0, none⟩) 1 1], rfl, ⟨rfl, (by decide : (Lit.int .i64 1).wf = true)⟩, [.string codeD], _, rfl, ⟨rfl, (by decide : codeD.size ≤ 9223372036854775807)⟩, _, _, rfl, ?_⟩, rfl⟩
  refine slice_new (w := (w.alloc o).alloc (.cells #[.string name, .int .i64 mode, .int .i64 0, .string other, .int .i64 3, .int .i64 (-1)] 60)) (cs := #[.int .i64 3, .string other]) (T := 151) (by simp) rfl (by decide) (show _ < _ by simp) ((Ext.refl _).alloc _) ?_
  exact ⟨[.int .i64 3, .string other], [], rfl, ⟨[.int .i64 3], [.string other], rfl, ⟨rfl, (by decide : (Lit.int .i64 3).wf = true)⟩, rfl, by show other.size ≤ _; omega⟩, rfl⟩
set_option maxRecDepth 8000 in
set_option maxHeartbeats 2000000 in
theorem code_any (name : ByteArray) (mode : Int) (other : ByteArray) (w : World) (hn : name.size ≤ 100) (ho : other.size ≤ 100) (hm : (Lit.int .i64 mode).wf = true) : Calls Tryz.prog 38 #[.string name, .int .i64 mode, .string other] w (RetCode w name mode other) := by
 go_enter Tryz.func38, Tryz.ntmps38
 go_wp2_with fail
 exact bodyPost_ret (v := .agg #[.slice (some ⟨w.heap.size + 1, 0, none⟩) 2 2, .slice (some ⟨w.heap.size + 1 + 1 + 1, 0, none⟩) 1 1]) (by simp [results, Tryz.results38, go_sem]) rfl (retCode_of w _ name mode other hn ho hm)
theorem mem_vals {w w' : World} {nm : ByteArray} {name : ByteArray} {mode : Int} {other : ByteArray} {A B : Option Addr} (h1 : SliceAt symR w (Old w) A 2 (codeS name mode other)) (h2 : SliceAt secR w (Old w) B 1 (codeT other)) (he : Ext w w') (hn : nm.size ≤ 100) :
  memR.is w' (Old w') (nm, codeO name mode other) [.string nm, .slice A 2 2, .slice B 1 1] :=
 ⟨[.string nm], _, rfl, ⟨rfl, by show nm.size ≤ _; omega⟩, [.slice A 2 2], [.slice B 1 1], rfl, ⟨A, 2, rfl, h1.ext he⟩, B, 1, rfl, h2.ext he⟩
end Go.Proofs.YtfbhchpbflaphaaGreatDoor

namespace Go.Proofs.YtfbhchpbflaphaaGreatDoor
open Go.RowKit Go.Maps Go.ChangeMaps
def expC (y : L.Expd) : List Value := [.string y.1, .int .i64 y.2]
theorem expC_one (y : L.Expd) : ∀ u ∈ expC y, u.oneCell' = true := by
 intro u hu
 simp only [expC, List.mem_cons, List.not_mem_nil, or_false] at hu
 rcases hu with rfl | rfl <;> rfl
theorem info74 : (Tryz.prog.info? 74).map (fun i => (i.zero, i.size, i.bytes)) = some (some (.agg #[.string ⟨#[]⟩, .int .i64 0]), 2, 24) := by kernel_rfl
def mkN (b : C.Bs) : ByteArray := ⟨b.toArray⟩
theorem mkN_inj {a b : C.Bs} (h : mkN a = mkN b) : a = b := by
 have := congrArg (fun s : ByteArray => s.data.toList) h
 simpa [mkN] using this
def namesE (objs : List C.Mem) : List ByteArray := (L.expNames objs).map mkN
theorem namesE_len (objs : List C.Mem) : (namesE objs).length = (L.expNames objs).length := by unfold namesE; rw [List.length_map]
theorem namesE_new {objs : List C.Mem} {k : Nat} (hk : k < (namesE objs).length) : (namesE objs)[k] ∉ (namesE objs).take k := by
 intro hm
 obtain ⟨i, hi, e⟩ := List.mem_iff_getElem.1 hm
 rw [List.getElem_take] at e
 have hik : i < k := by rw [List.length_take] at hi; omega
 have hs := expNames_sorted objs
 rw [List.pairwise_iff_getElem] at hs
 rw [namesE_len] at hk
 have h1 := hs i k (by omega) hk hik
 have e2 : mkN (L.expNames objs)[i] = mkN (L.expNames objs)[k] := by simpa [namesE] using e
 rw [mkN_inj e2] at h1
 exact List.lt_irrefl _ h1
theorem namesE_size {objs : List C.Mem} (h : MemSizes objs) : ∀ y ∈ namesE objs, y.size ≤ 9000000 := by
 intro y hy
 obtain ⟨b, hb, rfl⟩ := List.mem_map.1 hy
 rw [expNames_is] at hb
 have h1 := (C.foldl_ins (objs.flatMap fun m => expL m.2.1) [] List.Pairwise.nil).2 b
 have h2 := h1.1 hb
 simp only [List.not_mem_nil, false_or] at h2
 obtain ⟨m, hm, h3⟩ := List.mem_flatMap.1 h2
 unfold expL at h3
 obtain ⟨s, hs, rfl⟩ := List.mem_map.1 h3
 have := (h m hm).2 s (List.mem_filter.1 hs).1
 have e : mkN (C.nm s) = s.1 := by
  show (⟨s.1.data.toList.toArray⟩ : ByteArray) = s.1
  rw [Array.toArray_toList]
 rw [e]
 exact this
theorem starts_at {E : L.Env} {ns : List ByteArray} {k : Nat} (hk : k < ns.length) (st : L.St) : L.starts E (ns.drop k) st = match L.hit E ns[k] with
  | .unit u m => match L.addS (L.note st (m, 0)) (u, ns[k]) with
   | .error e => .error e
   | .ok st' => L.starts E (ns.drop (k + 1)) st'
  | .twice => .error 6
  | _ => .error 8 := by
 rw [List.drop_eq_getElem_cons hk]
 rfl
theorem addS_new {st : L.St} {u m : Nat} {x : ByteArray} (hx : x ∉ st.1.map (·.2)) : L.addS (L.note st (m, 0)) (u, x) = if 128 ≤ st.1.length then .error 10 else .ok (st.1 ++ [(u, x)], max st.2.1 m, max st.2.2 0) := by
 have hn : L.has st.1 (u, x) = false := by
  rw [Bool.eq_false_iff]
  intro h
  exact hx (List.mem_map.2 ⟨_, L.has_iff.1 h, rfl⟩)
 unfold L.addS L.note
 simp only [hn]
 rfl
theorem new_spot {st : L.St} {u : Nat} {x : ByteArray} (hx : x ∉ st.1.map (·.2)) : (u, x) ∉ st.1 := fun h => hx (List.mem_map.2 ⟨_, h, rfl⟩)
def exL (E : L.Env) (l : List L.Spot) (ns : List ByteArray) : List L.Expd := (ns.zip (E.atL l)).map fun q => (q.1, (q.2 : Int))
theorem exL_len {E : L.Env} {l : List L.Spot} {ns : List ByteArray} (h : ns.length ≤ l.length) : (exL E l ns).length = ns.length := by
 have : (E.atL l).length = l.length := by unfold L.Env.atL; rw [L.ats_len]; unfold L.Env.sizes; simp
 unfold exL
 rw [List.length_map, List.length_zip]
 omega
theorem exL_get {E : L.Env} {l : List L.Spot} {ns : List ByteArray} {k : Nat} (hk : k < ns.length) (h : k < l.length) : (exL E l ns)[k]? = some (ns[k], ((L.up (L.fin ((E.sizes l).take k) 0) : Nat) : Int)) := by
 have hz : (ns.zip (E.atL l))[k]? = some (ns[k], L.up (L.fin ((E.sizes l).take k) 0)) := by
  rw [List.getElem?_zip_eq_some]
  exact ⟨List.getElem?_eq_getElem hk, at_get h⟩
 unfold exL
 rw [List.getElem?_map, hz]
 rfl
theorem exL_take {E : L.Env} {l : List L.Spot} {ns : List ByteArray} {k : Nat} (hk : k < ns.length) (h : ns.length ≤ l.length) : (exL E l ns).take (k + 1) = (exL E l ns).take k ++ [(ns[k], ((L.up (L.fin ((E.sizes l).take k) 0) : Nat) : Int))] := by
 have hk2 : k < (exL E l ns).length := by rw [exL_len h]; exact hk
 rw [List.take_succ_eq_append_getElem hk2]
 have := exL_get (E := E) (l := l) hk (by omega)
 rw [List.getElem?_eq_getElem hk2] at this
 rw [Option.some.inj this]
theorem catE_len {l : List C.Mem} (h : ∀ m ∈ l, m.2.1.length ≤ 128) : (catE l).length ≤ l.length * 128 :=
 length_flatMap_le fun m hm => Nat.le_trans (exports_len _) (Nat.le_trans (expL_len _) (h m hm))
theorem BinV.share {w W : World} {B B' : Nat → Prop} {E : L.Env} {l : List L.Spot} {vs : List Value} (h : BinV w B (E.bin l 0 0 []) vs) (hB : ∀ k, B k → B' k) (hw : ∀ k, B k → W.heap[k]? = w.heap[k]?) {A : Option Addr} {c : Nat} {ex : List L.Expd} (hA : SliceAt expR W B' A c ex) :
  BinV W B' (E.bin l 2 (-1) ex) (((vs.set 0 (.int .i64 2)).set 1 (.int .i64 (-1))).set 6 (.slice A ex.length c)) := by
 obtain ⟨A1, c1, A2, c2, A3, c3, A4, c4, A5, c5, rfl, h1, h2, h3, h4, h5, _, _, k3⟩ := h.form
 exact ⟨⟨A1, c1, A2, c2, A3, c3, A, c, A5, c5, rfl, h1.keep hB hw, h2.keep hB hw, h3.keep hB hw, hA, h5.keep hB hw, (by decide : (Lit.int .i64 2).wf = true), (by decide : (Lit.int .i64 (-1)).wf = true), k3⟩⟩
end Go.Proofs.YtfbhchpbflaphaaGreatDoor

namespace Go.Proofs.YtfbhchpbflaphaaGreatDoor
open Go.RowKit Go.Maps Go.ChangeMaps
theorem finish_ok {E : L.Env} (hU : L.UnitsOk okN E) {st sf : L.St} (h : L.finish E st = .ok sf) (hL : L.ListOk E st.1) : L.ListOk E sf.1 ∧ st.1 <+: sf.1 ∧ L.selF E 129 0 st = .ok sf ∧ L.fin (E.sizes sf.1) 0 ≤ 65536 := by
 unfold L.finish at h
 split at h
 ·cases h
 ·rename_i s hs
  split at h
  ·cases h
  ·rename_i hf
   cases h
   obtain ⟨h1, h2, _⟩ := L.selF_ok hU hs (by omega) (Nat.zero_le _) hL fun i _ hi => absurd hi (Nat.not_lt_zero _)
   exact ⟨h1, h2, hs, by omega⟩
theorem set_same {α : Type} {l : List α} {i : Nat} {x : α} (h : l[i]? = some x) : l.set i x = l := by
 apply List.ext_getElem?
 intro j
 rw [List.getElem?_set]
 by_cases e : i = j
 ·subst e
  rw [if_pos rfl, h]
  have := (List.getElem?_eq_some_iff.1 h).1
  simp [this]
 ·rw [if_neg e]
theorem plc_at {w : World} {B : Nat → Prop} {A : Option Addr} {c k : Nat} {l : List L.Plc} (h : SliceAt plcR w B A c l) (hk : k < l.length) : ∃ b off, A = some ⟨b, off, none⟩ ∧ B b ∧ w.cell? ⟨b, off + k * 5 + 3, none⟩ = some (.int .i64 l[k].2.2.2.1) := by
 obtain ⟨b, off, rfl, hb, hr⟩ := h.2.2 (by intro h; rw [h] at hk; simp at hk)
 obtain ⟨us, ⟨x1, y1, rfl, ⟨rfl, _⟩, x2, y2, rfl, ⟨rfl, _⟩, x3, y3, rfl, ⟨rfl, _⟩, x4, y4, rfl, ⟨rfl, _⟩, h5⟩, hc⟩ := hr k hk
 exact ⟨b, off, rfl, hb, hc 3 _ rfl⟩
theorem at_le {E : L.Env} (hE : EnvOk E) {l : List L.Spot} (h : L.ListOk E l) {k : Nat} (hk : k < l.length) : L.up (L.fin ((E.sizes l).take k) 0) ≤ 2000000 := by
 have hz : (l.zip (E.atL l))[k]? = some (l[k], L.up (L.fin ((E.sizes l).take k) 0)) := by
  rw [List.getElem?_zip_eq_some]
  exact ⟨List.getElem?_eq_getElem hk, at_get hk⟩
 exact (at_small hE h (List.mem_of_getElem? hz)).2
theorem exp_is {E : L.Env} (hE : EnvOk E) {l : List L.Spot} (h : L.ListOk E l) {ns : List ByteArray} (hn : ns.length ≤ l.length) (hs : ∀ y ∈ ns, y.size ≤ 9223372036854775807) {w : World} {B : Nat → Prop} : ∀ a ∈ exL E l ns, expR.is w B a (expC a) := by
 intro a ha
 obtain ⟨i, hi, rfl⟩ := List.mem_iff_getElem.1 ha
 rw [exL_len hn] at hi
 have h1 := exL_get (E := E) (l := l) hi (by omega)
 rw [List.getElem?_eq_getElem (by rw [exL_len hn]; exact hi)] at h1
 rw [Option.some.inj h1]
 have h2 := at_le hE h (k := i) (by omega)
 exact ⟨_, _, rfl, ⟨rfl, hs _ (List.getElem_mem hi)⟩, rfl, wf_nat (by omega)⟩
structure ExAt (W1 : World) (tb : Nat) (v1 : List Value) (ex : List L.Expd) (j : Nat) (vE : Value) (wr : World) : Prop where
 tch : Tch (fun i => i = tb) W1 wr
 row : wr.heap[tb]? = some (.cells (Array.mk (v1.set 6 vE)) 35 (0, 0))
 own : OwnL expC 74 2 wr W1.heap.size vE j (ex.take j)
 low : tb < W1.heap.size
theorem ExAt.pushed {W1 a d : World} {tb j m : Nat} {v1 : List Value} {ex : List L.Expd} {vE v' : Value} (h : ExAt W1 tb v1 ex j vE a) (h8 : v1.length = 8) (ho : OwnL expC 74 2 d W1.heap.size v' m (ex.take m)) (hg : Tch (fun i => vE.ownBlock = some i) a d) :
  ExAt W1 tb v1 ex m v' (d.setCell ⟨tb, 6, none⟩ v') ∧ d.cell? ⟨tb, 6, none⟩ = some vE ∧ d.frozen? ⟨tb, 6, none⟩ = false := by
 have hl := fun b hb => h.own.lt (k := b) hb
 have hlo := h.low
 have b1 := (hg.block _ (Array.getElem?_eq_some_iff.1 h.row).1 fun e => by have := (hl _ e).1; omega).trans h.row
 have hS : Tch (fun i => i = tb) d (d.setCell ⟨tb, 6, none⟩ v') := grown_tch (grownBy_setCell d ⟨tb, 6, none⟩ v')
 refine ⟨?_, ?_, Lib.frozen_of_heap b1 6⟩
 ·exact {
   tch := (h.tch.trans' hg fun i hi e => absurd hi (by have := (hl i e).1; omega)).trans hS
   row := by
    have := heap_setCell_cells b1 6 v'
    rw [this]
    simp
   own := ho.tch hS fun b hb e => by have := (ho.lt hb).1; omega
   low := hlo }
 ·have := cell_of_row d _ 6 _ _ _ b1
  rw [this]
  rw [← Array.getElem?_toList]
  exact List.getElem?_set_self (by omega)
theorem flat_ints : ∀ l : List Int, l.flatMap intC = l.map fun n => Value.int .i64 n
 | [] => rfl
 | x :: l => by rw [List.flatMap_cons, List.map_cons, flat_ints l]; rfl
end Go.Proofs.YtfbhchpbflaphaaGreatDoor

namespace Go.Proofs.YtfbhchpbflaphaaGreatDoor
open Go.RowKit Go.Maps Go.ChangeMaps
structure ShAt (W1 : World) (b0 b4 g : Nat) (E : L.Env) (S : Nat → Prop) (RS : Except Int L.St) (ns : List ByteArray) (NB : List C.Bs) (v : Value) (n0 k : Nat) (st : L.St) (X : Nat → Prop) (kc : LC) (pv : Value) (wr : World) : Prop where
 rest : RS = L.starts E (ns.drop k) st
 names : st.1.map (·.2) = ns.take k
 ok : L.ListOk E st.1
 bd : L.Bd E st.2
 link : LinkAt wr S X b0 g E st [] kc
 pos : OwnL intC 3 1 wr b4 pv k ((List.range k).map fun i : Nat => (i : Int))
 off : ∀ b, pv.ownBlock = some b → ¬ X b ∧ ¬ S b
 list : OwnS wr W1.heap.size v n0 NB
 ext : Ext W1 wr
 low : b4 ≤ wr.heap.size
theorem ShAt.ext' {W1 : World} {b0 b4 g : Nat} {E : L.Env} {S : Nat → Prop} {RS : Except Int L.St} {ns : List ByteArray} {NB : List C.Bs} {v : Value} {n0 k : Nat} {st : L.St} {X : Nat → Prop} {kc : LC} {pv : Value} {wr W : World} (h : ShAt W1 b0 b4 g E S RS ns NB v n0 k st X kc pv wr) (he : Ext wr W) : ShAt W1 b0 b4 g E S RS ns NB v n0 k st X kc pv W :=
 ⟨h.rest, h.names, h.ok, h.bd, h.link.ext he, h.pos.ext he, h.off, h.list.ext he, h.ext.trans he, Nat.le_trans h.low he.size⟩
attribute [local irreducible] wpLex wpT
set_option maxRecDepth 8000 in
set_option maxHeartbeats 8000000 in
theorem Share_any (objs : List C.Mem) (A : Option Addr) (a n : Nat) (w : World) (hn : n = objs.length) (hA : SliceAt memR w (Old w) A a objs) (hC : CaseOk objs [] []) (hg : Gl w) :
  Calls Tryz.prog 16 #[.slice A n a] w (RetLk w (linkV (L.shareL okN okP objs))) := by
 have hno := hC.no
 have hfew := hC.few
 have hA' := fun W (e : Ext w W) => hA.ext e
 have HV := Lib.hid (fun W (e : Ext w W) => lvalid_any objs [] [] A none none a 0 0 n 0 0 W hn (hA' W e) rfl (SliceAt.nil _ _ _ _ _ (by omega)) rfl (SliceAt.nil _ _ _ _ _ (by omega)) hC.mems (fun s hs => by cases hs) (fun l hl => by cases hl) (by omega) (by omega) (by omega) (hg.ext e))
 have HNW := Lib.hid (fun W (e : Ext w W) => newLinker_any objs [] [] A none none a 0 0 n 0 0 W hn (hA' W e) rfl (SliceAt.nil _ _ _ _ _ (by omega)) rfl (SliceAt.nil _ _ _ _ _ (by omega)) hC.mems (fun s hs => by cases hs) (by omega) (by omega))
 have HE := Lib.hid hC.env
 have HU : Hid (L.validB okN okP objs [] [] = true → ∀ m ∈ objs, m.2.1.length ≤ 128) := fun hv m hm => (L.check_parts (L.valid_units hv [] m (List.mem_append_left _ hm))).1
 obtain ⟨FV, hR⟩ : ∃ FV, FV = linkV (L.shareL okN okP objs) := ⟨_, rfl⟩
 rw [← hR]
 unfold L.shareL at hR
 rw [← valid_alone objs] at hR
 obtain ⟨E, hE⟩ : ∃ E, E = L.envOf objs [] [] := ⟨_, rfl⟩
 obtain ⟨ns, hns⟩ : ∃ ns, ns = namesE objs := ⟨_, rfl⟩
 have hns' : ((L.expNames objs).map fun b => (⟨b.toArray⟩ : ByteArray)) = ns := hns.symm
 rw [← hE] at HNW HE
 have hel : E.libs = [] := by rw [hE]; rfl
 generalize L.validB okN okP objs [] [] = V at HV hR HE HU
 have HA := Lib.hid hA'
 have HN := Lib.hid hn
 have HMS := Lib.hid hC.mems
 obtain ⟨hx1, hr1, hr2, hs1⟩ := two_cells w
 obtain ⟨W1, hW1⟩ : ∃ W1, W1 = (w.alloc (.cells zrow35 35)).alloc (.cells zrow38 38) := ⟨_, rfl⟩
 rw [← hW1] at hx1 hr1 hr2 hs1
 have HW1 := Lib.hid hW1
 have HX1 := Lib.hid hx1
 have HR1 := Lib.hid hr1
 have HR2 := Lib.hid hr2
 have HS1 := Lib.hid hs1
 have hn50 : n ≤ 50 := by omega
 clear hn hA hC hg hno hfew hA' hx1 hr1 hr2 hs1 hW1
 cases V with
 | false =>
  have hR' : FV = (zeroB, ([], []), 1) := by rw [hR]; rfl
  have HR := Lib.hid hR'
  clear hR hR' HE HU hns' hns hE hel
  go_enter Tryz.func16, Tryz.ntmps16
  go_upto_region 1 with (fail)
  rw [← HW1.out]
  go_wp2_with fail
  refine (HV.out _ HX1.out).mono ?_
  rintro _ w2 ⟨rfl, e2⟩
  have HE2 := Lib.hid e2
  clear e2
  go_wp2_with fail
  refine (none59_any 1 _).mono ?_
  rintro e wz ⟨ez, rfl⟩
  have hz := HE2.out.trans ez
  have hA := (hz.block _ (Array.getElem?_eq_some_iff.1 HR1.out).1).trans HR1.out
  have hB := (hz.block _ (Array.getElem?_eq_some_iff.1 HR2.out).1).trans HR2.out
  obtain ⟨⟨r0, r1, r2, r3, r4, r5, r6, r7⟩, f0, f1, f2, f3, f4, f5, f6, f7⟩ := zcells hA
  obtain ⟨s0, s1, t0, t1⟩ := zcells2 hB
  obtain ⟨hA3, hB3⟩ := zput_rows hA hB
  have HA3 := Lib.hid hA3
  have HB3 := Lib.hid hB3
  have HX3 := Lib.hid (zput_ext (HX1.out.trans hz))
  clear hz ez hA hB hA3 hB3
  go_wp2_with fail
  refine ret_bre rfl rfl rfl rfl HA3.out HB3.out rfl rfl rfl ?_
  rw [HR.out]
  exact ⟨HX3.out, RetBR.none _ _ _⟩
 | true =>
  rw [if_pos rfl] at hR
  simp only [hns', ← hE] at hR
  have HEV := Lib.hid (HE.out rfl)
  have HUU := Lib.hid (HU.out rfl)
  have HRR := Lib.hid hR
  have HNS := Lib.hid hns
  have HEL := Lib.hid hel
  have HXS : Hid (∀ y ∈ ns, y.size ≤ 9223372036854775807) := by
   rw [hns]
   intro y hy
   have := namesE_size HMS.out y hy
   omega
  have HEE := Lib.hid hE
  clear hR HE HU hns' hns hE hel
  go_enter Tryz.func16, Tryz.ntmps16
  go_upto_region 1 with (fail)
  rw [← HW1.out]
  go_wp2_with fail
  refine (HV.out _ HX1.out).mono ?_
  rintro _ w2 ⟨rfl, e2⟩
  have HE2 := Lib.hid e2
  clear e2
  go_wp2_with fail
  go_loopw [6, 31] (fun v i wr => ∃ k : Nat, k ≤ n ∧ i = .int .i64 (k : Int) ∧ Hid (OwnS wr W1.heap.size v (catE (objs.take k)).length (catE (objs.take k)) ∧ Ext W1 wr)) (fun _ i _ => n - (intOf i).toNat)
  case atStart => exact ⟨0, Nat.zero_le _, rfl, OwnS.nil _ _, HE2.out⟩
  case round =>
   obtain ⟨k, hk, rfl, HK⟩ := hrel
   obtain ⟨W0, hW0⟩ : ∃ W0, W0 = wr := ⟨_, rfl⟩
   subst hW0
   by_cases hlt : k < n
   ·have hkl : k < objs.length := by rw [← HN.out]; exact hlt
    obtain ⟨mb, mo, s, TA, tc, TB, td, rfl, hbo, hms, hss, hTA, hTB, m0, m1, m2⟩ := mem_getB (HA.out _ (HX1.out.trans HK.out.2)) hkl
    have hu := HUU.out _ (List.getElem_mem hkl)
    have htk := catE_take hkl
    have hcl : (catE (objs.take k)).length ≤ k * 128 := by
     have h1 := catE_len (l := objs.take k) fun m hm => HUU.out m (List.mem_of_mem_take hm)
     rw [List.length_take] at h1
     have h2 : min k objs.length * 128 ≤ k * 128 := Nat.mul_le_mul_right _ (Nat.min_le_left _ _)
     omega
    have hel := exports_len (expL objs[k].2.1)
    have hel2 := expL_len objs[k].2.1
    obtain ⟨sy, hsy⟩ : ∃ sy, sy = objs[k].2.1 := ⟨_, rfl⟩
    rw [← hsy] at hTA m1 hu htk hel hel2
    generalize objs[k].2.2.length = ul at m2
    obtain ⟨tl, htl⟩ : ∃ tl, tl = sy.length := ⟨_, rfl⟩
    rw [← htl] at m1 hu hel2
    have HTK := Lib.hid htk
    have HO := Lib.hid HK.out.1
    have HOX := Lib.hid HK.out.2
    obtain ⟨LC0, hLC⟩ : ∃ LC0, LC0 = catE (objs.take k) := ⟨_, rfl⟩
    rw [← hLC] at HO hcl HTK
    obtain ⟨LX, hLX⟩ : ∃ LX, LX = (expL sy).foldl C.insB [] := ⟨_, rfl⟩
    rw [← hLX] at hel HTK
    obtain ⟨W4, hW4⟩ : ∃ W4, W4 = W0.alloc (.cells #[.string s, .slice TA tl tc, .slice TB ul td] 69) := ⟨_, rfl⟩
    obtain ⟨eb, heb⟩ : ∃ eb, eb = W0.heap.size := ⟨_, rfl⟩
    have E4 : Ext W0 W4 := by rw [hW4]; exact (Ext.refl W0).alloc _
    have hb4 : W4.heap[eb]? = some (.cells #[.string s, .slice TA tl tc, .slice TB ul td] 69 (0, 0)) := by rw [hW4, heb]; exact heap_alloc_new W0 _
    have t1 : W4.cell? ⟨eb, 1, none⟩ = _ := cell_of_row W4 eb 1 _ _ _ hb4
    have t2 : W4.cell? ⟨eb, 2, none⟩ = _ := cell_of_row W4 eb 2 _ _ _ hb4
    have HEX : Hid (Calls Tryz.prog 60 #[.agg #[.slice TA tl tc, .slice TB ul td]] W4 (RetS W4 LX)) := by rw [hLX]; exact Exports_any sy TA TB tc td tl ul W4 htl (hTA.ext E4) (by omega)
    have HEB := Lib.hid heb
    have HO4 := Lib.hid (HO.out.ext E4)
    have HX4 := Lib.hid (HOX.out.trans E4)
    clear htk hms hss hTA hTB hbo hsy htl hLC hLX heb hb4 E4 hkl HK HO HOX
    go_upto_region 8 with (fail)
    rw [← hW4, ← HEB.out]
    clear hW4 m0 m1 m2
    go_wp2_with fail
    refine HEX.out.mono ?_
    rintro e w5 ⟨e5, v5, n5, rfl, ho5⟩
    have hn5 := ho5.1
    have hown := HO4.out.ext e5
    have hbase : W1.heap.size ≤ w5.heap.size := (HX4.out.trans e5).size
    have HX5 := Lib.hid (HX4.out.trans e5)
    clear e5
    go_wp2_with (at_builtin; refine wpList_append_ownS rfl (.tmp 35) (.tmp 38) rfl rfl hown rfl ho5 (by omega) hbase ?_; intro v6 w6 ho6 hg6)
    have HX6 := Lib.hid (hown.grown HX5.out (Nat.le_refl _) hg6)
    have HO6 : Hid (OwnS w6 W1.heap.size v6 (catE (objs.take (k + 1))).length (catE (objs.take (k + 1)))) := by
     rw [HTK.out, List.length_append]
     rw [hn5] at ho6
     exact ho6
    go_roundw
    case rel => exact ⟨k + 1, by omega, by go_num, HO6.out, HX6.out⟩
    case measure => simp [intOf]; omega
   ·obtain rfl : k = n := by omega
    have htk : objs.take k = objs := List.take_of_length_le (by rw [HN.out]; exact Nat.le_refl _)
    have hcl : (catE objs).length ≤ 6400 := by
     have h1 := catE_len (l := objs) HUU.out
     have := HN.out
     omega
    have hcn := catE_names objs
    rw [htk] at HK
    obtain ⟨LC0, hLC⟩ : ∃ LC0, LC0 = catE objs := ⟨_, rfl⟩
    rw [← hLC] at HK hcl hcn
    obtain ⟨NB, hNB⟩ : ∃ NB, NB = L.expNames objs := ⟨_, rfl⟩
    rw [← hNB] at hcn
    have HSO := Lib.hid (sort_any HK.out.1 (by omega))
    have HK0 := Lib.hid HK.out
    have HCN := Lib.hid hcn
    have HNB := Lib.hid hNB
    have hlen2 : NB.length ≤ LC0.length := by
     rw [← hcn]
     have := Lib.compact_length_le (LC0.mergeSort fun x y => decide (x ≤ y))
     rwa [List.length_mergeSort] at this
    obtain ⟨nl, hnl⟩ : ∃ nl, nl = LC0.length := ⟨_, rfl⟩
    rw [← hnl] at HK0 HSO hcl hlen2
    have HNL := Lib.hid hnl
    clear htk hLC hcn hNB HK hnl
    go_wp2_with fail
    refine HSO.out.mono ?_
    rintro e w3 ⟨rfl, ho3, hg3⟩
    have HX3' := Lib.hid (HK0.out.1.grown HK0.out.2 (Nat.le_refl _) hg3)
    have HCO := Lib.hid (compact_any ho3 (by omega))
    have HO3 := Lib.hid ho3
    clear ho3 hg3
    go_wp2_with fail
    refine HCO.out.mono ?_
    rintro e w4 ⟨v4, rfl, ho4, hv4, hg4⟩
    have HX4 := Lib.hid (HO3.out.grown HX3'.out (Nat.le_refl _) hg4)
    rw [HCN.out] at ho4
    obtain ⟨VA, vc, rfl, hvl, hvc⟩ := ho4.form2
    obtain ⟨q, hq⟩ : ∃ q, q = NB.length := ⟨_, rfl⟩
    rw [← hq] at ho4 hvl hlen2 ⊢
    have HO4 := Lib.hid ho4
    have HQ := Lib.hid hq
    clear ho4 hv4 hg4 hq HSO HCO HO3 HX3' HK0
    by_cases hq0 : q = 0
    ·have hR' : FV = (zeroB, ([], []), 7) := by
      have h0 : ns = [] := List.eq_nil_of_length_eq_zero (by rw [HNS.out, namesE_len, ← HNB.out, ← HQ.out, hq0])
      rw [HRR.out, if_pos h0]
      rfl
     have HRB := Lib.hid hR'
     clear hR'
     subst hq0
     go_wp2_with fail
     refine (none59_any 7 _).mono ?_
     rintro e wz ⟨ez, rfl⟩
     have hz := HX4.out.trans ez
     have hA := (hz.block _ (Array.getElem?_eq_some_iff.1 HR1.out).1).trans HR1.out
     have hB := (hz.block _ (Array.getElem?_eq_some_iff.1 HR2.out).1).trans HR2.out
     obtain ⟨⟨r0, r1, r2, r3, r4, r5, r6, r7⟩, f0, f1, f2, f3, f4, f5, f6, f7⟩ := zcells hA
     obtain ⟨s0, s1, t0, t1⟩ := zcells2 hB
     obtain ⟨hA3, hB3⟩ := zput_rows hA hB
     have HA3 := Lib.hid hA3
     have HB3 := Lib.hid hB3
     have HX3 := Lib.hid (zput_ext (HX1.out.trans hz))
     clear hz ez hA hB hA3 hB3
     go_wp2_with fail
     refine ret_bre rfl rfl rfl rfl HA3.out HB3.out rfl rfl rfl ?_
     rw [HRB.out]
     exact ⟨HX3.out, RetBR.none _ _ _⟩
    ·have hnn : ns.length = q := by rw [HNS.out, namesE_len, ← HNB.out, ← HQ.out]
     have hne : ns ≠ [] := fun h => hq0 (by rw [← hnn, h]; rfl)
     obtain ⟨RS, hRS⟩ : ∃ RS, RS = L.starts E ns ([], 0, 0) := ⟨_, rfl⟩
     have hR' := HRR.out
     rw [if_neg hne, ← hRS] at hR'
     have HRB := Lib.hid hR'
     have HRS := Lib.hid hRS
     have HNN := Lib.hid hnn
     clear hR' hRS hnn hne
     have q1 : ((q : Int) == 0) = false := by
      have : ¬ (q : Int) = 0 := by omega
      simpa using this
     go_wp2_with fail
     refine (HNW.out _ (HX1.out.trans HX4.out)).mono ?_
     rintro e w5 ⟨e5, g, S, X, kc, rfl, hL, hS⟩
     have HLK := Lib.hid hL
     have HE5 := Lib.hid e5
     have hSl : ∀ b, S b → b < w5.heap.size := fun b hb => (hL.out b hb).1
     have HSL := Lib.hid hSl
     have H0 : Hid (ShAt W1 w4.heap.size w5.heap.size g E S RS ns NB (.slice VA q vc) q 0 ([], 0, 0) X kc (.slice none 0 0) w5) := {
      rest := HRS.out
      names := rfl
      ok := ⟨Nat.zero_le _, List.nodup_nil, fun p hp => by cases hp⟩
      bd := ⟨Nat.zero_le _, Nat.zero_le _⟩
      link := hL
      pos := OwnL.nil _ _
      off := fun b hb => by simp [Value.ownBlock] at hb
      list := HO4.out.ext e5
      ext := HX4.out.trans e5
      low := Nat.le_refl _ }
     have HB4 := Lib.hid (show w4.heap.size ≤ w5.heap.size from e5.size)
     clear hL e5 hS hSl HLK
     go_wp2_with fail
     go_loopw [10, 57] (fun pv i wr => ∃ (k : Nat) (st : L.St) (X' : Nat → Prop) (kc' : LC), k ≤ q ∧ i = .int .i64 (k : Int) ∧ Hid (ShAt W1 w4.heap.size w5.heap.size g E S RS ns NB (.slice VA q vc) q k st X' kc' pv wr)) (fun _ i _ => q - (intOf i).toNat)
     case atStart => exact ⟨0, _, X, kc, Nat.zero_le _, rfl, H0.out⟩
     case round =>
      obtain ⟨k, st, X', kc', hk, rfl, HK⟩ := hrel
      obtain ⟨V0, hV0⟩ : ∃ V0, V0 = wr := ⟨_, rfl⟩
      subst hV0
      by_cases hlt : k < q
      ·have hkn : k < ns.length := by rw [HNN.out]; exact hlt
       have hkb : k < NB.length := by rw [← HQ.out]; exact hlt
       obtain ⟨nb, no, nc, hva, hnb1, hnb2, _, _, hcell⟩ := HK.out.list.2.cells (by omega)
       have hxc := hcell k (encStr NB[k]) (by rw [List.getElem?_map, List.getElem?_eq_getElem hkb]; rfl)
       have hxe : encStr NB[k] = .string ns[k] := by
        have h2 : ns[k]? = some (mkN NB[k]) := by
         rw [HNS.out]
         unfold namesE
         rw [← HNB.out, List.getElem?_map, List.getElem?_eq_getElem hkb]
         rfl
        rw [List.getElem?_eq_getElem hkn] at h2
        rw [Option.some.inj h2]
        rfl
       rw [hxe] at hxc
       have hva1 : VA = some ⟨nb, no, none⟩ := by cases hva; rfl
       clear hva
       subst hva1
       have hrest := HK.out.rest
       rw [starts_at hkn] at hrest
       have hxn : ns[k] ∉ st.1.map (·.2) := by
        rw [HK.out.names]
        have h1 := HNS.out
        subst h1
        exact namesE_new hkn
       have hnm : ns.take (k + 1) = ns.take k ++ [ns[k]] := List.take_succ_eq_append_getElem hkn
       obtain ⟨x, hxx⟩ : ∃ x, x = ns[k] := ⟨_, rfl⟩
       rw [← hxx] at hxc hrest hxn hnm
       have hxs : x.size ≤ 9223372036854775807 := HXS.out x (by rw [hxx]; exact List.getElem_mem hkn)
       have HRES := Lib.hid (resolve_any V0 S X' _ g E st [] kc' HK.out.link HEV.out x hxs)
       have HREST := Lib.hid hrest
       have HXN := Lib.hid hxn
       have HNM := Lib.hid hnm
       have HXS2 := Lib.hid hxs
       clear hkn hkb hxe hrest hxn hnm hxx hxs hcell hnb1 hnb2
       go_wp2_with fail
       refine HRES.out.mono ?_
       rintro e w6 ⟨ht6, hh⟩
       have HT6 := Lib.hid ht6
       have HX6 : Hid (Ext W1 w6) := by
        have h1 : Tch (fun _ => False) W1 V0 := HK.out.ext.tch _
        exact (h1.trans' ht6 fun i hi e => absurd (HK.out.link.lt i e).1 (by have := HX4.out.size; omega)).ext fun _ _ h => h
       clear ht6 hxc
       cases hhit : L.hit E x with
       | twice =>
        rw [hhit] at hh
        subst hh
        have hRS := HREST.out
        rw [hhit] at hRS
        have hR' : FV = (zeroB, ([], []), 6) := by rw [HRB.out, hRS]; rfl
        have HRC := Lib.hid hR'
        clear hR' hhit hRS
        unfold placeV
        go_wp2_with fail
        refine (none59_any 6 _).mono ?_
        rintro e wz ⟨ez, rfl⟩
        have hz := (HX6.out.alloc _).trans ez
        have hA := (hz.block _ (Array.getElem?_eq_some_iff.1 HR1.out).1).trans HR1.out
        have hB := (hz.block _ (Array.getElem?_eq_some_iff.1 HR2.out).1).trans HR2.out
        obtain ⟨⟨r0, r1, r2, r3, r4, r5, r6, r7⟩, f0, f1, f2, f3, f4, f5, f6, f7⟩ := zcells hA
        obtain ⟨s0, s1, t0, t1⟩ := zcells2 hB
        obtain ⟨hA3, hB3⟩ := zput_rows hA hB
        have HA3 := Lib.hid hA3
        have HB3 := Lib.hid hB3
        have HX3 := Lib.hid (zput_ext (HX1.out.trans hz))
        clear hz ez hA hB hA3 hB3
        go_wp2_with fail
        refine ret_bre rfl rfl rfl rfl HA3.out HB3.out rfl rfl rfl ?_
        rw [HRC.out]
        exact ⟨HX3.out, RetBR.none _ _ _⟩
       | unknown =>
        rw [hhit] at hh
        subst hh
        have hRS := HREST.out
        rw [hhit] at hRS
        have hR' : FV = (zeroB, ([], []), 8) := by rw [HRB.out, hRS]; rfl
        have HRC := Lib.hid hR'
        clear hR' hhit hRS
        unfold placeV
        go_wp2_with fail
        refine (none59_any 8 _).mono ?_
        rintro e wz ⟨ez, rfl⟩
        have hz := (HX6.out.alloc _).trans ez
        have hA := (hz.block _ (Array.getElem?_eq_some_iff.1 HR1.out).1).trans HR1.out
        have hB := (hz.block _ (Array.getElem?_eq_some_iff.1 HR2.out).1).trans HR2.out
        obtain ⟨⟨r0, r1, r2, r3, r4, r5, r6, r7⟩, f0, f1, f2, f3, f4, f5, f6, f7⟩ := zcells hA
        obtain ⟨s0, s1, t0, t1⟩ := zcells2 hB
        obtain ⟨hA3, hB3⟩ := zput_rows hA hB
        have HA3 := Lib.hid hA3
        have HB3 := Lib.hid hB3
        have HX3 := Lib.hid (zput_ext (HX1.out.trans hz))
        clear hz ez hA hB hA3 hB3
        go_wp2_with fail
        refine ret_bre rfl rfl rfl rfl HA3.out HB3.out rfl rfl rfl ?_
        rw [HRC.out]
        exact ⟨HX3.out, RetBR.none _ _ _⟩
       | lib j =>
        have := L.hit_lib hhit
        rw [HEL.out] at this
        exact absurd this (Nat.not_lt_zero _)
       | unit u mm =>
        rw [hhit] at hh
        obtain ⟨rfl, hL6⟩ := hh
        have hRS := HREST.out
        rw [hhit] at hRS
        simp only at hRS
        rw [addS_new HXN.out] at hRS
        obtain ⟨hu, hsec⟩ := L.hit_sec HEV.out.units hhit
        obtain ⟨_, _, _, hmm⟩ := L.hit_unit hhit
        have hfw := HEV.out.few
        obtain ⟨W6, hW6⟩ : ∃ W6, W6 = w6.alloc (.cells #[.int .i64 (u : Int), .int .i64 (-1)] 101) := ⟨_, rfl⟩
        obtain ⟨pb, hpb⟩ : ∃ pb, pb = w6.heap.size := ⟨_, rfl⟩
        have E6 : Ext w6 W6 := by rw [hW6]; exact (Ext.refl w6).alloc _
        have hb6 : W6.heap[pb]? = some (.cells #[.int .i64 (u : Int), .int .i64 (-1)] 101 (0, 0)) := by rw [hW6, hpb]; exact heap_alloc_new w6 _
        have p0 : W6.cell? ⟨pb, 0, none⟩ = _ := cell_of_row W6 pb 0 _ _ _ hb6
        have hst : ∀ q ∈ st.1, DomP q := fun q hq => by
         obtain ⟨h1, h2⟩ := HK.out.ok.2.2 q hq
         have h3 := sym_small HEV.out (sec_sym h2)
         exact ⟨by omega, by omega⟩
        have HADD := Lib.hid (add_any W6 S X' _ g E _ [] kc' (hL6.ext E6) (u, x) ⟨by show u < _; omega, HXS2.out⟩ hst HK.out.ok.1)
        rw [addS_new HXN.out] at HADD
        have HL6 := Lib.hid (hL6.ext E6)
        have HX7 := Lib.hid (HX6.out.trans E6)
        have HT7 := Lib.hid (HT6.out.trans (E6.tch _))
        have HPB := Lib.hid hpb
        have HU2 := Lib.hid (And.intro hu hsec)
        have HMM := Lib.hid hmm
        clear hhit hL6 hu hsec hmm E6 hb6 hpb hst
        unfold placeV
        go_upto_region 20 with (fail)
        rw [← hW6, ← HPB.out]
        clear hW6
        by_cases hbig : 128 ≤ st.1.length
        ·rw [if_pos hbig] at hRS HADD
         have hR' : FV = (zeroB, ([], []), 10) := by rw [HRB.out, hRS]; rfl
         have HRC := Lib.hid hR'
         clear hR' hRS
         go_wp2_with fail
         refine HADD.out.mono ?_
         rintro e w7 ⟨ht7, rfl⟩
         have HX8 : Hid (Ext W1 w7) := by
          have h1 : Tch (fun _ => False) W1 W6 := HX7.out.tch _
          exact (h1.trans' ht7 fun i hi e => absurd (HL6.out.lt i e).1 (by have := HX4.out.size; omega)).ext fun _ _ h => h
         clear ht7
         go_wp2_with fail
         refine (none59_any 10 _).mono ?_
         rintro e wz ⟨ez, rfl⟩
         have hz := HX8.out.trans ez
         have hA := (hz.block _ (Array.getElem?_eq_some_iff.1 HR1.out).1).trans HR1.out
         have hB := (hz.block _ (Array.getElem?_eq_some_iff.1 HR2.out).1).trans HR2.out
         obtain ⟨⟨r0, r1, r2, r3, r4, r5, r6, r7⟩, f0, f1, f2, f3, f4, f5, f6, f7⟩ := zcells hA
         obtain ⟨s0, s1, t0, t1⟩ := zcells2 hB
         obtain ⟨hA3, hB3⟩ := zput_rows hA hB
         have HA3 := Lib.hid hA3
         have HB3 := Lib.hid hB3
         have HX3 := Lib.hid (zput_ext (HX1.out.trans hz))
         clear hz ez hA hB hA3 hB3
         go_wp2_with fail
         refine ret_bre rfl rfl rfl rfl HA3.out HB3.out rfl rfl rfl ?_
         rw [HRC.out]
         exact ⟨HX3.out, RetBR.none _ _ _⟩
        ·rw [if_neg hbig] at hRS HADD
         have HRS2 := Lib.hid hRS
         have hst1 : st.1.length = k := by
          have h1 := congrArg List.length HK.out.names
          rw [List.length_map, List.length_take, HNN.out] at h1
          omega
         have hps : L.pos (st.1 ++ [(u, x)]) (u, x) = k := by rw [L.pos_snoc (new_spot HXN.out), hst1]
         have HPS := Lib.hid hps
         clear hRS hps hst1
         go_wp2_with fail
         refine HADD.out.mono ?_
         rintro e w7 ⟨ht7, rfl, X2, kc2, hX2, hL7⟩
         simp only
         rw [HPS.out]
         have hTT := HT7.out.trans ht7
         have HX8 : Hid (Ext W1 w7) := by
          have h1 : Tch (fun _ => False) W1 W6 := HX7.out.tch _
          exact (h1.trans' ht7 fun i hi e => absurd (HL6.out.lt i e).1 (by have := HX4.out.size; omega)).ext fun _ _ h => h
         have hpos := HK.out.pos.tch hTT fun b hb => (HK.out.off b hb).1
         have hlist := HK.out.list.tch hTT fun b hb hx => by
          have h1 := (HK.out.link.lt b hx).1
          have h2 := (HO4.out.lt hb).2
          omega
         have hoff : ∀ b, u10.ownBlock = some b → ¬ X2 b ∧ ¬ S b := fun b hb => ⟨fun hx => by
          rcases hX2 b hx with h | h
          ·exact (HK.out.off b hb).1 h
          ·have h1 := (HK.out.pos.lt hb).2
           have h2 := HT7.out.size
           omega, (HK.out.off b hb).2⟩
         have HPOS := Lib.hid hpos
         have HLIST := Lib.hid hlist
         have HOFF := Lib.hid hoff
         have HL7 := Lib.hid hL7
         have hown := hpos.ext ((Ext.refl w7).alloc (.cells #[.int .i64 (k : Int)] 3))
         have hb5 : w5.heap.size ≤ (w7.alloc (.cells #[.int .i64 (k : Int)] 3)).heap.size := by
          have h1 := HK.out.low
          have h2 := hTT.size
          have h3 : (w7.alloc (.cells #[.int .i64 (k : Int)] 3)).heap.size = w7.heap.size + 1 := by simp
          omega
         obtain ⟨i9, hi9, hz9, hz91, hz92⟩ := info_parts info3
         have hs5 : ∀ j u, (intC (k : Int))[j]? = some u → (w7.alloc (.cells #[.int .i64 (k : Int)] 3)).cell? ⟨w7.heap.size, j, none⟩ = some u := new_cells w7 (intC (k : Int)) 3 _ rfl
         clear hpos hlist hoff hTT hX2 hL7 ht7
         go_wp2_with (at_builtin; refine wpList_append_one rfl (.tmp 91) (.tmp 93) 30 rfl Tryz.underlying30 hi9 hz9 hz91 hz92 rfl (by decide) (by decide) rfl hown (k : Int) rfl rfl hs5 (intC_one _) (by omega) hb5 ?_; intro v8 w8 hown8 hg8 hv8)
         have hg8' : (w7.alloc (.cells #[.int .i64 (k : Int)] 3)).grownBy w8 u10.ownBlock := hg8
         have ha7 : (w7.alloc (.cells #[.int .i64 (k : Int)] 3)).heap.size = w7.heap.size + 1 := by simp
         have hT8 : Tch (fun b => u10.ownBlock = some b) w7 w8 := (((Ext.refl w7).alloc (.cells #[.int .i64 (k : Int)] 3)).tch _).trans ⟨hg8'.os, hg8'.tape, hg8'.output, hg8'.size, fun i hi hx => hg8'.block i hi fun e => hx e.symm⟩
         have HS : Hid (ShAt W1 w4.heap.size w5.heap.size g E S RS ns NB (.slice (some ⟨nb, no, none⟩) q vc) q (k + 1) (st.1 ++ [(u, x)], max st.2.1 mm, max st.2.2 0) X2 kc2 v8 w8) := {
          rest := HRS2.out
          names := by
           show (st.1 ++ [(u, x)]).map (·.2) = _
           rw [List.map_append, HK.out.names, HNM.out]
           rfl
          ok := (L.addS_ok (st := L.note st (mm, 0)) (p := (u, x)) (by rw [addS_new HXN.out, if_neg hbig]) HK.out.ok HU2.out).1
          bd := ⟨Nat.max_le.2 ⟨HK.out.bd.1, HMM.out⟩, Nat.max_le.2 ⟨HK.out.bd.2, Nat.zero_le _⟩⟩
          link := HL7.out.tch hT8 HOFF.out
          pos := by
           rw [List.range_succ, List.map_append]
           exact hown8
          off := fun b hb => by
           rcases hv8 with h | ⟨i, h, h1, _⟩
           ·exact HOFF.out b (h.symm.trans hb)
           ·rw [h] at hb
            cases hb
            exact ⟨fun hx => by have := (HL7.out.lt _ hx).2; omega, fun hs => by have := (HL7.out.out _ hs).1; omega⟩
          list := HLIST.out.tch hT8 fun b hb hx => by
           have h1 := (HO4.out.lt hb).2
           have h2 := (HK.out.pos.lt hx).1
           have h3 := HB4.out
           omega
          ext := Ext.grownL (HX8.out.alloc _) hown (Nat.le_trans HX4.out.size HB4.out) hg8
          low := Nat.le_trans hb5 hg8'.size }
         clear hg8 hg8' hT8 ha7 hown8 hv8 hown hs5 hb5
         go_roundw
         case rel => exact ⟨k + 1, _, X2, kc2, by omega, by go_num, HS.out⟩
         case measure => simp [intOf]; omega
      ·obtain rfl : k = q := by omega
       have hdr : ns.drop k = [] := List.drop_eq_nil_of_le (by rw [HNN.out]; exact Nat.le_refl _)
       have hrs := HK.out.rest
       rw [hdr] at hrs
       have hrs2 : RS = .ok st := hrs
       have hR' := HRB.out
       rw [hrs2] at hR'
       simp only at hR'
       have HRF := Lib.hid hR'
       have HFN := Lib.hid (finish_any V0 S X' _ g E st kc' HK.out.link HEV.out HK.out.ok HK.out.bd (fun l hl => by rw [HEL.out] at hl; cases hl))
       clear hdr hrs hrs2 hR'
       go_wp2_with fail
       refine HFN.out.mono ?_
       rintro e w9 ⟨ht9, vs, rs, rfl, hBV, hRV, hv6⟩
       have HX9 : Hid (Ext W1 w9) := by
        have h1 : Tch (fun _ => False) W1 V0 := HK.out.ext.tch _
        exact (h1.trans' ht9 fun i hi e => absurd (HK.out.link.lt i e).1 (by have := HX4.out.size; omega)).ext fun _ _ h => h
       have HTS := Lib.hid ht9.size
       obtain ⟨x10, n1, n2, n3⟩ := two_cells w9
       obtain ⟨n4, n5, n6, y10, _⟩ := two_stores w9 _ vs rs x10 n1 n2
       obtain ⟨W10, hW10⟩ : ∃ W10, W10 = (((w9.alloc (.cells zrow35 35)).alloc (.cells zrow38 38)).setRow w9.heap.size (Array.mk vs)).setRow (w9.heap.size + 1) (Array.mk rs) := ⟨_, rfl⟩
       rw [← hW10] at n5 n6 y10
       have hrow := row35 hBV
       have hone := hBV.one
       have hlen := hBV.len
       have hrow2 := row38 hRV
       have hone2 := hRV.one
       have hlen2' := hRV.len
       have HBV := Lib.hid hBV
       have HRV := Lib.hid hRV
       have HV6 := Lib.hid hv6
       have H5 := Lib.hid n5
       have H6 := Lib.hid n6
       have HY := Lib.hid y10
       have HRB1 := HX9.out.trans y10
       have HXW := Lib.hid HRB1
       have HPOS := Lib.hid (HK.out.pos.tch (ht9.trans (y10.tch _)) fun b hb => (HK.out.off b hb).1)
       have HLST := Lib.hid (HK.out.list.tch (ht9.trans (y10.tch _)) fun b hb hx => by
        have h1 := (HK.out.link.lt b hx).1
        have h2 := (HO4.out.lt hb).2
        omega)
       clear ht9 hBV hRV hv6 x10 n3 n5 n6 y10 HRB1
       obtain ⟨er, her⟩ : ∃ er, er = (finV E (L.finish E st)).2.2 := ⟨_, rfl⟩
       rw [← her]
       have HER := Lib.hid her
       clear her
       go_upto_region 28 with (first | (refine wpList_store_row rfl 35 (.tmp 16) (.tmp 99) rfl w9.heap.size (Array.mk vs) rfl rfl 35 _ n1 hrow (show 8 = vs.length from hlen.symm) hone ?_) | (refine wpList_store_row rfl 38 (.tmp 17) (.tmp 100) rfl (w9.heap.size + 1) (Array.mk rs) rfl rfl 38 _ n4 hrow2 (show 2 = rs.length from hlen2'.symm) hone2 ?_))
       rw [← hW10]
       clear hW10 n1 n2 n4
       obtain ⟨tb, htb⟩ : ∃ tb, tb = w9.heap.size := ⟨_, rfl⟩
       have HTBL : Hid (V0.heap.size ≤ tb) := by
        rw [htb]
        exact HTS.out
       rw [← htb]
       rw [← htb] at H5 H6
       have HTB9 := Lib.hid htb
       clear htb
       cases hfin : L.finish E st with
       | error ne =>
        have hne0 := L.finish_ne hfin
        have hR' := HRF.out
        rw [hfin] at hR'
        have her := HER.out
        rw [hfin] at her
        have hen : er = ne := her
        rw [← hen] at hne0
        have q2 : (er == 0) = false := by simpa using hne0
        have q3 : (er != 0) = true := by simp [bne, q2]
        have hRB : FV = (zeroB, ([], []), er) := by rw [hR', hen]; rfl
        have HRC := Lib.hid hRB
        clear hR' hRB hen her HER hne0 hfin
        go_wp2_with fail
        refine (none59_any er _).mono ?_
        rintro e wz ⟨ez, rfl⟩
        have hz := HXW.out.trans ez
        have hA := (hz.block _ (Array.getElem?_eq_some_iff.1 HR1.out).1).trans HR1.out
        have hB := (hz.block _ (Array.getElem?_eq_some_iff.1 HR2.out).1).trans HR2.out
        obtain ⟨⟨r0, r1, r2, r3, r4, r5, r6, r7⟩, f0, f1, f2, f3, f4, f5, f6, f7⟩ := zcells hA
        obtain ⟨s0, s1, t0, t1⟩ := zcells2 hB
        obtain ⟨hA3, hB3⟩ := zput_rows hA hB
        have HA3 := Lib.hid hA3
        have HB3 := Lib.hid hB3
        have HX3 := Lib.hid (zput_ext (HX1.out.trans hz))
        clear hz ez hA hB hA3 hB3
        go_wp2_with fail
        refine ret_bre rfl rfl rfl rfl HA3.out HB3.out rfl rfl rfl ?_
        rw [HRC.out]
        exact ⟨HX3.out, RetBR.none _ _ _⟩
       | ok sf =>
        have hR' := HRF.out
        rw [hfin] at hR'
        have her := HER.out
        rw [hfin] at her
        have her0 : er = 0 := her
        have hRB : FV = (E.bin sf.1 2 (-1) (exL E sf.1 ns), E.reading sf.2, 0) := hR'
        have HRC := Lib.hid hRB
        have hBE0 : BinV W10 (Fresh V0 w9) (E.bin sf.1 0 0 []) vs := by
         have := HBV.out
         rw [hfin] at this
         exact this.keep (fun _ h => h) fun i hi => HY.out.block i hi.2
        have hRE0 : RdV W10 (Fresh V0 w9) (E.reading sf.2) rs := by
         have := HRV.out
         rw [hfin] at this
         exact this.keep (fun _ h => h) fun i hi => HY.out.block i hi.2
        obtain ⟨hok, hpre, hsel, _⟩ := finish_ok HEV.out.units hfin HK.out.ok
        have hst1 : st.1.length = k := by
         have h1 := congrArg List.length HK.out.names
         rw [List.length_map, List.length_take, HNN.out] at h1
         omega
        have hns2 : ns.length ≤ sf.1.length := by
         have := hpre.length_le
         have := HNN.out
         omega
        have HOKF := Lib.hid hok
        have HNS2 := Lib.hid hns2
        obtain ⟨A1, c1, A2, c2, A3, c3, A4, c4, A5, c5, hvs, hP1, _⟩ := hBE0.form
        have hv3 : vs[3]? = some (.slice A1 (E.bin sf.1 0 0 []).2.2.2.1.length c1) := by rw [hvs]; rfl
        obtain ⟨np, hnp⟩ : ∃ np, np = (E.bin sf.1 0 0 []).2.2.2.1.length := ⟨_, rfl⟩
        rw [← hnp] at hv3
        have hnp2 : np = sf.1.length := by rw [hnp]; exact places_len sf.1
        have hp1 : SliceAt plcR W10 (Fresh V0 w9) A1 c1 (E.places sf.1) := hP1
        have hkp : k ≤ np := by have := HNN.out; omega
        obtain ⟨v1, hv1⟩ : ∃ v1, v1 = (vs.set 0 (.int .i64 2)).set 1 (.int .i64 (-1)) := ⟨_, rfl⟩
        have h18 : v1.length = 8 := by rw [hv1, List.length_set, List.length_set]; exact hlen
        have h13 : v1[3]? = some (.slice A1 np c1) := by
         rw [hv1, List.getElem?_set_ne (by decide), List.getElem?_set_ne (by decide)]
         exact hv3
        have h16 : v1.set 6 (.slice none 0 0) = v1 := set_same (by
         rw [hv1, List.getElem?_set_ne (by decide), List.getElem?_set_ne (by decide)]
         exact HV6.out)
        obtain ⟨W11, hW11⟩ : ∃ W11, W11 = (W10.setCell ⟨tb, 0, none⟩ (.int .i64 2)).setCell ⟨tb, 1, none⟩ (.int .i64 (-1)) := ⟨_, rfl⟩
        have hT11 : Tch (fun i => i = tb) W10 W11 := by rw [hW11]; exact (grown_tch (grownBy_setCell W10 ⟨tb, 0, none⟩ _)).trans (grown_tch (grownBy_setCell _ ⟨tb, 1, none⟩ _))
        have hr11 : W11.heap[tb]? = some (.cells (Array.mk v1) 35 (0, 0)) := by
         rw [hW11, heap_setCell_cells (heap_setCell_cells H5.out 0 _) 1 _, hv1]
         simp
        have k0 : W10.cell? ⟨tb, 0, none⟩ = (Array.mk vs)[0]? := cell_of_row W10 tb 0 _ _ _ H5.out
        have k1 : W10.cell? ⟨tb, 1, none⟩ = (Array.mk vs)[1]? := cell_of_row W10 tb 1 _ _ _ H5.out
        have kf0 := Lib.frozen_of_heap H5.out 0
        have kf1 := Lib.frozen_of_heap H5.out 1
        obtain ⟨y0, hy0⟩ : ∃ y, (Array.mk vs)[0]? = some y := ⟨_, Array.getElem?_eq_getElem (by show 0 < vs.length; omega)⟩
        obtain ⟨y1, hy1⟩ : ∃ y, (Array.mk vs)[1]? = some y := ⟨_, Array.getElem?_eq_getElem (by show 1 < vs.length; omega)⟩
        rw [hy0] at k0
        rw [hy1] at k1
        have htl : tb < W10.heap.size := (Array.getElem?_eq_some_iff.1 H5.out).1
        obtain ⟨nb, no, nc, hva, _, hnb2, _, _, hcell⟩ := HLST.out.2.cells (by omega)
        have hva1 : VA = some ⟨nb, no, none⟩ := by cases hva; rfl
        subst hva1
        clear hva
        obtain ⟨pg, po, pc, rfl, hpg1, hpg2, hpk, hpc2, hpcell⟩ := HPOS.out.2.cells (by omega)
        have hnbt : nb < tb := by
         have h1 := (HO4.out.lt (show (Value.slice (some ⟨nb, no, none⟩) k vc).ownBlock = some nb from by simp [Value.ownBlock])).2
         have h2 := HTBL.out
         have h3 := HK.out.low
         have h4 := HB4.out
         omega
        have hpgt : pg < tb := by
         have h1 := (HK.out.pos.lt (show (Value.slice (some ⟨pg, po, none⟩) k pc).ownBlock = some pg from by simp [Value.ownBlock])).2
         have h2 := HTBL.out
         omega
        have hNC : ∀ Z, Tch (fun i => i = tb) W11 Z → ∀ j (_ : j < k), ∃ h : j < ns.length, Z.cell? ⟨nb, no + j, none⟩ = some (.string ns[j]) := by
         intro Z hZ j hj
         have hjn : j < ns.length := by rw [HNN.out]; exact hj
         have hjb : j < NB.length := by rw [← HQ.out]; exact hj
         have h1 := hcell j (encStr NB[j]) (by rw [List.getElem?_map, List.getElem?_eq_getElem hjb]; rfl)
         have h2 : ns[j]? = some (mkN NB[j]) := by
          rw [HNS.out]
          unfold namesE
          rw [← HNB.out, List.getElem?_map, List.getElem?_eq_getElem hjb]
          rfl
         rw [List.getElem?_eq_getElem hjn] at h2
         refine ⟨hjn, ?_⟩
         rw [Option.some.inj h2]
         exact (hT11.trans hZ).keepc h1 (by show ¬ nb = tb; omega)
        have hPC : ∀ Z, Tch (fun i => i = tb) W11 Z → ∀ j (_ : j < k), Z.cell? ⟨pg, po + j, none⟩ = some (.int .i64 (j : Int)) := by
         intro Z hZ j hj
         have h1 := hpcell j (.int .i64 (j : Int)) (by
          rw [flat_ints, List.getElem?_map, List.getElem?_map, List.getElem?_range hj]
          rfl)
         exact (hT11.trans hZ).keepc h1 (by show ¬ pg = tb; omega)
        have hQC : ∀ Z, Tch (fun i => i = tb) W11 Z → ∀ j (_ : j < k), ∃ b1 o1, A1 = some ⟨b1, o1, none⟩ ∧ b1 < tb ∧ Z.cell? ⟨b1, o1 + j * 5 + 3, none⟩ = some (.int .i64 ((L.up (L.fin ((E.sizes sf.1).take j) 0) : Nat) : Int)) := by
         intro Z hZ j hj
         have hjl : j < sf.1.length := by omega
         have hjp : j < (E.places sf.1).length := by rw [places_len]; exact hjl
         obtain ⟨b1, o1, h1, h2, h3⟩ := plc_at hp1 hjp
         rw [places_get hjl hjp] at h3
         have h4 : b1 < tb := by rw [HTB9.out]; exact h2.2
         exact ⟨b1, o1, h1, h4, (hT11.trans hZ).keepc h3 (by show ¬ b1 = tb; omega)⟩
        have HNC := Lib.hid hNC
        have HPC := Lib.hid hPC
        have HQC := Lib.hid hQC
        have HT11 := Lib.hid hT11
        have HJ0 : Hid (ExAt W11 tb v1 (exL E sf.1 ns) 0 (.slice none 0 0) W11) := ⟨Tch.refl _ _, by rw [h16]; exact hr11, OwnL.nil _ _, Nat.lt_of_lt_of_le htl hT11.size⟩
        have HV1 := Lib.hid hv1
        have H13 := Lib.hid h13
        have HBE0 := Lib.hid hBE0
        have HRE0 := Lib.hid hRE0
        have HVS := Lib.hid hvs
        clear hR' hRB HER hok hpre hsel hst1 hns2 hP1 hv3 hnp hnp2 hp1 hv1 h13 h16 hT11 hr11 hy0 hy1 htl hcell hnb2 hpg1 hpg2 hpcell hnbt hpgt hNC hPC hQC hBE0 hRE0 hfin hvs
        have her1 := Lib.hid her0
        clear her
        subst her0
        go_upto_region 31 with (fail)
        rw [← hW11]
        clear hW11 k0 k1 kf0 kf1
        go_wp2_with fail
        go_loopw [114] (fun i wr => ∃ (j : Nat) (vE : Value), j ≤ k ∧ i = .int .i64 (j : Int) ∧ Hid (ExAt W11 tb v1 (exL E sf.1 ns) j vE wr)) (fun i _ => k - (intOf i).toNat)
        case atStart => exact ⟨0, _, Nat.zero_le _, rfl, HJ0.out⟩
        case round =>
         obtain ⟨j, vE, hj, rfl, HJ⟩ := hrel
         obtain ⟨Z0, hZ0⟩ : ∃ Z0, Z0 = wr := ⟨_, rfl⟩
         subst hZ0
         by_cases hjk : j < k
         ·obtain ⟨hjn, hxc⟩ := HNC.out Z0 HJ.out.tch j hjk
          have hpcj := HPC.out Z0 HJ.out.tch j hjk
          obtain ⟨b1, o1, rfl, hb1, hqc⟩ := HQC.out Z0 HJ.out.tch j hjk
          have htk := exL_take (E := E) (l := sf.1) hjn HNS2.out
          obtain ⟨ua, hua⟩ : ∃ ua, ua = L.up (L.fin ((E.sizes sf.1).take j) 0) := ⟨_, rfl⟩
          obtain ⟨x, hxx⟩ : ∃ x, x = ns[j] := ⟨_, rfl⟩
          rw [← hua] at hqc htk
          rw [← hxx] at hxc htk
          have hrw := HJ.out.row
          have y6 : Z0.cell? ⟨tb, 6, none⟩ = some vE := by
           rw [cell_of_row Z0 tb 6 _ _ _ hrw, ← Array.getElem?_toList]
           exact List.getElem?_set_self (by omega)
          have y3 : Z0.cell? ⟨tb, 3, none⟩ = some (.slice (some ⟨b1, o1, none⟩) np c1) := by
           rw [cell_of_row Z0 tb 3 _ _ _ hrw, ← Array.getElem?_toList]
           show (v1.set 6 vE)[3]? = _
           rw [List.getElem?_set_ne (by decide)]
           exact H13.out
          have hvl := fun b hb => HJ.out.own.lt (k := b) hb
          have hlo := HJ.out.low
          have hpt : pg < tb := by
           have h1 := (HK.out.pos.lt (show (Value.slice (some ⟨pg, po, none⟩) k pc).ownBlock = some pg from by simp [Value.ownBlock])).2
           have h2 := HTBL.out
           omega
          have n1 : ¬ vE.ownBlock = some tb := fun e => by have := (hvl _ e).1; omega
          have n2 : ¬ vE.ownBlock = some pg := fun e => by have := (hvl _ e).1; omega
          have n3 : ¬ vE.ownBlock = some b1 := fun e => by have := (hvl _ e).1; omega
          obtain ⟨Φ, hΦ⟩ : ∃ Φ : World → Prop, ∀ W, Φ W ↔ Tch (fun i => vE.ownBlock = some i) Z0 W := ⟨_, fun _ => Iff.rfl⟩
          have h0 : Φ Z0.drew := (hΦ _).2 (((Ext.refl Z0).drew).tch _)
          have fx0 : ∀ z : Lat Φ, z.w'.cell? ⟨tb, 6, none⟩ = _ := fun z => ((hΦ _).1 z.h).keepc y6 n1
          have fx1 : ∀ z : Lat Φ, z.w'.cell? ⟨tb, 3, none⟩ = _ := fun z => ((hΦ _).1 z.h).keepc y3 n1
          have fx2 : ∀ z : Lat Φ, z.w'.cell? ⟨pg, po + j, none⟩ = _ := fun z => ((hΦ _).1 z.h).keepc hpcj n2
          have fx3 : ∀ z : Lat Φ, z.w'.cell? ⟨b1, o1 + j * 5 + 3, none⟩ = _ := fun z => ((hΦ _).1 z.h).keepc hqc n3
          have hne := Lat.some h0
          have hjnp : j < np := by omega
          have HTK := Lib.hid htk
          have hown3 := HJ.out.own
          clear htk hua hxx hrw hjn hvl hqc y3 y6 hpcj hpt n1 n2 n3
          go_upto_region 34 with (fail)
          refine wp_region_tail 16 [13, 14] Φ h0 (by kernel_rfl) (by kernel_rfl) (by kernel_rfl) ?_
          iterate 13 (refine lex_pure rfl rfl rfl ?_; intro K hK; go_big_quiet_op; go_big_quiet_on)
          refine lex_eff rfl ?_
          go_wp2_with fail
          obtain ⟨el, hel⟩ : ∃ el : L.Expd, el = (x, (ua : Int)) := ⟨_, rfl⟩
          obtain ⟨Z4, hZ4⟩ : ∃ Z4, Z4 = (Z0.alloc (.cells #[.string x, .int .i64 (ua : Int)] 74)).drew := ⟨_, rfl⟩
          have E4 : Ext Z0 Z4 := by rw [hZ4]; exact ((Ext.refl Z0).alloc _).drew
          have hs4 : ∀ j v, (expC el)[j]? = some v → Z4.cell? ⟨Z0.heap.size, j, none⟩ = some v := by rw [hZ4, hel]; exact new_cells Z0 (expC (x, (ua : Int))) 74 _ rfl
          rw [← hZ4]
          have hP4 : Φ Z4 := (hΦ _).2 (E4.tch _)
          have hown4 := hown3.ext E4
          have hbase4 : W11.heap.size ≤ Z4.heap.size := Nat.le_trans HJ.out.tch.size E4.size
          have HEL2 := Lib.hid hel
          obtain ⟨i9, hi9, hz9, hz91, hz92⟩ := info_parts info74
          clear hZ4 hel
          refine ⟨⟨⟨Z4, hP4⟩, rfl⟩, ?_⟩
          refine lex_eff rfl ?_
          go_wp2_with (at_builtin; refine wpList_append_one rfl (.tmp 120) (.tmp 132) 32 rfl Tryz.underlying32 hi9 hz9 hz91 hz92 rfl (by decide) (by decide) rfl hown4 el rfl rfl hs4 (expC_one el) (by omega) hbase4 ?_; intro v5 z5 hown5 hg5 hv5)
          obtain ⟨A6, c6, rfl⟩ := hown5.form
          have hg5' : Z4.grownBy z5 vE.ownBlock := hg5
          have hT5 : Tch (fun i => vE.ownBlock = some i) Z0 z5 := (E4.tch _).trans ⟨hg5'.os, hg5'.tape, hg5'.output, hg5'.size, fun i hi hx => hg5'.block i hi fun e => hx e.symm⟩
          refine ⟨⟨⟨z5, (hΦ _).2 hT5⟩, rfl⟩, ?_⟩
          refine lex_pure rfl rfl rfl ?_; intro K hK; go_big_quiet_op; go_big_quiet_on
          refine lex_nil ?_
          show wpList _ _ _ (_ :: []) _ _
          have hown6 : OwnL expC 74 2 z5 W11.heap.size (.slice A6 (j + 1) c6) (j + 1) ((exL E sf.1 ns).take (j + 1)) := by
           rw [HTK.out, ← HEL2.out]
           exact hown5
          obtain ⟨hJ6, x6, xf⟩ := HJ.out.pushed h18 hown6 hT5
          have HJ6 := Lib.hid hJ6
          clear fx0 fx1 fx2 fx3 hne h0 hT5 hP4 hs4 hown3 hown4 hown5 hown6 hg5 hg5' hv5 E4 hJ6 hbase4
          go_wp2_with fail
          go_roundw
          case rel => exact ⟨j + 1, _, by omega, by go_num, HJ6.out⟩
          case measure => simp [intOf]; omega
         ·obtain rfl : j = k := by omega
          have hxl : (exL E sf.1 ns).length = j := by rw [exL_len HNS2.out]; exact HNN.out
          have htk : (exL E sf.1 ns).take j = exL E sf.1 ns := List.take_of_length_le (by omega)
          have hown := HJ.out.own
          rw [htk] at hown
          obtain ⟨A6, c6, rfl, s6⟩ := OwnL.slice hown (fun B => exp_is HEV.out HOKF.out HNS2.out HXS.out)
          obtain ⟨v2, hv2⟩ : ∃ v2, v2 = v1.set 6 (.slice A6 j c6) := ⟨_, rfl⟩
          have hrw := HJ.out.row
          rw [← hv2] at hrw
          have hTT := HT11.out.trans HJ.out.tch
          have hfr : ∀ b, Fresh V0 w9 b → b < W10.heap.size ∧ b ≠ tb := fun b hb => by
           have h1 := hb.2
           have h2 := HTB9.out
           have h3 := HY.out.size
           exact ⟨by omega, by omega⟩
          have hbv2 : BinV Z0 (fun b => Fresh V0 w9 b ∨ (W11.heap.size ≤ b ∧ b < Z0.heap.size)) (E.bin sf.1 2 (-1) (exL E sf.1 ns)) v2 := by
           rw [hv2, HV1.out, ← hxl]
           rw [hxl]
           have h1 := HBE0.out.share (W := Z0) (B' := fun b => Fresh V0 w9 b ∨ (W11.heap.size ≤ b ∧ b < Z0.heap.size)) (fun _ h => .inl h) (fun b hb => hTT.block b (hfr b hb).1 (hfr b hb).2) (s6.keep (w' := Z0) (B' := fun b => Fresh V0 w9 b ∨ (W11.heap.size ≤ b ∧ b < Z0.heap.size)) (fun b hb => .inr ⟨hb.2.1, hb.2.2⟩) fun _ _ => rfl)
           rw [hxl] at h1
           exact h1
          have hrv2 : RdV Z0 (Fresh V0 w9) (E.reading sf.2) rs := HRE0.out.keep (fun _ h => h) fun b hb => hTT.block b (hfr b hb).1 (hfr b hb).2
          have hlow : w.heap.size + 2 ≤ V0.heap.size := by
           have h1 := HK.out.ext.size
           have h2 := HS1.out
           omega
          have htbl : V0.heap.size ≤ tb := HTBL.out
          have hz5 : Z0.heap[tb + 1]? = some (.cells (Array.mk rs) 38 (0, 0)) := (hTT.block _ (Array.getElem?_eq_some_iff.1 H6.out).1 (by omega)).trans H6.out
          have hz1 := (HXW.out.block _ (Array.getElem?_eq_some_iff.1 HR1.out).1).trans HR1.out
          have hz2 := (HXW.out.block _ (Array.getElem?_eq_some_iff.1 HR2.out).1).trans HR2.out
          have hA8 := (hTT.block _ (Array.getElem?_eq_some_iff.1 hz1).1 (by omega)).trans hz1
          have hB8 := (hTT.block _ (Array.getElem?_eq_some_iff.1 hz2).1 (by omega)).trans hz2
          have hxe : Ext w Z0 := by
           have h1 : Tch (fun _ => False) w W10 := (HX1.out.trans HXW.out).tch _
           exact (h1.trans' hTT fun i hi e => absurd hi (by omega)).ext fun _ _ h => h
          obtain ⟨Φ, hΦ⟩ : ∃ Φ : World → Prop, ∀ W, Φ W ↔ Tch (fun i => i = w.heap.size ∨ i = w.heap.size + 1) Z0 W := ⟨_, fun _ => Iff.rfl⟩
          have h0 : Φ Z0.drew := (hΦ _).2 (((Ext.refl Z0).drew).tch _)
          have hfx : ∀ w', (∃ x : Lat Φ, w' = x.w') → w'.heap[tb]? = some (.cells (Array.mk v2) 35 (0, 0)) := by
           rintro w' ⟨z, rfl⟩
           exact (((hΦ _).1 z.h).block _ (Array.getElem?_eq_some_iff.1 hrw).1 (by omega)).trans hrw
          have hfy : ∀ w', (∃ x : Lat Φ, w' = x.w') → w'.heap[tb + 1]? = some (.cells (Array.mk rs) 38 (0, 0)) := by
           rintro w' ⟨z, rfl⟩
           exact (((hΦ _).1 z.h).block _ (Array.getElem?_eq_some_iff.1 hz5).1 (by omega)).trans hz5
          have hne := Lat.some h0
          have HFX := Lib.hid hfx
          have HFY := Lib.hid hfy
          have HPH := Lib.hid hΦ
          have hrow9 := row35 hbv2
          have hone9 := hbv2.one
          have hlen9 := hbv2.len
          have HBV2 := Lib.hid hbv2
          have HRV2 := Lib.hid hrv2
          have HXE := Lib.hid hxe
          have HFR := Lib.hid hfr
          have HSZ : Hid (tb < Z0.heap.size ∧ V0.heap.size ≤ w9.heap.size ∧ w9.heap.size ≤ Z0.heap.size ∧ V0.heap.size ≤ W11.heap.size) := by
           have h1 := (Array.getElem?_eq_some_iff.1 hrw).1
           have h2 := HTS.out
           have h3 := HTB9.out
           have h4 := HT11.out.size
           have h5 := HY.out.size
           exact ⟨h1, h2, by omega, by omega⟩
          clear hfx hfy hΦ hbv2 hrv2 hxe hfr hz1 hz2 hz5 hrw hTT s6 hown htk hxl hv2
          go_upto_region 36 with (fail)
          refine wp_region_tail 3 [2] Φ h0 (by kernel_rfl) (by kernel_rfl) (by kernel_rfl) ?_
          simp only [List.take_succ_cons, List.take_zero, List.drop_succ_cons, List.drop_zero]
          refine lex_pure rfl rfl rfl ?_
          intro K hK
          refine quiet_load_row 35 _ rfl tb rfl 35 (Array.mk v2) (0, 0) _ HFX.out Tryz.underlying35 rfl hrow9 ?_
          go_simp
          go_big_quiet_on
          refine lex_pure rfl rfl rfl ?_
          intro K hK
          refine quiet_load_row 38 _ rfl (tb + 1) rfl 38 (Array.mk rs) (0, 0) _ HFY.out Tryz.underlying38 rfl hrow2 ?_
          go_simp
          go_big_quiet_on
          refine lex_eff rfl ?_
          go_wp2_with (refine wpList_store_row rfl 35 (.tmp 2) (.tmp 136) rfl w.heap.size (Array.mk v2) rfl rfl 35 _ hA8 hrow9 (show 8 = v2.length from hlen9.symm) hone9 ?_)
          obtain ⟨s1, s2, s3, s4, s5⟩ := two_stores w Z0.drew v2 rs (HXE.out.drew) hA8 hB8
          have hT6 : Tch (fun i => i = w.heap.size ∨ i = w.heap.size + 1) Z0 (Z0.drew.setRow w.heap.size (Array.mk v2)) := (((Ext.refl Z0).drew).tch _).trans ((tch_setRow _ _ _).mono fun _ _ h => .inl h)
          refine ⟨⟨⟨_, (HPH.out _).2 hT6⟩, rfl⟩, ?_⟩
          refine lex_nil ?_
          show wpList _ _ _ (_ :: _ :: []) _ _
          go_wp2_with (refine wpList_store_row rfl 38 (.tmp 3) (.tmp 137) rfl (w.heap.size + 1) (Array.mk rs) rfl rfl 38 _ s1 hrow2 (show 2 = rs.length from hlen2'.symm) hone2 ?_)
          refine ret_bre rfl rfl rfl rfl s2 s3 hlen9 hlen2' rfl ?_
          rw [HRC.out]
          have hdr : Z0.drew.heap.size = Z0.heap.size := rfl
          obtain ⟨z1, z2, z3, z4⟩ := HSZ.out
          refine ⟨s4, _, _, rfl, ?_, ?_⟩
          ·refine HBV2.out.keep (fun i hi => ?_) fun i hi => ?_
           ·have h3 := s5.size
            rcases hi with hi | hi
            ·have h1 := hi.1
             have h2 := hi.2
             exact ⟨by omega, by omega⟩
            ·exact ⟨by omega, by omega⟩
           ·rcases hi with hi | hi
            ·have h1 := hi.1
             have h2 := hi.2
             exact (s5.block i (by omega) (by omega)).trans rfl
            ·exact (s5.block i (by omega) (by omega)).trans rfl
          ·refine HRV2.out.keep (fun i hi => ?_) fun i hi => ?_
           ·have h1 := hi.1
            have h2 := hi.2
            have h3 := s5.size
            exact ⟨by omega, by omega⟩
           ·have h1 := hi.1
            have h2 := hi.2
            exact (s5.block i (by omega) (by omega)).trans rfl
end Go.Proofs.YtfbhchpbflaphaaGreatDoor
