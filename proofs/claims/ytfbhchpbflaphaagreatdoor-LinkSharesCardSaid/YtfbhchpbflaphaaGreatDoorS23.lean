/- The texts Fx Ja Jb Jc Sz Xg Xl of the seat, joined. -/
import Derived.Test.YtfbhchpbflaphaaGreatDoorS22
import Derived.Laws.StructEq
import Derived.SizedLaws
import Derived.Handed
import Derived.HandedShaped
import Derived.Lay
namespace Go.Proofs.YtfbhchpbflaphaaGreatDoor
open Go.RowKit Go.Maps Go.ChangeMaps Go.Sort
def fewL (l : L.Libr) : Prop := l.1.size <= 300 /\ (L.exps l).length <= 200 /\ ∀ y ∈ L.exps l, y.1.size <= 100
def FewL (libs : List L.Libr) : Prop := libs.length <= 6 /\ ∀ l ∈ libs, fewL l
def libsTo (l : List L.Libr) (k : Nat) : Prop := ∀ i (h : i < l.length), i < k -> fewL l[i]
theorem libsTo_succ {l : List L.Libr} {k : Nat} (h : libsTo l k) (hk : k < l.length) (h1 : fewL l[k]) : libsTo l (k + 1) := by
 intro i hi hik
 by_cases e : i = k
 ·subst e; exact h1
 ·exact h i hi (by omega)
def expsTo (l : List L.Expd) (k : Nat) : Prop := ∀ i (h : i < l.length), i < k -> l[i].1.size <= 100
theorem expsTo_succ {l : List L.Expd} {k : Nat} (h : expsTo l k) (hk : k < l.length) (h1 : l[k].1.size <= 100) : expsTo l (k + 1) := by
 intro i hi hik
 by_cases e : i = k
 ·subst e; exact h1
 ·exact h i hi (by omega)
set_option maxRecDepth 8000 in
set_option maxHeartbeats 4000000 in
theorem FewLibs_any (l : List L.Libr) (A : Option Addr) (c n : Nat) (w : World) (hn : n = l.length) (hA : SliceAt librR w (Old w) A c l) :
 Calls Tryz.prog 42 #[.slice A n c] w (RetB w (FewL l)) := by
 have hn2 : n <= 9223372036854775807 := by have h1 := hA.1; have h2 := hA.2.1; omega
 have hF : libsTo l l.length -> l.length <= 6 -> FewL l := fun h1 h2 => ⟨h2, fun m hm => by obtain ⟨i, hi, rfl⟩ := List.getElem_of_mem hm; exact h1 i hi hi⟩
 have HF := Lib.hid hF
 obtain ⟨P, hP⟩ : ∃ P, P = FewL l := ⟨_, rfl⟩
 rw [<- hP] at HF ⊢
 have HN := Lib.hid hn
 have HA := Lib.hid hA
 clear hn hA hP hF
 go_enter Tryz.func42, Tryz.ntmps42
 go_wp2_with fail
 go_loopw [9] (fun i wr => ∃ k : Nat, k <= n /\ i = .int .i64 (k : Int) /\ Hid (libsTo l k /\ Ext w wr)) (fun i _ => n - (intOf i).toNat)
 case atStart => exact ⟨0, Nat.zero_le _, rfl, fun _ _ h => absurd h (Nat.not_lt_zero _), Ext.refl _⟩
 case round =>
  obtain ⟨k, hk, rfl, HK⟩ := hrel
  obtain ⟨W0, hW0⟩ : ∃ W0, W0 = wr := ⟨_, rfl⟩
  subst hW0
  by_cases hlt : k < n
  ·have hkl : k < l.length := by rw [<- HN.out]; exact hlt
   obtain ⟨b, off, kd, en, im, A1, n1, c1, A2, n2, c2, A3, n3, c3, A4, c4, A5, n5, c5, rfl, hbo, hs, hkd, hEX, m0, m1, m2, m3, m4, m5, m6, m7, m8⟩ := lib_cells (HA.out.ext HK.out.2) hkl
   have H9 := Lib.hid (fun h1 => libsTo_succ HK.out.1 hkl h1)
   have hfd : fewL l[k] ↔ l[k].1.size <= 300 /\ (L.exps l[k]).length <= 200 /\ ∀ y ∈ L.exps l[k], y.1.size <= 100 := Iff.rfl
   rw [hfd] at H9
   have hb4 := hEX.1
   have hb4' := hEX.2.1
   generalize l[k].1 = s at m0 H9 hs
   obtain ⟨ex, hex⟩ : ∃ ex, ex = L.exps l[k] := ⟨_, rfl⟩
   rw [<- hex] at hEX m7 H9 hb4
   obtain ⟨n4, hn4⟩ : ∃ n4, n4 = ex.length := ⟨_, rfl⟩
   rw [<- hn4] at m7 hb4
   have HN4 := Lib.hid hn4
   obtain ⟨W4, hW4⟩ : ∃ W4, W4 = W0.alloc (.cells #[.string s, .int .i64 kd, .int .i64 en, .string im, .slice A1 n1 c1, .slice A2 n2 c2, .slice A3 n3 c3, .slice A4 n4 c4, .slice A5 n5 c5] 86) := ⟨_, rfl⟩
   obtain ⟨eb, heb⟩ : ∃ eb, eb = W0.heap.size := ⟨_, rfl⟩
   have E4 : Ext W0 W4 := by rw [hW4]; exact (Ext.refl W0).alloc _
   have hb4r : W4.heap[eb]? = some (.cells #[.string s, .int .i64 kd, .int .i64 en, .string im, .slice A1 n1 c1, .slice A2 n2 c2, .slice A3 n3 c3, .slice A4 n4 c4, .slice A5 n5 c5] 86 (0, 0)) := by rw [hW4, heb]; exact heap_alloc_new W0 _
   have t0 : W4.cell? ⟨eb, 0, none⟩ = _ := cell_of_row W4 eb 0 _ _ _ hb4r
   have t7 : W4.cell? ⟨eb, 7, none⟩ = _ := cell_of_row W4 eb 7 _ _ _ hb4r
   have HEB := Lib.hid heb
   have HEX := Lib.hid (hEX.ext E4)
   have HX4 := Lib.hid (HK.out.2.trans E4)
   clear hbo hkd hEX hex hn4 heb hb4r E4 HK hkl hfd
   go_upto_region 4 with (fail)
   rw [<- hW4, <- HEB.out]
   clear hW4 m0 m1 m2 m3 m4 m5 m6 m7 m8
   by_cases h1 : 300 < s.size
   ·go_wp2_with fail
    go_ret
    exact retB_false HX4.out
   by_cases h2 : 200 < n4
   ·go_wp2_with fail
    go_ret
    exact retB_false HX4.out
   go_wp2_with fail
   clear t0 t7
   go_loopw [28] (fun i wx => ∃ e : Nat, e <= n4 /\ i = .int .i64 (e : Int) /\ Hid (expsTo ex e /\ Ext W4 wx)) (fun i _ => n4 - (intOf i).toNat)
   case atStart => exact ⟨0, Nat.zero_le _, rfl, fun _ _ h => absurd h (Nat.not_lt_zero _), Ext.refl _⟩
   case round =>
    obtain ⟨e, he, rfl, HE⟩ := hrel
    by_cases hle : e < n4
    ·have hez : e < ex.length := by rw [<- HN4.out]; exact hle
     obtain ⟨b5, off5, rfl, hb5, hs5, hw5, z0, z1⟩ := exp_get (HEX.out.ext HE.out.2) hez
     have H8 := Lib.hid (fun h1 => expsTo_succ HE.out.1 hez h1)
     generalize ex[e].1 = y at z0 H8 hs5
     generalize ex[e].2 = ya at z1 hw5
     clear hb5 hw5 hez
     by_cases h3 : 100 < y.size
     ·go_wp2_with fail
      go_ret
      exact retB_false (HX4.out.trans (HE.out.2.alloc _))
     ·have H7 := Lib.hid (H8.out (by omega))
      go_wp2_with fail
      go_roundw
      case rel => exact ⟨e + 1, by omega, by go_num, H7.out, HE.out.2.alloc _⟩
      case measure => simp [intOf]; omega
    ·obtain rfl : e = n4 := by omega
     have hall : ∀ y ∈ ex, y.1.size <= 100 := fun y hy => by
      obtain ⟨i, hi, rfl⟩ := List.getElem_of_mem hy
      exact HE.out.1 i hi (by rw [HN4.out]; exact hi)
     have H6 := Lib.hid (H9.out ⟨by omega, by have := HN4.out; omega, hall⟩)
     have HX5 := Lib.hid (HX4.out.trans HE.out.2)
     clear hall
     go_wp2_with fail
     exact ⟨⟨k + 1, by omega, by go_num, H6.out, HX5.out⟩, by simp [intOf]; omega⟩
  ·have HS := Lib.hid (show libsTo l l.length by have := HK.out.1; rwa [show k = l.length by have := HN.out; omega] at this)
   have HP := Lib.hid (fun h2 : n <= 6 => HF.out HS.out (by have := HN.out; omega))
   go_wp2_with fail
   go_ret
   exact ⟨HK.out.2, decide ((n : Int) <= 6), rfl, fun h => HP.out (by have := of_decide_eq_true h; omega)⟩
def FewC (x : ByteArray) (objs : List C.Mem) (sh : List L.Shelf) (libs : List L.Libr) : Prop := x.size <= 100 /\ (FewM objs /\ objs.length <= 8) /\ (sh.length <= 4 /\ ∀ s ∈ sh, s.1.size <= 300 /\ FewM s.2 /\ s.2.length <= 6) /\ FewL libs
theorem FewC.ok {x : ByteArray} {objs : List C.Mem} {sh : List L.Shelf} {libs : List L.Libr} (h : FewC x objs sh libs) : CaseOk objs sh libs := by
 obtain ⟨_, ⟨h1, h2⟩, ⟨h3, h4⟩, h5, h6⟩ := h
 exact {
  mems := h1.sizes
  no := by omega
  shelves := fun s hs => by
   obtain ⟨k1, k2, k3⟩ := h4 s hs
   exact ⟨⟨by omega, k2.sizes, by omega⟩, by omega⟩
  ns := by omega
  lbs := fun l hl => by
   obtain ⟨k1, k2, k3⟩ := h6 l hl
   exact ⟨⟨by omega, by omega, fun y hy => by have := k3 y hy; omega⟩, by omega⟩
  nl := by omega }
def fewS (s : L.Shelf) : Prop := s.1.size <= 300 /\ FewM s.2 /\ s.2.length <= 6
def shTo (l : List L.Shelf) (k : Nat) : Prop := ∀ i (h : i < l.length), i < k -> fewS l[i]
theorem shTo_succ {l : List L.Shelf} {k : Nat} (h : shTo l k) (hk : k < l.length) (h1 : fewS l[k]) : shTo l (k + 1) := by
 intro i hi hik
 by_cases e : i = k
 ·subst e; exact h1
 ·exact h i hi (by omega)
def BdC (objs : List C.Mem) (sh : List L.Shelf) : Prop := BdM objs /\ ∀ s ∈ sh, BdM s.2
set_option maxRecDepth 8000 in
set_option maxHeartbeats 4000000 in
theorem few_any (x : ByteArray) (objs : List C.Mem) (sh : List L.Shelf) (libs : List L.Libr) (A B D : Option Addr) (a b d n m q : Nat) (w : World) (hn : n = objs.length) (hA : SliceAt memR w (Old w) A a objs) (hm : m = sh.length) (hB : SliceAt shelfR w (Old w) B b sh) (hq : q = libs.length) (hD : SliceAt librR w (Old w) D d libs)
 (hx : x.size <= 9223372036854775807) (hbd : BdC objs sh) :
 Calls Tryz.prog 11 #[.agg #[.string x, .slice A n a, .slice B m b, .slice D q d]] w (RetB w (FewC x objs sh libs)) := by
 have hn2 : n <= 9223372036854775807 := by have h1 := hA.1; have h2 := hA.2.1; omega
 have hm2 : m <= 9223372036854775807 := by have h1 := hB.1; have h2 := hB.2.1; omega
 have HFM := Lib.hid (fun W (e : Ext w W) => FewMembers_any objs A a n W hn (hA.ext e) hbd.1)
 have HFL := Lib.hid (fun W (e : Ext w W) => FewLibs_any libs D d q W hq (hD.ext e))
 have hF : x.size <= 100 -> FewM objs -> n <= 8 -> shTo sh sh.length -> m <= 4 -> FewL libs -> FewC x objs sh libs := fun h1 h2 h3 h4 h5 h6 => ⟨h1, ⟨h2, by omega⟩, ⟨by omega, fun s hs => by obtain ⟨i, hi, rfl⟩ := List.getElem_of_mem hs; exact h4 i hi hi⟩, h6⟩
 have HF := Lib.hid hF
 have HM := Lib.hid hm
 have HB := Lib.hid hB
 have HBD := Lib.hid hbd.2
 generalize FewC x objs sh libs = P at HF ⊢
 generalize FewM objs = P1 at HF HFM
 generalize FewL libs = P2 at HF HFL
 obtain ⟨W1, hW1⟩ : ∃ W1, W1 = w.alloc (.cells #[.string x, .slice A n a, .slice B m b, .slice D q d] 26) := ⟨_, rfl⟩
 have E1 : Ext w W1 := by rw [hW1]; exact (Ext.refl w).alloc _
 have hb1 : W1.heap[w.heap.size]? = some (.cells #[.string x, .slice A n a, .slice B m b, .slice D q d] 26 (0, 0)) := by rw [hW1]; exact heap_alloc_new w _
 have c2 : W1.cell? ⟨w.heap.size, 2, none⟩ = _ := cell_of_row W1 _ 2 _ _ _ hb1
 have HW1 := Lib.hid hW1
 have HE1 := Lib.hid E1
 have HB1 := Lib.hid hb1
 clear hn hA hm hB hq hD hbd hF hW1 E1 hb1
 go_enter Tryz.func11, Tryz.ntmps11
 go_upto_region 1 with (fail)
 rw [<- HW1.out]
 go_wp2_with fail
 clear c2
 go_loopw [8] (fun i wr => ∃ k : Nat, k <= m /\ i = .int .i64 (k : Int) /\ Hid (shTo sh k /\ Ext W1 wr)) (fun i _ => m - (intOf i).toNat)
 case atStart => exact ⟨0, Nat.zero_le _, rfl, fun _ _ h => absurd h (Nat.not_lt_zero _), Ext.refl _⟩
 case round =>
  obtain ⟨k, hk, rfl, HK⟩ := hrel
  obtain ⟨W0, hW0⟩ : ∃ W0, W0 = wr := ⟨_, rfl⟩
  subst hW0
  by_cases hlt : k < m
  ·have hkl : k < sh.length := by rw [<- HM.out]; exact hlt
   obtain ⟨ub, uo, SA, sc, rfl, hbo, hps, hSA, u0, u1⟩ := shelf_get (HB.out.ext (HE1.out.trans HK.out.2)) hkl
   have H9 := Lib.hid (fun h1 => shTo_succ HK.out.1 hkl h1)
   have hfd : fewS sh[k] ↔ sh[k].1.size <= 300 /\ FewM sh[k].2 /\ sh[k].2.length <= 6 := Iff.rfl
   rw [hfd] at H9
   have hbm := HBD.out _ (List.getElem_mem hkl)
   have hsl := hSA.1
   have hsl2 := hSA.2.1
   generalize sh[k].1 = s at u0 H9 hps
   generalize sh[k].2 = ms at u1 H9 hSA hbm hsl
   obtain ⟨sm, hsm⟩ : ∃ sm, sm = ms.length := ⟨_, rfl⟩
   rw [<- hsm] at u1 H9 hsl
   obtain ⟨W4, hW4⟩ : ∃ W4, W4 = W0.alloc (.cells #[.string s, .slice SA sm sc] 83) := ⟨_, rfl⟩
   obtain ⟨eb, heb⟩ : ∃ eb, eb = W0.heap.size := ⟨_, rfl⟩
   have E4 : Ext W0 W4 := by rw [hW4]; exact (Ext.refl W0).alloc _
   have hb4 : W4.heap[eb]? = some (.cells #[.string s, .slice SA sm sc] 83 (0, 0)) := by rw [hW4, heb]; exact heap_alloc_new W0 _
   have t0 : W4.cell? ⟨eb, 0, none⟩ = _ := cell_of_row W4 eb 0 _ _ _ hb4
   have t1 : W4.cell? ⟨eb, 1, none⟩ = _ := cell_of_row W4 eb 1 _ _ _ hb4
   have HEB := Lib.hid heb
   have HFW := Lib.hid (FewMembers_any ms SA sc sm W4 hsm (hSA.ext E4) hbm)
   have HX4 := Lib.hid (HK.out.2.trans E4)
   have HT1 := Lib.hid t1
   generalize FewM ms = P3 at H9 HFW
   clear hbo hSA hbm hsm heb hb4 E4 hkl hfd
   go_upto_region 4 with (fail)
   rw [<- hW4, <- HEB.out]
   clear hW4 u0 u1
   by_cases h1 : 300 < s.size
   ·go_wp2_with fail
    go_ret
    exact retB_false (HE1.out.trans HX4.out)
   go_wp2_with fail
   refine HFW.out.mono ?_
   rintro e w5 ⟨e5, bb, rfl, hbb⟩
   have t1' := e5.keepc HT1.out
   have HX5 := Lib.hid (HX4.out.trans e5)
   clear e5 t0 t1
   cases bb with
   | false =>
    clear hbb
    go_wp2_with fail
    go_ret
    exact retB_false (HE1.out.trans HX5.out)
   | true =>
    have HBB := Lib.hid (hbb rfl)
    clear hbb
    by_cases h2 : 6 < sm
    ·go_wp2_with fail
     go_ret
     exact retB_false (HE1.out.trans HX5.out)
    ·have H8 := Lib.hid (H9.out ⟨by omega, HBB.out, by omega⟩)
     go_wp2_with fail
     go_roundw
     case rel => exact ⟨k + 1, by omega, by go_num, H8.out, HX5.out⟩
     case measure => simp [intOf]; omega
  ·have HS := Lib.hid (show shTo sh sh.length by have := HK.out.1; rwa [show k = sh.length by have := HM.out; omega] at this)
   have HX0 := Lib.hid (HE1.out.trans HK.out.2)
   have hrow := (HK.out.2.block _ (hltA HB1.out)).trans HB1.out
   have c0 : W0.cell? ⟨w.heap.size, 0, none⟩ = _ := cell_of_row W0 _ 0 _ _ _ hrow
   have c1 : W0.cell? ⟨w.heap.size, 1, none⟩ = _ := cell_of_row W0 _ 1 _ _ _ hrow
   have HROW := Lib.hid hrow
   clear hrow
   by_cases h1 : x.size <= 100
   ·go_wp2_with fail
    refine (HFM.out _ HX0.out).mono ?_
    rintro e w5 ⟨e5, bb, rfl, hbb⟩
    have hrow := (e5.block _ (hltA HROW.out)).trans HROW.out
    have c1' : w5.cell? ⟨w.heap.size, 1, none⟩ = _ := cell_of_row w5 _ 1 _ _ _ hrow
    have c2' : w5.cell? ⟨w.heap.size, 2, none⟩ = _ := cell_of_row w5 _ 2 _ _ _ hrow
    have c3' : w5.cell? ⟨w.heap.size, 3, none⟩ = _ := cell_of_row w5 _ 3 _ _ _ hrow
    have HX5 := Lib.hid (HX0.out.trans e5)
    clear e5 hrow c0 c1
    cases bb with
    | false =>
     clear hbb
     go_wp2_with fail
     go_ret
     exact retB_false HX5.out
    | true =>
     have HBB := Lib.hid (hbb rfl)
     clear hbb
     by_cases h2 : n <= 8
     ·by_cases h3 : m <= 4
      ·go_wp2_with fail
       refine (HFL.out _ HX5.out).mono ?_
       rintro e w6 ⟨e6, cc, rfl, hcc⟩
       have HX6 := Lib.hid (HX5.out.trans e6)
       clear e6
       cases cc with
       | false =>
        clear hcc
        go_wp2_with fail
        go_ret
        exact retB_false HX6.out
       | true =>
        have HR := Lib.hid (HF.out h1 HBB.out h2 HS.out h3 (hcc rfl))
        clear hcc
        go_wp2_with fail
        go_ret
        exact retB_true HX6.out HR.out
      ·go_wp2_with fail
       go_ret
       exact retB_false HX5.out
     ·go_wp2_with fail
      go_ret
      exact retB_false HX5.out
   ·go_wp2_with fail
    go_ret
    exact retB_false HX0.out
end Go.Proofs.YtfbhchpbflaphaaGreatDoor

namespace Go.Proofs.YtfbhchpbflaphaaGreatDoor
open Go.RowKit Go.Maps Go.ChangeMaps Go.Sort
def codeD : ByteArray := ⟨#[0, 0, 1, 0, 0, 0, 0, 13]⟩
def codeS (name : ByteArray) (mode : Int) (other : ByteArray) : List C.Sym := [(name, mode, 0), (other, 3, -1)]
def codeT (other : ByteArray) : List C.Sec := [(1, codeD, [(3, other)])]
def codeO (name : ByteArray) (mode : Int) (other : ByteArray) : C.Obj := (codeS name mode other, codeT other)
abbrev nMain : ByteArray := ⟨#[109, 97, 105, 110]⟩
abbrev nF : ByteArray := ⟨#[102]⟩
abbrev nG : ByteArray := ⟨#[103]⟩
abbrev nH : ByteArray := ⟨#[104]⟩
abbrev nO : ByteArray := ⟨#[111]⟩
abbrev nP : ByteArray := ⟨#[112]⟩
abbrev nX : ByteArray := ⟨#[120]⟩
abbrev nY : ByteArray := ⟨#[121]⟩
abbrev nK : ByteArray := ⟨#[107]⟩
abbrev nK2 : ByteArray := ⟨#[107, 50]⟩
abbrev nLib : ByteArray := ⟨#[108, 105, 98, 47, 97]⟩
abbrev nLX : ByteArray := ⟨#[108, 105, 98, 47, 97, 33, 120]⟩
abbrev nLY : ByteArray := ⟨#[108, 105, 98, 47, 97, 33, 121]⟩
def exM : List C.Mem := [(nO, codeO nMain 1 nF)]
def exM2 : List C.Mem := [(nO, codeO nMain 1 nF), (nP, codeO nF 2 nMain)]
def exSh : List L.Shelf := [(nLib, [(nX, codeO nG 1 nH), (nY, codeO nF 1 nMain)])]
def exM3 : List C.Mem := [(nO, codeO nK 2 nK2), (nP, codeO nK2 1 nK)]
def exI : ByteArray := ⟨#[0, 0, 1, 8, 0, 0, 0, 13, 0, 0, 1, 0, 0, 0, 0, 13]⟩
theorem ex_link1 : L.linkL okN okP nMain exM exSh [] = .ok ((1, 0, exI, [(nO, nMain, 1, 0, 8), (nLY, nF, 1, 8, 8)], [3, 11], [], [], []), ([nO, nLX, nLY], [])) := by kernel_rfl
theorem ex_link2 : L.linkL okN okP nMain exM2 exSh [] = .ok ((1, 0, exI, [(nO, nMain, 1, 0, 8), (nP, nF, 1, 8, 8)], [3, 11], [], [], []), ([nO, nP], [])) := by kernel_rfl
theorem ex_res : L.resolveL okN okP nG exM exSh [] = (nLX, false, 0) := by kernel_rfl
theorem ex_share : L.shareL okN okP exM3 = .ok ((2, -1, exI, [(nO, nK, 1, 0, 8), (nP, nK2, 1, 8, 8)], [3, 11], [], [(nK, 0), (nK2, 8)], []), ([nO, nP], [])) := by kernel_rfl
end Go.Proofs.YtfbhchpbflaphaaGreatDoor

namespace Go.Proofs.YtfbhchpbflaphaaGreatDoor
open Go.RowKit Go.Maps Go.ChangeMaps Go.Sort
theorem slice_new {α : Type} {r : Rep α} {w w' : World} {B : Nat -> Prop} {l : List α} {cs : Array Value} {T : TypeId} {g n : Nat} (hg : g = w.heap.size) (hn : n = l.length) (hn2 : n <= 9223372036854775807) (hB : B g) (hk : Ext (w.alloc (.cells cs T)) w') (h : Flat r w' B l cs.toList) : SliceAt r w' B (some ⟨g, 0, none⟩) n l := by
 subst hg hn
 refine ⟨Nat.le_refl _, hn2, fun _ => ⟨_, _, rfl, hB, h.row fun j u hj => hk.keepc ?_⟩⟩
 rw [Nat.zero_add, cell_new]
 simpa using hj
theorem run_append_full {P : Program} {w : World} (t ty e : TypeId) (i : TypeInfo) (z : Value) (size bytes : Nat) (ht : P.underlying t = some (.slice e)) (hi : P.info? e = some i) (hz : i.zero = some z) (hsize : i.size = size) (hby : i.bytes = bytes)
 (b : Addr) (n cap : Nat) (xs : List Value) (hlx : xs.length = n * size) (hxs : ∀ j u, xs[j]? = some u -> w.cell? (b.add j) = some u) (a : Addr) (m c : Nat) (news : List Value) (hl : news.length = m * size) (hnews : ∀ j u, news[j]? = some u -> w.cell? (a.add j) = some u)
 (hfull : cap < n + m) (h63 : n + m <= maxLen) (hbytes : (n + m) * bytes <= 140737488355328) :
 ∃ g cp w', (Builtin.append_ #[t, t] ty #[.slice (some b) n cap, .slice (some a) m c]).run P w = .ok (.slice (some ⟨g, 0, none⟩) (n + m) cp) w' /\ Ext w w' /\ w.heap.size <= g /\ g < w'.heap.size /\ n + m <= cp /\ cp <= maxLen /\
  ∀ j u, (xs ++ news)[j]? = some u -> w'.cell? ⟨g, j, none⟩ = some u := by
 subst hsize
 subst hby
 have hr := run_append_grow (P := P) w t ty e i z ht hi hz b n cap xs hlx hxs a m c news hl hnews hfull (by have := h63; simp only [maxLen] at this; omega) (growslice_fits (by omega) hbytes)
 refine ⟨_, _, _, hr, ⟨rfl, rfl, rfl, by simp, fun k hk => heap_alloc_old w.drew _ hk⟩, Nat.le_refl _, by simp, grownCap_ge _ _ _ _, grownCap_le_maxLen _ _ _ _ h63, fun j u hj => ?_⟩
 have h1 := cell_new w.drew (xs.toArray ++ news.toArray ++ Builtin.zeroCells z.cells (grownCap w (n + m) cap e - (n + m))) e j
 have h2 : w.drew.heap.size = w.heap.size := rfl
 rw [h2] at h1
 rw [h1, <- Array.getElem?_toList]
 simp only [Array.toList_append, List.append_assoc]
 rw [<- List.append_assoc, List.getElem?_append_left (List.getElem?_eq_some_iff.1 hj).1]
 exact hj
theorem wpList_append_full {P : Program} {w : World} {ops : Array Oper} {rest : List Oper} {o : Oper} {a : Act} {Q : Exit -> Act -> World -> Prop} (hgd : o.guard = none) (s x : Operand) (t : TypeId)
 (ho : o.op = .call { callee := .builtin .append, args := #[s, x], argTypes := #[t, t] }) {e : TypeId} {i : TypeInfo} {z : Value} {size bytes : Nat} (ht : P.underlying t = some (.slice e)) (hi : P.info? e = some i) (hz : i.zero = some z) (hsize : i.size = size) (hby : i.bytes = bytes)
 (b : Addr) (n cap : Nat) (xs : List Value) (hs : a.eval s = .slice (some b) n cap) (hlx : xs.length = n * size) (hxs : ∀ j u, xs[j]? = some u -> w.cell? (b.add j) = some u) (ad : Addr) (m c : Nat) (news : List Value) (hx : a.eval x = .slice (some ad) m c) (hl : news.length = m * size) (hnews : ∀ j u, news[j]? = some u -> w.cell? (ad.add j) = some u)
 (hfull : cap < n + m) (h63 : n + m <= maxLen) (hbytes : (n + m) * bytes <= 140737488355328)
 (h : ∀ g cp w', Ext w w' -> w.heap.size <= g -> g < w'.heap.size -> n + m <= cp -> cp <= maxLen -> (∀ j u, (xs ++ news)[j]? = some u -> w'.cell? ⟨g, j, none⟩ = some u) -> wpList P ops Q rest (a.put o.dst (.slice (some ⟨g, 0, none⟩) (n + m) cp)) w') :
 wpList P ops Q (o :: rest) a w := by
 obtain ⟨g, cp, w', hr, h1, h2, h3, h4, h5, h6⟩ := run_append_full (P := P) (w := w) t o.type e i z size bytes ht hi hz hsize hby b n cap xs hlx hxs ad m c news hl hnews hfull h63 hbytes
 refine wpList_wanted' hgd ?_
 unfold Oper.wp execOp
 simp only [ho, resolve, invoke, builtin, Sem.run_bind, Sem.run_pure, Result.andThen_ok, List.map_toArray, List.map_cons, List.map_nil, hs, hx, hr]
 exact h g cp w' h1 h2 h3 h4 h5 h6
def RetCode (w : World) (name : ByteArray) (mode : Int) (other : ByteArray) (e : Ending) (w' : World) : Prop :=
 Ext w w' /\ ∃ A B, e = .returned (.agg #[.slice A 2 2, .slice B 1 1]) /\ SliceAt symR w' (Old w') A 2 (codeS name mode other) /\ SliceAt secR w' (Old w') B 1 (codeT other)
theorem retCode_of (w : World) (o : Obj) (name : ByteArray) (mode : Int) (other : ByteArray) (hn : name.size <= 100) (ho : other.size <= 100) (hm : (Lit.int .i64 mode).wf = true) : RetCode w name mode other (.returned (.agg #[.slice (some ⟨w.heap.size + 1, 0, none⟩) 2 2, .slice (some ⟨w.heap.size + 1 + 1 + 1, 0, none⟩) 1 1]))
 ((((w.alloc o).alloc (.cells #[.string name, .int .i64 mode, .int .i64 0, .string other, .int .i64 3, .int .i64 (-1)] 60)).alloc (.cells #[.int .i64 3, .string other] 151)).alloc (.cells #[.int .i64 1, .string codeD, .slice (some ⟨w.heap.size + 1 + 1, 0, none⟩) 1 1] 67)) := by
 refine ⟨((((Ext.refl w).alloc _).alloc _).alloc _).alloc _, _, _, rfl, ?_, ?_⟩
 ·refine slice_new (w := w.alloc o) (cs := #[.string name, .int .i64 mode, .int .i64 0, .string other, .int .i64 3, .int .i64 (-1)]) (T := 60) (by simp) rfl (by decide) (show _ < _ by simp) (((Ext.refl _).alloc _).alloc _) ?_
  refine ⟨[.string name, .int .i64 mode, .int .i64 0], [.string other, .int .i64 3, .int .i64 (-1)], rfl, ⟨[.string name], [.int .i64 mode, .int .i64 0], rfl, ⟨rfl, by show name.size <= _; omega⟩, [.int .i64 mode], [.int .i64 0], rfl, ⟨rfl, hm⟩, rfl, (by decide : (Lit.int .i64 0).wf = true)⟩, ?_⟩
  exact ⟨[.string other, .int .i64 3, .int .i64 (-1)], [], rfl, ⟨[.string other], [.int .i64 3, .int .i64 (-1)], rfl, ⟨rfl, by show other.size <= _; omega⟩, [.int .i64 3], [.int .i64 (-1)], rfl, ⟨rfl, (by decide : (Lit.int .i64 3).wf = true)⟩, rfl, (by decide : (Lit.int .i64 (-1)).wf = true)⟩, rfl⟩
 ·refine slice_new (w := ((w.alloc o).alloc (.cells #[.string name, .int .i64 mode, .int .i64 0, .string other, .int .i64 3, .int .i64 (-1)] 60)).alloc (.cells #[.int .i64 3, .string other] 151)) (cs := #[.int .i64 1, .string codeD, .slice (some ⟨w.heap.size + 1 + 1, 0, none⟩) 1 1]) (T := 67) (by simp) rfl (by decide) (show _ < _ by simp) (Ext.refl _) ?_
  refine ⟨[.int .i64 1, .string codeD, .slice (some ⟨w.heap.size + 1 + 1, 0, none⟩) 1 1], [], rfl, ⟨[.int .i64 1], [.string codeD, .slice (some ⟨w.heap.size + 1 + 1, 0, none⟩) 1 1], rfl, ⟨rfl, (by decide : (Lit.int .i64 1).wf = true)⟩, [.string codeD], _, rfl, ⟨rfl, (by decide : codeD.size <= 9223372036854775807)⟩, _, _, rfl, ?_⟩, rfl⟩
  refine slice_new (w := (w.alloc o).alloc (.cells #[.string name, .int .i64 mode, .int .i64 0, .string other, .int .i64 3, .int .i64 (-1)] 60)) (cs := #[.int .i64 3, .string other]) (T := 151) (by simp) rfl (by decide) (show _ < _ by simp) ((Ext.refl _).alloc _) ?_
  exact ⟨[.int .i64 3, .string other], [], rfl, ⟨[.int .i64 3], [.string other], rfl, ⟨rfl, (by decide : (Lit.int .i64 3).wf = true)⟩, rfl, by show other.size <= _; omega⟩, rfl⟩
set_option maxRecDepth 8000 in
set_option maxHeartbeats 2000000 in
theorem code_any (name : ByteArray) (mode : Int) (other : ByteArray) (w : World) (hn : name.size <= 100) (ho : other.size <= 100) (hm : (Lit.int .i64 mode).wf = true) : Calls Tryz.prog 38 #[.string name, .int .i64 mode, .string other] w (RetCode w name mode other) := by
 go_enter Tryz.func38, Tryz.ntmps38
 go_wp2_with fail
 exact bodyPost_ret (v := .agg #[.slice (some ⟨w.heap.size + 1, 0, none⟩) 2 2, .slice (some ⟨w.heap.size + 1 + 1 + 1, 0, none⟩) 1 1]) (by simp [results, Tryz.results38, go_sem]) rfl (retCode_of w _ name mode other hn ho hm)
theorem mem_vals {w w' : World} {nm : ByteArray} {name : ByteArray} {mode : Int} {other : ByteArray} {A B : Option Addr} (h1 : SliceAt symR w (Old w) A 2 (codeS name mode other)) (h2 : SliceAt secR w (Old w) B 1 (codeT other)) (he : Ext w w') (hn : nm.size <= 100) :
 memR.is w' (Old w') (nm, codeO name mode other) [.string nm, .slice A 2 2, .slice B 1 1] :=
 ⟨[.string nm], _, rfl, ⟨rfl, by show nm.size <= _; omega⟩, [.slice A 2 2], [.slice B 1 1], rfl, ⟨A, 2, rfl, h1.ext he⟩, B, 1, rfl, h2.ext he⟩
end Go.Proofs.YtfbhchpbflaphaaGreatDoor

namespace Go.Proofs.YtfbhchpbflaphaaGreatDoor
open Go.RowKit Go.Maps Go.ChangeMaps Go.Sort
theorem ex_ok1 : CaseOk exM exSh [] := ⟨by unfold MemSizes; decide, by decide, by unfold ShelfSize MemSizes; decide, by decide, fun l hl => (by cases hl), by decide⟩
theorem ex_ok2 : CaseOk exM2 exSh [] := ⟨by unfold MemSizes; decide, by decide, by unfold ShelfSize MemSizes; decide, by decide, fun l hl => (by cases hl), by decide⟩
theorem ex_ok3 : CaseOk exM3 [] [] := ⟨by unfold MemSizes; decide, by decide, by unfold ShelfSize MemSizes; decide, by decide, fun l hl => (by cases hl), by decide⟩
theorem ints_at {w : World} {B : Nat -> Prop} {A : Option Addr} {c : Nat} {l : List Int} (h : SliceAt (intR .i64) w B A c l) (hne : l ≠ []) : ∃ b off, A = some ⟨b, off, none⟩ /\ B b /\ ∀ j, j < l.length -> w.cell? ⟨b, off + j, none⟩ = some (.int .i64 (l.getD j 0)) := by
 obtain ⟨b, off, rfl, hb, hr⟩ := h.2.2 hne
 refine ⟨b, off, rfl, hb, fun j hj => ?_⟩
 obtain ⟨us, ⟨rfl, _⟩, hc⟩ := hr j hj
 have := hc 0 _ rfl
 rw [show off + (j * (intR .i64).size + 0) = off + j by show off + (j * 1 + 0) = off + j; omega] at this
 rw [this, List.getD_eq_getElem?_getD, List.getElem?_eq_getElem hj]
 rfl
theorem strs_at {w : World} {B : Nat -> Prop} {A : Option Addr} {c : Nat} {l : List ByteArray} (h : SliceAt strR w B A c l) (hne : l ≠ []) : ∃ b off, A = some ⟨b, off, none⟩ /\ B b /\ ∀ j, j < l.length -> w.cell? ⟨b, off + j, none⟩ = some (.string (l.getD j ByteArray.empty)) := by
 obtain ⟨b, off, rfl, hb, hr⟩ := h.2.2 hne
 refine ⟨b, off, rfl, hb, fun j hj => ?_⟩
 obtain ⟨us, ⟨rfl, _⟩, hc⟩ := hr j hj
 have := hc 0 _ rfl
 rw [show off + (j * strR.size + 0) = off + j by show off + (j * 1 + 0) = off + j; omega] at this
 rw [this, List.getD_eq_getElem?_getD, List.getElem?_eq_getElem hj]
 rfl
theorem plcs_at {w : World} {B : Nat -> Prop} {A : Option Addr} {c : Nat} {l : List L.Plc} (h : SliceAt plcR w B A c l) (hne : l ≠ []) : ∃ b off, A = some ⟨b, off, none⟩ /\ B b /\ ∀ k (_ : k < l.length), w.cell? ⟨b, off + k * 5, none⟩ = some (.string l[k].1) /\ w.cell? ⟨b, off + k * 5 + 3, none⟩ = some (.int .i64 l[k].2.2.2.1) := by
 obtain ⟨b, off, rfl, hb, hr⟩ := h.2.2 hne
 refine ⟨b, off, rfl, hb, fun k hk => ?_⟩
 obtain ⟨us, ⟨x1, y1, rfl, ⟨rfl, _⟩, x2, y2, rfl, ⟨rfl, _⟩, x3, y3, rfl, ⟨rfl, _⟩, x4, y4, rfl, ⟨rfl, _⟩, h5⟩, hc⟩ := hr k hk
 exact ⟨hc 0 _ rfl, hc 3 _ rfl⟩
theorem two_put (w : World) (vs rs : List Value) : ∃ W, W = (((w.alloc (.cells zrow35 35)).alloc (.cells zrow38 38)).setRow w.heap.size (Array.mk vs)).setRow (w.heap.size + 1) (Array.mk rs) /\ Ext w W /\ W.heap[w.heap.size]? = some (.cells (Array.mk vs) 35 (0, 0)) /\ W.heap[w.heap.size + 1]? = some (.cells (Array.mk rs) 38 (0, 0)) /\
 ((w.alloc (.cells zrow35 35)).alloc (.cells zrow38 38)).heap[w.heap.size]? = some (.cells (Array.mk zero35) 35 (0, 0)) /\ (((w.alloc (.cells zrow35 35)).alloc (.cells zrow38 38)).setRow w.heap.size (Array.mk vs)).heap[w.heap.size + 1]? = some (.cells (Array.mk zero38) 38 (0, 0)) := by
 obtain ⟨x10, n1, n2, _⟩ := two_cells w
 obtain ⟨n4, n5, n6, y10, _⟩ := two_stores w _ vs rs x10 n1 n2
 exact ⟨_, rfl, y10, n5, n6, n1, n4⟩
structure Put (b : L.Bin) (r : L.Rd) (g : Nat) (W : World) : Prop where
 bin : ∃ vs, BinV W (Old W) b vs /\ W.heap[g]? = some (.cells (Array.mk vs) 35 (0, 0))
 rd : ∃ rs, RdV W (Old W) r rs /\ W.heap[g + 1]? = some (.cells (Array.mk rs) 38 (0, 0))
theorem Put.ext {b : L.Bin} {r : L.Rd} {g : Nat} {W W' : World} (h : Put b r g W) (he : Ext W W') : Put b r g W' := by
 obtain ⟨⟨vs, h1, h2⟩, rs, h3, h4⟩ := h
 exact ⟨⟨vs, h1.keep (fun k hk => Nat.lt_of_lt_of_le hk he.size) fun k hk => he.block k hk, (he.block _ (hltA h2)).trans h2⟩, rs, h3.keep (fun k hk => Nat.lt_of_lt_of_le hk he.size) fun k hk => he.block k hk, (he.block _ (hltA h4)).trans h4⟩
theorem put_of {w0 w W : World} {b : L.Bin} {r : L.Rd} {vs rs : List Value} (h1 : BinV w (Fresh w0 w) b vs) (h2 : RdV w (Fresh w0 w) r rs) (he : Ext w W) (h3 : W.heap[w.heap.size]? = some (.cells (Array.mk vs) 35 (0, 0))) (h4 : W.heap[w.heap.size + 1]? = some (.cells (Array.mk rs) 38 (0, 0))) : Put b r w.heap.size W :=
 ⟨⟨vs, h1.keep (fun _ hk => Nat.lt_of_lt_of_le hk.2 he.size) fun k hk => he.block k hk.2, h3⟩, rs, h2.keep (fun k hk => Nat.lt_of_lt_of_le hk.2 he.size) fun k hk => he.block k hk.2, h4⟩
attribute [local irreducible] wpLex wpT
set_option maxRecDepth 8000 in
set_option maxHeartbeats 8000000 in
theorem awake_any (w : World) (hg : Gl w) : Calls Tryz.prog 10 #[] w (Al (.bool true) w) := by
 have HG := Lib.hid hg
 clear hg
 go_enter Tryz.func10, Tryz.ntmps10
 go_wp2_with fail
 refine (code_any nMain 1 nF _ (by decide) (by decide) (by decide)).mono ?_
 rintro e w1 ⟨e1, A1, B1, rfl, s1, t1⟩
 obtain ⟨W2, hW2⟩ : ∃ W2, W2 = w1.alloc (.cells #[.string nO, .slice A1 2 2, .slice B1 1 1] 69) := ⟨_, rfl⟩
 obtain ⟨ob, hob⟩ : ∃ ob, ob = w1.heap.size := ⟨_, rfl⟩
 have E2 : Ext w1 W2 := by rw [hW2]; exact (Ext.refl w1).alloc _
 have hM1 : SliceAt memR W2 (Old W2) (some ⟨ob, 0, none⟩) 1 exM := by
  have hk : Ext (w1.alloc (.cells #[.string nO, .slice A1 2 2, .slice B1 1 1] 69)) W2 := by rw [hW2]; exact Ext.refl _
  refine slice_new (w := w1) (cs := #[.string nO, .slice A1 2 2, .slice B1 1 1]) (T := 69) hob rfl (by decide) (show _ < _ by rw [hW2, hob]; simp) hk ?_
  exact ⟨_, [], rfl, mem_vals s1 t1 E2 (by decide), rfl⟩
 have HX2 := Lib.hid (e1.trans E2)
 have HM1 := Lib.hid hM1
 have hu1 : ∀ j u, ([.string nO, .slice A1 2 2, .slice B1 1 1] : List Value)[j]? = some u -> W2.cell? ⟨ob, j, none⟩ = some u := by rw [hW2, hob]; exact new_cells w1 [.string nO, .slice A1 2 2, .slice B1 1 1] 69 _ rfl
 have HU1 := Lib.hid hu1
 have HOB := Lib.hid hob
 have HMV1 := Lib.hid (mem_vals (nm := nO) s1 t1 E2 (by decide))
 clear e1 E2 hM1 hu1 hob s1 t1
 go_upto_region 2 with (fail)
 rw [<- hW2, <- HOB.out]
 clear hW2
 go_wp2_with fail
 refine (code_any nG 1 nH _ (by decide) (by decide) (by decide)).mono ?_
 rintro e w3 ⟨e3, A2, B2, rfl, s2, t2⟩
 go_wp2_with fail
 refine (code_any nF 1 nMain _ (by decide) (by decide) (by decide)).mono ?_
 rintro e w4 ⟨e4, A3, B3, rfl, s3, t3⟩
 obtain ⟨W5, hW5⟩ : ∃ W5, W5 = w4.alloc (.cells #[.string nX, .slice A2 2 2, .slice B2 1 1, .string nY, .slice A3 2 2, .slice B3 1 1] 69) := ⟨_, rfl⟩
 obtain ⟨mb, hmb⟩ : ∃ mb, mb = w4.heap.size := ⟨_, rfl⟩
 obtain ⟨W6, hW6⟩ : ∃ W6, W6 = W5.alloc (.cells #[.string nLib, .slice (some ⟨mb, 0, none⟩) 2 2] 83) := ⟨_, rfl⟩
 obtain ⟨sb, hsb⟩ : ∃ sb, sb = mb + 1 := ⟨_, rfl⟩
 have hs5 : W5.heap.size = mb + 1 := by rw [hW5, hmb]; simp
 have E5 : Ext w4 W5 := by rw [hW5]; exact (Ext.refl w4).alloc _
 have E6 : Ext W5 W6 := by rw [hW6]; exact (Ext.refl W5).alloc _
 have hMs : SliceAt memR W6 (Old W6) (some ⟨mb, 0, none⟩) 2 [(nX, codeO nG 1 nH), (nY, codeO nF 1 nMain)] := by
  have hk : Ext (w4.alloc (.cells #[.string nX, .slice A2 2 2, .slice B2 1 1, .string nY, .slice A3 2 2, .slice B3 1 1] 69)) W6 := by rw [<- hW5]; exact E6
  refine slice_new (w := w4) (cs := #[.string nX, .slice A2 2 2, .slice B2 1 1, .string nY, .slice A3 2 2, .slice B3 1 1]) (T := 69) hmb rfl (by decide) (show _ < _ by have := E6.size; omega) hk ?_
  exact ⟨[.string nX, .slice A2 2 2, .slice B2 1 1], [.string nY, .slice A3 2 2, .slice B3 1 1], rfl, mem_vals s2 t2 (e4.trans (E5.trans E6)) (by decide), [.string nY, .slice A3 2 2, .slice B3 1 1], [], rfl, mem_vals s3 t3 (E5.trans E6) (by decide), rfl⟩
 have hSh : SliceAt shelfR W6 (Old W6) (some ⟨sb, 0, none⟩) 1 exSh := by
  have hk : Ext (W5.alloc (.cells #[.string nLib, .slice (some ⟨mb, 0, none⟩) 2 2] 83)) W6 := by rw [hW6]; exact Ext.refl _
  refine slice_new (w := W5) (cs := #[.string nLib, .slice (some ⟨mb, 0, none⟩) 2 2]) (T := 83) (by omega) rfl (by decide) (show _ < _ by rw [hsb, <- hs5, hW6]; simp) hk ?_
  exact ⟨[.string nLib, .slice (some ⟨mb, 0, none⟩) 2 2], [], rfl, ⟨[.string nLib], _, rfl, ⟨rfl, (by decide : nLib.size <= 9223372036854775807)⟩, _, _, rfl, hMs⟩, rfl⟩
 have HX6 := Lib.hid (e3.trans (e4.trans (E5.trans E6)))
 have HSH := Lib.hid hSh
 have HSB := Lib.hid hsb
 have HMB := Lib.hid hmb
 have HS5 := Lib.hid hs5
 clear e3 e4 E5 E6 s2 t2 s3 t3 hMs hSh hmb hsb hs5
 go_upto_region 3 with (fail)
 rw [<- hW5, <- HMB.out, <- hW6, <- HSB.out]
 clear hW5 hW6
 have hlk1 : linkV (L.linkL okN okP nMain exM exSh []) = ((1, 0, exI, [(nO, nMain, 1, 0, 8), (nLY, nF, 1, 8, 8)], [3, 11], [], [], []), ([nO, nLX, nLY], []), 0) := by rw [ex_link1]; rfl
 have HL1 := Lib.hid (Link_any nMain exM exSh [] (some ⟨ob, 0, none⟩) (some ⟨sb, 0, none⟩) none 1 1 0 1 1 0 W6 rfl (HM1.out.ext HX6.out) rfl HSH.out rfl (SliceAt.nil _ _ _ _ _ (by decide)) ex_ok1 (by decide) (HG.out.ext (HX2.out.trans HX6.out)))
 rw [hlk1] at HL1
 clear hlk1
 go_wp2_with fail
 refine HL1.out.mono ?_
 rintro e w7 ⟨e7, vs1, rs1, rfl, hB1, hR1⟩
 obtain ⟨W8, hW8, xW8, p1, p2, q1, q2⟩ := two_put w7 vs1 rs1
 have hr1 := row35 hB1
 have ho1 := hB1.one
 have hl1 := hB1.len
 have hr2 := row38 hR1
 have ho2 := hR1.one
 have hl2 := hR1.len
 have HP1 := Lib.hid (put_of hB1 hR1 xW8 p1 p2)
 have HXW8 := Lib.hid (e7.trans xW8)
 clear hB1 hR1 p1 p2 xW8 e7
 go_upto_region 4 with (first | (refine wpList_store_row rfl 35 (.tmp 3) (.tmp 29) rfl w7.heap.size (Array.mk vs1) rfl rfl 35 _ q1 hr1 (show 8 = vs1.length from hl1.symm) ho1 ?_) | (refine wpList_store_row rfl 38 (.tmp 4) (.tmp 30) rfl (w7.heap.size + 1) (Array.mk rs1) rfl rfl 38 _ q2 hr2 (show 2 = rs1.length from hl2.symm) ho2 ?_))
 rw [<- hW8]
 obtain ⟨ba, hba⟩ : ∃ ba, ba = w7.heap.size := ⟨_, rfl⟩
 rw [<- hba] at HP1 ⊢
 clear hW8 q1 q2 hr1 ho1 hl1 hr2 ho2 hl2 hba
 have HM8 := Lib.hid (HM1.out.ext (HX6.out.trans HXW8.out))
 have HSH8 := Lib.hid (HSH.out.ext HXW8.out)
 go_wp2_with fail
 refine (code_any nF 2 nMain _ (by decide) (by decide) (by decide)).mono ?_
 rintro e w9 ⟨e9, A4, B4, rfl, s4, t4⟩
 obtain ⟨W10, hW10⟩ : ∃ W10, W10 = w9.alloc (.cells #[.string nP, .slice A4 2 2, .slice B4 1 1] 69) := ⟨_, rfl⟩
 have E10 : Ext w9 W10 := by rw [hW10]; exact (Ext.refl w9).alloc _
 have hX10 : Ext W2 W10 := (HX6.out.trans HXW8.out).trans (e9.trans E10)
 have hu10 : ∀ j u, ([.string nO, .slice A1 2 2, .slice B1 1 1] : List Value)[j]? = some u -> W10.cell? ((⟨ob, 0, none⟩ : Addr).add j) = some u := fun j u hj => by
  rw [Addr.add_lit, Nat.zero_add]
  exact hX10.keepc (HU1.out j u hj)
 have hv10 : ∀ j u, ([.string nP, .slice A4 2 2, .slice B4 1 1] : List Value)[j]? = some u -> W10.cell? ((⟨w9.heap.size, 0, none⟩ : Addr).add j) = some u := fun j u hj => by
  rw [Addr.add_lit, Nat.zero_add, hW10]
  exact new_cells w9 [.string nP, .slice A4 2 2, .slice B4 1 1] 69 _ rfl j u hj
 have hm1 := memR.keep (B' := Old W10) HMV1.out (fun b hb => Nat.lt_of_lt_of_le hb hX10.size) fun b hb => hX10.block b hb
 have hm2 := mem_vals (nm := nP) s4 t4 E10 (by decide)
 obtain ⟨i9, hi9, hz9, hz91, hz92⟩ := info_parts info69
 have HX10 := Lib.hid (e9.trans E10)
 have HMA := Lib.hid hm1
 have HMB2 := Lib.hid hm2
 clear e9 E10 hX10 hm1 hm2 s4 t4
 have HW10 := Lib.hid hW10.symm
 clear hW10
 go_wp2_with (at_builtin; rw [HW10.out]; refine wpList_append_full rfl (.tmp 33) (.tmp 36) 22 rfl Tryz.underlying22 hi9 hz9 hz91 hz92 ⟨ob, 0, none⟩ 1 1 [.string nO, .slice A1 2 2, .slice B1 1 1] rfl rfl hu10 ⟨w9.heap.size, 0, none⟩ 1 1 [.string nP, .slice A4 2 2, .slice B4 1 1] rfl rfl hv10 (by decide) (by decide) (by decide) ?_; intro og oc w11 e11 h1 h2 h3 h4 h5)
 have hM2 : SliceAt memR w11 (Old w11) (some ⟨og, 0, none⟩) oc exM2 := by
  refine ⟨h3, by simp only [maxLen] at h4; omega, fun _ => ⟨og, 0, rfl, h2, ?_⟩⟩
  have hf : Flat memR w11 (Old w11) exM2 ([.string nO, .slice A1 2 2, .slice B1 1 1] ++ [.string nP, .slice A4 2 2, .slice B4 1 1]) :=
   ⟨_, _, rfl, memR.keep (B' := Old w11) HMA.out (fun b hb => Nat.lt_of_lt_of_le hb e11.size) (fun b hb => e11.block b hb), _, [], rfl, memR.keep (B' := Old w11) HMB2.out (fun b hb => Nat.lt_of_lt_of_le hb e11.size) (fun b hb => e11.block b hb), rfl⟩
  exact hf.row fun j u hj => by rw [Nat.zero_add]; exact h5 j u hj
 have hlk2 : linkV (L.linkL okN okP nMain exM2 exSh []) = ((1, 0, exI, [(nO, nMain, 1, 0, 8), (nP, nF, 1, 8, 8)], [3, 11], [], [], []), ([nO, nP], []), 0) := by rw [ex_link2]; rfl
 have HX11 := Lib.hid (HX10.out.trans e11)
 have HL2 := Lib.hid (Link_any nMain exM2 exSh [] (some ⟨og, 0, none⟩) (some ⟨sb, 0, none⟩) none oc 1 0 2 1 0 w11 rfl hM2 rfl (HSH8.out.ext HX11.out) rfl (SliceAt.nil _ _ _ _ _ (by decide)) ex_ok2 (by decide) (HG.out.ext (HX2.out.trans (HX6.out.trans (HXW8.out.trans HX11.out)))))
 rw [hlk2] at HL2
 clear hlk2 hM2 e11 h1 h2 h3 h4 h5 hu10 hv10
 refine HL2.out.mono ?_
 rintro e w12 ⟨e12, vs2, rs2, rfl, hB2, hR2⟩
 obtain ⟨W13, hW13, xW13, p1, p2, q1, q2⟩ := two_put w12 vs2 rs2
 have hr1 := row35 hB2
 have ho1 := hB2.one
 have hl1 := hB2.len
 have hr2 := row38 hR2
 have ho2 := hR2.one
 have hl2 := hR2.len
 have HP2 := Lib.hid (put_of hB2 hR2 xW13 p1 p2)
 have HXW13 := Lib.hid (e12.trans xW13)
 clear hB2 hR2 p1 p2 xW13 e12
 go_upto_region 5 with (first | (refine wpList_store_row rfl 35 (.tmp 6) (.tmp 40) rfl w12.heap.size (Array.mk vs2) rfl rfl 35 _ q1 hr1 (show 8 = vs2.length from hl1.symm) ho1 ?_) | (refine wpList_store_row rfl 38 (.tmp 7) (.tmp 41) rfl (w12.heap.size + 1) (Array.mk rs2) rfl rfl 38 _ q2 hr2 (show 2 = rs2.length from hl2.symm) ho2 ?_))
 rw [<- hW13]
 obtain ⟨bb, hbb⟩ : ∃ bb, bb = w12.heap.size := ⟨_, rfl⟩
 rw [<- hbb] at HP2 ⊢
 clear hW13 q1 q2 hr1 ho1 hl1 hr2 ho2 hl2 hbb
 have HX13 := Lib.hid (HX11.out.trans HXW13.out)
 have hrs : resV (L.resolveL okN okP nG exM exSh []) = .tuple #[.string nLX, .bool false, .int .i64 0] := by rw [ex_res]; rfl
 have HRS := Lib.hid (Resolve_any nG exM exSh [] (some ⟨ob, 0, none⟩) (some ⟨sb, 0, none⟩) none 1 1 0 1 1 0 W13 rfl (HM8.out.ext HX13.out) rfl (HSH8.out.ext HX13.out) rfl (SliceAt.nil _ _ _ _ _ (by decide)) ex_ok1 (by decide) (HG.out.ext (HX2.out.trans (HX6.out.trans (HXW8.out.trans HX13.out)))))
 rw [hrs] at HRS
 clear hrs
 go_wp2_with fail
 refine HRS.out.mono ?_
 rintro e w14 ⟨rfl, e14⟩
 have HX14 := Lib.hid (HX13.out.trans e14)
 have HE14 := Lib.hid e14
 clear e14
 go_wp2_with fail
 refine (code_any nK 2 nK2 _ (by decide) (by decide) (by decide)).mono ?_
 rintro e w15 ⟨e15, A5, B5, rfl, s5, t5⟩
 go_wp2_with fail
 refine (code_any nK2 1 nK _ (by decide) (by decide) (by decide)).mono ?_
 rintro e w16 ⟨e16, A6, B6, rfl, s6, t6⟩
 obtain ⟨W17, hW17⟩ : ∃ W17, W17 = w16.alloc (.cells #[.string nO, .slice A5 2 2, .slice B5 1 1, .string nP, .slice A6 2 2, .slice B6 1 1] 69) := ⟨_, rfl⟩
 have E17 : Ext w16 W17 := by rw [hW17]; exact (Ext.refl w16).alloc _
 have hM3 : SliceAt memR W17 (Old W17) (some ⟨w16.heap.size, 0, none⟩) 2 exM3 := by
  have hk : Ext (w16.alloc (.cells #[.string nO, .slice A5 2 2, .slice B5 1 1, .string nP, .slice A6 2 2, .slice B6 1 1] 69)) W17 := by rw [hW17]; exact Ext.refl _
  refine slice_new (w := w16) (cs := #[.string nO, .slice A5 2 2, .slice B5 1 1, .string nP, .slice A6 2 2, .slice B6 1 1]) (T := 69) rfl rfl (by decide) (show _ < _ by rw [hW17]; simp) hk ?_
  exact ⟨[.string nO, .slice A5 2 2, .slice B5 1 1], [.string nP, .slice A6 2 2, .slice B6 1 1], rfl, mem_vals s5 t5 (e16.trans E17) (by decide), [.string nP, .slice A6 2 2, .slice B6 1 1], [], rfl, mem_vals s6 t6 E17 (by decide), rfl⟩
 have HX17 := Lib.hid (HE14.out.trans (e15.trans (e16.trans E17)))
 have hlk3 : linkV (L.shareL okN okP exM3) = ((2, -1, exI, [(nO, nK, 1, 0, 8), (nP, nK2, 1, 8, 8)], [3, 11], [], [(nK, 0), (nK2, 8)], []), ([nO, nP], []), 0) := by rw [ex_share]; rfl
 have HL3 := Lib.hid (Share_any exM3 (some ⟨w16.heap.size, 0, none⟩) 2 2 W17 rfl hM3 ex_ok3 (HG.out.ext (HX2.out.trans (HX6.out.trans (HXW8.out.trans (HX13.out.trans HX17.out))))))
 rw [hlk3] at HL3
 have HW17 := Lib.hid hW17.symm
 clear hlk3 hM3 e15 e16 E17 s5 t5 s6 t6 hW17
 go_wp2_with fail
 rw [HW17.out]
 refine HL3.out.mono ?_
 rintro e w18 ⟨e18, vs3, rs3, rfl, hB3, hR3⟩
 obtain ⟨W19, hW19, xW19, p1, p2, q1, q2⟩ := two_put w18 vs3 rs3
 have hr1 := row35 hB3
 have ho1 := hB3.one
 have hl1 := hB3.len
 have hr2 := row38 hR3
 have ho2 := hR3.one
 have hl2 := hR3.len
 have HP3 := Lib.hid (put_of hB3 hR3 xW19 p1 p2)
 have HXW19 := Lib.hid (e18.trans xW19)
 clear hB3 hR3 p1 p2 xW19 e18
 go_upto_region 7 with (first | (refine wpList_store_row rfl 35 (.tmp 12) (.tmp 57) rfl w18.heap.size (Array.mk vs3) rfl rfl 35 _ q1 hr1 (show 8 = vs3.length from hl1.symm) ho1 ?_) | (refine wpList_store_row rfl 38 (.tmp 13) (.tmp 58) rfl (w18.heap.size + 1) (Array.mk rs3) rfl rfl 38 _ q2 hr2 (show 2 = rs3.length from hl2.symm) ho2 ?_))
 rw [<- hW19]
 obtain ⟨bc, hbc⟩ : ∃ bc, bc = w18.heap.size := ⟨_, rfl⟩
 rw [<- hbc] at HP3 ⊢
 clear hW19 q1 q2 hr1 ho1 hl1 hr2 ho2 hl2 hbc
 have HPA := Lib.hid (HP1.out.ext (HX13.out.trans (HX17.out.trans HXW19.out)))
 have HPB := Lib.hid (HP2.out.ext (HX17.out.trans HXW19.out))
 have HXZ := Lib.hid (HX2.out.trans (HX6.out.trans (HXW8.out.trans (HX13.out.trans (HX17.out.trans HXW19.out)))))
 clear HP1 HP2 HX2 HX6 HXW8 HX13 HX17 HXW19 HX10 HX11 HX14 HE14 HXW13 HM8 HSH8 HM1 HSH HU1 HMV1 HMA HMB2 HW17 HOB HSB HMB HS5 HW10 HL1 HL2 HL3 HRS HG
 obtain ⟨⟨va, hva, ra⟩, ua, hua, rua⟩ := HPA.out
 obtain ⟨⟨vb, hvb, rb⟩, ub, hub, rub⟩ := HPB.out
 obtain ⟨⟨vc, hvc, rc⟩, uc, huc, ruc⟩ := HP3.out
 obtain ⟨P1, p1, F1, f1, I1, i1, X1, x1, N1, n1, hv1, hp1, hf1, _⟩ := hva.form
 obtain ⟨P2, p2, F2, f2, I2, i2, X2, x2, N2, n2, hv2, hp2, _⟩ := hvb.form
 obtain ⟨P3, p3, F3, f3, I3, i3, X3, x3, N3, n3, hv3, _, _, _, hx3, _⟩ := hvc.form
 obtain ⟨T1, t1, L1, l1, hu1, ht1, _⟩ := hua
 obtain ⟨T2, t2, L2, l2, hu2, ht2, _⟩ := hub
 have a3 : W19.cell? ⟨ba, 3, none⟩ = some (.slice P1 2 p1) := by rw [cell_of_row W19 ba 3 _ _ _ ra, hv1]; rfl
 have a2 : W19.cell? ⟨ba, 2, none⟩ = some (.string exI) := by rw [cell_of_row W19 ba 2 _ _ _ ra, hv1]; rfl
 have a4 : W19.cell? ⟨ba, 4, none⟩ = some (.slice F1 2 f1) := by rw [cell_of_row W19 ba 4 _ _ _ ra, hv1]; rfl
 have a5 : W19.cell? ⟨ba + 1, 0, none⟩ = some (.slice T1 3 t1) := by rw [cell_of_row W19 (ba + 1) 0 _ _ _ rua, hu1]; rfl
 have b3 : W19.cell? ⟨bb, 3, none⟩ = some (.slice P2 2 p2) := by rw [cell_of_row W19 bb 3 _ _ _ rb, hv2]; rfl
 have b5 : W19.cell? ⟨bb + 1, 0, none⟩ = some (.slice T2 2 t2) := by rw [cell_of_row W19 (bb + 1) 0 _ _ _ rub, hu2]; rfl
 have c0 : W19.cell? ⟨bc, 0, none⟩ = some (.int .i64 2) := by rw [cell_of_row W19 bc 0 _ _ _ rc, hv3]; rfl
 have c1 : W19.cell? ⟨bc, 1, none⟩ = some (.int .i64 (-1)) := by rw [cell_of_row W19 bc 1 _ _ _ rc, hv3]; rfl
 have c6 : W19.cell? ⟨bc, 6, none⟩ = some (.slice X3 2 x3) := by rw [cell_of_row W19 bc 6 _ _ _ rc, hv3]; rfl
 obtain ⟨g1, o1, rfl, _, k1⟩ := plcs_at hp1 (by simp)
 obtain ⟨g2, o2, rfl, _, k2⟩ := plcs_at hp2 (by simp)
 obtain ⟨g3, o3, rfl, _, k3⟩ := ints_at hf1 (by simp)
 obtain ⟨g4, o4, rfl, _, k4⟩ := strs_at ht1 (by simp)
 obtain ⟨g5, o5, rfl, _, k5⟩ := strs_at ht2 (by simp)
 obtain ⟨g6, o6, rfl, _, _, _, y0, y1⟩ := exp_get (k := 1) hx3 (by decide)
 have d1 : W19.cell? ⟨g1, o1 + 5, none⟩ = some (.string nLY) := (k1 1 (by decide)).1
 have d2 : W19.cell? ⟨g1, o1 + 5 + 3, none⟩ = some (.int .i64 8) := (k1 1 (by decide)).2
 have d3 : W19.cell? ⟨g2, o2 + 5, none⟩ = some (.string nP) := (k2 1 (by decide)).1
 have d4 : W19.cell? ⟨g6, o6 + 2, none⟩ = some (.string nK2) := y0
 have d5 : W19.cell? ⟨g6, o6 + 2 + 1, none⟩ = some (.int .i64 8) := y1
 have HK3 := Lib.hid k3
 have HK4 := Lib.hid k4
 have HK5 := Lib.hid k5
 have HALL := Lib.hid (And.intro a2 (And.intro a3 (And.intro a4 (And.intro a5 (And.intro b3 (And.intro b5 (And.intro c0 (And.intro c1 (And.intro c6 (And.intro d1 (And.intro d2 (And.intro d3 (And.intro d4 d5)))))))))))))
 clear HPA HPB HP3 k1 k2 k3 k4 k5 y0 y1 hv1 hv2 hv3 hu1 hu2 hva hvb hvc hp1 hf1 hp2 hx3 ht1 ht2 ra rb rc rua rub ruc huc
 have hs7 : (7 : Int) <= (exI.size : Int) := by decide
 have hx7 : (exI.extract 3 7).toList = [8, 0, 0, 0] := by decide +kernel
 go_wp2_with fail
 have E20 : Ext W19 (W19.alloc (.cells #[.int .i64 3, .int .i64 11] 3)) := (Ext.refl W19).alloc _
 have hn20 : ∀ j, j < 2 -> (W19.alloc (.cells #[.int .i64 3, .int .i64 11] 3)).cell? ⟨W19.heap.size, 0 + j, none⟩ = some (.int .i64 (([3, 11] : List Int).getD j 0)) := fun j hj => by
  rw [Nat.zero_add, cell_new]
  match j, hj with
  | 0, _ => rfl
  | 1, _ => rfl
 refine (Tryz.slices_Equal_int g3 o3 2 f1 W19.heap.size 0 2 2 [3, 11] [3, 11] _ (by decide) (by decide) (by decide) (by decide) (fun j hj => E20.keepc (HK3.out j hj)) hn20).mono ?_
 rintro e w20 ⟨rfl, q20, hw20⟩
 have hX20 : Ext W19 w20 := by rw [hw20]; exact E20.drewN q20
 have HX20 := Lib.hid hX20
 clear hw20 E20 hn20 a2 a3 a4 a5 b3 b5 c0 c1 c6 d1 d2 d3 d4 d5 hs7 hx7
 obtain ⟨a2, a3, a4, a5, b3, b5, c0, c1, c6, d1, d2, d3, d4, d5⟩ := HALL.out
 have a5' := hX20.keepc a5
 clear a2 a3 a4 a5 b3 b5 c0 c1 c6 d1 d2 d3 d4 d5 hX20
 rw [show (List.take 2 [(3 : Int), 11] == List.take 2 [3, 11]) = true from by decide]
 go_wp2_with fail
 have E21 : Ext w20 (w20.alloc (.cells #[.string nO, .string nLX, .string nLY] 9)) := (Ext.refl w20).alloc _
 have hn21 : ∀ j, j < 3 -> (w20.alloc (.cells #[.string nO, .string nLX, .string nLY] 9)).cell? ⟨w20.heap.size, 0 + j, none⟩ = some (.string (([nO, nLX, nLY] : List ByteArray).getD j ByteArray.empty)) := fun j hj => by
  rw [Nat.zero_add, cell_new]
  match j, hj with
  | 0, _ => rfl
  | 1, _ => rfl
  | 2, _ => rfl
 refine (Tryz.slices_Equal_string g4 o4 3 t1 w20.heap.size 0 3 3 [nO, nLX, nLY] [nO, nLX, nLY] _ (by decide) (by decide) (by decide) (by decide) (fun j hj => (HX20.out.trans E21).keepc (HK4.out j hj)) hn21).mono ?_
 rintro e w21 ⟨rfl, q21, hw21⟩
 have hX21 : Ext W19 w21 := by rw [hw21]; exact (HX20.out.trans E21).drewN q21
 have HX21 := Lib.hid hX21
 clear hw21 E21 hn21 a5'
 obtain ⟨a2, a3, a4, a5, b3, b5, c0, c1, c6, d1, d2, d3, d4, d5⟩ := HALL.out
 have b3' := hX21.keepc b3
 have b5' := hX21.keepc b5
 have d3' := hX21.keepc d3
 clear a2 a3 a4 a5 b3 b5 c0 c1 c6 d1 d2 d3 d4 d5 hX21
 rw [decide_eq_true (rfl : List.take 3 [nO, nLX, nLY] = List.take 3 [nO, nLX, nLY])]
 go_wp2_with fail
 have E22 : Ext w21 (w21.alloc (.cells #[.string nO, .string nP] 9)) := (Ext.refl w21).alloc _
 have hn22 : ∀ j, j < 2 -> (w21.alloc (.cells #[.string nO, .string nP] 9)).cell? ⟨w21.heap.size, 0 + j, none⟩ = some (.string (([nO, nP] : List ByteArray).getD j ByteArray.empty)) := fun j hj => by
  rw [Nat.zero_add, cell_new]
  match j, hj with
  | 0, _ => rfl
  | 1, _ => rfl
 refine (Tryz.slices_Equal_string g5 o5 2 t2 w21.heap.size 0 2 2 [nO, nP] [nO, nP] _ (by decide) (by decide) (by decide) (by decide) (fun j hj => (HX21.out.trans E22).keepc (HK5.out j hj)) hn22).mono ?_
 rintro e w22 ⟨rfl, q22, hw22⟩
 have hX22 : Ext W19 w22 := by rw [hw22]; exact (HX21.out.trans E22).drewN q22
 have HX22 := Lib.hid hX22
 clear hw22 E22 hn22 b3' b5' d3'
 obtain ⟨a2, a3, a4, a5, b3, b5, c0, c1, c6, d1, d2, d3, d4, d5⟩ := HALL.out
 have c0' := hX22.keepc c0
 have c1' := hX22.keepc c1
 have c6' := hX22.keepc c6
 have d4' := hX22.keepc d4
 have d5' := hX22.keepc d5
 clear a2 a3 a4 a5 b3 b5 c0 c1 c6 d1 d2 d3 d4 d5 hX22
 rw [decide_eq_true (rfl : List.take 2 [nO, nP] = List.take 2 [nO, nP])]
 have hse : ∀ W : World, (binOp .eql 74 (.agg #[.string nK2, .int .i64 8]) (.agg #[.string nK2, .int .i64 8])).run Tryz.prog W = .ok (.bool true) W := fun _ => by kernel_rfl
 go_wp2_with fail
 go_ret
 exact ⟨rfl, HXZ.out.trans HX22.out⟩
end Go.Proofs.YtfbhchpbflaphaaGreatDoor

namespace Go.Proofs.YtfbhchpbflaphaaGreatDoor
open Go.RowKit
section
variable {H : Type} {enc : TypeId × Value -> H} {P : Program} {w : World}
theorem reach_is : reachBytes = 140737488351232 := rfl
def OpensB (enc : TypeId × Value -> H) (P : Program) (w : World) (t : TypeId) {α : Type} (r : Rep α) (bd : α -> Prop) : Prop :=
 P.cellsOf t = r.size /\ ∀ (fuel : Nat) (cs : List Value) (x : DataW H × List MemPlace), DataW.trod enc P w 0 (fun _ => true) true fuel t cs = some x -> (∀ n ∈ x.1.weights P t, n <= reachBytes) -> ∃ a, r.is w (Old w) a cs /\ bd a
theorem Opens.toB {t : TypeId} {α : Type} {r : Rep α} (h : Opens enc P w t r) : OpensB enc P w t r (fun _ => True) :=
 ⟨h.1, fun fuel cs x hx _ => by obtain ⟨a, ha⟩ := h.2 fuel cs x hx; exact ⟨a, ha, trivial⟩⟩
theorem OpensB.str {t : TypeId} (ht : P.underlying t = some .string) (hc : P.cellsOf t = 1) : OpensB enc P w t strR (fun s => s.size <= 140737488351232) :=
 ⟨hc, fun _ _ x h hz => by
  obtain ⟨s, rfl, hx, hs⟩ := DataW.trod_string ht h
  refine ⟨s, ⟨rfl, hs⟩, ?_⟩
  have hx1 : x.1 = .lit (.string s.data.toList) := by rw [hx]
  have := hz s.size (by rw [hx1]; simp [DataW.weights])
  rwa [reach_is] at this⟩
theorem weightsAll_mem {e : TypeId} : ∀ {l : List (DataW H)} {d : DataW H}, d ∈ l -> ∀ n ∈ d.weights P e, n ∈ DataW.weightsAll P e l
 | _ :: _, _, hd, n, hn => by
  unfold DataW.weightsAll
  rcases List.mem_cons.1 hd with rfl | hd
  ·exact List.mem_append_left _ hn
  ·exact List.mem_append_right _ (weightsAll_mem hd n hn)
theorem OpensB.slice {t e : TypeId} {α : Type} {r : Rep α} {bd : α -> Prop} (ht : P.underlying t = some (.slice e)) (hc : P.cellsOf t = 1) (hpos : 0 < r.size) (hby : 0 < P.bytesOf e) (he : OpensB enc P w e r bd) :
 OpensB enc P w t (sliceR r) (fun l => l.length <= 140737488351232 /\ ∀ a ∈ l, bd a) := by
 refine ⟨hc, fun fuel cs x h hz => ?_⟩
 rcases Go.Deep.open_slice ht h with ⟨rfl, _⟩ | ⟨a, len, cap, m, n, D, Pl, rfl, _, hl, hm, hmm, hx, hall⟩
 ·exact ⟨[], ⟨none, 0, rfl, SliceAt.nil _ _ _ _ _ (by omega)⟩, by simp, fun _ h => by cases h⟩
 ·simp only [ite_true] at hmm
  have hx1 : x.1 = .slice ((List.range len).map D) ((List.range (m - len)).map fun j => D (len + j)) := by rw [hx]
  rw [hx1] at hz
  unfold DataW.weights at hz
  rw [ht] at hz
  simp only at hz
  have hcap : len <= 140737488351232 := by
   have h1 := hz _ (List.mem_cons_self)
   rw [reach_is] at h1
   simp only [List.length_map, List.length_range] at h1
   have h2 : len + (m - len) <= (len + (m - len)) * P.bytesOf e := Nat.le_mul_of_pos_right _ hby
   omega
  have hex : ∀ i, i < len -> ∃ y, (∃ us, r.is w (Old w) y us /\ us.length = r.size /\ ∀ j, j < r.size -> w.cell? ((a.add (i * r.size)).add j) = us[j]?) /\ bd y := by
   intro i hi
   obtain ⟨cs', h1, h2⟩ := hall i (by omega)
   rw [he.1] at h1
   obtain ⟨y, hy, hby⟩ := he.2 _ _ _ h2 fun k hk => hz k (List.mem_cons_of_mem _ (List.mem_append_left _ (weightsAll_mem (List.mem_map.2 ⟨i, List.mem_range.2 hi, rfl⟩) k hk)))
   obtain ⟨_, g2, g3⟩ := World.cells?_some h1
   exact ⟨y, ⟨cs', hy, g2, g3⟩, hby⟩
  obtain ⟨l, hlen, hp⟩ := list_of_lt hex
  refine ⟨l, ⟨some a, cap, by rw [hlen], by omega, by unfold maxLen at hm; omega, fun hne => ?_⟩, by omega, fun y hy => ?_⟩
  ·have hlpos : 0 < l.length := List.length_pos_iff.2 hne
   obtain ⟨⟨us, _, hul, hc0⟩, _⟩ := hp 0 hlpos
   have hc00 := hc0 0 hpos
   obtain ⟨u0, hu0⟩ : ∃ u0, us[0]? = some u0 := ⟨us[0]'(by omega), by simp [hul, hpos]⟩
   rw [hu0] at hc00
   have hc00' : w.cell? a = some u0 := by simpa [Addr.add] using hc00
   have hspot := World.cell?_spot hc00'
   have hblk := World.block_lt_of_cell? w _ hc00'
   obtain ⟨b, off, sp⟩ := a
   simp only at hspot
   subst hspot
   refine ⟨b, off, rfl, hblk, fun i hi => ?_⟩
   obtain ⟨⟨us, h1, h2, h3⟩, _⟩ := hp i hi
   refine ⟨us, h1, fun j u hj => ?_⟩
   have hj' : j < r.size := by
    rcases Nat.lt_or_ge j us.length with h | h
    ·omega
    ·rw [List.getElem?_eq_none h] at hj; cases hj
   have := h3 j hj'
   rw [hj] at this
   have e : ((⟨b, off, none⟩ : Addr).add (i * r.size)).add j = ⟨b, off + (i * r.size + j), none⟩ := by
    rw [Go.Deep.add_add]
    unfold Addr.add
    split
    ·rename_i h0; rw [h0]; rfl
    ·rfl
   rwa [e] at this
  ·obtain ⟨i, hi, rfl⟩ := List.getElem_of_mem hy
   exact (hp i hi).2
def OpensFieldsB (enc : TypeId × Value -> H) (P : Program) (w : World) (fs : List Field) (o : Nat) {α : Type} (r : Rep α) (bd : α -> Prop) : Prop :=
 ∀ (fuel : Nat) (cs : List Value) (xs : List (DataW H × List MemPlace)), cs.length = o + r.size ->
  (∀ (i : Nat) (f : Field), fs[i]? = some f -> DataW.trod enc P w 0 (fun _ => true) true fuel f.type ((cs.drop f.offset).take (P.cellsOf f.type)) = xs[i]?) -> fs.length <= xs.length ->
  (∀ n ∈ DataW.weightsEach P (fs.map (·.type)) (xs.map (·.1)), n <= reachBytes) -> ∃ a, r.is w (Old w) a (cs.drop o) /\ bd a
theorem OpensFieldsB.one {f : Field} {o : Nat} {α : Type} {r : Rep α} {bd : α -> Prop} (h : OpensB enc P w f.type r bd) (ho : f.offset = o) : OpensFieldsB enc P w [f] o r bd := by
 intro fuel cs xs hl hf hx hz
 have h0 := hf 0 f rfl
 cases xs with
 | nil => simp at hx
 | cons x xs =>
  rw [List.getElem?_cons_zero, ho, h.1, List.take_of_length_le (by rw [List.length_drop]; omega)] at h0
  refine h.2 _ _ _ h0 fun n hn => hz n ?_
  simp only [List.map_cons, DataW.weightsEach]
  exact List.mem_append_left _ hn
theorem OpensFieldsB.cons {f : Field} {fs : List Field} {o : Nat} {α β : Type} {r : Rep α} {s : Rep β} {bd : α -> Prop} {be : β -> Prop} (h : OpensB enc P w f.type r bd) (ho : f.offset = o) (hs : OpensFieldsB enc P w fs (o + r.size) s be) : OpensFieldsB enc P w (f :: fs) o (prodR r s) (fun p => bd p.1 /\ be p.2) := by
 intro fuel cs xs hl hf hx hz
 have h0 := hf 0 f rfl
 cases xs with
 | nil => simp at hx
 | cons x xs =>
  rw [List.getElem?_cons_zero, ho, h.1] at h0
  simp only [List.map_cons, DataW.weightsEach] at hz
  obtain ⟨a, ha, hba⟩ := h.2 _ _ _ h0 fun n hn => hz n (List.mem_append_left _ hn)
  have hl' : cs.length = o + (r.size + s.size) := hl
  obtain ⟨b, hb, hbb⟩ := hs fuel cs xs (by omega) (fun i g hg => by have := hf (i + 1) g (by simpa using hg); simpa using this) (by simp at hx; omega) fun n hn => hz n (List.mem_append_right _ hn)
  refine ⟨(a, b), ⟨_, _, ?_, ha, hb⟩, hba, hbb⟩
  rw [<- List.drop_drop]
  exact (List.take_append_drop _ _).symm
theorem OpensB.struct {t : TypeId} {fs : Array Field} {α : Type} {r : Rep α} {bd : α -> Prop} (ht : P.underlying t = some (.struct fs)) (hc : P.cellsOf t = r.size) (h : OpensFieldsB enc P w fs.toList 0 r bd) : OpensB enc P w t r bd := by
 refine ⟨hc, fun fuel cs x hx hz => ?_⟩
 obtain ⟨xs, n, _, hx1, hl, hxl, hf⟩ := DataW.trod_struct ht hx
 have hx2 : x.1 = .agg (xs.map (·.1)) := by rw [hx1]
 rw [hx2] at hz
 unfold DataW.weights at hz
 rw [ht] at hz
 simp only at hz
 have := h n cs xs (by omega) (fun i f hi => hf i f (by simpa using hi)) (by simp [hxl]) hz
 simpa using this
theorem OpensB.arg {t : TypeId} {α : Type} {r : Rep α} {bd : α -> Prop} (h : OpensB enc P w t r bd) {v : Value} {d : DataW H} {p : List MemPlace} (ht : DataW.Trod enc P w 0 (fun _ => true) true t v d p) (hz : ∀ n ∈ d.weights P t, n <= reachBytes) (hv : r.size = 1 -> v.cells = #[v]) : ∃ a, r.val w a v /\ bd a := by
 obtain ⟨fuel, hf⟩ := ht
 obtain ⟨a, ha, hb⟩ := h.2 _ _ _ hf hz
 exact ⟨a, ⟨ha, hv⟩, hb⟩
theorem weights_at {ts : List TypeId} {ds : List (DataW H)} (h : (DataW.weightsEach P ts ds).all (· <= reachBytes) = true) (j : Nat) {t : TypeId} {d : DataW H} (ht : ts[j]? = some t) (hd : ds[j]? = some d) : ∀ n ∈ d.weights P t, n <= reachBytes := by
 intro n hn
 have := List.all_eq_true.1 h n (DataW.weights_mem_each ht hd n hn)
 simpa using this
theorem wrap_sized {a : Assume} {C : Checked} {os : Os} {f : FuncId} {fn : Func} {s : ChangeSpec} {conds : List PathCond} {apart fresh handsOn again : Bool} {X : World -> Array Value -> Prop}
 (hX : ∀ (w w' : World) (args : Array Value), w.heap = w'.heap -> X w args -> X w' args)
 (own : ownKnob C.prog.godebug = none) (started : os.Started) (noInit : C.prog.inits.idxOf? f = none) (hfn : C.prog.funcs[f]? = some fn)
 (witness : ∃ (w : World) (tape : Tape) (i : Input), w.os = os /\ (w.forCall tape i).Shaped C.prog /\ i.vars = [] /\ Input.okWide C.prog (w.forCall tape i) .any w.heap.size f i /\
  ((s.pre enc C.prog fn conds apart (w.forCall tape i).memory i.args /\ X (w.forCall tape i).memory i.args) /\ sizedMet enc C.prog fn (OpenSpec.ofChange s) apart (w.forCall tape i).memory i.args) /\ a.holds C.prog (lone (Frame.enter C.prog f i.args .normal) [] (w.forCall tape i)))
 (contract : ∀ (W : World) (base : Nat) (args : Array Value) (ds gs : List (DataW H)) (before : List MemPlace),
  (∀ (j : Nat) t v, fn.params[j]? = some t -> args[j]? = some v -> Value.okWide C.prog W .any base t v) ->
  DataW.Whole enc C.prog fn.params.toList s.vars apart W args.toList ds gs before ->
  conds.all (PathCond.test C.prog ⟨fn.params.toList, ds, s.plain.varTypes C.prog, gs⟩) = true ->
  X W args -> W.ShapedOpen C.prog ->
  (DataW.weightsEach C.prog (fn.params.toList ++ (OpenSpec.ofChange s).bare.plain.varTypes C.prog) (ds ++ gs)).all (· <= reachBytes) = true ->
  Calls C.prog f args W fun e W' => ∃ v, e = .returned v /\ s.post enc C.prog fn apart fresh handsOn again W args v W') :
 ReturnsInHanded a C os f .any (fun w args => (s.pre enc C.prog fn conds apart w args /\ X w args) /\ sizedMet enc C.prog fn (OpenSpec.ofChange s) apart w args) (s.post enc C.prog fn apart fresh handsOn again) := by
 refine returnsInHanded_of_calls own started noInit witness ?_
 intro w tape i _ hsh _ hok hpre _
 obtain ⟨_, _, _, fn', hfn', _, _, _, _, hval⟩ := hok
 have e : fn' = fn := Option.some.inj (hfn'.symm.trans hfn)
 subst e
 obtain ⟨⟨⟨ds, gs, before, hw, hc⟩, hx⟩, hsz⟩ := hpre
 have hw' := DataW.Whole.of_heap (w' := w.forCall tape i) (by rfl) hw
 refine (contract (w.forCall tape i) w.heap.size i.args ds gs before hval hw' hc (hX _ _ _ (by rfl) hx) hsh (sizedMet.weights hsz hw)).mono fun e W' ⟨v, he, hp⟩ => ?_
 subst he
 exact ChangeSpec.post_blind hp
theorem laidMetH_laidAll {P : Program} {os : Os} {laid : List (String × DataW Unit)} (args : Array Value) (hp : (laid.filter fun x => x.2.handleName?.isSome) = [])
 (hf : (World.holding P os ⟨#[], #[], []⟩).layFits P laid [] = true)
 (hi : (World.holding P os ⟨#[], #[], []⟩).layIfaces P laid (World.laidAll P os laid) = true) :
 laidMetH P laid ((World.laidAll P os laid).forCall (fun _ _ => 0) ⟨#[], args, []⟩).memory := by
 unfold laidMetH
 rw [hp]
 exact laidMet_laidAll args hf hi
end
end Go.Proofs.YtfbhchpbflaphaaGreatDoor

namespace Go.Proofs.YtfbhchpbflaphaaGreatDoor
open Go.RowKit
abbrev CaseT := ByteArray × (List C.Mem × (List L.Shelf × List L.Libr))
def caseR : Rep CaseT := prodR strR (prodR (sliceR memR) (prodR (sliceR shelfR) (sliceR librR)))
def BdCs (c : CaseT) : Prop := BdC c.2.1 c.2.2.1
theorem OpensB.mono {H : Type} {enc : TypeId × Value -> H} {P : Program} {w : World} {t : TypeId} {α : Type} {r : Rep α} {bd be : α -> Prop} (h : OpensB enc P w t r bd) (hb : ∀ a, bd a -> be a) : OpensB enc P w t r be :=
 ⟨h.1, fun fuel cs x hx hz => by obtain ⟨a, ha, hba⟩ := h.2 fuel cs x hx hz; exact ⟨a, ha, hb a hba⟩⟩
section
variable {H : Type} {enc : TypeId × Value -> H} {w : World}
theorem op9 : OpensB enc Tryz.prog w 9 strR (fun s => s.size <= 140737488351232) := OpensB.str Tryz.underlying9 (by kernel_rfl)
theorem op3 : OpensB enc Tryz.prog w 3 (intR .i64) (fun _ => True) := (Opens.int Tryz.underlying3 (by kernel_rfl)).toB
theorem op60 : OpensB enc Tryz.prog w 60 symR (fun p => p.1.size <= 140737488351232 /\ True /\ True) :=
 (OpensB.struct Tryz.underlying60 (by kernel_rfl) (.cons op9 rfl (.cons op3 rfl (.one op3 rfl)))).mono fun _ h => h
theorem op151 : OpensB enc Tryz.prog w 151 relR (fun p => True /\ p.2.size <= 140737488351232) :=
 (OpensB.struct Tryz.underlying151 (by kernel_rfl) (.cons op3 rfl (.one op9 rfl))).mono fun _ h => h
theorem op53 : OpensB enc Tryz.prog w 53 (sliceR symR) (fun l => l.length <= 140737488351232) := (OpensB.slice Tryz.underlying53 (by kernel_rfl) (by decide) (of_decide_eq_true (by kernel_rfl)) op60).mono fun _ h => h.1
theorem op65 : OpensB enc Tryz.prog w 65 (sliceR relR) (fun l => l.length <= 140737488351232) := (OpensB.slice Tryz.underlying65 (by kernel_rfl) (by decide) (of_decide_eq_true (by kernel_rfl)) op151).mono fun _ h => h.1
theorem op67 : OpensB enc Tryz.prog w 67 secR (fun p => True /\ p.2.1.size <= 140737488351232 /\ p.2.2.length <= 140737488351232) :=
 (OpensB.struct Tryz.underlying67 (by kernel_rfl) (.cons op3 rfl (.cons op9 rfl (.one op65 rfl)))).mono fun _ h => h
theorem op54 : OpensB enc Tryz.prog w 54 (sliceR secR) (fun l => l.length <= 140737488351232 /\ ∀ s ∈ l, s.2.1.size <= 140737488351232 /\ s.2.2.length <= 140737488351232) := (OpensB.slice Tryz.underlying54 (by kernel_rfl) (by decide) (of_decide_eq_true (by kernel_rfl)) op67).mono fun _ h => ⟨h.1, fun s hs => (h.2 s hs).2⟩
theorem op56 : OpensB enc Tryz.prog w 56 objR BdO :=
 (OpensB.struct Tryz.underlying56 (by kernel_rfl) (.cons op53 rfl (.one op54 rfl))).mono fun _ h => ⟨h.1, h.2.1, h.2.2⟩
theorem op69 : OpensB enc Tryz.prog w 69 memR (fun p => BdO p.2) :=
 (OpensB.struct Tryz.underlying69 (by kernel_rfl) (.cons op9 rfl (.one op56 rfl))).mono fun _ h => h.2
theorem op22 : OpensB enc Tryz.prog w 22 (sliceR memR) BdM := (OpensB.slice Tryz.underlying22 (by kernel_rfl) (by decide) (of_decide_eq_true (by kernel_rfl)) op69).mono fun _ h => h
theorem op83 : OpensB enc Tryz.prog w 83 shelfR (fun p => BdM p.2) :=
 (OpensB.struct Tryz.underlying83 (by kernel_rfl) (.cons op9 rfl (.one op22 rfl))).mono fun _ h => h.2
theorem op23 : OpensB enc Tryz.prog w 23 (sliceR shelfR) (fun l => ∀ s ∈ l, BdM s.2) := (OpensB.slice Tryz.underlying23 (by kernel_rfl) (by decide) (of_decide_eq_true (by kernel_rfl)) op83).mono fun _ h => h.2
theorem op74 : OpensB enc Tryz.prog w 74 expR (fun _ => True) := (OpensB.struct Tryz.underlying74 (by kernel_rfl) (.cons op9 rfl (.one op3 rfl))).mono fun _ _ => trivial
theorem op32 : OpensB enc Tryz.prog w 32 (sliceR expR) (fun _ => True) := (OpensB.slice Tryz.underlying32 (by kernel_rfl) (by decide) (of_decide_eq_true (by kernel_rfl)) op74).mono fun _ _ => trivial
theorem op49 : OpensB enc Tryz.prog w 49 plcR (fun _ => True) := (OpensB.struct Tryz.underlying49 (by kernel_rfl) (.cons op9 rfl (.cons op9 rfl (.cons op3 rfl (.cons op3 rfl (.one op3 rfl)))))).mono fun _ _ => trivial
theorem op29 : OpensB enc Tryz.prog w 29 (sliceR plcR) (fun _ => True) := (OpensB.slice Tryz.underlying29 (by kernel_rfl) (by decide) (of_decide_eq_true (by kernel_rfl)) op49).mono fun _ _ => trivial
theorem op30 : OpensB enc Tryz.prog w 30 (sliceR (intR .i64)) (fun _ => True) := (OpensB.slice Tryz.underlying30 (by kernel_rfl) (by decide) (of_decide_eq_true (by kernel_rfl)) op3).mono fun _ _ => trivial
theorem op128 : OpensB enc Tryz.prog w 128 impR (fun _ => True) := (OpensB.struct Tryz.underlying128 (by kernel_rfl) (.cons op9 rfl (.cons op9 rfl (.one op3 rfl)))).mono fun _ _ => trivial
theorem op31 : OpensB enc Tryz.prog w 31 (sliceR impR) (fun _ => True) := (OpensB.slice Tryz.underlying31 (by kernel_rfl) (by decide) (of_decide_eq_true (by kernel_rfl)) op128).mono fun _ _ => trivial
theorem op130 : OpensB enc Tryz.prog w 130 noteR (fun _ => True) := (OpensB.struct Tryz.underlying130 (by kernel_rfl) (.cons op9 rfl (.one op9 rfl))).mono fun _ _ => trivial
theorem op33 : OpensB enc Tryz.prog w 33 (sliceR noteR) (fun _ => True) := (OpensB.slice Tryz.underlying33 (by kernel_rfl) (by decide) (of_decide_eq_true (by kernel_rfl)) op130).mono fun _ _ => trivial
theorem op35 : OpensB enc Tryz.prog w 35 binR (fun _ => True) := (OpensB.struct Tryz.underlying35 (by kernel_rfl) (.cons op3 rfl (.cons op3 rfl (.cons op9 rfl (.cons op29 rfl (.cons op30 rfl (.cons op31 rfl (.cons op32 rfl (.one op33 rfl))))))))).mono fun _ _ => trivial
theorem op86 : OpensB enc Tryz.prog w 86 librR (fun _ => True) := (OpensB.struct Tryz.underlying86 (by kernel_rfl) (.cons op9 rfl (.one op35 rfl))).mono fun _ _ => trivial
theorem op24 : OpensB enc Tryz.prog w 24 (sliceR librR) (fun _ => True) := (OpensB.slice Tryz.underlying24 (by kernel_rfl) (by decide) (of_decide_eq_true (by kernel_rfl)) op86).mono fun _ _ => trivial
theorem op26 : OpensB enc Tryz.prog w 26 caseR BdCs :=
 (OpensB.struct Tryz.underlying26 (by kernel_rfl) (.cons op9 rfl (.cons op22 rfl (.cons op23 rfl (.one op24 rfl))))).mono fun _ h => ⟨h.2.1, h.2.2.1⟩
end
theorem gl_of {W : World} (h : W.ShapedOpen Tryz.prog) (_ : (1 : Nat) = 1) {p : Prop} (_ : p) (_ : (1 : Nat) = 1) : Gl W := Tryz.laysM219.s1_3 W h
end Go.Proofs.YtfbhchpbflaphaaGreatDoor

namespace Go.Proofs.YtfbhchpbflaphaaGreatDoor
open Go.RowKit Go.Maps Go.ChangeMaps Go.Sort
theorem case_vals {w : World} {v : Value} {c : CaseT} (hs : ∃ cs, v = .agg cs) (h : caseR.val w c v) :
 ∃ A a B b D d, v = .agg #[.string c.1, .slice A c.2.1.length a, .slice B c.2.2.1.length b, .slice D c.2.2.2.length d] /\ c.1.size <= 9223372036854775807 /\ SliceAt memR w (Old w) A a c.2.1 /\ SliceAt shelfR w (Old w) B b c.2.2.1 /\ SliceAt librR w (Old w) D d c.2.2.2 := by
 obtain ⟨cs, rfl⟩ := hs
 obtain ⟨⟨us, ys, he, ⟨rfl, hs⟩, us2, ys2, rfl, ⟨A, a, rfl, h1⟩, us3, ys3, rfl, ⟨B, b, rfl, h2⟩, D, d, rfl, h3⟩, _⟩ := h
 refine ⟨A, a, B, b, D, d, ?_, hs, h1, h2, h3⟩
 have : cs.toList = [.string c.1, .slice A c.2.1.length a, .slice B c.2.2.1.length b, .slice D c.2.2.2.length d] := he
 rw [show cs = cs.toList.toArray from Array.toArray_toList.symm, this]
attribute [local irreducible] wpLex wpT
set_option maxRecDepth 100000 in
set_option maxHeartbeats 4000000 in
theorem linkShares_walk (v0 : Value) (c : CaseT) (w : World) (hg : Gl w) (h0 : ∃ cs, v0 = .agg cs) (r0 : caseR.val w c v0) (hb : BdCs c) : Calls Tryz.prog 4 #[v0] w (Al (.bool true) w) := by
 obtain ⟨A, a, B, b, D, d, rfl, hx, hA, hB, hD⟩ := case_vals h0 r0
 obtain ⟨x, objs, sh, libs⟩ := c
 simp only at hx hA hB hD ⊢
 obtain ⟨n, hn⟩ : ∃ n, n = objs.length := ⟨_, rfl⟩
 obtain ⟨m, hm⟩ : ∃ m, m = sh.length := ⟨_, rfl⟩
 obtain ⟨q, hq⟩ : ∃ q, q = libs.length := ⟨_, rfl⟩
 rw [<- hn, <- hm, <- hq]
 have HAW := Lib.hid (fun W (h : Ext w W) => awake_any W (hg.ext h))
 have HFW := Lib.hid (fun W (h : Ext w W) => few_any x objs sh libs A B D a b d n m q W hn (hA.ext h) hm (hB.ext h) hq (hD.ext h) hx hb)
 have HR1 := Lib.hid (fun (hf : FewC x objs sh libs) W (h : Ext w W) => Share_any objs A a n W hn (hA.ext h) hf.ok.none (hg.ext h))
 have HR2 := Lib.hid (fun (hf : FewC x objs sh libs) W (h : Ext w W) => refShare_any objs A a n W hn (hA.ext h) hf.ok.none)
 generalize linkV (L.shareL okN okP objs) = R at HR1 HR2
 obtain ⟨Rb, Rr, Re⟩ := R
 unfold RetLk at HR1 HR2
 simp only at HR1 HR2
 obtain ⟨W1, hW1⟩ : ∃ W1, W1 = w.alloc (.cells #[.string x, .slice A n a, .slice B m b, .slice D q d] 26) := ⟨_, rfl⟩
 have hb1 : W1.heap[w.heap.size]? = some (.cells #[.string x, .slice A n a, .slice B m b, .slice D q d] 26 (0, 0)) := by rw [hW1]; exact heap_alloc_new w _
 have HX1 : Hid (Ext w W1) := by rw [hW1]; exact (Ext.refl w).alloc _
 have HB1 := Lib.hid hb1
 clear hn hm hq hA hB hD h0 r0 hg hb hx hb1
 go_enter Tryz.func4, Tryz.ntmps4
 go_upto_region 1 with (fail)
 rw [<- hW1]
 clear hW1
 go_wp2_with fail
 refine (HAW.out _ HX1.out).mono ?_
 rintro e w2 ⟨rfl, d2⟩
 have hb2 := (d2.block _ (hltA HB1.out)).trans HB1.out
 have c0 : w2.cell? ⟨w.heap.size, 0, none⟩ = _ := cell_of_row w2 _ 0 _ _ _ hb2
 have c1 : w2.cell? ⟨w.heap.size, 1, none⟩ = _ := cell_of_row w2 _ 1 _ _ _ hb2
 have c2 : w2.cell? ⟨w.heap.size, 2, none⟩ = _ := cell_of_row w2 _ 2 _ _ _ hb2
 have c3 : w2.cell? ⟨w.heap.size, 3, none⟩ = _ := cell_of_row w2 _ 3 _ _ _ hb2
 have HX2 := Lib.hid (HX1.out.trans d2)
 have HB2 := Lib.hid hb2
 clear d2 hb2
 go_wp2_with fail
 refine (HFW.out _ HX2.out).mono ?_
 rintro e w3 ⟨d3, fb, rfl, hfb⟩
 have HX3 := Lib.hid (HX2.out.trans d3)
 cases fb with
 | false =>
  clear hfb d3 c0 c1 c2 c3
  go_wp2_with fail
  go_ret
  exact ⟨rfl, HX3.out⟩
 | true =>
  have HF := Lib.hid (hfb rfl)
  have hb3 := (d3.block _ (hltA HB2.out)).trans HB2.out
  clear hfb d3 c0 c1 c2 c3
  have c0 : w3.cell? ⟨w.heap.size, 0, none⟩ = _ := cell_of_row w3 _ 0 _ _ _ hb3
  have c1 : w3.cell? ⟨w.heap.size, 1, none⟩ = _ := cell_of_row w3 _ 1 _ _ _ hb3
  have c2 : w3.cell? ⟨w.heap.size, 2, none⟩ = _ := cell_of_row w3 _ 2 _ _ _ hb3
  have c3 : w3.cell? ⟨w.heap.size, 3, none⟩ = _ := cell_of_row w3 _ 3 _ _ _ hb3
  have HB3 := Lib.hid hb3
  clear hb3
  go_wp2_with fail
  refine (HR1.out HF.out _ HX3.out).mono ?_
  rintro e w4 ⟨x5, vs, rs, rfl, hBV5, hRV5⟩
  have HX5 := Lib.hid (HX3.out.trans x5)
  obtain ⟨n0, n1, n2, n3⟩ := two_cells w4
  obtain ⟨n4, n5, n6, y10, _⟩ := two_stores w4 _ vs rs n0 n1 n2
  obtain ⟨W5, hW5⟩ : ∃ W5, W5 = (((w4.alloc (.cells zrow35 35)).alloc (.cells zrow38 38)).setRow w4.heap.size (Array.mk vs)).setRow (w4.heap.size + 1) (Array.mk rs) := ⟨_, rfl⟩
  rw [<- hW5] at n5 n6 y10
  have hrow := row35 hBV5
  have hone := hBV5.one
  have hlen := hBV5.len
  have hrow2 := row38 hRV5
  have hone2 := hRV5.one
  have hlen2 := hRV5.len
  have HBV5 : Hid (BinV W5 (Old W5) Rb vs) := hBV5.keep (fun i hi => Nat.lt_of_lt_of_le hi.2 y10.size) fun i hi => y10.block i hi.2
  have HRV5 : Hid (RdV W5 (Old W5) Rr rs) := hRV5.keep (fun i hi => Nat.lt_of_lt_of_le hi.2 y10.size) fun i hi => y10.block i hi.2
  obtain ⟨pb, hpb⟩ : ∃ pb, pb = w4.heap.size := ⟨_, rfl⟩
  rw [<- hpb] at n5 n6
  have HP5 : Hid (W5.heap[pb]? = some (.cells (Array.mk vs) 35 (0, 0)) /\ W5.heap[pb + 1]? = some (.cells (Array.mk rs) 38 (0, 0))) := ⟨n5, n6⟩
  have HX5S := Lib.hid (HX5.out.trans y10)
  have hc5 := (((x5.trans y10).block _ (hltA HB3.out)).trans HB3.out)
  have HB5 := Lib.hid hc5
  have HY5 := Lib.hid (x5.trans y10)
  have Hpb := Lib.hid hpb
  clear n5 n6 y10 hpb x5 hBV5 hRV5 n0 n3 hc5
  go_upto_region 6 with (first | (refine wpList_store_row rfl 35 (.tmp 3) (.tmp 18) rfl w4.heap.size (Array.mk vs) rfl rfl 35 _ n1 hrow (show 8 = vs.length from hlen.symm) hone ?_) | (refine wpList_store_row rfl 38 (.tmp 4) (.tmp 19) rfl (w4.heap.size + 1) (Array.mk rs) rfl rfl 38 _ n4 hrow2 (show 2 = rs.length from hlen2.symm) hone2 ?_))
  rw [<- hW5, <- Hpb.out]
  clear hW5 n1 n2 n4 hrow hone hlen hrow2 hone2 hlen2 c0 c1 c2 c3
  have c0 : W5.cell? ⟨w.heap.size, 0, none⟩ = _ := cell_of_row W5 _ 0 _ _ _ HB5.out
  have c1 : W5.cell? ⟨w.heap.size, 1, none⟩ = _ := cell_of_row W5 _ 1 _ _ _ HB5.out
  have c2 : W5.cell? ⟨w.heap.size, 2, none⟩ = _ := cell_of_row W5 _ 2 _ _ _ HB5.out
  have c3 : W5.cell? ⟨w.heap.size, 3, none⟩ = _ := cell_of_row W5 _ 3 _ _ _ HB5.out
  go_wp2_with fail
  refine (HR2.out HF.out _ HX5S.out).mono ?_
  rintro e w6 ⟨x7, us, ts, rfl, hBV7, hRV7⟩
  have HX7 := Lib.hid (HX5S.out.trans x7)
  obtain ⟨n0, n1, n2, n3⟩ := two_cells w6
  obtain ⟨n4, n5, n6, y10, _⟩ := two_stores w6 _ us ts n0 n1 n2
  obtain ⟨W7, hW7⟩ : ∃ W7, W7 = (((w6.alloc (.cells zrow35 35)).alloc (.cells zrow38 38)).setRow w6.heap.size (Array.mk us)).setRow (w6.heap.size + 1) (Array.mk ts) := ⟨_, rfl⟩
  rw [<- hW7] at n5 n6 y10
  have hrow := row35 hBV7
  have hone := hBV7.one
  have hlen := hBV7.len
  have hrow2 := row38 hRV7
  have hone2 := hRV7.one
  have hlen2 := hRV7.len
  have HBV7 : Hid (BinV W7 (Old W7) Rb us) := hBV7.keep (fun i hi => Nat.lt_of_lt_of_le hi.2 y10.size) fun i hi => y10.block i hi.2
  have HRV7 : Hid (RdV W7 (Old W7) Rr ts) := hRV7.keep (fun i hi => Nat.lt_of_lt_of_le hi.2 y10.size) fun i hi => y10.block i hi.2
  obtain ⟨qb, hqb⟩ : ∃ qb, qb = w6.heap.size := ⟨_, rfl⟩
  rw [<- hqb] at n5 n6
  have HP7 : Hid (W7.heap[qb]? = some (.cells (Array.mk us) 35 (0, 0)) /\ W7.heap[qb + 1]? = some (.cells (Array.mk ts) 38 (0, 0))) := ⟨n5, n6⟩
  have HX7S := Lib.hid (HX7.out.trans y10)
  have hc7 := (((x7.trans y10).block _ (hltA HB5.out)).trans HB5.out)
  have HB7 := Lib.hid hc7
  have HY7 := Lib.hid (x7.trans y10)
  have Hqb := Lib.hid hqb
  clear n5 n6 y10 hqb x7 hBV7 hRV7 n0 n3 hc7
  go_upto_region 7 with (first | (refine wpList_store_row rfl 35 (.tmp 6) (.tmp 25) rfl w6.heap.size (Array.mk us) rfl rfl 35 _ n1 hrow (show 8 = us.length from hlen.symm) hone ?_) | (refine wpList_store_row rfl 38 (.tmp 7) (.tmp 26) rfl (w6.heap.size + 1) (Array.mk ts) rfl rfl 38 _ n4 hrow2 (show 2 = ts.length from hlen2.symm) hone2 ?_))
  rw [<- hW7, <- Hqb.out]
  clear hW7 n1 n2 n4 hrow hone hlen hrow2 hone2 hlen2 c0 c1 c2 c3
  have hBa : BinV W7 (Old W7) Rb vs := HBV5.out.keep (fun i hi => Nat.lt_of_lt_of_le hi HY7.out.size) fun i hi => HY7.out.block i hi
  have hRa : RdV W7 (Old W7) Rr rs := HRV5.out.keep (fun i hi => Nat.lt_of_lt_of_le hi HY7.out.size) fun i hi => HY7.out.block i hi
  have HSM := Lib.hid (Same_same Rb vs us W7 hBa HBV7.out)
  have HSR := Lib.hid (fun W (h : Ext W7 W) => sameReading_any Rr rs ts W (hRa.keep (fun i hi => Nat.lt_of_lt_of_le hi h.size) fun i hi => h.block i hi) (HRV7.out.keep (fun i hi => Nat.lt_of_lt_of_le hi h.size) fun i hi => h.block i hi))
  have hp1 := (HY7.out.block _ (hltA HP5.out.1)).trans HP5.out.1
  have hp2 := (HY7.out.block _ (hltA HP5.out.2)).trans HP5.out.2
  have hp3 := HP7.out.1
  have hp4 := HP7.out.2
  obtain ⟨A1, e1, A2, e2, A3, e3, A4, e4, A5, e5, hvs, _⟩ := hBa.form
  obtain ⟨B1, f1, B2, f2, B3, f3, B4, f4, B5, f5, hus, _⟩ := HBV7.out.form
  obtain ⟨C1, g1, C2, g2, hrs, _, _⟩ := hRa
  obtain ⟨D1, k1, D2, k2, hts, _, _⟩ := HRV7.out
  clear hBa HBV7 HBV5 HRV7 HRV5
  subst hvs hus hrs hts
  generalize Rb.2.2.2.1.length = z1 at *
  generalize Rb.2.2.2.2.1.length = z2 at *
  generalize Rb.2.2.2.2.2.1.length = z3 at *
  generalize Rb.2.2.2.2.2.2.1.length = z4 at *
  generalize Rb.2.2.2.2.2.2.2.length = z5 at *
  generalize Rr.1.length = z6 at *
  generalize Rr.2.length = z7 at *
  generalize Rb.2.2.1 = z8 at *
  generalize Rb.2.1 = z9 at *
  generalize Rb.1 = z10 at *
  have u0 : W7.cell? ⟨pb, 0, none⟩ = _ := cell_of_row W7 _ 0 _ _ _ hp1
  have u1 : W7.cell? ⟨pb, 1, none⟩ = _ := cell_of_row W7 _ 1 _ _ _ hp1
  have u2 : W7.cell? ⟨pb, 2, none⟩ = _ := cell_of_row W7 _ 2 _ _ _ hp1
  have u3 : W7.cell? ⟨pb, 3, none⟩ = _ := cell_of_row W7 _ 3 _ _ _ hp1
  have u4 : W7.cell? ⟨pb, 4, none⟩ = _ := cell_of_row W7 _ 4 _ _ _ hp1
  have u5 : W7.cell? ⟨pb, 5, none⟩ = _ := cell_of_row W7 _ 5 _ _ _ hp1
  have u6 : W7.cell? ⟨pb, 6, none⟩ = _ := cell_of_row W7 _ 6 _ _ _ hp1
  have u7 : W7.cell? ⟨pb, 7, none⟩ = _ := cell_of_row W7 _ 7 _ _ _ hp1
  have s0 : W7.cell? ⟨qb, 0, none⟩ = _ := cell_of_row W7 _ 0 _ _ _ hp3
  have s1 : W7.cell? ⟨qb, 1, none⟩ = _ := cell_of_row W7 _ 1 _ _ _ hp3
  have s2 : W7.cell? ⟨qb, 2, none⟩ = _ := cell_of_row W7 _ 2 _ _ _ hp3
  have s3 : W7.cell? ⟨qb, 3, none⟩ = _ := cell_of_row W7 _ 3 _ _ _ hp3
  have s4 : W7.cell? ⟨qb, 4, none⟩ = _ := cell_of_row W7 _ 4 _ _ _ hp3
  have s5 : W7.cell? ⟨qb, 5, none⟩ = _ := cell_of_row W7 _ 5 _ _ _ hp3
  have s6 : W7.cell? ⟨qb, 6, none⟩ = _ := cell_of_row W7 _ 6 _ _ _ hp3
  have s7 : W7.cell? ⟨qb, 7, none⟩ = _ := cell_of_row W7 _ 7 _ _ _ hp3
  have HP1 := Lib.hid hp2
  have HP2 := Lib.hid hp4
  clear hp1 hp2 hp3 hp4
  go_wp2_with fail
  refine HSM.out.mono ?_
  rintro e w8 ⟨rfl, x8⟩
  have h1 := (x8.block _ (hltA HP1.out)).trans HP1.out
  have h2 := (x8.block _ (hltA HP2.out)).trans HP2.out
  have t0 : w8.cell? ⟨pb + 1, 0, none⟩ = _ := cell_of_row w8 _ 0 _ _ _ h1
  have t1 : w8.cell? ⟨pb + 1, 1, none⟩ = _ := cell_of_row w8 _ 1 _ _ _ h1
  have t2 : w8.cell? ⟨qb + 1, 0, none⟩ = _ := cell_of_row w8 _ 0 _ _ _ h2
  have t3 : w8.cell? ⟨qb + 1, 1, none⟩ = _ := cell_of_row w8 _ 1 _ _ _ h2
  have HX8 := Lib.hid (HX7S.out.trans x8)
  have HSR8 := Lib.hid (HSR.out _ x8)
  clear x8 h1 h2 u0 u1 u2 u3 u4 u5 u6 u7 s0 s1 s2 s3 s4 s5 s6 s7
  go_wp2_with fail
  refine HSR8.out.mono ?_
  rintro e w9 ⟨rfl, x9⟩
  have HX9 := Lib.hid (HX8.out.trans x9)
  have hee : (Re == Re) = true := by simp
  clear x9 t0 t1 t2 t3
  go_wp2_with fail
  go_ret
  exact ⟨rfl, HX9.out⟩
end Go.Proofs.YtfbhchpbflaphaaGreatDoor
