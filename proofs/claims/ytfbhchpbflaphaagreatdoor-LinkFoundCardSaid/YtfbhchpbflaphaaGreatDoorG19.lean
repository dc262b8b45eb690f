/- The texts Fx Ja Jb He Hg Hi of the seat, joined. -/
import Derived.Test.YtfbhchpbflaphaaGreatDoorG18
/- FewLibs, few: whatever the case, a bool; where it is true, the case is small. -/
namespace Go.Proofs.YtfbhchpbflaphaaGreatDoor
open Go.RowKit Go.Maps Go.ChangeMaps Go.Sort

def fewL (l : L.Libr) : Prop := l.1.size ≤ 300 ∧ (L.exps l).length ≤ 200 ∧ ∀ y ∈ L.exps l, y.1.size ≤ 100
def FewL (libs : List L.Libr) : Prop := libs.length ≤ 6 ∧ ∀ l ∈ libs, fewL l
def libsTo (l : List L.Libr) (k : Nat) : Prop := ∀ i (h : i < l.length), i < k → fewL l[i]
theorem libsTo_succ {l : List L.Libr} {k : Nat} (h : libsTo l k) (hk : k < l.length) (h1 : fewL l[k]) : libsTo l (k + 1) := by
  intro i hi hik
  by_cases e : i = k
  · subst e; exact h1
  · exact h i hi (by omega)
def expsTo (l : List L.Expd) (k : Nat) : Prop := ∀ i (h : i < l.length), i < k → l[i].1.size ≤ 100
theorem expsTo_succ {l : List L.Expd} {k : Nat} (h : expsTo l k) (hk : k < l.length) (h1 : l[k].1.size ≤ 100) : expsTo l (k + 1) := by
  intro i hi hik
  by_cases e : i = k
  · subst e; exact h1
  · exact h i hi (by omega)

set_option maxRecDepth 8000 in
set_option maxHeartbeats 4000000 in
theorem FewLibs_any (l : List L.Libr) (A : Option Addr) (c n : Nat) (w : World) (hn : n = l.length) (hA : SliceAt librR w (Old w) A c l) :
    Calls Tryz.prog 42 #[.slice A n c] w (RetB w (FewL l)) := by
  have hn2 : n ≤ 9223372036854775807 := by have h1 := hA.1; have h2 := hA.2.1; omega
  have hF : libsTo l l.length → l.length ≤ 6 → FewL l := fun h1 h2 => ⟨h2, fun m hm => by obtain ⟨i, hi, rfl⟩ := List.getElem_of_mem hm; exact h1 i hi hi⟩
  have HF := Lib.hid hF
  obtain ⟨P, hP⟩ : ∃ P, P = FewL l := ⟨_, rfl⟩
  rw [← hP] at HF ⊢
  have HN := Lib.hid hn
  have HA := Lib.hid hA
  clear hn hA hP hF
  go_enter Tryz.func42, Tryz.ntmps42
  go_wp2_with fail
  go_loopw [9] (fun i wr => ∃ k : Nat, k ≤ n ∧ i = .int .i64 (k : Int) ∧ Hid (libsTo l k ∧ Ext w wr)) (fun i _ => n - (intOf i).toNat)
  case atStart => exact ⟨0, Nat.zero_le _, rfl, fun _ _ h => absurd h (Nat.not_lt_zero _), Ext.refl _⟩
  case round =>
    obtain ⟨k, hk, rfl, HK⟩ := hrel
    obtain ⟨W0, hW0⟩ : ∃ W0, W0 = wr := ⟨_, rfl⟩
    subst hW0
    by_cases hlt : k < n
    · have hkl : k < l.length := by rw [← HN.out]; exact hlt
      obtain ⟨b, off, kd, en, im, A1, n1, c1, A2, n2, c2, A3, n3, c3, A4, c4, A5, n5, c5, rfl, hbo, hs, hkd, hEX, m0, m1, m2, m3, m4, m5, m6, m7, m8⟩ := lib_cells (HA.out.ext HK.out.2) hkl
      have H9 := Lib.hid (fun h1 => libsTo_succ HK.out.1 hkl h1)
      have hfd : fewL l[k] ↔ l[k].1.size ≤ 300 ∧ (L.exps l[k]).length ≤ 200 ∧ ∀ y ∈ L.exps l[k], y.1.size ≤ 100 := Iff.rfl
      rw [hfd] at H9
      have hb4 := hEX.1
      have hb4' := hEX.2.1
      generalize l[k].1 = s at m0 H9 hs
      obtain ⟨ex, hex⟩ : ∃ ex, ex = L.exps l[k] := ⟨_, rfl⟩
      rw [← hex] at hEX m7 H9 hb4
      obtain ⟨n4, hn4⟩ : ∃ n4, n4 = ex.length := ⟨_, rfl⟩
      rw [← hn4] at m7 hb4
      have HN4 := Lib.hid hn4
      obtain ⟨W4, hW4⟩ : ∃ W4, W4 = W0.alloc (.cells #[.string s, .int .i64 kd, .int .i64 en, .string im, .slice A1 n1 c1, .slice A2 n2 c2, .slice A3 n3 c3, .slice A4 n4 c4, .slice A5 n5 c5] 86) := ⟨_, rfl⟩
      obtain ⟨eb, heb⟩ : ∃ eb, eb = W0.heap.size := ⟨_, rfl⟩
      have E4 : Ext W0 W4 := by rw [hW4]; exact (Ext.refl W0).alloc _
      have hb4r : W4.heap[eb]? = some (.cells #[.string s, .int .i64 kd, .int .i64 en, .string im, .slice A1 n1 c1, .slice A2 n2 c2, .slice A3 n3 c3, .slice A4 n4 c4, .slice A5 n5 c5] 86 (0, 0)) := by rw [hW4, heb]; exact heap_alloc_new W0 _
      have t0 : W4.cell? ⟨eb, 0, none⟩ = _ := cell_of_row W4 eb 0 _ _ _ hb4r
      have t7 : W4.cell? ⟨eb, 7, none⟩ = _ := cell_of_row W4 eb 7 _ _ _ hb4r
      have HEB := Lib.hid heb
      have HEX := Lib.hid (hEX.ext E4)
      have HX4 := Lib.hid (HK.out.2.trans E4)
      clear hbo hkd hEX hex hn4 heb hb4r E4 HK hkl hfd
      go_upto_region 4 with (fail)
      rw [← hW4, ← HEB.out]
      clear hW4 m0 m1 m2 m3 m4 m5 m6 m7 m8
      by_cases h1 : 300 < s.size
      · go_wp2_with fail
        go_ret
        exact retB_false HX4.out
      by_cases h2 : 200 < n4
      · go_wp2_with fail
        go_ret
        exact retB_false HX4.out
      go_wp2_with fail
      clear t0 t7
      go_loopw [28] (fun i wx => ∃ e : Nat, e ≤ n4 ∧ i = .int .i64 (e : Int) ∧ Hid (expsTo ex e ∧ Ext W4 wx)) (fun i _ => n4 - (intOf i).toNat)
      case atStart => exact ⟨0, Nat.zero_le _, rfl, fun _ _ h => absurd h (Nat.not_lt_zero _), Ext.refl _⟩
      case round =>
        obtain ⟨e, he, rfl, HE⟩ := hrel
        by_cases hle : e < n4
        · have hez : e < ex.length := by rw [← HN4.out]; exact hle
          obtain ⟨b5, off5, rfl, hb5, hs5, hw5, z0, z1⟩ := exp_get (HEX.out.ext HE.out.2) hez
          have H8 := Lib.hid (fun h1 => expsTo_succ HE.out.1 hez h1)
          generalize ex[e].1 = y at z0 H8 hs5
          generalize ex[e].2 = ya at z1 hw5
          clear hb5 hw5 hez
          by_cases h3 : 100 < y.size
          · go_wp2_with fail
            go_ret
            exact retB_false (HX4.out.trans (HE.out.2.alloc _))
          · have H7 := Lib.hid (H8.out (by omega))
            go_wp2_with fail
            go_roundw
            case rel => exact ⟨e + 1, by omega, by go_num, H7.out, HE.out.2.alloc _⟩
            case measure => simp [intOf]; omega
        · obtain rfl : e = n4 := by omega
          have hall : ∀ y ∈ ex, y.1.size ≤ 100 := fun y hy => by
            obtain ⟨i, hi, rfl⟩ := List.getElem_of_mem hy
            exact HE.out.1 i hi (by rw [HN4.out]; exact hi)
          have H6 := Lib.hid (H9.out ⟨by omega, by have := HN4.out; omega, hall⟩)
          have HX5 := Lib.hid (HX4.out.trans HE.out.2)
          clear hall
          go_wp2_with fail
          exact ⟨⟨k + 1, by omega, by go_num, H6.out, HX5.out⟩, by simp [intOf]; omega⟩
    · have HS := Lib.hid (show libsTo l l.length by have := HK.out.1; rwa [show k = l.length by have := HN.out; omega] at this)
      have HP := Lib.hid (fun h2 : n ≤ 6 => HF.out HS.out (by have := HN.out; omega))
      go_wp2_with fail
      go_ret
      exact ⟨HK.out.2, decide ((n : Int) ≤ 6), rfl, fun h => HP.out (by have := of_decide_eq_true h; omega)⟩

/-- A small case. -/
def FewC (x : ByteArray) (objs : List C.Mem) (sh : List L.Shelf) (libs : List L.Libr) : Prop := x.size ≤ 100 ∧ (FewM objs ∧ objs.length ≤ 8) ∧ (sh.length ≤ 4 ∧ ∀ s ∈ sh, s.1.size ≤ 300 ∧ FewM s.2 ∧ s.2.length ≤ 6) ∧ FewL libs
theorem FewC.ok {x : ByteArray} {objs : List C.Mem} {sh : List L.Shelf} {libs : List L.Libr} (h : FewC x objs sh libs) : CaseOk objs sh libs := by
  obtain ⟨_, ⟨h1, h2⟩, ⟨h3, h4⟩, h5, h6⟩ := h
  exact {
    mems := h1.sizes
    no := by omega
    shelves := fun s hs => by
      obtain ⟨k1, k2, k3⟩ := h4 s hs
      exact ⟨⟨by omega, k2.sizes, by omega⟩, by omega⟩
    ns := by omega
    lbs := fun l hl => by
      obtain ⟨k1, k2, k3⟩ := h6 l hl
      exact ⟨⟨by omega, by omega, fun y hy => by have := k3 y hy; omega⟩, by omega⟩
    nl := by omega }
def fewS (s : L.Shelf) : Prop := s.1.size ≤ 300 ∧ FewM s.2 ∧ s.2.length ≤ 6
def shTo (l : List L.Shelf) (k : Nat) : Prop := ∀ i (h : i < l.length), i < k → fewS l[i]
theorem shTo_succ {l : List L.Shelf} {k : Nat} (h : shTo l k) (hk : k < l.length) (h1 : fewS l[k]) : shTo l (k + 1) := by
  intro i hi hik
  by_cases e : i = k
  · subst e; exact h1
  · exact h i hi (by omega)
/-- The sizes of a case that any machine holds. -/
def BdC (objs : List C.Mem) (sh : List L.Shelf) : Prop := BdM objs ∧ ∀ s ∈ sh, BdM s.2

set_option maxRecDepth 8000 in
set_option maxHeartbeats 4000000 in
theorem few_any (x : ByteArray) (objs : List C.Mem) (sh : List L.Shelf) (libs : List L.Libr) (A B D : Option Addr) (a b d n m q : Nat) (w : World) (hn : n = objs.length) (hA : SliceAt memR w (Old w) A a objs) (hm : m = sh.length) (hB : SliceAt shelfR w (Old w) B b sh) (hq : q = libs.length) (hD : SliceAt librR w (Old w) D d libs)
    (hx : x.size ≤ 9223372036854775807) (hbd : BdC objs sh) :
    Calls Tryz.prog 11 #[.agg #[.string x, .slice A n a, .slice B m b, .slice D q d]] w (RetB w (FewC x objs sh libs)) := by
  have hn2 : n ≤ 9223372036854775807 := by have h1 := hA.1; have h2 := hA.2.1; omega
  have hm2 : m ≤ 9223372036854775807 := by have h1 := hB.1; have h2 := hB.2.1; omega
  have HFM := Lib.hid (fun W (e : Ext w W) => FewMembers_any objs A a n W hn (hA.ext e) hbd.1)
  have HFL := Lib.hid (fun W (e : Ext w W) => FewLibs_any libs D d q W hq (hD.ext e))
  have hF : x.size ≤ 100 → FewM objs → n ≤ 8 → shTo sh sh.length → m ≤ 4 → FewL libs → FewC x objs sh libs := fun h1 h2 h3 h4 h5 h6 => ⟨h1, ⟨h2, by omega⟩, ⟨by omega, fun s hs => by obtain ⟨i, hi, rfl⟩ := List.getElem_of_mem hs; exact h4 i hi hi⟩, h6⟩
  have HF := Lib.hid hF
  have HM := Lib.hid hm
  have HB := Lib.hid hB
  have HBD := Lib.hid hbd.2
  generalize FewC x objs sh libs = P at HF ⊢
  generalize FewM objs = P1 at HF HFM
  generalize FewL libs = P2 at HF HFL
  obtain ⟨W1, hW1⟩ : ∃ W1, W1 = w.alloc (.cells #[.string x, .slice A n a, .slice B m b, .slice D q d] 26) := ⟨_, rfl⟩
  have E1 : Ext w W1 := by rw [hW1]; exact (Ext.refl w).alloc _
  have hb1 : W1.heap[w.heap.size]? = some (.cells #[.string x, .slice A n a, .slice B m b, .slice D q d] 26 (0, 0)) := by rw [hW1]; exact heap_alloc_new w _
  have c2 : W1.cell? ⟨w.heap.size, 2, none⟩ = _ := cell_of_row W1 _ 2 _ _ _ hb1
  have HW1 := Lib.hid hW1
  have HE1 := Lib.hid E1
  have HB1 := Lib.hid hb1
  clear hn hA hm hB hq hD hbd hF hW1 E1 hb1
  go_enter Tryz.func11, Tryz.ntmps11
  go_upto_region 1 with (fail)
  rw [← HW1.out]
  go_wp2_with fail
  clear c2
  go_loopw [8] (fun i wr => ∃ k : Nat, k ≤ m ∧ i = .int .i64 (k : Int) ∧ Hid (shTo sh k ∧ Ext W1 wr)) (fun i _ => m - (intOf i).toNat)
  case atStart => exact ⟨0, Nat.zero_le _, rfl, fun _ _ h => absurd h (Nat.not_lt_zero _), Ext.refl _⟩
  case round =>
    obtain ⟨k, hk, rfl, HK⟩ := hrel
    obtain ⟨W0, hW0⟩ : ∃ W0, W0 = wr := ⟨_, rfl⟩
    subst hW0
    by_cases hlt : k < m
    · have hkl : k < sh.length := by rw [← HM.out]; exact hlt
      obtain ⟨ub, uo, SA, sc, rfl, hbo, hps, hSA, u0, u1⟩ := shelf_get (HB.out.ext (HE1.out.trans HK.out.2)) hkl
      have H9 := Lib.hid (fun h1 => shTo_succ HK.out.1 hkl h1)
      have hfd : fewS sh[k] ↔ sh[k].1.size ≤ 300 ∧ FewM sh[k].2 ∧ sh[k].2.length ≤ 6 := Iff.rfl
      rw [hfd] at H9
      have hbm := HBD.out _ (List.getElem_mem hkl)
      have hsl := hSA.1
      have hsl2 := hSA.2.1
      generalize sh[k].1 = s at u0 H9 hps
      generalize sh[k].2 = ms at u1 H9 hSA hbm hsl
      obtain ⟨sm, hsm⟩ : ∃ sm, sm = ms.length := ⟨_, rfl⟩
      rw [← hsm] at u1 H9 hsl
      obtain ⟨W4, hW4⟩ : ∃ W4, W4 = W0.alloc (.cells #[.string s, .slice SA sm sc] 83) := ⟨_, rfl⟩
      obtain ⟨eb, heb⟩ : ∃ eb, eb = W0.heap.size := ⟨_, rfl⟩
      have E4 : Ext W0 W4 := by rw [hW4]; exact (Ext.refl W0).alloc _
      have hb4 : W4.heap[eb]? = some (.cells #[.string s, .slice SA sm sc] 83 (0, 0)) := by rw [hW4, heb]; exact heap_alloc_new W0 _
      have t0 : W4.cell? ⟨eb, 0, none⟩ = _ := cell_of_row W4 eb 0 _ _ _ hb4
      have t1 : W4.cell? ⟨eb, 1, none⟩ = _ := cell_of_row W4 eb 1 _ _ _ hb4
      have HEB := Lib.hid heb
      have HFW := Lib.hid (FewMembers_any ms SA sc sm W4 hsm (hSA.ext E4) hbm)
      have HX4 := Lib.hid (HK.out.2.trans E4)
      have HT1 := Lib.hid t1
      generalize FewM ms = P3 at H9 HFW
      clear hbo hSA hbm hsm heb hb4 E4 hkl hfd
      go_upto_region 4 with (fail)
      rw [← hW4, ← HEB.out]
      clear hW4 u0 u1
      by_cases h1 : 300 < s.size
      · go_wp2_with fail
        go_ret
        exact retB_false (HE1.out.trans HX4.out)
      go_wp2_with fail
      refine HFW.out.mono ?_
      rintro e w5 ⟨e5, bb, rfl, hbb⟩
      have t1' := e5.keepc HT1.out
      have HX5 := Lib.hid (HX4.out.trans e5)
      clear e5 t0 t1
      cases bb with
      | false =>
        clear hbb
        go_wp2_with fail
        go_ret
        exact retB_false (HE1.out.trans HX5.out)
      | true =>
        have HBB := Lib.hid (hbb rfl)
        clear hbb
        by_cases h2 : 6 < sm
        · go_wp2_with fail
          go_ret
          exact retB_false (HE1.out.trans HX5.out)
        · have H8 := Lib.hid (H9.out ⟨by omega, HBB.out, by omega⟩)
          go_wp2_with fail
          go_roundw
          case rel => exact ⟨k + 1, by omega, by go_num, H8.out, HX5.out⟩
          case measure => simp [intOf]; omega
    · have HS := Lib.hid (show shTo sh sh.length by have := HK.out.1; rwa [show k = sh.length by have := HM.out; omega] at this)
      have HX0 := Lib.hid (HE1.out.trans HK.out.2)
      have hrow := (HK.out.2.block _ (Array.getElem?_eq_some_iff.1 HB1.out).1).trans HB1.out
      have c0 : W0.cell? ⟨w.heap.size, 0, none⟩ = _ := cell_of_row W0 _ 0 _ _ _ hrow
      have c1 : W0.cell? ⟨w.heap.size, 1, none⟩ = _ := cell_of_row W0 _ 1 _ _ _ hrow
      have HROW := Lib.hid hrow
      clear hrow
      by_cases h1 : x.size ≤ 100
      · go_wp2_with fail
        refine (HFM.out _ HX0.out).mono ?_
        rintro e w5 ⟨e5, bb, rfl, hbb⟩
        have hrow := (e5.block _ (Array.getElem?_eq_some_iff.1 HROW.out).1).trans HROW.out
        have c1' : w5.cell? ⟨w.heap.size, 1, none⟩ = _ := cell_of_row w5 _ 1 _ _ _ hrow
        have c2' : w5.cell? ⟨w.heap.size, 2, none⟩ = _ := cell_of_row w5 _ 2 _ _ _ hrow
        have c3' : w5.cell? ⟨w.heap.size, 3, none⟩ = _ := cell_of_row w5 _ 3 _ _ _ hrow
        have HX5 := Lib.hid (HX0.out.trans e5)
        clear e5 hrow c0 c1
        cases bb with
        | false =>
          clear hbb
          go_wp2_with fail
          go_ret
          exact retB_false HX5.out
        | true =>
          have HBB := Lib.hid (hbb rfl)
          clear hbb
          by_cases h2 : n ≤ 8
          · by_cases h3 : m ≤ 4
            · go_wp2_with fail
              refine (HFL.out _ HX5.out).mono ?_
              rintro e w6 ⟨e6, cc, rfl, hcc⟩
              have HX6 := Lib.hid (HX5.out.trans e6)
              clear e6
              cases cc with
              | false =>
                clear hcc
                go_wp2_with fail
                go_ret
                exact retB_false HX6.out
              | true =>
                have HR := Lib.hid (HF.out h1 HBB.out h2 HS.out h3 (hcc rfl))
                clear hcc
                go_wp2_with fail
                go_ret
                exact retB_true HX6.out HR.out
            · go_wp2_with fail
              go_ret
              exact retB_false HX5.out
          · go_wp2_with fail
            go_ret
            exact retB_false HX5.out
      · go_wp2_with fail
        go_ret
        exact retB_false HX0.out
end Go.Proofs.YtfbhchpbflaphaaGreatDoor

/- The examples of chapter 11. -/
namespace Go.Proofs.YtfbhchpbflaphaaGreatDoor
open Go.RowKit Go.Maps Go.ChangeMaps Go.Sort

def codeD : ByteArray := ⟨#[0, 0, 1, 0, 0, 0, 0, 13]⟩
def codeS (name : ByteArray) (mode : Int) (other : ByteArray) : List C.Sym := [(name, mode, 0), (other, 3, -1)]
def codeT (other : ByteArray) : List C.Sec := [(1, codeD, [(3, other)])]
def codeO (name : ByteArray) (mode : Int) (other : ByteArray) : C.Obj := (codeS name mode other, codeT other)
abbrev nMain : ByteArray := ⟨#[109, 97, 105, 110]⟩
abbrev nF : ByteArray := ⟨#[102]⟩
abbrev nG : ByteArray := ⟨#[103]⟩
abbrev nH : ByteArray := ⟨#[104]⟩
abbrev nO : ByteArray := ⟨#[111]⟩
abbrev nP : ByteArray := ⟨#[112]⟩
abbrev nX : ByteArray := ⟨#[120]⟩
abbrev nY : ByteArray := ⟨#[121]⟩
abbrev nK : ByteArray := ⟨#[107]⟩
abbrev nK2 : ByteArray := ⟨#[107, 50]⟩
abbrev nLib : ByteArray := ⟨#[108, 105, 98, 47, 97]⟩
abbrev nLX : ByteArray := ⟨#[108, 105, 98, 47, 97, 33, 120]⟩
abbrev nLY : ByteArray := ⟨#[108, 105, 98, 47, 97, 33, 121]⟩
def exM : List C.Mem := [(nO, codeO nMain 1 nF)]
def exM2 : List C.Mem := [(nO, codeO nMain 1 nF), (nP, codeO nF 2 nMain)]
def exSh : List L.Shelf := [(nLib, [(nX, codeO nG 1 nH), (nY, codeO nF 1 nMain)])]
def exM3 : List C.Mem := [(nO, codeO nK 2 nK2), (nP, codeO nK2 1 nK)]
def exI : ByteArray := ⟨#[0, 0, 1, 8, 0, 0, 0, 13, 0, 0, 1, 0, 0, 0, 0, 13]⟩
theorem ex_link1 : L.linkL okN okP nMain exM exSh [] = .ok ((1, 0, exI, [(nO, nMain, 1, 0, 8), (nLY, nF, 1, 8, 8)], [3, 11], [], [], []), ([nO, nLX, nLY], [])) := by kernel_rfl
theorem ex_link2 : L.linkL okN okP nMain exM2 exSh [] = .ok ((1, 0, exI, [(nO, nMain, 1, 0, 8), (nP, nF, 1, 8, 8)], [3, 11], [], [], []), ([nO, nP], [])) := by kernel_rfl
theorem ex_res : L.resolveL okN okP nG exM exSh [] = (nLX, false, 0) := by kernel_rfl
theorem ex_share : L.shareL okN okP exM3 = .ok ((2, -1, exI, [(nO, nK, 1, 0, 8), (nP, nK2, 1, 8, 8)], [3, 11], [], [(nK, 0), (nK2, 8)], []), ([nO, nP], [])) := by kernel_rfl
end Go.Proofs.YtfbhchpbflaphaaGreatDoor

/- The example's objects in memory; append to a full list. -/
namespace Go.Proofs.YtfbhchpbflaphaaGreatDoor
open Go.RowKit Go.Maps Go.ChangeMaps Go.Sort

/-- A list in a row that was just made. -/
theorem slice_new {α : Type} {r : Rep α} {w w' : World} {B : Nat → Prop} {l : List α} {cs : Array Value} {T : TypeId} {g n : Nat} (hg : g = w.heap.size) (hn : n = l.length) (hn2 : n ≤ 9223372036854775807) (hB : B g) (hk : Ext (w.alloc (.cells cs T)) w') (h : Flat r w' B l cs.toList) : SliceAt r w' B (some ⟨g, 0, none⟩) n l := by
  subst hg hn
  refine ⟨Nat.le_refl _, hn2, fun _ => ⟨_, _, rfl, hB, h.row fun j u hj => hk.keepc ?_⟩⟩
  rw [Nat.zero_add, cell_new]
  simpa using hj
theorem run_append_full {P : Program} {w : World} (t ty e : TypeId) (i : TypeInfo) (z : Value) (size bytes : Nat) (ht : P.underlying t = some (.slice e)) (hi : P.info? e = some i) (hz : i.zero = some z) (hsize : i.size = size) (hby : i.bytes = bytes)
    (b : Addr) (n cap : Nat) (xs : List Value) (hlx : xs.length = n * size) (hxs : ∀ j u, xs[j]? = some u → w.cell? (b.add j) = some u) (a : Addr) (m c : Nat) (news : List Value) (hl : news.length = m * size) (hnews : ∀ j u, news[j]? = some u → w.cell? (a.add j) = some u)
    (hfull : cap < n + m) (h63 : n + m ≤ maxLen) (hbytes : (n + m) * bytes ≤ 140737488355328) :
    ∃ g cp w', (Builtin.append_ #[t, t] ty #[.slice (some b) n cap, .slice (some a) m c]).run P w = .ok (.slice (some ⟨g, 0, none⟩) (n + m) cp) w' ∧ Ext w w' ∧ w.heap.size ≤ g ∧ g < w'.heap.size ∧ n + m ≤ cp ∧ cp ≤ maxLen ∧
      ∀ j u, (xs ++ news)[j]? = some u → w'.cell? ⟨g, j, none⟩ = some u := by
  subst hsize
  subst hby
  have hr := run_append_grow (P := P) w t ty e i z ht hi hz b n cap xs hlx hxs a m c news hl hnews hfull (by have := h63; simp only [maxLen] at this; omega) (growslice_fits (by omega) hbytes)
  refine ⟨_, _, _, hr, ⟨rfl, rfl, rfl, by simp, fun k hk => heap_alloc_old w.drew _ hk⟩, Nat.le_refl _, by simp, grownCap_ge _ _ _ _, grownCap_le_maxLen _ _ _ _ h63, fun j u hj => ?_⟩
  have h1 := cell_new w.drew (xs.toArray ++ news.toArray ++ Builtin.zeroCells z.cells (grownCap w (n + m) cap e - (n + m))) e j
  have h2 : w.drew.heap.size = w.heap.size := rfl
  rw [h2] at h1
  rw [h1, ← Array.getElem?_toList]
  simp only [Array.toList_append, List.append_assoc]
  rw [← List.append_assoc, List.getElem?_append_left (List.getElem?_eq_some_iff.1 hj).1]
  exact hj
theorem wpList_append_full {P : Program} {w : World} {ops : Array Oper} {rest : List Oper} {o : Oper} {a : Act} {Q : Exit → Act → World → Prop} (hgd : o.guard = none) (s x : Operand) (t : TypeId)
    (ho : o.op = .call { callee := .builtin .append, args := #[s, x], argTypes := #[t, t] }) {e : TypeId} {i : TypeInfo} {z : Value} {size bytes : Nat} (ht : P.underlying t = some (.slice e)) (hi : P.info? e = some i) (hz : i.zero = some z) (hsize : i.size = size) (hby : i.bytes = bytes)
    (b : Addr) (n cap : Nat) (xs : List Value) (hs : a.eval s = .slice (some b) n cap) (hlx : xs.length = n * size) (hxs : ∀ j u, xs[j]? = some u → w.cell? (b.add j) = some u) (ad : Addr) (m c : Nat) (news : List Value) (hx : a.eval x = .slice (some ad) m c) (hl : news.length = m * size) (hnews : ∀ j u, news[j]? = some u → w.cell? (ad.add j) = some u)
    (hfull : cap < n + m) (h63 : n + m ≤ maxLen) (hbytes : (n + m) * bytes ≤ 140737488355328)
    (h : ∀ g cp w', Ext w w' → w.heap.size ≤ g → g < w'.heap.size → n + m ≤ cp → cp ≤ maxLen → (∀ j u, (xs ++ news)[j]? = some u → w'.cell? ⟨g, j, none⟩ = some u) → wpList P ops Q rest (a.put o.dst (.slice (some ⟨g, 0, none⟩) (n + m) cp)) w') :
    wpList P ops Q (o :: rest) a w := by
  obtain ⟨g, cp, w', hr, h1, h2, h3, h4, h5, h6⟩ := run_append_full (P := P) (w := w) t o.type e i z size bytes ht hi hz hsize hby b n cap xs hlx hxs ad m c news hl hnews hfull h63 hbytes
  refine wpList_wanted' hgd ?_
  unfold Oper.wp execOp
  simp only [ho, resolve, invoke, builtin, Sem.run_bind, Sem.run_pure, Result.andThen_ok, List.map_toArray, List.map_cons, List.map_nil, hs, hx, hr]
  exact h g cp w' h1 h2 h3 h4 h5 h6
/-- An object of the example comes back. -/
def RetCode (w : World) (name : ByteArray) (mode : Int) (other : ByteArray) (e : Ending) (w' : World) : Prop :=
  Ext w w' ∧ ∃ A B, e = .returned (.agg #[.slice A 2 2, .slice B 1 1]) ∧ SliceAt symR w' (Old w') A 2 (codeS name mode other) ∧ SliceAt secR w' (Old w') B 1 (codeT other)
theorem retCode_of (w : World) (o : Obj) (name : ByteArray) (mode : Int) (other : ByteArray) (hn : name.size ≤ 100) (ho : other.size ≤ 100) (hm : (Lit.int .i64 mode).wf = true) : RetCode w name mode other (.returned (.agg #[.slice (some ⟨w.heap.size + 1, 0, none⟩) 2 2, .slice (some ⟨w.heap.size + 1 + 1 + 1, 0, none⟩) 1 1]))
    ((((w.alloc o).alloc (.cells #[.string name, .int .i64 mode, .int .i64 0, .string other, .int .i64 3, .int .i64 (-1)] 60)).alloc (.cells #[.int .i64 3, .string other] 151)).alloc (.cells #[.int .i64 1, .string codeD, .slice (some ⟨w.heap.size + 1 + 1, 0, none⟩) 1 1] 67)) := by
  refine ⟨((((Ext.refl w).alloc _).alloc _).alloc _).alloc _, _, _, rfl, ?_, ?_⟩
  · refine slice_new (w := w.alloc o) (cs := #[.string name, .int .i64 mode, .int .i64 0, .string other, .int .i64 3, .int .i64 (-1)]) (T := 60) (by simp) rfl (by decide) (show _ < _ by simp) (((Ext.refl _).alloc _).alloc _) ?_
    refine ⟨[.string name, .int .i64 mode, .int .i64 0], [.string other, .int .i64 3, .int .i64 (-1)], rfl, ⟨[.string name], [.int .i64 mode, .int .i64 0], rfl, ⟨rfl, by show name.size ≤ _; omega⟩, [.int .i64 mode], [.int .i64 0], rfl, ⟨rfl, hm⟩, rfl, (by decide : (Lit.int .i64 0).wf = true)⟩, ?_⟩
    exact ⟨[.string other, .int .i64 3, .int .i64 (-1)], [], rfl, ⟨[.string other], [.int .i64 3, .int .i64 (-1)], rfl, ⟨rfl, by show other.size ≤ _; omega⟩, [.int .i64 3], [.int .i64 (-1)], rfl, ⟨rfl, (by decide : (Lit.int .i64 3).wf = true)⟩, rfl, (by decide : (Lit.int .i64 (-1)).wf = true)⟩, rfl⟩
  · refine slice_new (w := ((w.alloc o).alloc (.cells #[.string name, .int .i64 mode, .int .i64 0, .string other, .int .i64 3, .int .i64 (-1)] 60)).alloc (.cells #[.int .i64 3, .string other] 151)) (cs := #[.int .i64 1, .string codeD, .slice (some ⟨w.heap.size + 1 + 1, 0, none⟩) 1 1]) (T := 67) (by simp) rfl (by decide) (show _ < _ by simp) (Ext.refl _) ?_
    refine ⟨[.int .i64 1, .string codeD, .slice (some ⟨w.heap.size + 1 + 1, 0, none⟩) 1 1], [], rfl, ⟨[.int .i64 1], [.string codeD, .slice (some ⟨w.heap.size + 1 + 1, 0, none⟩) 1 1], rfl, ⟨rfl, (by decide : (Lit.int .i64 1).wf = true)⟩, [.string codeD], _, rfl, ⟨rfl, (by decide : codeD.size ≤ 9223372036854775807)⟩, _, _, rfl, ?_⟩, rfl⟩
    refine slice_new (w := (w.alloc o).alloc (.cells #[.string name, .int .i64 mode, .int .i64 0, .string other, .int .i64 3, .int .i64 (-1)] 60)) (cs := #[.int .i64 3, .string other]) (T := 151) (by simp) rfl (by decide) (show _ < _ by simp) ((Ext.refl _).alloc _) ?_
    exact ⟨[.int .i64 3, .string other], [], rfl, ⟨[.int .i64 3], [.string other], rfl, ⟨rfl, (by decide : (Lit.int .i64 3).wf = true)⟩, rfl, by show other.size ≤ _; omega⟩, rfl⟩
set_option maxRecDepth 8000 in
set_option maxHeartbeats 2000000 in
theorem code_any (name : ByteArray) (mode : Int) (other : ByteArray) (w : World) (hn : name.size ≤ 100) (ho : other.size ≤ 100) (hm : (Lit.int .i64 mode).wf = true) : Calls Tryz.prog 38 #[.string name, .int .i64 mode, .string other] w (RetCode w name mode other) := by
  go_enter Tryz.func38, Tryz.ntmps38
  go_wp2_with fail
  exact bodyPost_ret (v := .agg #[.slice (some ⟨w.heap.size + 1, 0, none⟩) 2 2, .slice (some ⟨w.heap.size + 1 + 1 + 1, 0, none⟩) 1 1]) (by simp [results, Tryz.results38, go_sem]) rfl (retCode_of w _ name mode other hn ho hm)
/-- A member's values. -/
theorem mem_vals {w w' : World} {nm : ByteArray} {name : ByteArray} {mode : Int} {other : ByteArray} {A B : Option Addr} (h1 : SliceAt symR w (Old w) A 2 (codeS name mode other)) (h2 : SliceAt secR w (Old w) B 1 (codeT other)) (he : Ext w w') (hn : nm.size ≤ 100) :
    memR.is w' (Old w') (nm, codeO name mode other) [.string nm, .slice A 2 2, .slice B 1 1] :=
  ⟨[.string nm], _, rfl, ⟨rfl, by show nm.size ≤ _; omega⟩, [.slice A 2 2], [.slice B 1 1], rfl, ⟨A, 2, rfl, h1.ext he⟩, B, 1, rfl, h2.ext he⟩
end Go.Proofs.YtfbhchpbflaphaaGreatDoor

/- link.Link, walked. -/
namespace Go.Proofs.YtfbhchpbflaphaaGreatDoor
open Go.RowKit Go.Maps Go.ChangeMaps

attribute [local irreducible] wpLex wpT
set_option maxRecDepth 8000 in
set_option maxHeartbeats 8000000 in
theorem Link_any (x : ByteArray) (objs : List C.Mem) (sh : List L.Shelf) (libs : List L.Libr) (A B D : Option Addr) (a b d n m q : Nat) (w : World) (hn : n = objs.length) (hA : SliceAt memR w (Old w) A a objs) (hm : m = sh.length) (hB : SliceAt shelfR w (Old w) B b sh) (hq : q = libs.length) (hD : SliceAt librR w (Old w) D d libs)
    (hC : CaseOk objs sh libs) (hx : x.size ≤ 9223372036854775807) (hg : Gl w) :
    Calls Tryz.prog 12 #[.string x, .slice A n a, .slice B m b, .slice D q d] w (RetLk w (linkV (L.linkL okN okP x objs sh libs))) := by
  have hno := hC.no
  have hns := hC.ns
  have hnl := hC.nl
  have hfew := hC.few
  have hA' := fun W (e : Ext w W) => hA.ext e
  have hB' := fun W (e : Ext w W) => hB.ext e
  have hD' := fun W (e : Ext w W) => hD.ext e
  have HV := Lib.hid (fun W (e : Ext w W) => lvalid_any objs sh libs A B D a b d n m q W hn (hA' W e) hm (hB' W e) hq (hD' W e) hC.mems (fun s hs => (hC.shelves s hs).1) (fun l hl => (hC.lbs l hl).1) (by omega) (by omega) (by omega) (hg.ext e))
  have HNM := Lib.hid (fun W => Name_any x W hx)
  have HNW := Lib.hid (fun W (e : Ext w W) => newLinker_any objs sh libs A B D a b d n m q W hn (hA' W e) hm (hB' W e) hq (hD' W e) hC.mems (fun s hs => (hC.shelves s hs).1) (by omega) (by omega))
  have HE := Lib.hid hC.env
  have HX := Lib.hid hx
  obtain ⟨FV, hR⟩ : ∃ FV, FV = linkV (L.linkL okN okP x objs sh libs) := ⟨_, rfl⟩
  rw [← hR]
  unfold L.linkL at hR
  have hnm : okN x = K.name x.data.toList := rfl
  rw [hnm] at hR
  obtain ⟨E, hE⟩ : ∃ E, E = L.envOf objs sh libs := ⟨_, rfl⟩
  have hE2 : L.envOf objs sh [] = ⟨E.objs, E.mems, []⟩ := by rw [hE]; rfl
  rw [hE2, ← hE] at hR
  rw [← hE] at HNW HE
  have HLZ : Hid (∀ l ∈ E.libs, l.1.size ≤ 9223372036854775807) := by
    rw [hE]
    intro l hl
    have h1 := (hC.lbs l hl).1.1
    omega
  generalize L.validB okN okP objs sh libs = V at HV hR HE
  generalize K.name x.data.toList = N at HNM hR
  obtain ⟨hx1, hr1, hr2, hs1⟩ := two_cells w
  obtain ⟨W1, hW1⟩ : ∃ W1, W1 = (w.alloc (.cells zrow35 35)).alloc (.cells zrow38 38) := ⟨_, rfl⟩
  rw [← hW1] at hx1 hr1 hr2 hs1
  have HW1 := Lib.hid hW1
  have HX1 := Lib.hid hx1
  have HR1 := Lib.hid hr1
  have HR2 := Lib.hid hr2
  have HS1 := Lib.hid hs1
  clear hn hA hm hB hq hD hC hx hg hno hns hnl hfew hnm hE hE2 hA' hB' hD' hx1 hr1 hr2 hs1 hW1
  cases V with
  | false =>
    have hR' : FV = (zeroB, ([], []), 1) := by rw [hR]; rfl
    have HR := Lib.hid hR'
    clear hR hR' HE
    go_enter Tryz.func12, Tryz.ntmps12
    go_upto_region 1 with (fail)
    rw [← HW1.out]
    go_wp2_with fail
    refine (HV.out _ HX1.out).mono ?_
    rintro _ w2 ⟨rfl, e2⟩
    have HE2 := Lib.hid e2
    clear e2
    go_wp2_with fail
    refine (none43_any 1 _).mono ?_
    rintro e wz ⟨ez, rfl⟩
    have hz := HE2.out.trans ez
    have hA := (hz.block _ (Array.getElem?_eq_some_iff.1 HR1.out).1).trans HR1.out
    have hB := (hz.block _ (Array.getElem?_eq_some_iff.1 HR2.out).1).trans HR2.out
    obtain ⟨⟨r0, r1, r2, r3, r4, r5, r6, r7⟩, f0, f1, f2, f3, f4, f5, f6, f7⟩ := zcells hA
    obtain ⟨s0, s1, t0, t1⟩ := zcells2 hB
    obtain ⟨hA3, hB3⟩ := zput_rows hA hB
    have HA3 := Lib.hid hA3
    have HB3 := Lib.hid hB3
    have HX3 := Lib.hid (zput_ext (HX1.out.trans hz))
    clear hz ez hA hB hA3 hB3
    go_wp2_with fail
    refine ret_bre rfl rfl rfl rfl HA3.out HB3.out rfl rfl rfl ?_
    rw [HR.out]
    exact ⟨HX3.out, RetBR.none _ _ _⟩
  | true =>
    cases N with
    | false =>
      have hR' : FV = (zeroB, ([], []), 1) := by rw [hR]; rfl
      have HR := Lib.hid hR'
      clear hR hR' HE
      go_enter Tryz.func12, Tryz.ntmps12
      go_upto_region 1 with (fail)
      rw [← HW1.out]
      go_wp2_with fail
      refine (HV.out _ HX1.out).mono ?_
      rintro _ w2 ⟨rfl, e2⟩
      have HE2 := Lib.hid e2
      clear e2
      go_wp2_with fail
      refine (HNM.out _).mono ?_
      rintro _ w3 ⟨rfl, e3⟩
      have HE3 := Lib.hid (HE2.out.trans e3)
      clear e3
      go_wp2_with fail
      refine (none43_any 1 _).mono ?_
      rintro e wz ⟨ez, rfl⟩
      have hz := HE3.out.trans ez
      have hA := (hz.block _ (Array.getElem?_eq_some_iff.1 HR1.out).1).trans HR1.out
      have hB := (hz.block _ (Array.getElem?_eq_some_iff.1 HR2.out).1).trans HR2.out
      obtain ⟨⟨r0, r1, r2, r3, r4, r5, r6, r7⟩, f0, f1, f2, f3, f4, f5, f6, f7⟩ := zcells hA
      obtain ⟨s0, s1, t0, t1⟩ := zcells2 hB
      obtain ⟨hA3, hB3⟩ := zput_rows hA hB
      have HA3 := Lib.hid hA3
      have HB3 := Lib.hid hB3
      have HX3 := Lib.hid (zput_ext (HX1.out.trans hz))
      clear hz ez hA hB hA3 hB3
      go_wp2_with fail
      refine ret_bre rfl rfl rfl rfl HA3.out HB3.out rfl rfl rfl ?_
      rw [HR.out]
      exact ⟨HX3.out, RetBR.none _ _ _⟩
    | true =>
      have HEV := Lib.hid (HE.out rfl)
      rw [Bool.and_self, if_pos rfl] at hR
      have HR := Lib.hid hR
      clear hR HE
      go_enter Tryz.func12, Tryz.ntmps12
      go_upto_region 1 with (fail)
      rw [← HW1.out]
      go_wp2_with fail
      refine (HV.out _ HX1.out).mono ?_
      rintro _ w2 ⟨rfl, e2⟩
      have HE2 := Lib.hid e2
      clear e2
      go_wp2_with fail
      refine (HNM.out _).mono ?_
      rintro _ w3 ⟨rfl, e3⟩
      have HE3 := Lib.hid (HE2.out.trans e3)
      clear e3
      go_wp2_with fail
      refine (HNW.out _ (HX1.out.trans HE3.out)).mono ?_
      rintro e w4 ⟨e4, g, S, X, k, rfl, hL, hS⟩
      have HSR := Lib.hid (search_any w4 S X _ g E ([], 0, 0) [] k hL HEV.out x [] none 0 0 rfl (by omega) (SliceAt.nil _ _ _ _ _ (by omega)))
      have HL := Lib.hid hL
      have HE4 := Lib.hid e4
      clear hL e4 hS
      go_wp2_with fail
      refine HSR.out.mono ?_
      rintro e w5 ⟨ht, hh⟩
      have HX5 := Lib.hid (HL.out.extTch HE4.out ht)
      have HW5 := Lib.hid (HE3.out.trans HX5.out)
      clear ht
      cases hhit : L.hit ⟨E.objs, E.mems, []⟩ x with
      | twice =>
        rw [hhit] at hh
        subst hh
        have hR' : FV = (zeroB, ([], []), 6) := by rw [HR.out, hhit]; rfl
        have HRB := Lib.hid hR'
        clear hR' hhit
        unfold placeV
        go_wp2_with fail
        refine (none43_any 6 _).mono ?_
        rintro e wz ⟨ez, rfl⟩
        have hz := (HW5.out.alloc _).trans ez
        have hA := (hz.block _ (Array.getElem?_eq_some_iff.1 HR1.out).1).trans HR1.out
        have hB := (hz.block _ (Array.getElem?_eq_some_iff.1 HR2.out).1).trans HR2.out
        obtain ⟨⟨r0, r1, r2, r3, r4, r5, r6, r7⟩, f0, f1, f2, f3, f4, f5, f6, f7⟩ := zcells hA
        obtain ⟨s0, s1, t0, t1⟩ := zcells2 hB
        obtain ⟨hA3, hB3⟩ := zput_rows hA hB
        have HA3 := Lib.hid hA3
        have HB3 := Lib.hid hB3
        have HX3 := Lib.hid (zput_ext (HX1.out.trans hz))
        clear hz ez hA hB hA3 hB3
        go_wp2_with fail
        refine ret_bre rfl rfl rfl rfl HA3.out HB3.out rfl rfl rfl ?_
        rw [HRB.out]
        exact ⟨HX3.out, RetBR.none _ _ _⟩
      | unknown =>
        rw [hhit] at hh
        subst hh
        have hR' : FV = (zeroB, ([], []), 8) := by rw [HR.out, hhit]; rfl
        have HRB := Lib.hid hR'
        clear hR' hhit
        unfold placeV
        go_wp2_with fail
        refine (none43_any 8 _).mono ?_
        rintro e wz ⟨ez, rfl⟩
        have hz := (HW5.out.alloc _).trans ez
        have hA := (hz.block _ (Array.getElem?_eq_some_iff.1 HR1.out).1).trans HR1.out
        have hB := (hz.block _ (Array.getElem?_eq_some_iff.1 HR2.out).1).trans HR2.out
        obtain ⟨⟨r0, r1, r2, r3, r4, r5, r6, r7⟩, f0, f1, f2, f3, f4, f5, f6, f7⟩ := zcells hA
        obtain ⟨s0, s1, t0, t1⟩ := zcells2 hB
        obtain ⟨hA3, hB3⟩ := zput_rows hA hB
        have HA3 := Lib.hid hA3
        have HB3 := Lib.hid hB3
        have HX3 := Lib.hid (zput_ext (HX1.out.trans hz))
        clear hz ez hA hB hA3 hB3
        go_wp2_with fail
        refine ret_bre rfl rfl rfl rfl HA3.out HB3.out rfl rfl rfl ?_
        rw [HRB.out]
        exact ⟨HX3.out, RetBR.none _ _ _⟩
      | lib j =>
        exact absurd (L.hit_lib hhit) (Nat.not_lt_zero _)
      | unit u mm =>
        rw [hhit] at hh
        obtain ⟨rfl, hL5⟩ := hh
        have hR' := HR.out
        rw [hhit] at hR'
        simp only at hR'
        obtain ⟨hu, hsec⟩ : u < E.units.length ∧ (E.sec? (u, x)).isSome = true := L.hit_sec (okN := okN) (E := ⟨E.objs, E.mems, []⟩) HEV.out.units hhit
        obtain ⟨_, _, _, hmm⟩ := L.hit_unit hhit
        have hmm : mm ≤ E.mems.length := hmm
        obtain ⟨c, hc⟩ := Option.isSome_iff_exists.1 hsec
        have hck := L.sec_is hc
        rw [hck] at hR'
        have hfw := HEV.out.few
        have hadd : L.addS (L.note ([], 0, 0) (mm, 0)) (u, x) = .ok ([(u, x)], mm, 0) := by
          unfold L.addS L.note L.has
          simp
        obtain ⟨W6, hW6⟩ : ∃ W6, W6 = w5.alloc (.cells #[.int .i64 (u : Int), .int .i64 (-1)] 101) := ⟨_, rfl⟩
        obtain ⟨pb, hpb⟩ : ∃ pb, pb = w5.heap.size := ⟨_, rfl⟩
        have E6 : Ext w5 W6 := by rw [hW6]; exact (Ext.refl w5).alloc _
        have hb6 : W6.heap[pb]? = some (.cells #[.int .i64 (u : Int), .int .i64 (-1)] 101 (0, 0)) := by rw [hW6, hpb]; exact heap_alloc_new w5 _
        have p0 : W6.cell? ⟨pb, 0, none⟩ = _ := cell_of_row W6 pb 0 _ _ _ hb6
        have HADD := Lib.hid (add_any W6 S X _ g E _ [] k (hL5.ext E6) (u, x) ⟨by show u < _; omega, HX.out⟩ (fun q hq => by cases (show q ∈ [] from hq)) (Nat.zero_le _))
        rw [hadd] at HADD
        have HL6 := Lib.hid (hL5.ext E6)
        have HX6 := Lib.hid (HX5.out.trans E6)
        have HPB := Lib.hid hpb
        have HU := Lib.hid hu
        have HSEC := Lib.hid hsec
        have HMM := Lib.hid hmm
        have HC := Lib.hid hc
        have HRC := Lib.hid hR'
        have HOK : Hid (L.ListOk E [(u, x)]) := ⟨(show 1 ≤ 128 by decide), by simp, fun p hp => by rw [List.mem_singleton.1 hp]; exact ⟨hu, hsec⟩⟩
        clear hhit hL5 hR' hu hsec hmm hc hck hadd E6 hb6 hpb
        unfold placeV
        go_upto_region 6 with (fail)
        rw [← hW6, ← HPB.out]
        clear hW6
        go_wp2_with fail
        refine HADD.out.mono ?_
        rintro e w7 ⟨ht7, rfl, X', k', hX', hL7⟩
        have HX7 := Lib.hid (HL6.out.extTch HX6.out ht7)
        have HDT : Hid (Calls Tryz.prog 49 #[.pointer (some ⟨g, 0, none⟩), .int .i64 0] w7 (RetSec w7 S c)) := data_any w7 S X' _ g E ([(u, x)], mm, 0) [] k' hL7 HEV.out (i := 0) (show 0 < 1 by decide) (show 1 ≤ 128 by decide) HC.out
        have HL7 := Lib.hid hL7
        clear ht7 hX' hL7
        go_wp2_with fail
        refine HDT.out.mono ?_
        rintro e w8 ⟨e8, RA, rc, hRA, rfl⟩
        have HX8 := Lib.hid (HX7.out.trans e8)
        have HL8 := Lib.hid (HL7.out.ext e8)
        obtain ⟨ck, cd, cr⟩ := c
        simp only at HRC
        obtain ⟨rn, hrn⟩ : ∃ rn, rn = cr.length := ⟨_, rfl⟩
        rw [← hrn]
        clear hrn hRA e8 HDT
        have hfd : ∀ W : World, (Instr.field 67 (.agg #[.int .i64 ck, .string cd, .slice RA rn rc]) 0).run Tryz.prog W = .ok (.int .i64 ck) W := fun _ => by kernel_rfl
        by_cases hk : ck = 1
        · subst hk
          have hR' := HRC.out
          rw [if_neg (by decide)] at hR'
          have HRF := Lib.hid hR'
          have HFN := Lib.hid (finish_any w8 S X' _ g E ([(u, x)], mm, 0) k' HL8.out HEV.out HOK.out ⟨HMM.out, Nat.zero_le _⟩ HLZ.out)
          clear hR'
          go_wp2_with fail
          refine HFN.out.mono ?_
          rintro e w9 ⟨ht9, vs, rs, rfl, hBV, hRV, _⟩
          have HX9 := Lib.hid (HL8.out.extTch HX8.out ht9)
          have HTS := Lib.hid ht9.size
          obtain ⟨x10, n1, n2, n3⟩ := two_cells w9
          obtain ⟨n4, n5, n6, y10, _⟩ := two_stores w9 _ vs rs x10 n1 n2
          obtain ⟨W10, hW10⟩ : ∃ W10, W10 = (((w9.alloc (.cells zrow35 35)).alloc (.cells zrow38 38)).setRow w9.heap.size (Array.mk vs)).setRow (w9.heap.size + 1) (Array.mk rs) := ⟨_, rfl⟩
          rw [← hW10] at n5 n6 y10
          have hrow := row35 hBV
          have hone := hBV.one
          have hlen := hBV.len
          have hrow2 := row38 hRV
          have hone2 := hRV.one
          have hlen2 := hRV.len
          have HBV := Lib.hid hBV
          have HRV := Lib.hid hRV
          have H5 := Lib.hid n5
          have H6 := Lib.hid n6
          have HY := Lib.hid y10
          have HRB1 := HE3.out.trans (HX9.out.trans y10)
          have HZ1 := Lib.hid ((HRB1.block _ (Array.getElem?_eq_some_iff.1 HR1.out).1).trans HR1.out)
          have HZ2 := Lib.hid ((HRB1.block _ (Array.getElem?_eq_some_iff.1 HR2.out).1).trans HR2.out)
          have HXX := Lib.hid (HX1.out.trans HRB1)
          have HLT : Hid (w.heap.size + 2 ≤ w8.heap.size) := by
            have h1 := (HE3.out.trans HX8.out).size
            have h2 := HS1.out
            unfold Hid
            omega
          clear ht9 hBV hRV x10 n3 n5 n6 y10 HRB1
          obtain ⟨er, her⟩ : ∃ er, er = (finV E (L.finish E ([(u, x)], mm, 0))).2.2 := ⟨_, rfl⟩
          rw [← her]
          have HER := Lib.hid her
          clear her
          go_upto_region 12 with (first | (refine wpList_store_row rfl 35 (.tmp 15) (.tmp 67) rfl w9.heap.size (Array.mk vs) rfl rfl 35 _ n1 hrow (show 8 = vs.length from hlen.symm) hone ?_) | (refine wpList_store_row rfl 38 (.tmp 16) (.tmp 68) rfl (w9.heap.size + 1) (Array.mk rs) rfl rfl 38 _ n4 hrow2 (show 2 = rs.length from hlen2.symm) hone2 ?_))
          rw [← hW10]
          clear hW10 n1 n2 n4
          obtain ⟨tb, htb⟩ : ∃ tb, tb = w9.heap.size := ⟨_, rfl⟩
          have HTBL : Hid (w8.heap.size ≤ tb) := by
            rw [htb]
            exact HTS.out
          rw [← htb]
          rw [← htb] at H5 H6
          have HTB9 := Lib.hid htb
          clear htb
          cases hfin : L.finish E ([(u, x)], mm, 0) with
          | error ne =>
            have hne0 := L.finish_ne hfin
            have hR' := HRF.out
            rw [hfin] at hR'
            have her := HER.out
            rw [hfin] at her
            have hRB : FV = (zeroB, ([], []), er) := by rw [hR', her]; rfl
            have hen : er = ne := her
            rw [← hen] at hne0
            have q1 : (er == 0) = false := by simpa using hne0
            have HRB := Lib.hid hRB
            have HBE : Hid (BinV W10 (Fresh w8 w9) zeroB vs) := by
              have := HBV.out
              rw [hfin] at this
              exact this.keep (fun _ h => h) fun i hi => HY.out.block i hi.2
            have HRE : Hid (RdV W10 (Fresh w8 w9) ([], []) rs) := by
              have := HRV.out
              rw [hfin] at this
              exact this.keep (fun _ h => h) fun i hi => HY.out.block i hi.2
            have HWE : Hid (Tch (fun i => False) w9 W10) := HY.out.tch _
            have HT1 := H5
            have HT2 := H6
            have HZE1 := HZ1
            have HZE2 := HZ2
            have HXE := HXX
            clear hR' hRB hen her HER hne0 H5 H6 HZ1 HZ2 HXX hfin
            obtain ⟨WE, hWE⟩ : ∃ WE, WE = W10 := ⟨_, rfl⟩
            subst hWE
            have HRW := Lib.hid hrow
            obtain ⟨Φ, hΦ⟩ : ∃ Φ : World → Prop, ∀ W, Φ W ↔ Tch (fun i => i = w.heap.size ∨ i = w.heap.size + 1) WE W := ⟨_, fun _ => Iff.rfl⟩
            have h0 : Φ WE.drew := (hΦ _).2 (((Ext.refl WE).drew).tch _)
            have hfx : ∀ w', (∃ x : Lat Φ, w' = x.w') → w'.heap[tb]? = some (.cells (Array.mk vs) 35 (0, 0)) := by
              rintro w' ⟨z, rfl⟩
              exact (((hΦ _).1 z.h).block _ (Array.getElem?_eq_some_iff.1 HT1.out).1 (by have := HTBL.out; have := HLT.out; omega)).trans HT1.out
            have hfy : ∀ w', (∃ x : Lat Φ, w' = x.w') → w'.heap[tb + 1]? = some (.cells (Array.mk rs) 38 (0, 0)) := by
              rintro w' ⟨z, rfl⟩
              exact (((hΦ _).1 z.h).block _ (Array.getElem?_eq_some_iff.1 HT2.out).1 (by have := HTBL.out; have := HLT.out; omega)).trans HT2.out
            have hne := Lat.some h0
            have HFX := Lib.hid hfx
            have HFY := Lib.hid hfy
            have HPH := Lib.hid hΦ
            clear hfx hfy hΦ
            go_upto_region 14 with (fail)
            refine wp_region_tail 5 [3, 4] Φ h0 (by kernel_rfl) (by kernel_rfl) (by kernel_rfl) ?_
            simp only [List.take_succ_cons, List.take_zero, List.drop_succ_cons, List.drop_zero]
            refine lex_pure rfl rfl rfl ?_
            intro K hK
            refine quiet_load_row 35 _ rfl tb rfl 35 (Array.mk vs) (0, 0) _ HFX.out Tryz.underlying35 rfl hrow ?_
            go_simp
            go_big_quiet_on
            refine lex_pure rfl rfl rfl ?_
            intro K hK
            refine quiet_load_row 38 _ rfl (tb + 1) rfl 38 (Array.mk rs) (0, 0) _ HFY.out Tryz.underlying38 rfl hrow2 ?_
            go_simp
            go_big_quiet_on
            refine lex_pure rfl rfl rfl ?_; intro K hK; go_big_quiet_op; go_big_quiet_on
            refine lex_eff rfl ?_
            have hA8 := HZE1.out
            have hB8 := HZE2.out
            go_wp2_with (refine wpList_store_row rfl 35 (.tmp 8) (.tmp 73) rfl w.heap.size (Array.mk vs) rfl rfl 35 _ hA8 hrow (show 8 = vs.length from hlen.symm) hone ?_)
            obtain ⟨s1, s2, s3, s4, s5⟩ := two_stores w WE.drew vs rs (HXE.out.drew) hA8 hB8
            have hT6 : Tch (fun i => i = w.heap.size ∨ i = w.heap.size + 1) WE (WE.drew.setRow w.heap.size (Array.mk vs)) := (((Ext.refl WE).drew).tch _).trans ((tch_setRow _ _ _).mono fun _ _ h => .inl h)
            refine ⟨⟨⟨_, (HPH.out _).2 hT6⟩, rfl⟩, ?_⟩
            refine lex_eff rfl ?_
            go_wp2_with (refine wpList_store_row rfl 38 (.tmp 9) (.tmp 74) rfl (w.heap.size + 1) (Array.mk rs) rfl rfl 38 _ s1 hrow2 (show 2 = rs.length from hlen2.symm) hone2 ?_)
            refine ⟨⟨⟨_, (HPH.out _).2 ((((Ext.refl WE).drew).tch _).trans s5)⟩, rfl⟩, ?_⟩
            refine lex_nil ?_
            show wpList _ _ _ (_ :: []) _ _
            go_wp2_with fail
            refine ret_bre rfl rfl rfl rfl s2 s3 hlen hlen2 rfl ?_
            rw [HRB.out]
            have hdr : WE.drew.heap.size = WE.heap.size := rfl
            refine ⟨s4, _, _, rfl, ?_, ?_⟩
            · refine HBE.out.keep (fun i hi => ?_) fun i hi => ?_
              · have h1 := hi.1
                have h2 := hi.2
                have h3 := s5.size
                have h4 := HWE.out.size
                have h5 := HLT.out
                exact ⟨by omega, by omega⟩
              · have h1 := hi.1
                have h2 := hi.2
                have h5 := HLT.out
                have h6 := HWE.out
                exact (s5.block i (by have := h6.size; omega) (by omega)).trans rfl
            · refine HRE.out.keep (fun i hi => ?_) fun i hi => ?_
              · have h1 := hi.1
                have h2 := hi.2
                have h3 := s5.size
                have h4 := HWE.out.size
                have h5 := HLT.out
                exact ⟨by omega, by omega⟩
              · have h1 := hi.1
                have h2 := hi.2
                have h5 := HLT.out
                have h6 := HWE.out
                exact (s5.block i (by have := h6.size; omega) (by omega)).trans rfl
          | ok sf =>
            have hR' := HRF.out
            rw [hfin] at hR'
            have her := HER.out
            rw [hfin] at her
            have her0 : er = 0 := her
            have hRB : FV = (E.bin sf.1 1 0 [], E.reading sf.2, er) := by rw [hR', her0]; rfl
            have HRB := Lib.hid hRB
            have hBE0 : BinV W10 (Fresh w8 w9) (E.bin sf.1 0 0 []) vs := by
              have := HBV.out
              rw [hfin] at this
              exact this.keep (fun _ h => h) fun i hi => HY.out.block i hi.2
            have hRE0 : RdV W10 (Fresh w8 w9) (E.reading sf.2) rs := by
              have := HRV.out
              rw [hfin] at this
              exact this.keep (fun _ h => h) fun i hi => HY.out.block i hi.2
            have hBE1 := hBE0.kind 1 (by decide)
            obtain ⟨WE, hWE⟩ : ∃ WE, WE = W10.setCell ⟨tb, 0, none⟩ (.int .i64 1) := ⟨_, rfl⟩
            have hTE : Tch (fun i => i = tb) W10 WE := by rw [hWE]; exact grown_tch (grownBy_setCell W10 ⟨tb, 0, none⟩ _)
            obtain ⟨v1, hv1⟩ : ∃ v1, v1 = vs.set 0 (.int .i64 1) := ⟨_, rfl⟩
            have hT1 : WE.heap[tb]? = some (.cells (Array.mk v1) 35 (0, 0)) := by
              rw [hWE, heap_setCell_cells H5.out 0 _, hv1]
              simp
            rw [← hv1] at hBE1
            have hf1 : tb ≠ w.heap.size ∧ tb ≠ w.heap.size + 1 := by have := HTBL.out; have := HLT.out; omega
            have hz1 := (hTE.block _ (Array.getElem?_eq_some_iff.1 HZ1.out).1 (Ne.symm hf1.1)).trans HZ1.out
            have hz2 := (hTE.block _ (Array.getElem?_eq_some_iff.1 HZ2.out).1 (Ne.symm hf1.2)).trans HZ2.out
            have hT2 := (hTE.block _ (Array.getElem?_eq_some_iff.1 H6.out).1 (by omega)).trans H6.out
            have k0 : W10.cell? ⟨tb, 0, none⟩ = (Array.mk vs)[0]? := cell_of_row W10 tb 0 _ _ _ H5.out
            have kf := Lib.frozen_of_heap H5.out 0
            have hv0 : ∃ y, (Array.mk vs)[0]? = some y := ⟨_, Array.getElem?_eq_getElem (by show 0 < vs.length; omega)⟩
            obtain ⟨y0, hy0⟩ := hv0
            rw [hy0] at k0
            have HBE : Hid (BinV WE (Fresh w8 w9) (E.bin sf.1 1 0 []) v1) := hBE1.keep (fun _ h => h) fun i hi => hTE.block i (Nat.lt_of_lt_of_le hi.2 HY.out.size) (by have h9 := hi.2; have := HTB9.out; omega)
            have HRE : Hid (RdV WE (Fresh w8 w9) (E.reading sf.2) rs) := hRE0.keep (fun _ h => h) fun i hi => hTE.block i (Nat.lt_of_lt_of_le hi.2 HY.out.size) (by have h9 := hi.2; have := HTB9.out; omega)
            have HWE : Hid (Tch (fun i => i = tb) w9 WE) := (HY.out.tch _).trans hTE
            have HXE : Hid (Ext w WE) := by
              have h1 : Tch (fun _ => False) w W10 := HXX.out.tch _
              exact (h1.trans' hTE fun i hi e => absurd hi (by have := HTBL.out; have := HLT.out; omega)).ext fun _ _ h => h
            have HT1 := Lib.hid hT1
            have HT2 := Lib.hid hT2
            have HZE1 := Lib.hid hz1
            have HZE2 := Lib.hid hz2
            have hrow1 := row35 HBE.out
            have hone1 := HBE.out.one
            have hlen1 := HBE.out.len
            clear hR' hRB hBE0 hRE0 hBE1 hTE hT1 hT2 hz1 hz2 hf1 HZ1 HZ2 H5 H6 HXX hfin hrow hone hlen hv1 hy0
            clear her HER
            subst her0
            go_upto_region 14 with (fail)
            rw [← hWE]
            clear hWE k0 kf
            obtain ⟨Φ, hΦ⟩ : ∃ Φ : World → Prop, ∀ W, Φ W ↔ Tch (fun i => i = w.heap.size ∨ i = w.heap.size + 1) WE W := ⟨_, fun _ => Iff.rfl⟩
            have h0 : Φ WE.drew := (hΦ _).2 (((Ext.refl WE).drew).tch _)
            have hfx : ∀ w', (∃ x : Lat Φ, w' = x.w') → w'.heap[tb]? = some (.cells (Array.mk v1) 35 (0, 0)) := by
              rintro w' ⟨z, rfl⟩
              exact (((hΦ _).1 z.h).block _ (Array.getElem?_eq_some_iff.1 HT1.out).1 (by have := HTBL.out; have := HLT.out; omega)).trans HT1.out
            have hfy : ∀ w', (∃ x : Lat Φ, w' = x.w') → w'.heap[tb + 1]? = some (.cells (Array.mk rs) 38 (0, 0)) := by
              rintro w' ⟨z, rfl⟩
              exact (((hΦ _).1 z.h).block _ (Array.getElem?_eq_some_iff.1 HT2.out).1 (by have := HTBL.out; have := HLT.out; omega)).trans HT2.out
            have hne := Lat.some h0
            have HFX := Lib.hid hfx
            have HFY := Lib.hid hfy
            have HPH := Lib.hid hΦ
            clear hfx hfy hΦ
            refine wp_region_tail 5 [3, 4] Φ h0 (by kernel_rfl) (by kernel_rfl) (by kernel_rfl) ?_
            simp only [List.take_succ_cons, List.take_zero, List.drop_succ_cons, List.drop_zero]
            refine lex_pure rfl rfl rfl ?_
            intro K hK
            refine quiet_load_row 35 _ rfl tb rfl 35 (Array.mk v1) (0, 0) _ HFX.out Tryz.underlying35 rfl hrow1 ?_
            go_simp
            go_big_quiet_on
            refine lex_pure rfl rfl rfl ?_
            intro K hK
            refine quiet_load_row 38 _ rfl (tb + 1) rfl 38 (Array.mk rs) (0, 0) _ HFY.out Tryz.underlying38 rfl hrow2 ?_
            go_simp
            go_big_quiet_on
            refine lex_pure rfl rfl rfl ?_; intro K hK; go_big_quiet_op; go_big_quiet_on
            refine lex_eff rfl ?_
            have hA8 := HZE1.out
            have hB8 := HZE2.out
            go_wp2_with (refine wpList_store_row rfl 35 (.tmp 8) (.tmp 73) rfl w.heap.size (Array.mk v1) rfl rfl 35 _ hA8 hrow1 (show 8 = v1.length from hlen1.symm) hone1 ?_)
            obtain ⟨s1, s2, s3, s4, s5⟩ := two_stores w WE.drew v1 rs (HXE.out.drew) hA8 hB8
            have hT6 : Tch (fun i => i = w.heap.size ∨ i = w.heap.size + 1) WE (WE.drew.setRow w.heap.size (Array.mk v1)) := (((Ext.refl WE).drew).tch _).trans ((tch_setRow _ _ _).mono fun _ _ h => .inl h)
            refine ⟨⟨⟨_, (HPH.out _).2 hT6⟩, rfl⟩, ?_⟩
            refine lex_eff rfl ?_
            go_wp2_with (refine wpList_store_row rfl 38 (.tmp 9) (.tmp 74) rfl (w.heap.size + 1) (Array.mk rs) rfl rfl 38 _ s1 hrow2 (show 2 = rs.length from hlen2.symm) hone2 ?_)
            refine ⟨⟨⟨_, (HPH.out _).2 ((((Ext.refl WE).drew).tch _).trans s5)⟩, rfl⟩, ?_⟩
            refine lex_nil ?_
            show wpList _ _ _ (_ :: []) _ _
            go_wp2_with fail
            refine ret_bre rfl rfl rfl rfl s2 s3 hlen1 hlen2 rfl ?_
            rw [HRB.out]
            have hdr : WE.drew.heap.size = WE.heap.size := rfl
            refine ⟨s4, _, _, rfl, ?_, ?_⟩
            · refine HBE.out.keep (fun i hi => ?_) fun i hi => ?_
              · have h1 := hi.1
                have h2 := hi.2
                have h3 := s5.size
                have h4 := HWE.out.size
                have h5 := HLT.out
                exact ⟨by omega, by omega⟩
              · have h1 := hi.1
                have h2 := hi.2
                have h5 := HLT.out
                have h6 := HWE.out
                exact (s5.block i (by have := h6.size; omega) (by omega)).trans rfl
            · refine HRE.out.keep (fun i hi => ?_) fun i hi => ?_
              · have h1 := hi.1
                have h2 := hi.2
                have h3 := s5.size
                have h4 := HWE.out.size
                have h5 := HLT.out
                exact ⟨by omega, by omega⟩
              · have h1 := hi.1
                have h2 := hi.2
                have h5 := HLT.out
                have h6 := HWE.out
                exact (s5.block i (by have := h6.size; omega) (by omega)).trans rfl
        · have hR' := HRC.out
          rw [if_pos hk] at hR'
          have hRB : FV = (zeroB, ([], []), 9) := hR'
          have HRB := Lib.hid hRB
          have q1 : (ck == 1) = false := by simpa using hk
          have q2 : (ck != 1) = true := by simp [bne, q1]
          clear hR' hRB
          go_wp2_with fail
          refine (none43_any 9 _).mono ?_
          rintro e wz ⟨ez, rfl⟩
          have hz := (HE3.out.trans HX8.out).trans ez
          have hA := (hz.block _ (Array.getElem?_eq_some_iff.1 HR1.out).1).trans HR1.out
          have hB := (hz.block _ (Array.getElem?_eq_some_iff.1 HR2.out).1).trans HR2.out
          obtain ⟨⟨r0, r1, r2, r3, r4, r5, r6, r7⟩, f0, f1, f2, f3, f4, f5, f6, f7⟩ := zcells hA
          obtain ⟨s0, s1, t0, t1⟩ := zcells2 hB
          obtain ⟨hA3, hB3⟩ := zput_rows hA hB
          have HA3 := Lib.hid hA3
          have HB3 := Lib.hid hB3
          have HX3 := Lib.hid (zput_ext (HX1.out.trans hz))
          clear hz ez hA hB hA3 hB3
          go_wp2_with fail
          refine ret_bre rfl rfl rfl rfl HA3.out HB3.out rfl rfl rfl ?_
          rw [HRB.out]
          exact ⟨HX3.out, RetBR.none _ _ _⟩
end Go.Proofs.YtfbhchpbflaphaaGreatDoor

/- Plain facts for Share: its names, the start of its list, its exports. -/
namespace Go.Proofs.YtfbhchpbflaphaaGreatDoor
open Go.RowKit Go.Maps Go.ChangeMaps

def expC (y : L.Expd) : List Value := [.string y.1, .int .i64 y.2]
theorem expC_one (y : L.Expd) : ∀ u ∈ expC y, u.oneCell' = true := by
  intro u hu
  simp only [expC, List.mem_cons, List.not_mem_nil, or_false] at hu
  rcases hu with rfl | rfl <;> rfl
theorem info74 : (Tryz.prog.info? 74).map (fun i => (i.zero, i.size, i.bytes)) = some (some (.agg #[.string ⟨#[]⟩, .int .i64 0]), 2, 24) := by kernel_rfl
def mkN (b : C.Bs) : ByteArray := ⟨b.toArray⟩
theorem mkN_inj {a b : C.Bs} (h : mkN a = mkN b) : a = b := by
  have := congrArg (fun s : ByteArray => s.data.toList) h
  simpa [mkN] using this
/-- The names of Share. -/
def namesE (objs : List C.Mem) : List ByteArray := (L.expNames objs).map mkN
theorem namesE_len (objs : List C.Mem) : (namesE objs).length = (L.expNames objs).length := by unfold namesE; rw [List.length_map]
theorem namesE_new {objs : List C.Mem} {k : Nat} (hk : k < (namesE objs).length) : (namesE objs)[k] ∉ (namesE objs).take k := by
  intro hm
  obtain ⟨i, hi, e⟩ := List.mem_iff_getElem.1 hm
  rw [List.getElem_take] at e
  have hik : i < k := by rw [List.length_take] at hi; omega
  have hs := expNames_sorted objs
  rw [List.pairwise_iff_getElem] at hs
  rw [namesE_len] at hk
  have h1 := hs i k (by omega) hk hik
  have e2 : mkN (L.expNames objs)[i] = mkN (L.expNames objs)[k] := by simpa [namesE] using e
  rw [mkN_inj e2] at h1
  exact List.lt_irrefl _ h1
theorem namesE_size {objs : List C.Mem} (h : MemSizes objs) : ∀ y ∈ namesE objs, y.size ≤ 9000000 := by
  intro y hy
  obtain ⟨b, hb, rfl⟩ := List.mem_map.1 hy
  rw [expNames_is] at hb
  have h1 := (C.foldl_ins (objs.flatMap fun m => expL m.2.1) [] List.Pairwise.nil).2 b
  have h2 := h1.1 hb
  simp only [List.not_mem_nil, false_or] at h2
  obtain ⟨m, hm, h3⟩ := List.mem_flatMap.1 h2
  unfold expL at h3
  obtain ⟨s, hs, rfl⟩ := List.mem_map.1 h3
  have := (h m hm).2 s (List.mem_filter.1 hs).1
  have e : mkN (C.nm s) = s.1 := by
    show (⟨s.1.data.toList.toArray⟩ : ByteArray) = s.1
    rw [Array.toArray_toList]
  rw [e]
  exact this
theorem starts_at {E : L.Env} {ns : List ByteArray} {k : Nat} (hk : k < ns.length) (st : L.St) : L.starts E (ns.drop k) st = match L.hit E ns[k] with
    | .unit u m => match L.addS (L.note st (m, 0)) (u, ns[k]) with
      | .error e => .error e
      | .ok st' => L.starts E (ns.drop (k + 1)) st'
    | .twice => .error 6
    | _ => .error 8 := by
  rw [List.drop_eq_getElem_cons hk]
  rfl
theorem addS_new {st : L.St} {u m : Nat} {x : ByteArray} (hx : x ∉ st.1.map (·.2)) : L.addS (L.note st (m, 0)) (u, x) = if 128 ≤ st.1.length then .error 10 else .ok (st.1 ++ [(u, x)], max st.2.1 m, max st.2.2 0) := by
  have hn : L.has st.1 (u, x) = false := by
    rw [Bool.eq_false_iff]
    intro h
    exact hx (List.mem_map.2 ⟨_, L.has_iff.1 h, rfl⟩)
  unfold L.addS L.note
  simp only [hn]
  rfl
theorem new_spot {st : L.St} {u : Nat} {x : ByteArray} (hx : x ∉ st.1.map (·.2)) : (u, x) ∉ st.1 := fun h => hx (List.mem_map.2 ⟨_, h, rfl⟩)
/-- The exports, one for each name. -/
def exL (E : L.Env) (l : List L.Spot) (ns : List ByteArray) : List L.Expd := (ns.zip (E.atL l)).map fun q => (q.1, (q.2 : Int))
theorem exL_len {E : L.Env} {l : List L.Spot} {ns : List ByteArray} (h : ns.length ≤ l.length) : (exL E l ns).length = ns.length := by
  have : (E.atL l).length = l.length := by unfold L.Env.atL; rw [L.ats_len]; unfold L.Env.sizes; simp
  unfold exL
  rw [List.length_map, List.length_zip]
  omega
theorem exL_get {E : L.Env} {l : List L.Spot} {ns : List ByteArray} {k : Nat} (hk : k < ns.length) (h : k < l.length) : (exL E l ns)[k]? = some (ns[k], ((L.up (L.fin ((E.sizes l).take k) 0) : Nat) : Int)) := by
  have hz : (ns.zip (E.atL l))[k]? = some (ns[k], L.up (L.fin ((E.sizes l).take k) 0)) := by
    rw [List.getElem?_zip_eq_some]
    exact ⟨List.getElem?_eq_getElem hk, at_get h⟩
  unfold exL
  rw [List.getElem?_map, hz]
  rfl
theorem exL_take {E : L.Env} {l : List L.Spot} {ns : List ByteArray} {k : Nat} (hk : k < ns.length) (h : ns.length ≤ l.length) : (exL E l ns).take (k + 1) = (exL E l ns).take k ++ [(ns[k], ((L.up (L.fin ((E.sizes l).take k) 0) : Nat) : Int))] := by
  have hk2 : k < (exL E l ns).length := by rw [exL_len h]; exact hk
  rw [List.take_succ_eq_append_getElem hk2]
  have := exL_get (E := E) (l := l) hk (by omega)
  rw [List.getElem?_eq_getElem hk2] at this
  rw [Option.some.inj this]
theorem catE_len {l : List C.Mem} (h : ∀ m ∈ l, m.2.1.length ≤ 128) : (catE l).length ≤ l.length * 128 :=
  length_flatMap_le fun m hm => Nat.le_trans (exports_len _) (Nat.le_trans (expL_len _) (h m hm))
/-- What Share makes of the binary. -/
theorem BinV.share {w W : World} {B B' : Nat → Prop} {E : L.Env} {l : List L.Spot} {vs : List Value} (h : BinV w B (E.bin l 0 0 []) vs) (hB : ∀ k, B k → B' k) (hw : ∀ k, B k → W.heap[k]? = w.heap[k]?) {A : Option Addr} {c : Nat} {ex : List L.Expd} (hA : SliceAt expR W B' A c ex) :
    BinV W B' (E.bin l 2 (-1) ex) (((vs.set 0 (.int .i64 2)).set 1 (.int .i64 (-1))).set 6 (.slice A ex.length c)) := by
  obtain ⟨A1, c1, A2, c2, A3, c3, A4, c4, A5, c5, rfl, h1, h2, h3, h4, h5, _, _, k3⟩ := h.form
  exact ⟨⟨A1, c1, A2, c2, A3, c3, A, c, A5, c5, rfl, h1.keep hB hw, h2.keep hB hw, h3.keep hB hw, hA, h5.keep hB hw, (by decide : (Lit.int .i64 2).wf = true), (by decide : (Lit.int .i64 (-1)).wf = true), k3⟩⟩
end Go.Proofs.YtfbhchpbflaphaaGreatDoor

/- What the last loop of Share needs. -/
namespace Go.Proofs.YtfbhchpbflaphaaGreatDoor
open Go.RowKit Go.Maps Go.ChangeMaps

theorem finish_ok {E : L.Env} (hU : L.UnitsOk okN E) {st sf : L.St} (h : L.finish E st = .ok sf) (hL : L.ListOk E st.1) : L.ListOk E sf.1 ∧ st.1 <+: sf.1 ∧ L.selF E 129 0 st = .ok sf ∧ L.fin (E.sizes sf.1) 0 ≤ 65536 := by
  unfold L.finish at h
  split at h
  · cases h
  · rename_i s hs
    split at h
    · cases h
    · rename_i hf
      cases h
      obtain ⟨h1, h2, _⟩ := L.selF_ok hU hs (by omega) (Nat.zero_le _) hL fun i _ hi => absurd hi (Nat.not_lt_zero _)
      exact ⟨h1, h2, hs, by omega⟩
theorem set_same {α : Type} {l : List α} {i : Nat} {x : α} (h : l[i]? = some x) : l.set i x = l := by
  apply List.ext_getElem?
  intro j
  rw [List.getElem?_set]
  by_cases e : i = j
  · subst e
    rw [if_pos rfl, h]
    have := (List.getElem?_eq_some_iff.1 h).1
    simp [this]
  · rw [if_neg e]
/-- Where place k stands. -/
theorem plc_at {w : World} {B : Nat → Prop} {A : Option Addr} {c k : Nat} {l : List L.Plc} (h : SliceAt plcR w B A c l) (hk : k < l.length) : ∃ b off, A = some ⟨b, off, none⟩ ∧ B b ∧ w.cell? ⟨b, off + k * 5 + 3, none⟩ = some (.int .i64 l[k].2.2.2.1) := by
  obtain ⟨b, off, rfl, hb, hr⟩ := h.2.2 (by intro h; rw [h] at hk; simp at hk)
  obtain ⟨us, ⟨x1, y1, rfl, ⟨rfl, _⟩, x2, y2, rfl, ⟨rfl, _⟩, x3, y3, rfl, ⟨rfl, _⟩, x4, y4, rfl, ⟨rfl, _⟩, h5⟩, hc⟩ := hr k hk
  exact ⟨b, off, rfl, hb, hc 3 _ rfl⟩
theorem at_le {E : L.Env} (hE : EnvOk E) {l : List L.Spot} (h : L.ListOk E l) {k : Nat} (hk : k < l.length) : L.up (L.fin ((E.sizes l).take k) 0) ≤ 2000000 := by
  have hz : (l.zip (E.atL l))[k]? = some (l[k], L.up (L.fin ((E.sizes l).take k) 0)) := by
    rw [List.getElem?_zip_eq_some]
    exact ⟨List.getElem?_eq_getElem hk, at_get hk⟩
  exact (at_small hE h (List.mem_of_getElem? hz)).2
theorem exp_is {E : L.Env} (hE : EnvOk E) {l : List L.Spot} (h : L.ListOk E l) {ns : List ByteArray} (hn : ns.length ≤ l.length) (hs : ∀ y ∈ ns, y.size ≤ 9223372036854775807) {w : World} {B : Nat → Prop} : ∀ a ∈ exL E l ns, expR.is w B a (expC a) := by
  intro a ha
  obtain ⟨i, hi, rfl⟩ := List.mem_iff_getElem.1 ha
  rw [exL_len hn] at hi
  have h1 := exL_get (E := E) (l := l) hi (by omega)
  rw [List.getElem?_eq_getElem (by rw [exL_len hn]; exact hi)] at h1
  rw [Option.some.inj h1]
  have h2 := at_le hE h (k := i) (by omega)
  exact ⟨_, _, rfl, ⟨rfl, hs _ (List.getElem_mem hi)⟩, rfl, wf_nat (by omega)⟩
/-- The state of the last loop of Share: the binary at tb, its exports vE so far. -/
structure ExAt (W1 : World) (tb : Nat) (v1 : List Value) (ex : List L.Expd) (j : Nat) (vE : Value) (wr : World) : Prop where
  tch : Tch (fun i => i = tb) W1 wr
  row : wr.heap[tb]? = some (.cells (Array.mk (v1.set 6 vE)) 35 (0, 0))
  own : OwnL expC 74 2 wr W1.heap.size vE j (ex.take j)
  low : tb < W1.heap.size
theorem ExAt.pushed {W1 a d : World} {tb j m : Nat} {v1 : List Value} {ex : List L.Expd} {vE v' : Value} (h : ExAt W1 tb v1 ex j vE a) (h8 : v1.length = 8) (ho : OwnL expC 74 2 d W1.heap.size v' m (ex.take m)) (hg : Tch (fun i => vE.ownBlock = some i) a d) :
    ExAt W1 tb v1 ex m v' (d.setCell ⟨tb, 6, none⟩ v') ∧ d.cell? ⟨tb, 6, none⟩ = some vE ∧ d.frozen? ⟨tb, 6, none⟩ = false := by
  have hl := fun b hb => h.own.lt (k := b) hb
  have hlo := h.low
  have b1 := (hg.block _ (Array.getElem?_eq_some_iff.1 h.row).1 fun e => by have := (hl _ e).1; omega).trans h.row
  have hS : Tch (fun i => i = tb) d (d.setCell ⟨tb, 6, none⟩ v') := grown_tch (grownBy_setCell d ⟨tb, 6, none⟩ v')
  refine ⟨?_, ?_, Lib.frozen_of_heap b1 6⟩
  · exact {
      tch := (h.tch.trans' hg fun i hi e => absurd hi (by have := (hl i e).1; omega)).trans hS
      row := by
        have := heap_setCell_cells b1 6 v'
        rw [this]
        simp
      own := ho.tch hS fun b hb e => by have := (ho.lt hb).1; omega
      low := hlo }
  · have := cell_of_row d _ 6 _ _ _ b1
    rw [this]
    rw [← Array.getElem?_toList]
    exact List.getElem?_set_self (by omega)
theorem flat_ints : ∀ l : List Int, l.flatMap intC = l.map fun n => Value.int .i64 n
  | [] => rfl
  | x :: l => by rw [List.flatMap_cons, List.map_cons, flat_ints l]; rfl
end Go.Proofs.YtfbhchpbflaphaaGreatDoor
