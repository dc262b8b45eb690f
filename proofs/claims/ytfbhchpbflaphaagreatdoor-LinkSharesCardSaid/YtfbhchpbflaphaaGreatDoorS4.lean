/- The texts Og Oh Oi of the seat, joined. -/
import Derived.Test.YtfbhchpbflaphaaGreatDoorS3
namespace Go.Proofs.YtfbhchpbflaphaaGreatDoor
open Go.RowKit Go.Maps Go.ChangeMaps
set_option linter.unusedVariables false
def relG (syms : List C.Sym) (d : List UInt8) (r : C.Rel) (e : Int) : Bool :=
 decide (e <= r.1) && decide (r.1 <= (d.length : Int) - 4) && decide ((d.drop r.1.toNat).take 4 = [0, 0, 0, 0]) && (C.idx syms r.2.data.toList).isSome
def endR : List C.Rel -> Int -> Int
 | [], e => e
 | r :: l, _ => endR l (r.1 + 4)
theorem relsB_cons (syms : List C.Sym) (d : List UInt8) (r : C.Rel) (l : List C.Rel) (e : Int) : C.relsB syms d (r :: l) e = (relG syms d r e && C.relsB syms d l (r.1 + 4)) := rfl
theorem relsB_append (syms : List C.Sym) (d : List UInt8) : ∀ (l1 l2 : List C.Rel) (e : Int), C.relsB syms d (l1 ++ l2) e = (C.relsB syms d l1 e && C.relsB syms d l2 (endR l1 e))
 | [], l2, e => by simp [C.relsB, endR]
 | r :: l1, l2, e => by rw [List.cons_append, relsB_cons, relsB_cons, relsB_append syms d l1 l2, endR, Bool.and_assoc]
theorem endR_append : ∀ (l : List C.Rel) (r : C.Rel) (e : Int), endR (l ++ [r]) e = r.1 + 4
 | [], _, _ => rfl
 | _ :: l, r, e => by rw [List.cons_append, endR, endR_append l r]
theorem rel_split {rs : List C.Rel} {k : Nat} (hk : k < rs.length) (syms : List C.Sym) (d : List UInt8) (h : C.relsB syms d (rs.take k) 0 = true) :
 C.relsB syms d rs 0 = (relG syms d rs[k] (endR (rs.take k) 0) && C.relsB syms d (rs.drop (k + 1)) (rs[k].1 + 4)) /\
  C.relsB syms d (rs.take (k + 1)) 0 = relG syms d rs[k] (endR (rs.take k) 0) /\ endR (rs.take (k + 1)) 0 = rs[k].1 + 4 := by
 refine ⟨?_, ?_, ?_⟩
 ·conv => lhs; rw [<- List.take_append_drop k rs, List.drop_eq_getElem_cons hk]
  rw [relsB_append, h, relsB_cons, Bool.true_and]
 ·rw [List.take_succ_eq_append_getElem hk, relsB_append, h, relsB_cons]
  simp [C.relsB]
 ·rw [List.take_succ_eq_append_getElem hk, endR_append]
def relTo (syms : List C.Sym) (d : List UInt8) (rs : List C.Rel) (k : Nat) (e : Int) : Prop := C.relsB syms d (rs.take k) 0 = true /\ endR (rs.take k) 0 = e /\ 0 <= e /\ e <= 9223372036854775807
theorem relTo_zero (syms : List C.Sym) (d : List UInt8) (rs : List C.Rel) : relTo syms d rs 0 0 := ⟨rfl, rfl, by decide, by decide⟩
theorem relTo_bad {syms : List C.Sym} {d : List UInt8} {rs : List C.Rel} {k : Nat} {e : Int} (h : relTo syms d rs k e) (hk : k < rs.length) (hb : relG syms d rs[k] e = false) : C.relsB syms d rs 0 = false := by
 have := (rel_split hk syms d h.1).1
 rw [h.2.1, hb] at this
 exact this
theorem relTo_on {syms : List C.Sym} {d : List UInt8} {rs : List C.Rel} {k : Nat} {e : Int} (h : relTo syms d rs k e) (hk : k < rs.length) (hd : d.length <= 9223372036854775807) (hb : relG syms d rs[k] e = true) : relTo syms d rs (k + 1) (rs[k].1 + 4) := by
 obtain ⟨h1, h2, h3⟩ := rel_split hk syms d h.1
 rw [h.2.1, hb] at h2
 have : e <= rs[k].1 /\ rs[k].1 <= (d.length : Int) - 4 := by
  unfold relG at hb
  simp only [Bool.and_eq_true, decide_eq_true_eq] at hb
  exact ⟨hb.1.1.1, hb.1.1.2⟩
 have := h.2.2.1
 exact ⟨h2, h3, by omega, by omega⟩
theorem relTo_end {syms : List C.Sym} {d : List UInt8} {rs : List C.Rel} {e : Int} (h : relTo syms d rs rs.length e) : C.relsB syms d rs 0 = true := by
 have := h.1
 rwa [List.take_length] at this
theorem rel_get {w : World} {A : Option Addr} {c k : Nat} {l : List C.Rel} (h : SliceAt relR w (Old w) A c l) (hk : k < l.length) :
 ∃ b off a s, A = some ⟨b, off, none⟩ /\ l[k] = (a, s) /\ (Lit.int .i64 a).wf = true /\ s.size <= 9223372036854775807 /\
  ∀ w', Ext w w' -> w'.cell? ⟨b, off + k * 2, none⟩ = some (.int .i64 a) /\ w'.cell? ⟨b, off + k * 2 + 1, none⟩ = some (.string s) := by
 obtain ⟨b, off, rfl, _, hr⟩ := h.2.2 (by intro h; rw [h] at hk; simp at hk)
 obtain ⟨us, ⟨x, y, rfl, ⟨rfl, hm⟩, rfl, hs⟩, hc⟩ := hr k hk
 exact ⟨b, off, l[k].1, l[k].2, rfl, rfl, hm, hs, fun w' h' => ⟨h'.keepc (hc 0 _ rfl), h'.keepc (hc 1 _ rfl)⟩⟩
set_option maxRecDepth 8000 in
set_option maxHeartbeats 2000000 in
theorem section_any (syms : List C.Sym) (kd : Int) (d : ByteArray) (rs : List C.Rel) (A : Option Addr) (c n b : Nat) (w : World) (hn : n = rs.length) (hA : SliceAt relR w (Old w) A c rs) (hm : MapTo w b syms syms.length)
 (hd : d.size <= 9223372036854775807) (hkd : (Lit.int .i64 kd).wf = true) :
 Calls Tryz.prog 128 #[.agg #[.int .i64 kd, .string d, .slice A n c], .map (some b)] w (Al (.bool (C.secB syms (kd, d, rs))) w) := by
 have hdl : d.data.toList.length = d.size := by simp
 have hn2 : n <= 9223372036854775807 := by have := hA.1; have := hA.2.1; omega
 have hw4 : ∀ i : Int, 0 <= i -> i <= 9223372036854775807 -> IntKind.i64.wrap i = i := fun i _ _ => by unfold IntKind.wrap; simp [IntKind.bits, IntKind.signed]; omega
 rcases Bool.eq_false_or_eq_true (C.kindB kd d.size) with hk | hk
 ·have hR : C.secB syms (kd, d, rs) = (C.relsB syms d.data.toList rs 0 && decide (d.size <= 8192)) := by
   unfold C.secB
   rw [hk]
   rfl
  have FT := Lib.hid (fun k e (hk : k < rs.length) (h : relTo syms d.data.toList rs k e) (hb : relG syms d.data.toList rs[k] e = false) => show C.secB syms (kd, d, rs) = false by rw [hR, relTo_bad h hk hb]; rfl)
  have FE := Lib.hid (fun e (h : relTo syms d.data.toList rs rs.length e) => show C.secB syms (kd, d, rs) = decide (d.size <= 8192) by rw [hR, relTo_end h]; rfl)
  generalize C.secB syms (kd, d, rs) = R at FT FE ⊢
  have HN := Lib.hid hn
  have HA := Lib.hid hA
  have HM := Lib.hid hm
  have hcs : (kd = 1 /\ 2 <= (d.size : Int)) ∨ (kd = 2 /\ (d.size : Int).tmod 4 = 0) := by
   rw [Int.tmod_eq_emod_of_nonneg (by omega)]
   simp [C.kindB] at hk
   omega
  clear hn hA hm hR hk
  rcases hcs with ⟨rfl, h4⟩ | ⟨rfl, h4⟩
  all_goals
   go_enter Tryz.func128, Tryz.ntmps128
   go_wp2_with fail
   go_loopw [33, 5] (fun i ee wr => ∃ (k : Nat) (e : Int), k <= n /\ i = .int .i64 k /\ ee = .int .i64 e /\ Hid (relTo syms d.data.toList rs k e /\ Ext w wr /\ wr.cell? ⟨w.heap.size, 1, none⟩ = some (.string d))) (fun i _ _ => n - (intOf i).toNat)
   case atStart => exact ⟨0, 0, Nat.zero_le _, rfl, rfl, relTo_zero _ _ _, (Ext.refl w).alloc _, cell_new w _ 67 1⟩
   case round =>
    obtain ⟨k, e, hk, rfl, rfl, HK⟩ := hrel
    by_cases hlt : k < n
    ·have hkz : k < rs.length := by rw [<- HN.out]; exact hlt
     obtain ⟨bb, off, a, s, rfl, hgk, hwa, hs, hc⟩ := rel_get HA.out hkz
     have HC := Lib.hid hc
     obtain ⟨c1, c2⟩ := hc wr HK.out.2.1
     have hft := FT.out k e hkz HK.out.1
     have hon := relTo_on HK.out.1 hkz (by rw [hdl]; exact hd)
     rw [hgk] at hft hon
     have HFT := Lib.hid hft
     have HON := Lib.hid hon
     clear hc hgk hft hon
     have hq := HK.out.1.2.2
     have cd : (wr.alloc (.cells #[.int .i64 a, .string s] 151)).cell? ⟨w.heap.size, 1, none⟩ = some (.string d) := ((Ext.refl wr).alloc _).keepc HK.out.2.2
     by_cases ha1 : a < e
     ·have hr := HFT.out (by unfold relG; rw [show decide (e <= a) = false by simp; omega]; rfl)
      go_wp2_with fail
      go_ret
      exact ⟨by first | rfl | (rw [hr]; rfl), HK.out.2.1.alloc _⟩
     ·by_cases ha2 : a > (d.size : Int) - 4
      ·have hr := HFT.out (by unfold relG; rw [show decide (a <= (d.data.toList.length : Int) - 4) = false by rw [hdl]; simp; omega]; simp)
       go_wp2_with fail
       go_ret
       exact ⟨by first | rfl | (rw [hr]; rfl), HK.out.2.1.alloc _⟩
      ·have hex : (d.extract a.toNat (a + 4).toNat).toList = (d.data.toList.drop a.toNat).take 4 := by
        rw [ByteArray.toList_eq, Lib.extract_data, show (a + 4).toNat - a.toNat = 4 by omega]
       have hown : World.ownsMap (wr.alloc (.cells #[.int .i64 a, .string s] 151)) Tryz.prog 9 (plainElem Tryz.prog 3) b syms.length (mapD syms syms.length) := HM.out.ext (HK.out.2.1.alloc _)
       have hkey : keyOf Tryz.prog 9 (.string s) = some (.string s.data.toList) := WideMaps.keyOf_string_mk Tryz.underlying9 (by unfold maxLen; omega)
       have hh : Maps.has (mapD syms syms.length) (.string s.data.toList) = (C.idx syms s.data.toList).isSome := by
        rw [has_mapD syms _ _ (Nat.le_refl _), List.take_length]
       have hrel : relG syms d.data.toList (a, s) e = (decide ((d.data.toList.drop a.toNat).take 4 = [0, 0, 0, 0]) && (C.idx syms s.data.toList).isSome) := by
        unfold relG
        rw [show decide (e <= a) = true by simp; omega, show decide (a <= (d.data.toList.length : Int) - 4) = true by rw [hdl]; simp; omega]
        rfl
       have HR := Lib.hid hrel
       clear hrel
       rcases Bool.eq_false_or_eq_true ((d.data.toList.drop a.toNat).take 4 == [0, 0, 0, 0]) with hz | hz
       ·have hz2 : (!((d.data.toList.drop a.toNat).take 4 == [0, 0, 0, 0])) = false := by rw [hz]; rfl
        rcases Bool.eq_false_or_eq_true ((C.idx syms s.data.toList).isSome) with hi | hi
        ·have h9 := HON.out (by rw [HR.out, hi]; simpa using hz)
         have H9 := Lib.hid h9
         rw [hi] at hh
         clear h9
         go_wp2_with (at_lookup; refine wpList_lookup_own_ok_int _ rfl _ _ 206 rfl 9 3 .i64 (string_keyed Tryz.underlying9) Tryz.underlying206 Tryz.underlying3 (zero3 _) b syms.length (mapD syms syms.length) rfl hown _ _ rfl hkey ?_; intro cz hat hwc; rw [hh])
         exact ⟨⟨k + 1, a + 4, by omega, by go_num, rfl, H9.out, HK.out.2.1.alloc _, cd⟩, by simp [intOf]; omega⟩
        ·have hr := HFT.out (by rw [HR.out, hi]; simp)
         rw [hi] at hh
         go_wp2_with (at_lookup; refine wpList_lookup_own_ok_int _ rfl _ _ 206 rfl 9 3 .i64 (string_keyed Tryz.underlying9) Tryz.underlying206 Tryz.underlying3 (zero3 _) b syms.length (mapD syms syms.length) rfl hown _ _ rfl hkey ?_; intro cz hat hwc; rw [hh])
         go_ret
         exact ⟨by first | rfl | (rw [hr]; rfl), HK.out.2.1.alloc _⟩
       ·have hz2 : (!((d.data.toList.drop a.toNat).take 4 == [0, 0, 0, 0])) = true := by rw [hz]; rfl
        have hr := HFT.out (by rw [HR.out]; simp at hz; simp [hz])
        go_wp2_with fail
        go_ret
        exact ⟨by first | rfl | (rw [hr]; rfl), HK.out.2.1.alloc _⟩
    ·have hr := FE.out e (by have := HK.out.1; rwa [show k = rs.length by have := HN.out; omega] at this)
     have cd := HK.out.2.2
     go_wp2_with fail
     go_ret
     exact ⟨by rw [hr]; simp; omega, HK.out.2.1⟩
 ·have hr : C.secB syms (kd, d, rs) = false := by
   unfold C.secB
   rw [hk]
   rfl
  rw [hr]
  have h1 : kd = 1 -> ¬ 2 <= (d.size : Int) := by
   rintro rfl h
   simp [C.kindB] at hk
   omega
  have h2 : kd = 2 -> ¬ (d.size : Int) % 4 = 0 := by
   rintro rfl h
   simp [C.kindB] at hk
   omega
  have h3 : kd = 2 -> ¬ (d.size : Int).tmod 4 = 0 := by
   rw [Int.tmod_eq_emod_of_nonneg (by omega)]
   exact h2
  clear hr hk
  by_cases e1 : kd = 1
  ·subst e1
   have h1 := h1 rfl
   go_enter Tryz.func128, Tryz.ntmps128
   go_wp2_with fail
   go_ret
   exact ⟨rfl, (Ext.refl w).alloc _⟩
  ·by_cases e2 : kd = 2
   ·subst e2
    have h2 := h2 rfl
    have h3 := h3 rfl
    go_enter Tryz.func128, Tryz.ntmps128
    go_wp2_with fail
    go_ret
    exact ⟨rfl, (Ext.refl w).alloc _⟩
   ·clear h1 h2 h3
    go_enter Tryz.func128, Tryz.ntmps128
    go_wp2_with fail
    go_ret
    exact ⟨rfl, (Ext.refl w).alloc _⟩
end Go.Proofs.YtfbhchpbflaphaaGreatDoor

namespace Go.Proofs.YtfbhchpbflaphaaGreatDoor
open Go.RowKit Go.Maps Go.ChangeMaps
set_option linter.unusedVariables false
theorem idxI_neg (o : Option Nat) : decide (idxI o < 0) = !o.isSome := by
 cases o with
 | none => rfl
 | some i => exact decide_eq_false (by simp [idxI])
theorem kind_no {k : Int} {n : Nat} (h : C.kindB k n = false) : (k = 1 /\ (n : Int) < 2 /\ decide ((n : Int) < 2) = true) ∨ (k = 2 /\ (n : Int).tmod 4 ≠ 0 /\ (n : Int) % 4 ≠ 0) ∨ (k ≠ 1 /\ k ≠ 2 /\ True) := by
 have : (k = 1 /\ (n : Int) < 2) ∨ (k = 2 /\ (n : Int).tmod 4 ≠ 0) ∨ (k ≠ 1 /\ k ≠ 2) := by
  rw [Int.tmod_eq_emod_of_nonneg (by omega)]
  simp [C.kindB] at h
  omega
 rcases this with ⟨h1, h2⟩ | ⟨h1, h2⟩ | ⟨h1, h2⟩
 ·exact Or.inl ⟨h1, h2, by simpa using h2⟩
 ·exact Or.inr (Or.inl ⟨h1, h2, by rwa [Int.tmod_eq_emod_of_nonneg (by omega)] at h2⟩)
 ·exact Or.inr (Or.inr ⟨h1, h2, trivial⟩)
theorem kind_yes {k : Int} {n : Nat} (h : C.kindB k n = true) : (k = 1 /\ 2 <= (n : Int) /\ decide ((n : Int) < 2) = false) ∨ (k = 2 /\ (n : Int).tmod 4 = 0 /\ decide ((n : Int).tmod 4 = 0) = true) := by
 have : (k = 1 /\ 2 <= (n : Int)) ∨ (k = 2 /\ (n : Int).tmod 4 = 0) := by
  rw [Int.tmod_eq_emod_of_nonneg (by omega)]
  simp [C.kindB] at h
  omega
 rcases this with ⟨h1, h2⟩ | ⟨h1, h2⟩
 ·exact Or.inl ⟨h1, h2, by simp; omega⟩
 ·exact Or.inr ⟨h1, h2, by simpa using h2⟩
set_option maxRecDepth 8000 in
set_option maxHeartbeats 4000000 in
theorem rsection_any (syms : List C.Sym) (SA SB : Option Addr) (sc sd sn sm : Nat) (kd : Int) (d : ByteArray) (rs : List C.Rel) (A : Option Addr) (c n : Nat) (w : World) (hsn : sn = syms.length) (hS : SliceAt symR w (Old w) SA sc syms) (hs2 : sn <= 100000) (hn : n = rs.length) (hA : SliceAt relR w (Old w) A c rs)
 (hd : d.size <= 9223372036854775807) (hkd : (Lit.int .i64 kd).wf = true) :
 Calls Tryz.prog 138 #[.agg #[.slice SA sn sc, .slice SB sm sd], .agg #[.int .i64 kd, .string d, .slice A n c]] w (Al (.bool (C.secB syms (kd, d, rs))) w) := by
 have hdl : d.data.toList.length = d.size := by simp
 have hn2 : n <= 9223372036854775807 := by have := hA.1; have := hA.2.1; omega
 have hR : C.secB syms (kd, d, rs) = (C.kindB kd d.size && C.relsB syms d.data.toList rs 0 && decide (d.size <= 8192)) := rfl
 by_cases hbig : (d.size : Int) > 8192
 ·have hr : C.secB syms (kd, d, rs) = false := by rw [hR, show decide (d.size <= 8192) = false by simp; omega, Bool.and_false]
  rw [hr]
  clear hR hr
  go_enter Tryz.func138, Tryz.ntmps138
  go_wp2_with fail
  go_ret
  exact ⟨rfl, ((Ext.refl w).alloc _).alloc _⟩
 rcases Bool.eq_false_or_eq_true (C.kindB kd d.size) with hk | hk
 ·have FT := Lib.hid (fun k e (hk : k < rs.length) (h : relTo syms d.data.toList rs k e) (hb : relG syms d.data.toList rs[k] e = false) => show C.secB syms (kd, d, rs) = false by rw [hR, relTo_bad h hk hb]; simp)
  have FE := Lib.hid (fun e (h : relTo syms d.data.toList rs rs.length e) => show C.secB syms (kd, d, rs) = true by rw [hR, relTo_end h, hk]; simp; omega)
  generalize C.secB syms (kd, d, rs) = R at FT FE ⊢
  have HN := Lib.hid hn
  have HA := Lib.hid hA
  have HS := Lib.hid (fun (w' : World) (h : Ext w w') (x : ByteArray) (hx : x.size <= 9223372036854775807) => Index_any syms SA SB sc sd sn sm x w' hsn (hS.ext h) hs2 hx)
  have hcs := kind_yes hk
  clear hn hA hR hk hS
  have HST : Hid (relTo syms d.data.toList rs 0 (-4 + 4) /\ Ext w ((w.alloc (.cells #[.slice SA sn sc, .slice SB sm sd] 56)).alloc (.cells #[.int .i64 kd, .string d, .slice A n c] 67)) /\ ((w.alloc (.cells #[.slice SA sn sc, .slice SB sm sd] 56)).alloc (.cells #[.int .i64 kd, .string d, .slice A n c] 67)).cell? ⟨w.heap.size + 1, 1, none⟩ = some (.string d) /\ ((w.alloc (.cells #[.slice SA sn sc, .slice SB sm sd] 56)).alloc (.cells #[.int .i64 kd, .string d, .slice A n c] 67)).cell? ⟨w.heap.size, 0, none⟩ = some (.slice SA sn sc) /\ ((w.alloc (.cells #[.slice SA sn sc, .slice SB sm sd] 56)).alloc (.cells #[.int .i64 kd, .string d, .slice A n c] 67)).cell? ⟨w.heap.size, 1, none⟩ = some (.slice SB sm sd)) := by
   refine ⟨relTo_zero _ _ _, ((Ext.refl w).alloc _).alloc _, ?_, ((Ext.refl _).alloc _).keepc (cell_new w #[.slice SA sn sc, .slice SB sm sd] 56 0), ((Ext.refl _).alloc _).keepc (cell_new w #[.slice SA sn sc, .slice SB sm sd] 56 1)⟩
   have := cell_new (w.alloc (.cells #[.slice SA sn sc, .slice SB sm sd] 56)) #[.int .i64 kd, .string d, .slice A n c] 67 1
   rw [show (w.alloc (.cells #[.slice SA sn sc, .slice SB sm sd] 56)).heap.size = w.heap.size + 1 by simp] at this
   exact this
  clear hsn
  rcases hcs with ⟨rfl, h4, h5⟩ | ⟨rfl, h4, h5⟩
  all_goals
   go_enter Tryz.func138, Tryz.ntmps138
   go_wp2_with fail
   go_loopw [44, 5] (fun i ee wr => ∃ (k : Nat) (e : Int), k <= n /\ i = .int .i64 k /\ ee = .int .i64 e /\ Hid (relTo syms d.data.toList rs k (e + 4) /\ Ext w wr /\ wr.cell? ⟨w.heap.size + 1, 1, none⟩ = some (.string d) /\ wr.cell? ⟨w.heap.size, 0, none⟩ = some (.slice SA sn sc) /\ wr.cell? ⟨w.heap.size, 1, none⟩ = some (.slice SB sm sd))) (fun i _ _ => n - (intOf i).toNat)
   case atStart => exact ⟨0, -4, Nat.zero_le _, rfl, rfl, HST.out⟩
   case round =>
    obtain ⟨k, e, hk, rfl, rfl, HK⟩ := hrel
    by_cases hlt : k < n
    ·have hkz : k < rs.length := by rw [<- HN.out]; exact hlt
     obtain ⟨bb, off, a, s, rfl, hgk, hwa, hs, hc⟩ := rel_get HA.out hkz
     have HC := Lib.hid hc
     obtain ⟨c1, c2⟩ := hc wr HK.out.2.1
     have hft := FT.out k (e + 4) hkz HK.out.1
     have hon := relTo_on HK.out.1 hkz (by rw [hdl]; exact hd)
     rw [hgk] at hft hon
     have HFT := Lib.hid hft
     have HON := Lib.hid hon
     clear hc hgk hft hon
     have hq := HK.out.1.2.2
     have K1 : Ext wr (wr.alloc (.cells #[.int .i64 a, .string s] 151)) := (Ext.refl wr).alloc _
     have cd := K1.keepc HK.out.2.2.1
     have cs1 := K1.keepc HK.out.2.2.2.1
     have cs2 := K1.keepc HK.out.2.2.2.2
     by_cases ha1 : a < e + 4
     ·have hr := HFT.out (by unfold relG; rw [show decide (e + 4 <= a) = false by simp; omega]; rfl)
      go_wp2_with fail
      go_ret
      exact ⟨by first | rfl | (rw [hr]; rfl), HK.out.2.1.alloc _⟩
     ·by_cases ha2 : a > (d.size : Int) - 4
      ·have hr := HFT.out (by unfold relG; rw [show decide (a <= (d.data.toList.length : Int) - 4) = false by rw [hdl]; simp; omega]; simp)
       go_wp2_with fail
       go_ret
       exact ⟨by first | rfl | (rw [hr]; rfl), HK.out.2.1.alloc _⟩
      ·have hex : (d.extract a.toNat (a + 4).toNat).toList = (d.data.toList.drop a.toNat).take 4 := by
        rw [ByteArray.toList_eq, Lib.extract_data, show (a + 4).toNat - a.toNat = 4 by omega]
       have hrel : relG syms d.data.toList (a, s) (e + 4) = (decide ((d.data.toList.drop a.toNat).take 4 = [0, 0, 0, 0]) && (C.idx syms s.data.toList).isSome) := by
        unfold relG
        rw [show decide (e + 4 <= a) = true by simp; omega, show decide (a <= (d.data.toList.length : Int) - 4) = true by rw [hdl]; simp; omega]
        rfl
       have HR := Lib.hid hrel
       clear hrel
       rcases Bool.eq_false_or_eq_true ((d.data.toList.drop a.toNat).take 4 == [0, 0, 0, 0]) with hz | hz
       ·have hz2 : (!((d.data.toList.drop a.toNat).take 4 == [0, 0, 0, 0])) = false := by rw [hz]; rfl
        have HI := Lib.hid (fun w' (h : Ext w w') => HS.out w' h s hs)
        rcases Bool.eq_false_or_eq_true ((C.idx syms s.data.toList).isSome) with hi | hi
        ·have h9 := HON.out (by rw [HR.out, hi]; simpa using hz)
         have H9 := Lib.hid h9
         have hneg := idxI_neg (C.idx syms s.data.toList)
         rw [hi, Bool.not_true] at hneg
         clear h9
         generalize idxI (C.idx syms s.data.toList) = z at HI hneg
         go_wp2_with fail
         refine (HI.out _ (HK.out.2.1.alloc _)).mono ?_
         rintro e1 w1 ⟨rfl, d1⟩
         have hw1 : Hid (Ext w w1) := (HK.out.2.1.alloc _).trans d1
         have D1 := K1.trans d1
         have HL := Lib.hid (show relTo syms d.data.toList rs (k + 1) (a + 4) /\ Ext w w1 /\ w1.cell? ⟨w.heap.size + 1, 1, none⟩ = some (.string d) /\ w1.cell? ⟨w.heap.size, 0, none⟩ = some (.slice SA sn sc) /\ w1.cell? ⟨w.heap.size, 1, none⟩ = some (.slice SB sm sd) from ⟨H9.out, hw1.out, D1.keepc HK.out.2.2.1, D1.keepc HK.out.2.2.2.1, D1.keepc HK.out.2.2.2.2⟩)
         have cb : w1.cell? ⟨wr.heap.size, 0, none⟩ = some (.int .i64 a) := d1.keepc (cell_new wr _ 151 0)
         go_wp2_with fail
         exact ⟨⟨k + 1, a, by omega, by go_num, rfl, HL.out⟩, by simp [intOf]; omega⟩
        ·have hr := HFT.out (by rw [HR.out, hi]; simp)
         have HRR := Lib.hid hr
         have hneg := idxI_neg (C.idx syms s.data.toList)
         rw [hi, Bool.not_false] at hneg
         clear hr
         generalize idxI (C.idx syms s.data.toList) = z at HI hneg
         go_wp2_with fail
         refine (HI.out _ (HK.out.2.1.alloc _)).mono ?_
         rintro e1 w1 ⟨rfl, d1⟩
         have hw1 : Hid (Ext w w1) := (HK.out.2.1.alloc _).trans d1
         go_wp2_with fail
         go_ret
         exact ⟨by rw [HRR.out]; rfl, hw1.out⟩
       ·have hz2 : (!((d.data.toList.drop a.toNat).take 4 == [0, 0, 0, 0])) = true := by rw [hz]; rfl
        have hr := HFT.out (by rw [HR.out]; simp at hz; simp [hz])
        go_wp2_with fail
        go_ret
        exact ⟨by first | rfl | (rw [hr]; rfl), HK.out.2.1.alloc _⟩
    ·have hr := FE.out (e + 4) (by have := HK.out.1; rwa [show k = rs.length by have := HN.out; omega] at this)
     go_wp2_with fail
     go_ret
     exact ⟨by first | rfl | (rw [hr]; rfl), HK.out.2.1⟩
 ·have hr : C.secB syms (kd, d, rs) = false := by rw [hR, hk]; rfl
  rw [hr]
  have hcs := kind_no hk
  clear hr hR hk
  rcases hcs with ⟨rfl, h4, h5⟩ | ⟨rfl, h4, h5⟩ | ⟨h3, h4, h5⟩
  ·go_enter Tryz.func138, Tryz.ntmps138
   go_wp2_with fail
   go_ret
   exact ⟨rfl, ((Ext.refl w).alloc _).alloc _⟩
  ·go_enter Tryz.func138, Tryz.ntmps138
   go_wp2_with fail
   go_ret
   exact ⟨rfl, ((Ext.refl w).alloc _).alloc _⟩
  ·go_enter Tryz.func138, Tryz.ntmps138
   go_wp2_with fail
   all_goals first
    | (go_ret; exact ⟨rfl, ((Ext.refl w).alloc _).alloc _⟩)
    | (exfalso; rcases ‹(kd != 1) = false ∨ (kd != 2) = false› with h | h <;> simp at h <;> omega)
end Go.Proofs.YtfbhchpbflaphaaGreatDoor

namespace Go.Proofs.YtfbhchpbflaphaaGreatDoor
open Go.RowKit Go.Maps Go.ChangeMaps
set_option linter.unusedVariables false
def chk (b : Bool) : Int := if b then 0 else 1
theorem chk_len {o : C.Obj} (h : ¬ (o.1.length <= 128 /\ o.2.length <= 128)) : chk (C.checkB okN o) = 1 := by
 unfold C.checkB
 rw [decide_eq_false h]
 rfl
theorem chk_names {o : C.Obj} (h : C.namesB okN o.1 = false) : chk (C.checkB okN o) = 1 := by
 unfold C.checkB
 rw [h, Bool.and_false]
 rfl
theorem chk_sym {o : C.Obj} {k : Nat} (hk : k < o.1.length) (h : C.symB o.2.length o.1[k] = false) : chk (C.checkB okN o) = 1 := by
 have : o.1.all (C.symB o.2.length) = false := by
  rw [Bool.eq_false_iff]
  intro h'
  rw [List.all_eq_true] at h'
  rw [h' _ (List.getElem_mem hk)] at h
  cases h
 unfold C.checkB
 rw [this, Bool.and_false]
 rfl
theorem chk_own {o : C.Obj} {i : Nat} (hi : i < o.2.length) (h : ¬ (C.own o.1 i = 1 /\ C.secB o.1 o.2[i] = true)) : chk (C.checkB okN o) = 1 := by
 have : C.ownedB o = false := by
  rw [Bool.eq_false_iff]
  intro h'
  exact h ((C.ownedB_iff o).1 h' i hi)
 unfold C.checkB
 rw [this, Bool.and_false]
 rfl
def symTo (l : List C.Sym) (n k : Nat) : Prop := ∀ i (h : i < l.length), i < k -> C.symB n l[i] = true
def secTo (o : C.Obj) (k : Nat) : Prop := ∀ i (h : i < o.2.length), i < k -> C.own o.1 i = 1 /\ C.secB o.1 o.2[i] = true
theorem symTo_succ {l : List C.Sym} {n k : Nat} (h : symTo l n k) (hk : k < l.length) (h1 : C.symB n l[k] = true) : symTo l n (k + 1) := by
 intro i hi hik
 by_cases e : i = k
 ·subst e; exact h1
 ·exact h i hi (by omega)
theorem secTo_succ {o : C.Obj} {k : Nat} (h : secTo o k) (hk : k < o.2.length) (h1 : C.own o.1 k = 1) (h2 : C.secB o.1 o.2[k] = true) : secTo o (k + 1) := by
 intro i hi hik
 by_cases e : i = k
 ·subst e; exact ⟨h1, h2⟩
 ·exact h i hi (by omega)
theorem chk_end {o : C.Obj} (h1 : o.1.length <= 128) (h2 : o.2.length <= 128) (h3 : C.namesB okN o.1 = true) (h4 : symTo o.1 o.2.length o.1.length) (h5 : secTo o o.2.length) : chk (C.checkB okN o) = 0 := by
 unfold C.checkB
 rw [decide_eq_true (show _ /\ _ from ⟨h1, h2⟩), h3, List.all_eq_true.2 fun s hs => by obtain ⟨i, hi, rfl⟩ := List.getElem_of_mem hs; exact h4 i hi hi, (C.ownedB_iff o).2 fun i hi => h5 i hi hi]
 rfl
theorem own_snoc (l : List C.Sym) (s : C.Sym) (i : Nat) : C.own (l ++ [s]) i = C.own l i + if s.2.2 = (i : Int) then 1 else 0 := by
 unfold C.own
 rw [List.filter_append, List.length_append]
 by_cases h : s.2.2 = (i : Int)
 ·simp [h]
 ·simp [h]
theorem own_le (l : List C.Sym) (i : Nat) : C.own l i <= l.length := List.length_filter_le _ _
def ownV (l : List C.Sym) (n : Nat) : List Value := (List.range n).map fun i => .int .i64 (C.own l i : Int)
theorem ownV_len (l : List C.Sym) (n : Nat) : (ownV l n).length = n := by simp [ownV]
theorem ownV_get (l : List C.Sym) {n i : Nat} (h : i < n) : (ownV l n)[i]? = some (.int .i64 (C.own l i : Int)) := by simp [ownV, h]
theorem ownV_zero (n : Nat) : ownV [] n = List.replicate n (.int .i64 0) := by
 refine List.ext_getElem? fun i => ?_
 by_cases h : i < n
 ·rw [ownV_get [] h, List.getElem?_replicate, if_pos h]
  rfl
 ·rw [List.getElem?_eq_none (by rw [ownV_len]; omega), List.getElem?_eq_none (by simp; omega)]
theorem ownV_other (l : List C.Sym) (s : C.Sym) (n : Nat) (h : s.2.2 < 0) : ownV (l ++ [s]) n = ownV l n := by
 unfold ownV
 refine List.map_congr_left fun i _ => ?_
 rw [own_snoc, if_neg (by omega), Nat.add_zero]
theorem ownV_set (l : List C.Sym) (s : C.Sym) (n : Nat) (h : 0 <= s.2.2) : ownV (l ++ [s]) n = (ownV l n).set s.2.2.toNat (.int .i64 ((C.own l s.2.2.toNat : Int) + 1)) := by
 refine List.ext_getElem? fun i => ?_
 by_cases hi : i < n
 ·rw [ownV_get _ hi, List.getElem?_set, own_snoc]
  by_cases e : s.2.2.toNat = i
  ·rw [if_pos e, if_pos (show s.2.2 = (i : Int) by omega), if_pos (by rw [ownV_len]; omega), e]
   simp
  ·rw [if_neg e, if_neg (by omega), ownV_get _ hi, Nat.add_zero]
 ·rw [List.getElem?_eq_none (by rw [ownV_len]; omega), List.getElem?_eq_none (by rw [List.length_set, ownV_len]; omega)]
end Go.Proofs.YtfbhchpbflaphaaGreatDoor
