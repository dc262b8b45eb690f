/- The texts Lr He Ls of the seat, joined. -/
import Derived.Test.YtfbhchpbflaphaaGreatDoorG18
namespace Go.Proofs.YtfbhchpbflaphaaGreatDoor
open Go.RowKit Go.Maps Go.ChangeMaps
theorem Ext.low {w a b : World} {X : Nat → Prop} (h : Ext w a) (hT : Tch X a b) (hX : ∀ k, X k → w.heap.size ≤ k) : Ext w b := by
 have h1 : Tch (fun _ => False) w a := h.tch _
 exact (h1.trans' hT fun i hi e => absurd (hX i e) (by omega)).ext fun _ _ h => h
section
variable {g : Nat} {E : L.Env} {A M D : Option Addr} {a m d : Nat} {w : World} {v : Value}
theorem found_unit {u m0 : Nat} (hc : (m0 = 0 ∧ u < E.objs.length) ∨ ∃ i, ∃ _ : i < E.mems.length, m0 = i + 1 ∧ u = E.objs.length + i) (hE : EnvOk E) :
  u < E.units.length ∧ m0 ≤ E.mems.length ∧ ∃ f0 f1 : Int, (∀ E', foundH E' (.unit u m0) = ((f0, f1, -1, (m0 : Int), 0), 0)) ∧
   ∀ (g : Nat) (A M D : Option Addr) (a m d : Nat) (W : World) (v : Value) (st : L.St), RlAt g E A M D a m d W v st → Calls Tryz.prog 55 #[.agg #[.slice A E.objs.length a, .slice M E.mems.length m, .slice D E.libs.length d], .agg #[.int .i64 f0, .int .i64 f1, .int .i64 (-1), .int .i64 (m0 : Int), .int .i64 0]] W (RetMb (fun k => k < g) W (unitAt E u)) := by
 have hlens := hE.lens
 have hul : E.units.length = E.objs.length + E.mems.length := by unfold L.Env.units; simp
 rcases hc with ⟨rfl, ho⟩ | ⟨i, hi, rfl, rfl⟩
 ·refine ⟨by omega, Nat.zero_le _, (u : Int), -1, fun _ => rfl, fun g A M D a m d W v st h => ?_⟩
  have he : unitAt E u = E.objs[u] := by
   rw [unitAt_is (by omega)]
   unfold L.Env.units
   exact List.getElem_append_left ho
  rw [he]
  exact member_obj E.objs A a _ u _ _ (-1) (-1) 0 0 W rfl _ (fun k hk => Nat.lt_trans hk h.lt) h.objs ho (by omega) ⟨_, _, _, rfl⟩ ⟨_, _, _, rfl⟩
 ·refine ⟨by omega, hi, -1, (i : Int), fun _ => ?_, fun g A M D a m d W v st h => ?_⟩
  ·simp only [foundH]
   rw [if_neg (by omega), Nat.add_sub_cancel]
  ·have he : unitAt E (E.objs.length + i) = E.mems[i] := by
    rw [unitAt_is (by omega)]
    unfold L.Env.units
    rw [List.getElem_append_right (by omega)]
    congr 1
    omega
   rw [he]
   exact member_mem E.mems M m _ i _ _ (-1) ((i + 1 : Nat) : Int) 0 W rfl _ (fun k hk => Nat.lt_trans hk h.lt) h.mems hi (by omega) ⟨_, _, _, rfl⟩ ⟨_, _, _, rfl⟩
theorem RlAt.new (hA : SliceAt memR w (Old w) A a E.objs) (hM : SliceAt memR w (Old w) M m E.mems) (hD : SliceAt librR w (Old w) D d E.libs) :
  RlAt w.heap.size E A M D a m d (w.alloc (.cells #[.slice A E.objs.length a, .slice M E.mems.length m, .slice D E.libs.length d, .slice none 0 0, .int .i64 0, .int .i64 0] 115)) (.slice none 0 0) ([], 0, 0) where
 row := heap_alloc_new w _
 objs := hA.keep (fun _ h => h) fun k hk => ((Ext.refl w).alloc _).block k hk
 mems := hM.keep (fun _ h => h) fun k hk => ((Ext.refl w).alloc _).block k hk
 libs := hD.keep (fun _ h => h) fun k hk => ((Ext.refl w).alloc _).block k hk
 list := ⟨rfl, [], OwnAt.nil _ _ _ _, rfl⟩
theorem RlAt.one {n : Nat × Nat} (h : RlAt g E A M D a m d w (.slice none 0 0) ([], n)) (p : L.Spot) {SA SB : Option Addr} {sc sd : Nat} (hSA : SliceAt symR w (fun k => k < g) SA sc (unitAt E p.1).2.1) (hSB : SliceAt secR w (fun k => k < g) SB sd (unitAt E p.1).2.2) (hs : (unitAt E p.1).1.size ≤ 9223372036854775807) (hx : p.2.size ≤ 9223372036854775807) {W : World}
  (hW : W = w.alloc (.cells (spotV (unitAt E p.1).1 SA (unitAt E p.1).2.1.length sc SB (unitAt E p.1).2.2.length sd p.2) 123)) :
  RlAt g E A M D a m d (W.setCell ⟨g, 3, none⟩ (.slice (some ⟨w.heap.size, 0, none⟩) 1 1)) (.slice (some ⟨w.heap.size, 0, none⟩) 1 1) ([p], n) ∧ Tch (fun k => k = g) w (W.setCell ⟨g, 3, none⟩ (.slice (some ⟨w.heap.size, 0, none⟩) 1 1)) ∧ W.cell? ⟨g, 3, none⟩ = some (.slice none 0 0) ∧ W.frozen? ⟨g, 3, none⟩ = false := by
 have hx1 : Ext w W := by rw [hW]; exact (Ext.refl w).alloc _
 have hlt := h.lt
 have hb : W.heap[w.heap.size]? = some (.cells (spotV (unitAt E p.1).1 SA (unitAt E p.1).2.1.length sc SB (unitAt E p.1).2.2.length sd p.2) 123 (0, 0)) := by rw [hW]; exact heap_alloc_new w _
 have hsp := spotM_is (E := E) (w := W) (B := fun k => k < g) (p := p) (hSA.keep (fun _ h => h) fun k hk => hx1.block k (Nat.lt_trans hk hlt)) (hSB.keep (fun _ h => h) fun k hk => hx1.block k (Nat.lt_trans hk hlt)) hs hx
 have ho : OwnP spotR (fun k => k < g) 123 W (g + 1) (.slice (some ⟨w.heap.size, 0, none⟩) 1 1) (([] : List L.Spot).length + 1) (spots E [] ++ [spotM E p]) :=
  ⟨rfl, _, ⟨rfl, .inr ⟨w.heap.size, 0, 1, _, rfl, hlt, hb, Nat.le_refl _, by omega, by show 0 + 1 * 4 ≤ 4; omega, fun j hj => by rw [Nat.zero_add]; exact (List.getElem?_toArray ..)⟩⟩, Flat.one hsp⟩
 have hg : w.grownBy W (Value.slice none 0 0).ownBlock := ⟨hx1.os, hx1.tape, hx1.output, hx1.size, fun k hk _ => hx1.block k hk⟩
 obtain ⟨h1, h2, h3, h4⟩ := h.pushed ho hg
 have h5 : Tch (fun k => k = g) w (W.setCell ⟨g, 3, none⟩ (.slice (some ⟨w.heap.size, 0, none⟩) 1 1)) := h2.mono fun k _ hk => by
  rcases hk with e | e
  ·exact e
  ·cases e
 exact ⟨h1, h5, h3, h4⟩
theorem fin_hyps (hE : EnvOk E) {st st' : L.St} (hs : L.selF E 129 0 st = .ok st') (hL : L.ListOk E st.1) : GoodTo E st'.1 st'.1.length ∧ NotedTo E st'.1 st'.2 st'.1.length :=
 ⟨selF_good hE.units hs (by omega) (Nat.zero_le _) hL fun i _ hi => absurd hi (Nat.not_lt_zero _), selF_noted hE.units hs (by omega) (Nat.zero_le _) hL fun i _ hi => absurd hi (Nat.not_lt_zero _)⟩
end
end Go.Proofs.YtfbhchpbflaphaaGreatDoor

namespace Go.Proofs.YtfbhchpbflaphaaGreatDoor
open Go.RowKit Go.Maps Go.ChangeMaps
attribute [local irreducible] wpLex wpT
set_option maxRecDepth 8000 in
set_option maxHeartbeats 8000000 in
theorem Link_any (x : ByteArray) (objs : List C.Mem) (sh : List L.Shelf) (libs : List L.Libr) (A B D : Option Addr) (a b d n m q : Nat) (w : World) (hn : n = objs.length) (hA : SliceAt memR w (Old w) A a objs) (hm : m = sh.length) (hB : SliceAt shelfR w (Old w) B b sh) (hq : q = libs.length) (hD : SliceAt librR w (Old w) D d libs)
  (hC : CaseOk objs sh libs) (hx : x.size ≤ 9223372036854775807) (hg : Gl w) :
  Calls Tryz.prog 12 #[.string x, .slice A n a, .slice B m b, .slice D q d] w (RetLk w (linkV (L.linkL okN okP x objs sh libs))) := by
 have hno := hC.no
 have hns := hC.ns
 have hnl := hC.nl
 have hfew := hC.few
 have hA' := fun W (e : Ext w W) => hA.ext e
 have hB' := fun W (e : Ext w W) => hB.ext e
 have hD' := fun W (e : Ext w W) => hD.ext e
 have HV := Lib.hid (fun W (e : Ext w W) => lvalid_any objs sh libs A B D a b d n m q W hn (hA' W e) hm (hB' W e) hq (hD' W e) hC.mems (fun s hs => (hC.shelves s hs).1) (fun l hl => (hC.lbs l hl).1) (by omega) (by omega) (by omega) (hg.ext e))
 have HNM := Lib.hid (fun W => Name_any x W hx)
 have HNW := Lib.hid (fun W (e : Ext w W) => newLinker_any objs sh libs A B D a b d n m q W hn (hA' W e) hm (hB' W e) hq (hD' W e) hC.mems (fun s hs => (hC.shelves s hs).1) (by omega) (by omega))
 have HE := Lib.hid hC.env
 have HX := Lib.hid hx
 obtain ⟨FV, hR⟩ : ∃ FV, FV = linkV (L.linkL okN okP x objs sh libs) := ⟨_, rfl⟩
 rw [← hR]
 unfold L.linkL at hR
 have hnm : okN x = K.name x.data.toList := rfl
 rw [hnm] at hR
 obtain ⟨E, hE⟩ : ∃ E, E = L.envOf objs sh libs := ⟨_, rfl⟩
 have hE2 : L.envOf objs sh [] = ⟨E.objs, E.mems, []⟩ := by rw [hE]; rfl
 rw [hE2, ← hE] at hR
 rw [← hE] at HNW HE
 have HLZ : Hid (∀ l ∈ E.libs, l.1.size ≤ 9223372036854775807) := by
  rw [hE]
  intro l hl
  have h1 := (hC.lbs l hl).1.1
  omega
 generalize L.validB okN okP objs sh libs = V at HV hR HE
 generalize K.name x.data.toList = N at HNM hR
 obtain ⟨hx1, hr1, hr2, hs1⟩ := two_cells w
 obtain ⟨W1, hW1⟩ : ∃ W1, W1 = (w.alloc (.cells zrow35 35)).alloc (.cells zrow38 38) := ⟨_, rfl⟩
 rw [← hW1] at hx1 hr1 hr2 hs1
 have HW1 := Lib.hid hW1
 have HX1 := Lib.hid hx1
 have HR1 := Lib.hid hr1
 have HR2 := Lib.hid hr2
 have HS1 := Lib.hid hs1
 clear hn hA hm hB hq hD hC hx hg hno hns hnl hfew hnm hE hE2 hA' hB' hD' hx1 hr1 hr2 hs1 hW1
 cases V with
 | false =>
  have hR' : FV = (zeroB, ([], []), 1) := by rw [hR]; rfl
  have HR := Lib.hid hR'
  clear hR hR' HE
  go_enter Tryz.func12, Tryz.ntmps12
  go_upto_region 1 with (fail)
  rw [← HW1.out]
  go_wp2_with fail
  refine (HV.out _ HX1.out).mono ?_
  rintro _ w2 ⟨rfl, e2⟩
  have HE2 := Lib.hid e2
  clear e2
  go_wp2_with fail
  refine (none43_any 1 _).mono ?_
  rintro e wz ⟨ez, rfl⟩
  have hz := HE2.out.trans ez
  have hA := (hz.block _ (Array.getElem?_eq_some_iff.1 HR1.out).1).trans HR1.out
  have hB := (hz.block _ (Array.getElem?_eq_some_iff.1 HR2.out).1).trans HR2.out
  obtain ⟨⟨r0, r1, r2, r3, r4, r5, r6, r7⟩, f0, f1, f2, f3, f4, f5, f6, f7⟩ := zcells hA
  obtain ⟨s0, s1, t0, t1⟩ := zcells2 hB
  obtain ⟨hA3, hB3⟩ := zput_rows hA hB
  have HA3 := Lib.hid hA3
  have HB3 := Lib.hid hB3
  have HX3 := Lib.hid (zput_ext (HX1.out.trans hz))
  clear hz ez hA hB hA3 hB3
  go_wp2_with fail
  refine ret_bre rfl rfl rfl rfl HA3.out HB3.out rfl rfl rfl ?_
  rw [HR.out]
  exact ⟨HX3.out, RetBR.none _ _ _⟩
 | true =>
  cases N with
  | false =>
   have hR' : FV = (zeroB, ([], []), 1) := by rw [hR]; rfl
   have HR := Lib.hid hR'
   clear hR hR' HE
   go_enter Tryz.func12, Tryz.ntmps12
   go_upto_region 1 with (fail)
   rw [← HW1.out]
   go_wp2_with fail
   refine (HV.out _ HX1.out).mono ?_
   rintro _ w2 ⟨rfl, e2⟩
   have HE2 := Lib.hid e2
   clear e2
   go_wp2_with fail
   refine (HNM.out _).mono ?_
   rintro _ w3 ⟨rfl, e3⟩
   have HE3 := Lib.hid (HE2.out.trans e3)
   clear e3
   go_wp2_with fail
   refine (none43_any 1 _).mono ?_
   rintro e wz ⟨ez, rfl⟩
   have hz := HE3.out.trans ez
   have hA := (hz.block _ (Array.getElem?_eq_some_iff.1 HR1.out).1).trans HR1.out
   have hB := (hz.block _ (Array.getElem?_eq_some_iff.1 HR2.out).1).trans HR2.out
   obtain ⟨⟨r0, r1, r2, r3, r4, r5, r6, r7⟩, f0, f1, f2, f3, f4, f5, f6, f7⟩ := zcells hA
   obtain ⟨s0, s1, t0, t1⟩ := zcells2 hB
   obtain ⟨hA3, hB3⟩ := zput_rows hA hB
   have HA3 := Lib.hid hA3
   have HB3 := Lib.hid hB3
   have HX3 := Lib.hid (zput_ext (HX1.out.trans hz))
   clear hz ez hA hB hA3 hB3
   go_wp2_with fail
   refine ret_bre rfl rfl rfl rfl HA3.out HB3.out rfl rfl rfl ?_
   rw [HR.out]
   exact ⟨HX3.out, RetBR.none _ _ _⟩
  | true =>
   have HEV := Lib.hid (HE.out rfl)
   rw [Bool.and_self, if_pos rfl] at hR
   have HR := Lib.hid hR
   clear hR HE
   go_enter Tryz.func12, Tryz.ntmps12
   go_upto_region 1 with (fail)
   rw [← HW1.out]
   go_wp2_with fail
   refine (HV.out _ HX1.out).mono ?_
   rintro _ w2 ⟨rfl, e2⟩
   have HE2 := Lib.hid e2
   clear e2
   go_wp2_with fail
   refine (HNM.out _).mono ?_
   rintro _ w3 ⟨rfl, e3⟩
   have HE3 := Lib.hid (HE2.out.trans e3)
   clear e3
   go_wp2_with fail
   refine (HNW.out _ (HX1.out.trans HE3.out)).mono ?_
   rintro e w4 ⟨e4, g, S, X, k, rfl, hL, hS⟩
   have HSR := Lib.hid (search_any w4 S X _ g E ([], 0, 0) [] k hL HEV.out x [] none 0 0 rfl (by omega) (SliceAt.nil _ _ _ _ _ (by omega)))
   have HL := Lib.hid hL
   have HE4 := Lib.hid e4
   clear hL e4 hS
   go_wp2_with fail
   refine HSR.out.mono ?_
   rintro e w5 ⟨ht, hh⟩
   have HX5 := Lib.hid (HL.out.extTch HE4.out ht)
   have HW5 := Lib.hid (HE3.out.trans HX5.out)
   clear ht
   cases hhit : L.hit ⟨E.objs, E.mems, []⟩ x with
   | twice =>
    rw [hhit] at hh
    subst hh
    have hR' : FV = (zeroB, ([], []), 6) := by rw [HR.out, hhit]; rfl
    have HRB := Lib.hid hR'
    clear hR' hhit
    unfold placeV
    go_wp2_with fail
    refine (none43_any 6 _).mono ?_
    rintro e wz ⟨ez, rfl⟩
    have hz := (HW5.out.alloc _).trans ez
    have hA := (hz.block _ (Array.getElem?_eq_some_iff.1 HR1.out).1).trans HR1.out
    have hB := (hz.block _ (Array.getElem?_eq_some_iff.1 HR2.out).1).trans HR2.out
    obtain ⟨⟨r0, r1, r2, r3, r4, r5, r6, r7⟩, f0, f1, f2, f3, f4, f5, f6, f7⟩ := zcells hA
    obtain ⟨s0, s1, t0, t1⟩ := zcells2 hB
    obtain ⟨hA3, hB3⟩ := zput_rows hA hB
    have HA3 := Lib.hid hA3
    have HB3 := Lib.hid hB3
    have HX3 := Lib.hid (zput_ext (HX1.out.trans hz))
    clear hz ez hA hB hA3 hB3
    go_wp2_with fail
    refine ret_bre rfl rfl rfl rfl HA3.out HB3.out rfl rfl rfl ?_
    rw [HRB.out]
    exact ⟨HX3.out, RetBR.none _ _ _⟩
   | unknown =>
    rw [hhit] at hh
    subst hh
    have hR' : FV = (zeroB, ([], []), 8) := by rw [HR.out, hhit]; rfl
    have HRB := Lib.hid hR'
    clear hR' hhit
    unfold placeV
    go_wp2_with fail
    refine (none43_any 8 _).mono ?_
    rintro e wz ⟨ez, rfl⟩
    have hz := (HW5.out.alloc _).trans ez
    have hA := (hz.block _ (Array.getElem?_eq_some_iff.1 HR1.out).1).trans HR1.out
    have hB := (hz.block _ (Array.getElem?_eq_some_iff.1 HR2.out).1).trans HR2.out
    obtain ⟨⟨r0, r1, r2, r3, r4, r5, r6, r7⟩, f0, f1, f2, f3, f4, f5, f6, f7⟩ := zcells hA
    obtain ⟨s0, s1, t0, t1⟩ := zcells2 hB
    obtain ⟨hA3, hB3⟩ := zput_rows hA hB
    have HA3 := Lib.hid hA3
    have HB3 := Lib.hid hB3
    have HX3 := Lib.hid (zput_ext (HX1.out.trans hz))
    clear hz ez hA hB hA3 hB3
    go_wp2_with fail
    refine ret_bre rfl rfl rfl rfl HA3.out HB3.out rfl rfl rfl ?_
    rw [HRB.out]
    exact ⟨HX3.out, RetBR.none _ _ _⟩
   | lib j =>
    exact absurd (L.hit_lib hhit) (Nat.not_lt_zero _)
   | unit u mm =>
    rw [hhit] at hh
    obtain ⟨rfl, hL5⟩ := hh
    have hR' := HR.out
    rw [hhit] at hR'
    simp only at hR'
    obtain ⟨hu, hsec⟩ : u < E.units.length ∧ (E.sec? (u, x)).isSome = true := L.hit_sec (okN := okN) (E := ⟨E.objs, E.mems, []⟩) HEV.out.units hhit
    obtain ⟨_, _, _, hmm⟩ := L.hit_unit hhit
    have hmm : mm ≤ E.mems.length := hmm
    obtain ⟨c, hc⟩ := Option.isSome_iff_exists.1 hsec
    have hck := L.sec_is hc
    rw [hck] at hR'
    have hfw := HEV.out.few
    have hadd : L.addS (L.note ([], 0, 0) (mm, 0)) (u, x) = .ok ([(u, x)], mm, 0) := by
     unfold L.addS L.note L.has
     simp
    obtain ⟨W6, hW6⟩ : ∃ W6, W6 = w5.alloc (.cells #[.int .i64 (u : Int), .int .i64 (-1)] 101) := ⟨_, rfl⟩
    obtain ⟨pb, hpb⟩ : ∃ pb, pb = w5.heap.size := ⟨_, rfl⟩
    have E6 : Ext w5 W6 := by rw [hW6]; exact (Ext.refl w5).alloc _
    have hb6 : W6.heap[pb]? = some (.cells #[.int .i64 (u : Int), .int .i64 (-1)] 101 (0, 0)) := by rw [hW6, hpb]; exact heap_alloc_new w5 _
    have p0 : W6.cell? ⟨pb, 0, none⟩ = _ := cell_of_row W6 pb 0 _ _ _ hb6
    have HADD := Lib.hid (add_any W6 S X _ g E _ [] k (hL5.ext E6) (u, x) ⟨by show u < _; omega, HX.out⟩ (fun q hq => by cases (show q ∈ [] from hq)) (Nat.zero_le _))
    rw [hadd] at HADD
    have HL6 := Lib.hid (hL5.ext E6)
    have HX6 := Lib.hid (HX5.out.trans E6)
    have HPB := Lib.hid hpb
    have HU := Lib.hid hu
    have HSEC := Lib.hid hsec
    have HMM := Lib.hid hmm
    have HC := Lib.hid hc
    have HRC := Lib.hid hR'
    have HOK : Hid (L.ListOk E [(u, x)]) := ⟨(show 1 ≤ 128 by decide), by simp, fun p hp => by rw [List.mem_singleton.1 hp]; exact ⟨hu, hsec⟩⟩
    clear hhit hL5 hR' hu hsec hmm hc hck hadd E6 hb6 hpb
    unfold placeV
    go_upto_region 6 with (fail)
    rw [← hW6, ← HPB.out]
    clear hW6
    go_wp2_with fail
    refine HADD.out.mono ?_
    rintro e w7 ⟨ht7, rfl, X', k', hX', hL7⟩
    have HX7 := Lib.hid (HL6.out.extTch HX6.out ht7)
    have HDT : Hid (Calls Tryz.prog 49 #[.pointer (some ⟨g, 0, none⟩), .int .i64 0] w7 (RetSec w7 S c)) := data_any w7 S X' _ g E ([(u, x)], mm, 0) [] k' hL7 HEV.out (i := 0) (show 0 < 1 by decide) (show 1 ≤ 128 by decide) HC.out
    have HL7 := Lib.hid hL7
    clear ht7 hX' hL7
    go_wp2_with fail
    refine HDT.out.mono ?_
    rintro e w8 ⟨e8, RA, rc, hRA, rfl⟩
    have HX8 := Lib.hid (HX7.out.trans e8)
    have HL8 := Lib.hid (HL7.out.ext e8)
    obtain ⟨ck, cd, cr⟩ := c
    simp only at HRC
    obtain ⟨rn, hrn⟩ : ∃ rn, rn = cr.length := ⟨_, rfl⟩
    rw [← hrn]
    clear hrn hRA e8 HDT
    have hfd : ∀ W : World, (Instr.field 67 (.agg #[.int .i64 ck, .string cd, .slice RA rn rc]) 0).run Tryz.prog W = .ok (.int .i64 ck) W := fun _ => by kernel_rfl
    by_cases hk : ck = 1
    ·subst hk
     have hR' := HRC.out
     rw [if_neg (by decide)] at hR'
     have HRF := Lib.hid hR'
     have HFN := Lib.hid (finish_any w8 S X' _ g E ([(u, x)], mm, 0) k' HL8.out HEV.out HOK.out ⟨HMM.out, Nat.zero_le _⟩ HLZ.out)
     clear hR'
     go_wp2_with fail
     refine HFN.out.mono ?_
     rintro e w9 ⟨ht9, vs, rs, rfl, hBV, hRV, _⟩
     have HX9 := Lib.hid (HL8.out.extTch HX8.out ht9)
     have HTS := Lib.hid ht9.size
     obtain ⟨x10, n1, n2, n3⟩ := two_cells w9
     obtain ⟨n4, n5, n6, y10, _⟩ := two_stores w9 _ vs rs x10 n1 n2
     obtain ⟨W10, hW10⟩ : ∃ W10, W10 = (((w9.alloc (.cells zrow35 35)).alloc (.cells zrow38 38)).setRow w9.heap.size (Array.mk vs)).setRow (w9.heap.size + 1) (Array.mk rs) := ⟨_, rfl⟩
     rw [← hW10] at n5 n6 y10
     have hrow := row35 hBV
     have hone := hBV.one
     have hlen := hBV.len
     have hrow2 := row38 hRV
     have hone2 := hRV.one
     have hlen2 := hRV.len
     have HBV := Lib.hid hBV
     have HRV := Lib.hid hRV
     have H5 := Lib.hid n5
     have H6 := Lib.hid n6
     have HY := Lib.hid y10
     have HRB1 := HE3.out.trans (HX9.out.trans y10)
     have HZ1 := Lib.hid ((HRB1.block _ (Array.getElem?_eq_some_iff.1 HR1.out).1).trans HR1.out)
     have HZ2 := Lib.hid ((HRB1.block _ (Array.getElem?_eq_some_iff.1 HR2.out).1).trans HR2.out)
     have HXX := Lib.hid (HX1.out.trans HRB1)
     have HLT : Hid (w.heap.size + 2 ≤ w8.heap.size) := by
      have h1 := (HE3.out.trans HX8.out).size
      have h2 := HS1.out
      unfold Hid
      omega
     clear ht9 hBV hRV x10 n3 n5 n6 y10 HRB1
     obtain ⟨er, her⟩ : ∃ er, er = (finV E (L.finish E ([(u, x)], mm, 0))).2.2 := ⟨_, rfl⟩
     rw [← her]
     have HER := Lib.hid her
     clear her
     go_upto_region 12 with (first | (refine wpList_store_row rfl 35 (.tmp 15) (.tmp 67) rfl w9.heap.size (Array.mk vs) rfl rfl 35 _ n1 hrow (show 8 = vs.length from hlen.symm) hone ?_) | (refine wpList_store_row rfl 38 (.tmp 16) (.tmp 68) rfl (w9.heap.size + 1) (Array.mk rs) rfl rfl 38 _ n4 hrow2 (show 2 = rs.length from hlen2.symm) hone2 ?_))
     rw [← hW10]
     clear hW10 n1 n2 n4
     obtain ⟨tb, htb⟩ : ∃ tb, tb = w9.heap.size := ⟨_, rfl⟩
     have HTBL : Hid (w8.heap.size ≤ tb) := by
      rw [htb]
      exact HTS.out
     rw [← htb]
     rw [← htb] at H5 H6
     have HTB9 := Lib.hid htb
     clear htb
     cases hfin : L.finish E ([(u, x)], mm, 0) with
     | error ne =>
      have hne0 := L.finish_ne hfin
      have hR' := HRF.out
      rw [hfin] at hR'
      have her := HER.out
      rw [hfin] at her
      have hRB : FV = (zeroB, ([], []), er) := by rw [hR', her]; rfl
      have hen : er = ne := her
      rw [← hen] at hne0
      have q1 : (er == 0) = false := by simpa using hne0
      have HRB := Lib.hid hRB
      have HBE : Hid (BinV W10 (Fresh w8 w9) zeroB vs) := by
       have := HBV.out
       rw [hfin] at this
       exact this.keep (fun _ h => h) fun i hi => HY.out.block i hi.2
      have HRE : Hid (RdV W10 (Fresh w8 w9) ([], []) rs) := by
       have := HRV.out
       rw [hfin] at this
       exact this.keep (fun _ h => h) fun i hi => HY.out.block i hi.2
      have HWE : Hid (Tch (fun i => False) w9 W10) := HY.out.tch _
      have HT1 := H5
      have HT2 := H6
      have HZE1 := HZ1
      have HZE2 := HZ2
      have HXE := HXX
      clear hR' hRB hen her HER hne0 H5 H6 HZ1 HZ2 HXX hfin
      obtain ⟨WE, hWE⟩ : ∃ WE, WE = W10 := ⟨_, rfl⟩
      subst hWE
      have HRW := Lib.hid hrow
      obtain ⟨Φ, hΦ⟩ : ∃ Φ : World → Prop, ∀ W, Φ W ↔ Tch (fun i => i = w.heap.size ∨ i = w.heap.size + 1) WE W := ⟨_, fun _ => Iff.rfl⟩
      have h0 : Φ WE.drew := (hΦ _).2 (((Ext.refl WE).drew).tch _)
      have hfx : ∀ w', (∃ x : Lat Φ, w' = x.w') → w'.heap[tb]? = some (.cells (Array.mk vs) 35 (0, 0)) := by
       rintro w' ⟨z, rfl⟩
       exact (((hΦ _).1 z.h).block _ (Array.getElem?_eq_some_iff.1 HT1.out).1 (by have := HTBL.out; have := HLT.out; omega)).trans HT1.out
      have hfy : ∀ w', (∃ x : Lat Φ, w' = x.w') → w'.heap[tb + 1]? = some (.cells (Array.mk rs) 38 (0, 0)) := by
       rintro w' ⟨z, rfl⟩
       exact (((hΦ _).1 z.h).block _ (Array.getElem?_eq_some_iff.1 HT2.out).1 (by have := HTBL.out; have := HLT.out; omega)).trans HT2.out
      have hne := Lat.some h0
      have HFX := Lib.hid hfx
      have HFY := Lib.hid hfy
      have HPH := Lib.hid hΦ
      clear hfx hfy hΦ
      go_upto_region 14 with (fail)
      refine wp_region_tail 5 [3, 4] Φ h0 (by kernel_rfl) (by kernel_rfl) (by kernel_rfl) ?_
      simp only [List.take_succ_cons, List.take_zero, List.drop_succ_cons, List.drop_zero]
      refine lex_pure rfl rfl rfl ?_
      intro K hK
      refine quiet_load_row 35 _ rfl tb rfl 35 (Array.mk vs) (0, 0) _ HFX.out Tryz.underlying35 rfl hrow ?_
      go_simp
      go_big_quiet_on
      refine lex_pure rfl rfl rfl ?_
      intro K hK
      refine quiet_load_row 38 _ rfl (tb + 1) rfl 38 (Array.mk rs) (0, 0) _ HFY.out Tryz.underlying38 rfl hrow2 ?_
      go_simp
      go_big_quiet_on
      refine lex_pure rfl rfl rfl ?_; intro K hK; go_big_quiet_op; go_big_quiet_on
      refine lex_eff rfl ?_
      have hA8 := HZE1.out
      have hB8 := HZE2.out
      go_wp2_with (refine wpList_store_row rfl 35 (.tmp 8) (.tmp 73) rfl w.heap.size (Array.mk vs) rfl rfl 35 _ hA8 hrow (show 8 = vs.length from hlen.symm) hone ?_)
      obtain ⟨s1, s2, s3, s4, s5⟩ := two_stores w WE.drew vs rs (HXE.out.drew) hA8 hB8
      have hT6 : Tch (fun i => i = w.heap.size ∨ i = w.heap.size + 1) WE (WE.drew.setRow w.heap.size (Array.mk vs)) := (((Ext.refl WE).drew).tch _).trans ((tch_setRow _ _ _).mono fun _ _ h => .inl h)
      refine ⟨⟨⟨_, (HPH.out _).2 hT6⟩, rfl⟩, ?_⟩
      refine lex_eff rfl ?_
      go_wp2_with (refine wpList_store_row rfl 38 (.tmp 9) (.tmp 74) rfl (w.heap.size + 1) (Array.mk rs) rfl rfl 38 _ s1 hrow2 (show 2 = rs.length from hlen2.symm) hone2 ?_)
      refine ⟨⟨⟨_, (HPH.out _).2 ((((Ext.refl WE).drew).tch _).trans s5)⟩, rfl⟩, ?_⟩
      refine lex_nil ?_
      show wpList _ _ _ (_ :: []) _ _
      go_wp2_with fail
      refine ret_bre rfl rfl rfl rfl s2 s3 hlen hlen2 rfl ?_
      rw [HRB.out]
      have hdr : WE.drew.heap.size = WE.heap.size := rfl
      refine ⟨s4, _, _, rfl, ?_, ?_⟩
      ·refine HBE.out.keep (fun i hi => ?_) fun i hi => ?_
       ·have h1 := hi.1
        have h2 := hi.2
        have h3 := s5.size
        have h4 := HWE.out.size
        have h5 := HLT.out
        exact ⟨by omega, by omega⟩
       ·have h1 := hi.1
        have h2 := hi.2
        have h5 := HLT.out
        have h6 := HWE.out
        exact (s5.block i (by have := h6.size; omega) (by omega)).trans rfl
      ·refine HRE.out.keep (fun i hi => ?_) fun i hi => ?_
       ·have h1 := hi.1
        have h2 := hi.2
        have h3 := s5.size
        have h4 := HWE.out.size
        have h5 := HLT.out
        exact ⟨by omega, by omega⟩
       ·have h1 := hi.1
        have h2 := hi.2
        have h5 := HLT.out
        have h6 := HWE.out
        exact (s5.block i (by have := h6.size; omega) (by omega)).trans rfl
     | ok sf =>
      have hR' := HRF.out
      rw [hfin] at hR'
      have her := HER.out
      rw [hfin] at her
      have her0 : er = 0 := her
      have hRB : FV = (E.bin sf.1 1 0 [], E.reading sf.2, er) := by rw [hR', her0]; rfl
      have HRB := Lib.hid hRB
      have hBE0 : BinV W10 (Fresh w8 w9) (E.bin sf.1 0 0 []) vs := by
       have := HBV.out
       rw [hfin] at this
       exact this.keep (fun _ h => h) fun i hi => HY.out.block i hi.2
      have hRE0 : RdV W10 (Fresh w8 w9) (E.reading sf.2) rs := by
       have := HRV.out
       rw [hfin] at this
       exact this.keep (fun _ h => h) fun i hi => HY.out.block i hi.2
      have hBE1 := hBE0.kind 1 (by decide)
      obtain ⟨WE, hWE⟩ : ∃ WE, WE = W10.setCell ⟨tb, 0, none⟩ (.int .i64 1) := ⟨_, rfl⟩
      have hTE : Tch (fun i => i = tb) W10 WE := by rw [hWE]; exact grown_tch (grownBy_setCell W10 ⟨tb, 0, none⟩ _)
      obtain ⟨v1, hv1⟩ : ∃ v1, v1 = vs.set 0 (.int .i64 1) := ⟨_, rfl⟩
      have hT1 : WE.heap[tb]? = some (.cells (Array.mk v1) 35 (0, 0)) := by
       rw [hWE, heap_setCell_cells H5.out 0 _, hv1]
       simp
      rw [← hv1] at hBE1
      have hf1 : tb ≠ w.heap.size ∧ tb ≠ w.heap.size + 1 := by have := HTBL.out; have := HLT.out; omega
      have hz1 := (hTE.block _ (Array.getElem?_eq_some_iff.1 HZ1.out).1 (Ne.symm hf1.1)).trans HZ1.out
      have hz2 := (hTE.block _ (Array.getElem?_eq_some_iff.1 HZ2.out).1 (Ne.symm hf1.2)).trans HZ2.out
      have hT2 := (hTE.block _ (Array.getElem?_eq_some_iff.1 H6.out).1 (by omega)).trans H6.out
      have k0 : W10.cell? ⟨tb, 0, none⟩ = (Array.mk vs)[0]? := cell_of_row W10 tb 0 _ _ _ H5.out
      have kf := Lib.frozen_of_heap H5.out 0
      have hv0 : ∃ y, (Array.mk vs)[0]? = some y := ⟨_, Array.getElem?_eq_getElem (by show 0 < vs.length; omega)⟩
      obtain ⟨y0, hy0⟩ := hv0
      rw [hy0] at k0
      have HBE : Hid (BinV WE (Fresh w8 w9) (E.bin sf.1 1 0 []) v1) := hBE1.keep (fun _ h => h) fun i hi => hTE.block i (Nat.lt_of_lt_of_le hi.2 HY.out.size) (by have h9 := hi.2; have := HTB9.out; omega)
      have HRE : Hid (RdV WE (Fresh w8 w9) (E.reading sf.2) rs) := hRE0.keep (fun _ h => h) fun i hi => hTE.block i (Nat.lt_of_lt_of_le hi.2 HY.out.size) (by have h9 := hi.2; have := HTB9.out; omega)
      have HWE : Hid (Tch (fun i => i = tb) w9 WE) := (HY.out.tch _).trans hTE
      have HXE : Hid (Ext w WE) := by
       have h1 : Tch (fun _ => False) w W10 := HXX.out.tch _
       exact (h1.trans' hTE fun i hi e => absurd hi (by have := HTBL.out; have := HLT.out; omega)).ext fun _ _ h => h
      have HT1 := Lib.hid hT1
      have HT2 := Lib.hid hT2
      have HZE1 := Lib.hid hz1
      have HZE2 := Lib.hid hz2
      have hrow1 := row35 HBE.out
      have hone1 := HBE.out.one
      have hlen1 := HBE.out.len
      clear hR' hRB hBE0 hRE0 hBE1 hTE hT1 hT2 hz1 hz2 hf1 HZ1 HZ2 H5 H6 HXX hfin hrow hone hlen hv1 hy0
      clear her HER
      subst her0
      go_upto_region 14 with (fail)
      rw [← hWE]
      clear hWE k0 kf
      obtain ⟨Φ, hΦ⟩ : ∃ Φ : World → Prop, ∀ W, Φ W ↔ Tch (fun i => i = w.heap.size ∨ i = w.heap.size + 1) WE W := ⟨_, fun _ => Iff.rfl⟩
      have h0 : Φ WE.drew := (hΦ _).2 (((Ext.refl WE).drew).tch _)
      have hfx : ∀ w', (∃ x : Lat Φ, w' = x.w') → w'.heap[tb]? = some (.cells (Array.mk v1) 35 (0, 0)) := by
       rintro w' ⟨z, rfl⟩
       exact (((hΦ _).1 z.h).block _ (Array.getElem?_eq_some_iff.1 HT1.out).1 (by have := HTBL.out; have := HLT.out; omega)).trans HT1.out
      have hfy : ∀ w', (∃ x : Lat Φ, w' = x.w') → w'.heap[tb + 1]? = some (.cells (Array.mk rs) 38 (0, 0)) := by
       rintro w' ⟨z, rfl⟩
       exact (((hΦ _).1 z.h).block _ (Array.getElem?_eq_some_iff.1 HT2.out).1 (by have := HTBL.out; have := HLT.out; omega)).trans HT2.out
      have hne := Lat.some h0
      have HFX := Lib.hid hfx
      have HFY := Lib.hid hfy
      have HPH := Lib.hid hΦ
      clear hfx hfy hΦ
      refine wp_region_tail 5 [3, 4] Φ h0 (by kernel_rfl) (by kernel_rfl) (by kernel_rfl) ?_
      simp only [List.take_succ_cons, List.take_zero, List.drop_succ_cons, List.drop_zero]
      refine lex_pure rfl rfl rfl ?_
      intro K hK
      refine quiet_load_row 35 _ rfl tb rfl 35 (Array.mk v1) (0, 0) _ HFX.out Tryz.underlying35 rfl hrow1 ?_
      go_simp
      go_big_quiet_on
      refine lex_pure rfl rfl rfl ?_
      intro K hK
      refine quiet_load_row 38 _ rfl (tb + 1) rfl 38 (Array.mk rs) (0, 0) _ HFY.out Tryz.underlying38 rfl hrow2 ?_
      go_simp
      go_big_quiet_on
      refine lex_pure rfl rfl rfl ?_; intro K hK; go_big_quiet_op; go_big_quiet_on
      refine lex_eff rfl ?_
      have hA8 := HZE1.out
      have hB8 := HZE2.out
      go_wp2_with (refine wpList_store_row rfl 35 (.tmp 8) (.tmp 73) rfl w.heap.size (Array.mk v1) rfl rfl 35 _ hA8 hrow1 (show 8 = v1.length from hlen1.symm) hone1 ?_)
      obtain ⟨s1, s2, s3, s4, s5⟩ := two_stores w WE.drew v1 rs (HXE.out.drew) hA8 hB8
      have hT6 : Tch (fun i => i = w.heap.size ∨ i = w.heap.size + 1) WE (WE.drew.setRow w.heap.size (Array.mk v1)) := (((Ext.refl WE).drew).tch _).trans ((tch_setRow _ _ _).mono fun _ _ h => .inl h)
      refine ⟨⟨⟨_, (HPH.out _).2 hT6⟩, rfl⟩, ?_⟩
      refine lex_eff rfl ?_
      go_wp2_with (refine wpList_store_row rfl 38 (.tmp 9) (.tmp 74) rfl (w.heap.size + 1) (Array.mk rs) rfl rfl 38 _ s1 hrow2 (show 2 = rs.length from hlen2.symm) hone2 ?_)
      refine ⟨⟨⟨_, (HPH.out _).2 ((((Ext.refl WE).drew).tch _).trans s5)⟩, rfl⟩, ?_⟩
      refine lex_nil ?_
      show wpList _ _ _ (_ :: []) _ _
      go_wp2_with fail
      refine ret_bre rfl rfl rfl rfl s2 s3 hlen1 hlen2 rfl ?_
      rw [HRB.out]
      have hdr : WE.drew.heap.size = WE.heap.size := rfl
      refine ⟨s4, _, _, rfl, ?_, ?_⟩
      ·refine HBE.out.keep (fun i hi => ?_) fun i hi => ?_
       ·have h1 := hi.1
        have h2 := hi.2
        have h3 := s5.size
        have h4 := HWE.out.size
        have h5 := HLT.out
        exact ⟨by omega, by omega⟩
       ·have h1 := hi.1
        have h2 := hi.2
        have h5 := HLT.out
        have h6 := HWE.out
        exact (s5.block i (by have := h6.size; omega) (by omega)).trans rfl
      ·refine HRE.out.keep (fun i hi => ?_) fun i hi => ?_
       ·have h1 := hi.1
        have h2 := hi.2
        have h3 := s5.size
        have h4 := HWE.out.size
        have h5 := HLT.out
        exact ⟨by omega, by omega⟩
       ·have h1 := hi.1
        have h2 := hi.2
        have h5 := HLT.out
        have h6 := HWE.out
        exact (s5.block i (by have := h6.size; omega) (by omega)).trans rfl
    ·have hR' := HRC.out
     rw [if_pos hk] at hR'
     have hRB : FV = (zeroB, ([], []), 9) := hR'
     have HRB := Lib.hid hRB
     have q1 : (ck == 1) = false := by simpa using hk
     have q2 : (ck != 1) = true := by simp [bne, q1]
     clear hR' hRB
     go_wp2_with fail
     refine (none43_any 9 _).mono ?_
     rintro e wz ⟨ez, rfl⟩
     have hz := (HE3.out.trans HX8.out).trans ez
     have hA := (hz.block _ (Array.getElem?_eq_some_iff.1 HR1.out).1).trans HR1.out
     have hB := (hz.block _ (Array.getElem?_eq_some_iff.1 HR2.out).1).trans HR2.out
     obtain ⟨⟨r0, r1, r2, r3, r4, r5, r6, r7⟩, f0, f1, f2, f3, f4, f5, f6, f7⟩ := zcells hA
     obtain ⟨s0, s1, t0, t1⟩ := zcells2 hB
     obtain ⟨hA3, hB3⟩ := zput_rows hA hB
     have HA3 := Lib.hid hA3
     have HB3 := Lib.hid hB3
     have HX3 := Lib.hid (zput_ext (HX1.out.trans hz))
     clear hz ez hA hB hA3 hB3
     go_wp2_with fail
     refine ret_bre rfl rfl rfl rfl HA3.out HB3.out rfl rfl rfl ?_
     rw [HRB.out]
     exact ⟨HX3.out, RetBR.none _ _ _⟩
end Go.Proofs.YtfbhchpbflaphaaGreatDoor

namespace Go.Proofs.YtfbhchpbflaphaaGreatDoor
open Go.RowKit Go.Maps Go.ChangeMaps
attribute [local irreducible] wpLex wpT
set_option maxRecDepth 8000 in
set_option maxHeartbeats 8000000 in
theorem refLink_any (x : ByteArray) (objs : List C.Mem) (sh : List L.Shelf) (libs : List L.Libr) (A B D : Option Addr) (a b d n m q : Nat) (w : World) (hn : n = objs.length) (hA : SliceAt memR w (Old w) A a objs) (hm : m = sh.length) (hB : SliceAt shelfR w (Old w) B b sh) (hq : q = libs.length) (hD : SliceAt librR w (Old w) D d libs)
  (hC : CaseOk objs sh libs) (hx : x.size ≤ 9223372036854775807) :
  Calls Tryz.prog 13 #[.string x, .slice A n a, .slice B m b, .slice D q d] w (RetLk w (linkV (L.linkL okN okP x objs sh libs))) := by
 have HMK := Lib.hid (fun W (e : Ext w W) => Make_any objs sh libs A B D a b d n m q W hn (hA.ext e) hm (hB.ext e) hq (hD.ext e) hC)
 have HNM := Lib.hid (fun W => refName_any x W hx)
 have HE := Lib.hid hC.env
 have HX := Lib.hid hx
 obtain ⟨FV, hR⟩ : ∃ FV, FV = linkV (L.linkL okN okP x objs sh libs) := ⟨_, rfl⟩
 rw [← hR]
 unfold L.linkL at hR
 have hnm : okN x = K.name x.data.toList := rfl
 rw [hnm] at hR
 obtain ⟨E, hE⟩ : ∃ E, E = L.envOf objs sh libs := ⟨_, rfl⟩
 have hE2 : L.envOf objs sh [] = ⟨E.objs, E.mems, []⟩ := by rw [hE]; rfl
 have hml : L.memsOf sh = E.mems := by rw [hE]; rfl
 have HA : Hid (SliceAt memR w (Old w) A a E.objs) := by rw [hE]; exact hA
 have HD : Hid (SliceAt librR w (Old w) D d E.libs) := by rw [hE]; exact hD
 have HN : Hid (n = E.objs.length ∧ q = E.libs.length) := by rw [hE]; exact ⟨hn, hq⟩
 rw [hE2, ← hE] at hR
 rw [← hE] at HE
 rw [hml] at HMK
 generalize L.validB okN okP objs sh libs = V at HMK hR HE
 generalize K.name x.data.toList = N at HNM hR
 obtain ⟨hx1, hr1, hr2, hs1⟩ := two_cells w
 obtain ⟨W1, hW1⟩ : ∃ W1, W1 = (w.alloc (.cells zrow35 35)).alloc (.cells zrow38 38) := ⟨_, rfl⟩
 rw [← hW1] at hx1 hr1 hr2 hs1
 have HW1 := Lib.hid hW1
 have HX1 := Lib.hid hx1
 have HR1 := Lib.hid hr1
 have HR2 := Lib.hid hr2
 have HS1 := Lib.hid hs1
 clear hn hA hm hB hq hD hC hx hnm hE hE2 hml hx1 hr1 hr2 hs1 hW1
 cases V with
 | false =>
  have hR' : FV = (zeroB, ([], []), 1) := by rw [hR]; rfl
  have HR := Lib.hid hR'
  clear hR hR' HE
  go_enter Tryz.func13, Tryz.ntmps13
  go_upto_region 1 with (fail)
  rw [← HW1.out]
  go_wp2_with fail
  refine (HMK.out _ HX1.out).mono ?_
  rintro _ w2 ⟨e2, MA, mk, mc, rfl, hown⟩
  clear hown
  have hz := e2.alloc (.cells #[.slice A n a, .slice MA mk mc, .slice D q d] 109)
  have hA := (hz.block _ (Array.getElem?_eq_some_iff.1 HR1.out).1).trans HR1.out
  have hB := (hz.block _ (Array.getElem?_eq_some_iff.1 HR2.out).1).trans HR2.out
  obtain ⟨⟨r0, r1, r2, r3, r4, r5, r6, r7⟩, f0, f1, f2, f3, f4, f5, f6, f7⟩ := zcells hA
  obtain ⟨s0, s1, t0, t1⟩ := zcells2 hB
  obtain ⟨hA3, hB3⟩ := zput_rows hA hB
  have HA3 := Lib.hid hA3
  have HB3 := Lib.hid hB3
  have HX3 := Lib.hid (zput_ext (HX1.out.trans hz))
  clear hz hA hB hA3 hB3
  go_wp2_with fail
  refine ret_bre rfl rfl rfl rfl HA3.out HB3.out rfl rfl rfl ?_
  rw [HR.out]
  exact ⟨HX3.out, RetBR.none _ _ _⟩
 | true =>
  cases N with
  | false =>
   have hR' : FV = (zeroB, ([], []), 1) := by rw [hR]; rfl
   have HR := Lib.hid hR'
   clear hR hR' HE
   go_enter Tryz.func13, Tryz.ntmps13
   go_upto_region 1 with (fail)
   rw [← HW1.out]
   go_wp2_with fail
   refine (HMK.out _ HX1.out).mono ?_
   rintro _ w2 ⟨e2, MA, mk, mc, rfl, hown⟩
   clear hown
   have HE2 := Lib.hid (e2.alloc (.cells #[.slice A n a, .slice MA mk mc, .slice D q d] 109))
   clear e2
   go_wp2_with fail
   refine (HNM.out _).mono ?_
   rintro _ w3 ⟨rfl, e3⟩
   have hz := HE2.out.trans e3
   have hA := (hz.block _ (Array.getElem?_eq_some_iff.1 HR1.out).1).trans HR1.out
   have hB := (hz.block _ (Array.getElem?_eq_some_iff.1 HR2.out).1).trans HR2.out
   obtain ⟨⟨r0, r1, r2, r3, r4, r5, r6, r7⟩, f0, f1, f2, f3, f4, f5, f6, f7⟩ := zcells hA
   obtain ⟨s0, s1, t0, t1⟩ := zcells2 hB
   obtain ⟨hA3, hB3⟩ := zput_rows hA hB
   have HA3 := Lib.hid hA3
   have HB3 := Lib.hid hB3
   have HX3 := Lib.hid (zput_ext (HX1.out.trans hz))
   clear hz hA hB hA3 hB3
   go_wp2_with fail
   refine ret_bre rfl rfl rfl rfl HA3.out HB3.out rfl rfl rfl ?_
   rw [HR.out]
   exact ⟨HX3.out, RetBR.none _ _ _⟩
  | true =>
   have HEV := Lib.hid (HE.out rfl)
   rw [Bool.and_self, if_pos rfl] at hR
   have HR := Lib.hid hR
   clear hR HE
   go_enter Tryz.func13, Tryz.ntmps13
   go_upto_region 1 with (fail)
   rw [← HW1.out]
   go_wp2_with fail
   refine (HMK.out _ HX1.out).mono ?_
   rintro _ w2 ⟨e2, MA, mk, mc, rfl, hown⟩
   obtain ⟨A', c', hsl, hmo⟩ := (hown rfl).slice
   obtain ⟨rfl, rfl, rfl⟩ : MA = A' ∧ mk = E.mems.length ∧ mc = c' := by cases hsl; exact ⟨rfl, rfl, rfl⟩
   have hMO : SliceAt memR w2 (Old w2) MA mc E.mems := hmo.keep (fun b hb => by
    rcases hb with hb | hb
    ·exact Nat.lt_of_lt_of_le hb e2.size
    ·exact ((hown rfl).lt hb).2) fun _ _ => rfl
   obtain ⟨nm, hnm⟩ : ∃ nm, nm = E.mems.length := ⟨_, rfl⟩
   rw [← hnm]
   have hnn := HN.out.1
   have hqn := HN.out.2
   obtain ⟨W3, hW3⟩ : ∃ W3, W3 = w2.alloc (.cells #[.slice A n a, .slice MA nm mc, .slice D q d] 109) := ⟨_, rfl⟩
   obtain ⟨ab, hab⟩ : ∃ ab, ab = w2.heap.size := ⟨_, rfl⟩
   have E3 : Ext w2 W3 := by rw [hW3]; exact (Ext.refl w2).alloc _
   have hb3 : W3.heap[ab]? = some (.cells #[.slice A n a, .slice MA nm mc, .slice D q d] 109 (0, 0)) := by rw [hW3, hab]; exact heap_alloc_new w2 _
   have HB3 := Lib.hid hb3
   have HX3 := Lib.hid (e2.trans E3)
   have HMO := Lib.hid (hMO.ext E3)
   have HNN : Hid (n = E.objs.length ∧ nm = E.mems.length ∧ q = E.libs.length) := ⟨hnn, hnm, hqn⟩
   have HAB := Lib.hid hab
   clear e2 hown hsl hmo hMO hnm E3 hb3 hab hnn hqn
   go_upto_region 2 with (fail)
   rw [← hW3, ← HAB.out]
   clear hW3
   go_wp2_with fail
   refine (HNM.out _).mono ?_
   rintro _ w4 ⟨rfl, e4⟩
   have hb4 := (e4.block _ (Array.getElem?_eq_some_iff.1 HB3.out).1).trans HB3.out
   have HX4 := Lib.hid (HX3.out.trans e4)
   have hxw := HX1.out.trans HX4.out
   have hNEW := RlAt.new (HA.out.ext hxw) (HMO.out.ext e4) (HD.out.ext hxw)
   rw [← HNN.out.1, ← HNN.out.2.1, ← HNN.out.2.2] at hNEW
   have c0 : w4.cell? ⟨ab, 0, none⟩ = _ := cell_of_row w4 _ 0 _ _ _ hb4
   have c1 : w4.cell? ⟨ab, 1, none⟩ = _ := cell_of_row w4 _ 1 _ _ _ hb4
   have c2 : w4.cell? ⟨ab, 2, none⟩ = _ := cell_of_row w4 _ 2 _ _ _ hb4
   obtain ⟨WL, hWL⟩ : ∃ WL, WL = w4.alloc (.cells #[.slice A n a, .slice MA nm mc, .slice D q d, .slice none 0 0, .int .i64 0, .int .i64 0] 115) := ⟨_, rfl⟩
   obtain ⟨g, hg⟩ : ∃ g, g = w4.heap.size := ⟨_, rfl⟩
   have EL : Ext w4 WL := by rw [hWL]; exact (Ext.refl w4).alloc _
   have hbL := (EL.block _ (Array.getElem?_eq_some_iff.1 hb4).1).trans hb4
   have habg : ab ≠ g := by
    have := (Array.getElem?_eq_some_iff.1 hb4).1
    omega
   rw [← hWL, ← hg] at hNEW
   have HGW : Hid (W1.heap.size ≤ g ∧ ab ≠ g ∧ w.heap.size ≤ g) := ⟨by rw [hg]; exact HX4.out.size, habg, by rw [hg]; exact hxw.size⟩
   have HLK := Lib.hid hNEW
   have HBL := Lib.hid hbL
   have HXL := Lib.hid (HX4.out.trans EL)
   have HG := Lib.hid hg
   have HRS := Lib.hid (rResolve_any ⟨E.objs, E.mems, []⟩ A MA none a mc 0 n nm 0 x WL HNN.out.1 (HA.out.ext (hxw.trans EL)) HNN.out.2.1 (HMO.out.ext (e4.trans EL)) rfl (SliceAt.nil _ _ _ _ _ (by omega)) HEV.out.syms (by have := HEV.out.lens; have := HNN.out.1; omega) (by have := HEV.out.lens; have := HNN.out.2.1; omega) (by omega) HX.out)
   clear e4 hxw hNEW hbL habg hg EL hb4
   go_upto_region 5 with (fail)
   rw [← hWL, ← HG.out]
   clear hWL c0 c1 c2
   have c0 : WL.cell? ⟨ab, 0, none⟩ = _ := cell_of_row WL _ 0 _ _ _ HBL.out
   have c1 : WL.cell? ⟨ab, 1, none⟩ = _ := cell_of_row WL _ 1 _ _ _ HBL.out
   go_wp2_with fail
   refine HRS.out.mono ?_
   rintro e w5 ⟨e5, rfl⟩
   have HX5 := Lib.hid (HXL.out.trans e5)
   have HB5 := Lib.hid ((e5.block _ (Array.getElem?_eq_some_iff.1 HBL.out).1).trans HBL.out)
   have HL5 := Lib.hid (HLK.out.ext e5)
   clear c0 c1 e5
   cases hhit : L.hit ⟨E.objs, E.mems, []⟩ x with
   | twice =>
    have hR' : FV = (zeroB, ([], []), 6) := by rw [HR.out, hhit]; rfl
    have HRB := Lib.hid hR'
    clear hR' hhit
    rw [show foundH ⟨E.objs, E.mems, []⟩ .twice = ((0, 0, 0, 0, 0), 6) from rfl]
    unfold fndV
    simp only
    have hz := (HX5.out.alloc (.cells #[.int .i64 0, .int .i64 0, .int .i64 0, .int .i64 0, .int .i64 0] 117))
    have hA := (hz.block _ (Array.getElem?_eq_some_iff.1 HR1.out).1).trans HR1.out
    have hB := (hz.block _ (Array.getElem?_eq_some_iff.1 HR2.out).1).trans HR2.out
    obtain ⟨⟨r0, r1, r2, r3, r4, r5, r6, r7⟩, f0, f1, f2, f3, f4, f5, f6, f7⟩ := zcells hA
    obtain ⟨s0, s1, t0, t1⟩ := zcells2 hB
    obtain ⟨hA3, hB3⟩ := zput_rows hA hB
    have HA3 := Lib.hid hA3
    have HB3 := Lib.hid hB3
    have HX3 := Lib.hid (zput_ext (HX1.out.trans hz))
    clear hz hA hB hA3 hB3
    go_wp2_with fail
    refine ret_bre rfl rfl rfl rfl HA3.out HB3.out rfl rfl rfl ?_
    rw [HRB.out]
    exact ⟨HX3.out, RetBR.none _ _ _⟩
   | unknown =>
    have hR' : FV = (zeroB, ([], []), 8) := by rw [HR.out, hhit]; rfl
    have HRB := Lib.hid hR'
    clear hR' hhit
    obtain ⟨zn, hzn⟩ : ∃ zn : Int, zn = (E.mems.length : Int) := ⟨_, rfl⟩
    rw [show foundH ⟨E.objs, E.mems, []⟩ .unknown = ((-1, -1, -1, zn, 0), 8) by rw [hzn]; rfl]
    clear hzn
    unfold fndV
    simp only
    have hz := (HX5.out.alloc (.cells #[.int .i64 (-1), .int .i64 (-1), .int .i64 (-1), .int .i64 zn, .int .i64 0] 117))
    have hA := (hz.block _ (Array.getElem?_eq_some_iff.1 HR1.out).1).trans HR1.out
    have hB := (hz.block _ (Array.getElem?_eq_some_iff.1 HR2.out).1).trans HR2.out
    obtain ⟨⟨r0, r1, r2, r3, r4, r5, r6, r7⟩, f0, f1, f2, f3, f4, f5, f6, f7⟩ := zcells hA
    obtain ⟨s0, s1, t0, t1⟩ := zcells2 hB
    obtain ⟨hA3, hB3⟩ := zput_rows hA hB
    have HA3 := Lib.hid hA3
    have HB3 := Lib.hid hB3
    have HX3 := Lib.hid (zput_ext (HX1.out.trans hz))
    clear hz hA hB hA3 hB3
    go_wp2_with fail
    refine ret_bre rfl rfl rfl rfl HA3.out HB3.out rfl rfl rfl ?_
    rw [HRB.out]
    exact ⟨HX3.out, RetBR.none _ _ _⟩
   | lib j =>
    exact absurd (L.hit_lib hhit) (Nat.not_lt_zero _)
   | unit u m0 =>
    have hR' := HR.out
    rw [hhit] at hR'
    simp only at hR'
    obtain ⟨hu, hsec⟩ : u < E.units.length ∧ (E.sec? (u, x)).isSome = true := L.hit_sec (okN := okN) (E := ⟨E.objs, E.mems, []⟩) HEV.out.units hhit
    obtain ⟨_, hmm, f0, f1, hfh, hmb⟩ := found_unit (E := E) (show (m0 = 0 ∧ u < E.objs.length) ∨ ∃ i, ∃ _ : i < E.mems.length, m0 = i + 1 ∧ u = E.objs.length + i from hit_cases (E := ⟨E.objs, E.mems, []⟩) hhit) HEV.out
    obtain ⟨c, hc⟩ := Option.isSome_iff_exists.1 hsec
    rw [L.sec_is hc] at hR'
    rw [hfh]
    unfold fndV
    simp only
    have hm5 : m0 ≤ 100000 := by have := HEV.out.lens; omega
    obtain ⟨W6, hW6⟩ : ∃ W6, W6 = w5.alloc (.cells #[.int .i64 f0, .int .i64 f1, .int .i64 (-1), .int .i64 (m0 : Int), .int .i64 0] 117) := ⟨_, rfl⟩
    obtain ⟨pb, hpb⟩ : ∃ pb, pb = w5.heap.size := ⟨_, rfl⟩
    have E6 : Ext w5 W6 := by rw [hW6]; exact (Ext.refl w5).alloc _
    have hb6 : W6.heap[pb]? = some (.cells #[.int .i64 f0, .int .i64 f1, .int .i64 (-1), .int .i64 (m0 : Int), .int .i64 0] 117 (0, 0)) := by rw [hW6, hpb]; exact heap_alloc_new w5 _
    have p0 : W6.cell? ⟨pb, 0, none⟩ = _ := cell_of_row W6 pb 0 _ _ _ hb6
    have p1 : W6.cell? ⟨pb, 1, none⟩ = _ := cell_of_row W6 pb 1 _ _ _ hb6
    have p2 : W6.cell? ⟨pb, 2, none⟩ = _ := cell_of_row W6 pb 2 _ _ _ hb6
    have p3 : W6.cell? ⟨pb, 3, none⟩ = _ := cell_of_row W6 pb 3 _ _ _ hb6
    have p4 : W6.cell? ⟨pb, 4, none⟩ = _ := cell_of_row W6 pb 4 _ _ _ hb6
    have HL6 := Lib.hid (HL5.out.ext E6)
    have HNT := Lib.hid (note_any HL6.out f0 f1 (-1) m0 0 ⟨Nat.zero_le _, Nat.zero_le _⟩ ⟨hmm, Nat.zero_le _⟩ ⟨by have := HEV.out.lens; omega, HEV.out.fewL⟩)
    have HX6 := Lib.hid (HX5.out.trans E6)
    have HB6 := Lib.hid ((E6.block _ (Array.getElem?_eq_some_iff.1 HB5.out).1).trans HB5.out)
    have HP6 := Lib.hid hb6
    have HPB := Lib.hid hpb
    have HMB := Lib.hid hmb
    have HRC := Lib.hid hR'
    have HCC := Lib.hid hc
    have HOK : Hid (L.ListOk E [(u, x)]) := ⟨(show 1 ≤ 128 by decide), by simp, fun p hp => by rw [List.mem_singleton.1 hp]; exact ⟨hu, hsec⟩⟩
    have HU : Hid (u < E.units.length ∧ m0 ≤ E.mems.length) := ⟨hu, hmm⟩
    clear hhit hR' hu hsec hmm hfh hmb hc E6 hb6 hpb
    go_upto_region 8 with (fail)
    rw [← hW6, ← HPB.out]
    clear hW6
    go_wp2_with fail
    refine HNT.out.mono ?_
    rintro e w7 ⟨rfl, hT7, hL7⟩
    have hst : L.note ([], 0, 0) (m0, 0) = ([], m0, 0) := by unfold L.note; simp
    rw [hst] at hL7
    have hpg : pb ≠ g := heap_kinds HP6.out HL6.out.row (by decide)
    have HB7 := Lib.hid ((hT7.block _ (Array.getElem?_eq_some_iff.1 HB6.out).1 HGW.out.2.1).trans HB6.out)
    have HP7 := Lib.hid ((hT7.block _ (Array.getElem?_eq_some_iff.1 HP6.out).1 hpg).trans HP6.out)
    have HX7 := Lib.hid (HX6.out.low hT7 fun k hk => by rw [hk]; exact HGW.out.1)
    have HL7 := Lib.hid hL7
    have HM7 := Lib.hid (HMB.out g A MA D a mc d w7 _ _ hL7)
    rw [← HNN.out.1, ← HNN.out.2.1, ← HNN.out.2.2] at HM7
    clear p0 p1 p2 p3 p4 hT7 hL7 hst hpg HNT HMB
    have p0 : w7.cell? ⟨pb, 0, none⟩ = _ := cell_of_row w7 pb 0 _ _ _ HP7.out
    have p1 : w7.cell? ⟨pb, 1, none⟩ = _ := cell_of_row w7 pb 1 _ _ _ HP7.out
    have p2 : w7.cell? ⟨pb, 2, none⟩ = _ := cell_of_row w7 pb 2 _ _ _ HP7.out
    have p3 : w7.cell? ⟨pb, 3, none⟩ = _ := cell_of_row w7 pb 3 _ _ _ HP7.out
    have p4 : w7.cell? ⟨pb, 4, none⟩ = _ := cell_of_row w7 pb 4 _ _ _ HP7.out
    have c0 : w7.cell? ⟨ab, 0, none⟩ = _ := cell_of_row w7 _ 0 _ _ _ HB7.out
    have c1 : w7.cell? ⟨ab, 1, none⟩ = _ := cell_of_row w7 _ 1 _ _ _ HB7.out
    have c2 : w7.cell? ⟨ab, 2, none⟩ = _ := cell_of_row w7 _ 2 _ _ _ HB7.out
    go_wp2_with fail
    refine HM7.out.mono ?_
    rintro e w8 ⟨e8, SC, cc, SD, cd, rfl, hSC, hSD⟩
    obtain ⟨tl, htl⟩ : ∃ tl, tl = (unitAt E u).2.1.length := ⟨_, rfl⟩
    obtain ⟨ul, hul⟩ : ∃ ul, ul = (unitAt E u).2.2.length := ⟨_, rfl⟩
    obtain ⟨nn, hnn⟩ : ∃ nn, nn = (unitAt E u).1 := ⟨_, rfl⟩
    have hnz : nn.size ≤ 9223372036854775807 := by rw [hnn, unitAt_is HU.out.1]; have := (HEV.out.sizes _ (List.getElem_mem HU.out.1)).1; omega
    rw [← htl, ← hul, ← hnn]
    obtain ⟨W9, hW9⟩ : ∃ W9, W9 = w8.alloc (.cells (spotV nn SC tl cc SD ul cd x) 123) := ⟨_, rfl⟩
    obtain ⟨sb, hsb⟩ : ∃ sb, sb = w8.heap.size := ⟨_, rfl⟩
    have E9 : Ext w8 W9 := by rw [hW9]; exact (Ext.refl w8).alloc _
    have hb9 : W9.heap[sb]? = some (.cells (spotV nn SC tl cc SD ul cd x) 123 (0, 0)) := by rw [hW9, hsb]; exact heap_alloc_new w8 _
    have q0 : W9.cell? ⟨sb, 0, none⟩ = _ := cell_of_row W9 sb 0 _ _ _ hb9
    have q1 : W9.cell? ⟨sb, 1, none⟩ = _ := cell_of_row W9 sb 1 _ _ _ hb9
    have q2 : W9.cell? ⟨sb, 2, none⟩ = _ := cell_of_row W9 sb 2 _ _ _ hb9
    have q3 : W9.cell? ⟨sb, 3, none⟩ = _ := cell_of_row W9 sb 3 _ _ _ hb9
    have HL9 := Lib.hid (HL7.out.ext (e8.trans E9))
    have hg8 : g < w8.heap.size := Nat.lt_of_lt_of_le HL7.out.lt e8.size
    have hSC9 := low_tch hSC (E9.tch fun _ => False) hg8 (fun _ h => h.elim)
    have hSD9 := low_tch hSD (E9.tch fun _ => False) hg8 (fun _ h => h.elim)
    have HSC : Hid (SliceAt symR W9 (fun k => k < g) SC cc (unitAt E u).2.1 ∧ SliceAt secR W9 (fun k => k < g) SD cd (unitAt E u).2.2) := ⟨hSC9, hSD9⟩
    have HUE : Hid (tl = (unitAt E u).2.1.length ∧ ul = (unitAt E u).2.2.length ∧ nn = (unitAt E u).1 ∧ nn.size ≤ 9223372036854775807) := ⟨htl, hul, hnn, hnz⟩
    have HSE := Lib.hid (section_rf E HEV.out (u, x) c HCC.out W9 (fun k => k < g) (fun k hk => Nat.lt_trans hk HL9.out.lt) SC SD cc cd hSC9 hSD9 nn HX.out)
    rw [← htl, ← hul] at HSE
    have HX9 := Lib.hid (HX7.out.trans (e8.trans E9))
    have HSB := Lib.hid hsb
    have HQ9 := Lib.hid hb9
    clear p0 p1 p2 p3 p4 c0 c1 c2 e8 E9 hb9 hsb hSC hSD hSC9 hSD9 htl hul hnn hnz hg8 HM7
    go_upto_region 10 with (fail)
    rw [← hW9, ← HSB.out]
    clear hW9
    go_wp2_with fail
    refine HSE.out.mono ?_
    rintro e w10 ⟨e10, RA, rc, hRA, rfl⟩
    obtain ⟨ck, cd2, cr⟩ := c
    simp only at HRC
    obtain ⟨rn, hrn⟩ : ∃ rn, rn = cr.length := ⟨_, rfl⟩
    rw [← hrn]
    have HX10 := Lib.hid (HX9.out.trans e10)
    have HL10 := Lib.hid (HL9.out.ext e10)
    have HQ10 := Lib.hid ((e10.block _ (Array.getElem?_eq_some_iff.1 HQ9.out).1).trans HQ9.out)
    have HSC10 : Hid (SliceAt symR w10 (fun k => k < g) SC cc (unitAt E u).2.1 ∧ SliceAt secR w10 (fun k => k < g) SD cd (unitAt E u).2.2) := ⟨low_tch HSC.out.1 (e10.tch fun _ => False) HL9.out.lt (fun _ h => h.elim), low_tch HSC.out.2 (e10.tch fun _ => False) HL9.out.lt (fun _ h => h.elim)⟩
    have hfd : ∀ W : World, (Instr.field 67 (.agg #[.int .i64 ck, .string cd2, .slice RA rn rc]) 0).run Tryz.prog W = .ok (.int .i64 ck) W := fun _ => by kernel_rfl
    clear hrn hRA e10 HSE q0 q1 q2 q3
    by_cases hk : ck = 1
    ·subst hk
     have hR' := HRC.out
     rw [if_neg (by decide)] at hR'
     have HRF := Lib.hid hR'
     have q0 : w10.cell? ⟨sb, 0, none⟩ = _ := cell_of_row w10 sb 0 _ _ _ HQ10.out
     have q1 : w10.cell? ⟨sb, 1, none⟩ = _ := cell_of_row w10 sb 1 _ _ _ HQ10.out
     have q2 : w10.cell? ⟨sb, 2, none⟩ = _ := cell_of_row w10 sb 2 _ _ _ HQ10.out
     have q3 : w10.cell? ⟨sb, 3, none⟩ = _ := cell_of_row w10 sb 3 _ _ _ HQ10.out
     obtain ⟨W11, hW11⟩ : ∃ W11, W11 = w10.alloc (.cells (spotV nn SC tl cc SD ul cd x) 123) := ⟨_, rfl⟩
     obtain ⟨hL12, hT12, k3, kf⟩ := HL10.out.one (u, x) HSC10.out.1 HSC10.out.2 (by rw [← HUE.out.2.2.1]; exact HUE.out.2.2.2) HX.out (W := W11) (by rw [hW11, HUE.out.1, HUE.out.2.1, HUE.out.2.2.1])
     obtain ⟨lb, hlb⟩ : ∃ lb, lb = w10.heap.size := ⟨_, rfl⟩
     have k3' : (w10.alloc (.cells #[.string nn, .slice SC tl cc, .slice SD ul cd, .string x] 123)).cell? ⟨g, 3, none⟩ = some (.slice none 0 0) := by rw [← hW11]; exact k3
     have kf' : (w10.alloc (.cells #[.string nn, .slice SC tl cc, .slice SD ul cd, .string x] 123)).frozen? ⟨g, 3, none⟩ = false := by rw [← hW11]; exact kf
     rw [← hlb] at hL12 hT12
     obtain ⟨W12, hW12⟩ : ∃ W12, W12 = W11.setCell ⟨g, 3, none⟩ (.slice (some ⟨lb, 0, none⟩) 1 1) := ⟨_, rfl⟩
     rw [← hW12] at hL12 hT12
     have HX12 := Lib.hid (HX10.out.low hT12 fun k hk => by rw [hk]; exact HGW.out.1)
     have HL12 := Lib.hid hL12
     have HCO := Lib.hid (collect_rf hL12 HEV.out HOK.out ⟨HU.out.2, Nat.zero_le _⟩)
     have HLB := Lib.hid hlb
     have HLBW : Hid (W1.heap.size ≤ lb) := by rw [hlb]; exact HX10.out.size
     clear hR' hL12 hT12 hlb
     go_upto_region 13 with (fail)
     rw [← hW11, ← HLB.out, ← hW12]
     clear hW11 hW12 k3 kf k3' kf' q0 q1 q2 q3 hfd
     go_wp2_with fail
     refine HCO.out.mono ?_
     rintro e w13 ⟨hT13, hco⟩
     have HX13 := Lib.hid (HX12.out.low hT13 fun k hk => by
      rcases hk with hk | hk
      ·rw [hk]; exact HGW.out.1
      ·injection hk with hk
       rw [← hk]; exact HLBW.out)
     clear hT13
     cases hsel : L.selF E 129 0 ([(u, x)], m0, 0) with
     | error er =>
      rw [hsel] at hco
      obtain ⟨hne, rfl⟩ := hco
      have hR' : FV = (zeroB, ([], []), er) := by
       rw [HRF.out]
       unfold L.finish
       rw [hsel]
       rfl
      have HRB := Lib.hid hR'
      have he0 : (er == 0) = false := by simpa using hne
      have he1 : (er != 0) = true := by simpa using hne
      have he2 : (!(er == 0)) = true := by simpa using hne
      have he3 : ¬ er = 0 := hne
      clear hR' hsel hne HRF HRC
      have hz := HX13.out
      have hA := (hz.block _ (Array.getElem?_eq_some_iff.1 HR1.out).1).trans HR1.out
      have hB := (hz.block _ (Array.getElem?_eq_some_iff.1 HR2.out).1).trans HR2.out
      obtain ⟨⟨r0, r1, r2, r3, r4, r5, r6, r7⟩, f0, f1, f2, f3, f4, f5, f6, f7⟩ := zcells hA
      obtain ⟨s0, s1, t0, t1⟩ := zcells2 hB
      obtain ⟨hA3, hB3⟩ := zput_rows hA hB
      have HA3 := Lib.hid hA3
      have HB3 := Lib.hid hB3
      have HX3 := Lib.hid (zput_ext (HX1.out.trans hz))
      clear hz hA hB hA3 hB3
      go_wp2_with fail
      refine ret_bre rfl rfl rfl rfl HA3.out HB3.out rfl rfl rfl ?_
      rw [HRB.out]
      exact ⟨HX3.out, RetBR.none _ _ _⟩
     | ok st' =>
      rw [hsel] at hco
      obtain ⟨rfl, v', hco⟩ := hco
      obtain ⟨hgd, hnd⟩ := fin_hyps HEV.out hsel HOK.out
      have HFN := Lib.hid (finish_rf hco.link HEV.out hco.ok hco.bd hgd hnd 1 (by decide))
      have hR' : FV = finR E st' 1 := by
       rw [HRF.out]
       unfold L.finish finR
       rw [hsel]
       simp only
       by_cases hbig : 65536 < L.fin (E.sizes st'.1) 0
       ·rw [if_pos hbig, if_pos hbig]; rfl
       ·rw [if_neg hbig, if_neg hbig]; rfl
      have HRB := Lib.hid hR'
      clear hR' hsel hco hgd hnd HRF HRC
      go_wp2_with fail
      refine HFN.out.mono ?_
      rintro e w14 ⟨hT14, ⟨vs, rs, rfl, hBV, hRV⟩, _⟩
      have HX14 := Lib.hid (HX13.out.low hT14 fun k hk => by rw [hk]; exact HGW.out.1)
      have HT14 := Lib.hid hT14
      have hA := (HX14.out.block _ (Array.getElem?_eq_some_iff.1 HR1.out).1).trans HR1.out
      have hB := (HX14.out.block _ (Array.getElem?_eq_some_iff.1 HR2.out).1).trans HR2.out
      obtain ⟨n4, n5, n6, y10, hTy⟩ := two_stores w w14 vs rs (HX1.out.trans HX14.out) hA hB
      have hrow := row35 hBV
      have hone := hBV.one
      have hlen := hBV.len
      have hrow2 := row38 hRV
      have hone2 := hRV.one
      have hlen2 := hRV.len
      have HBV := Lib.hid hBV
      have HRV := Lib.hid hRV
      have HN5 := Lib.hid n5
      have HN6 := Lib.hid n6
      have HY10 := Lib.hid y10
      have HTY := Lib.hid hTy
      have HL1 := Lib.hid hlen
      have HL2 := Lib.hid hlen2
      obtain ⟨ev, hev⟩ : ∃ ev, ev = (finR E st' 1).2.2 := ⟨_, rfl⟩
      rw [← hev]
      have HEV2 := Lib.hid hev
      clear hBV hRV n5 n6 y10 hTy hev hT14
      go_wp2_with (first | (refine wpList_store_row rfl 35 (.tmp 8) (.tmp 79) rfl w.heap.size (Array.mk vs) rfl rfl 35 _ hA hrow (show 8 = vs.length from hlen.symm) hone ?_) | (refine wpList_store_row rfl 38 (.tmp 9) (.tmp 80) rfl (w.heap.size + 1) (Array.mk rs) rfl rfl 38 _ n4 hrow2 (show 2 = rs.length from hlen2.symm) hone2 ?_))
      refine ret_bre rfl rfl rfl rfl HN5.out HN6.out HL1.out HL2.out rfl ?_
      rw [HRB.out, HEV2.out]
      have hw13 : w.heap.size + 2 ≤ w13.heap.size := by
       have h1 := HX13.out.size
       have h2 := HS1.out
       omega
      have hsz := HTY.out.size
      refine ⟨HY10.out, vs, rs, rfl, HBV.out.keep (fun k hk => ⟨by have := hk.1; omega, Nat.lt_of_lt_of_le hk.2 hsz⟩) (fun k hk => HTY.out.block k hk.2 (by have := hk.1; omega)), HRV.out.keep (fun k hk => ⟨by have := hk.1; omega, Nat.lt_of_lt_of_le hk.2 hsz⟩) (fun k hk => HTY.out.block k hk.2 (by have := hk.1; omega))⟩
    ·have hR' := HRC.out
     rw [if_pos hk] at hR'
     have HRB : Hid (FV = (zeroB, ([], []), 9)) := hR'
     have hkb : (ck == 1) = false := by simpa using hk
     have hkc : (ck != 1) = true := by simpa using hk
     have hkd : (!(ck == 1)) = true := by simpa using hk
     clear hR' HRC
     have hz := HX10.out
     have hA := (hz.block _ (Array.getElem?_eq_some_iff.1 HR1.out).1).trans HR1.out
     have hB := (hz.block _ (Array.getElem?_eq_some_iff.1 HR2.out).1).trans HR2.out
     obtain ⟨⟨r0, r1, r2, r3, r4, r5, r6, r7⟩, f0, f1, f2, f3, f4, f5, f6, f7⟩ := zcells hA
     obtain ⟨s0, s1, t0, t1⟩ := zcells2 hB
     obtain ⟨hA3, hB3⟩ := zput_rows hA hB
     have HA3 := Lib.hid hA3
     have HB3 := Lib.hid hB3
     have HX3 := Lib.hid (zput_ext (HX1.out.trans hz))
     clear hz hA hB hA3 hB3
     go_wp2_with fail
     refine ret_bre rfl rfl rfl rfl HA3.out HB3.out rfl rfl rfl ?_
     rw [HRB.out]
     exact ⟨HX3.out, RetBR.none _ _ _⟩
end Go.Proofs.YtfbhchpbflaphaaGreatDoor
