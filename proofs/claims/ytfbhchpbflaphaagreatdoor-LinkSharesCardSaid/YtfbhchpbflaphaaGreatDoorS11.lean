/- The texts Gy Lnb Gz Ha Slc Hb of the seat, joined. -/
import Derived.Test.YtfbhchpbflaphaaGreatDoorS10
import Derived.BigQuiet
import Derived.Laws.Rows
import Derived.Laws.Tables
namespace Go.Proofs.YtfbhchpbflaphaaGreatDoor
open Go.RowKit Go.Maps Go.ChangeMaps
theorem NlAt.done {w wr : World} {g bk bi q n nk : Nat} {D : Option Addr} {d : Nat} {objs : List C.Mem} {sh : List L.Shelf} {libs : List L.Libr} {v : Value} (h : NlAt w g bk bi (.slice D q d) (n : Int) nk (objs ++ L.memsOf sh) v wr) (hn : n = objs.length) (hq : q = libs.length) (hD : SliceAt librR w (Old w) D d libs) :
 RetNew w (L.envOf objs sh libs) (.returned (.pointer (some ⟨g, 0, none⟩))) wr := by
 have hu : nk = (L.envOf objs sh libs).units.length := h.own.1
 obtain ⟨A, c, rfl, hsl⟩ := h.own.slice
 have hlt := fun b hb => h.own.lt (k := b) hb
 have hbase := h.ext.size
 refine ⟨h.ext, g, fun b => Old w b ∨ (Value.slice A nk c).ownBlock = some b, fun b => b = g ∨ b = bk ∨ b = bi, ⟨A, c, D, d, bk, bi, .slice none 0 0, .slice none 0 0⟩, rfl, ?_, fun b hb => .inl hb⟩
 exact {
  row := by
   have hr := h.row
   subst hu hn hq
   exact hr
  units := hsl
  libs := hD.keep (fun b hb => .inl hb) fun b hb => h.ext.block b hb
  known := ⟨_, h.mkn, fun x v hv => by cases hv⟩
  list := OwnL.nil _ _
  index := h.mi
  means := ⟨[], OwnAt.nil _ _ _ _, rfl⟩
  inX := ⟨.inl rfl, .inr (.inl rfl), .inr (.inr rfl), fun b hb => by simp [Value.ownBlock] at hb, fun b hb => by simp [Value.ownBlock] at hb⟩
  apart := ⟨h.low.2.2.2, fun b hb => by simp [Value.ownBlock] at hb, fun b hb => by simp [Value.ownBlock] at hb⟩
  out := by
   rintro b (hb | hb)
   ·have hb : b < w.heap.size := hb
    have := h.low
    exact ⟨by omega, by omega⟩
   ·have h1 := hlt b hb
    have h2 := h.off b hb
    exact ⟨h1.2, by omega⟩
  lt := by
   have h1 := h.row.lt
   have h2 := h.mkn.lt
   have h3 := h.mi.lt
   have h4 := h.low
   rintro b (rfl | rfl | rfl)
   ·exact ⟨h4.1, h1⟩
   ·exact ⟨h4.2.1, h2⟩
   ·exact ⟨h4.2.2.1, h3⟩ }
attribute [local irreducible] wpLex wpT
set_option maxRecDepth 8000 in
set_option maxHeartbeats 4000000 in
theorem newLinker_any (objs : List C.Mem) (sh : List L.Shelf) (libs : List L.Libr) (A B D : Option Addr) (a b d n m q : Nat) (w : World) (hn : n = objs.length) (hA : SliceAt memR w (Old w) A a objs) (hm : m = sh.length) (hB : SliceAt shelfR w (Old w) B b sh) (hq : q = libs.length) (hD : SliceAt librR w (Old w) D d libs)
 (hz : MemSizes objs) (hsz : ∀ s ∈ sh, ShelfSize s) (hu : (L.envOf objs sh libs).units.length <= 100000) (hm2 : m <= 100000) :
 Calls Tryz.prog 46 #[.slice A n a, .slice B m b, .slice D q d] w (RetNew w (L.envOf objs sh libs)) := by
 have hmm := @run_makeMap Tryz.prog
 have hul : n + (L.memsOf sh).length <= 100000 := by
  have : (L.envOf objs sh libs).units.length = objs.length + (L.memsOf sh).length := by unfold L.Env.units L.envOf; simp
  omega
 have HCL := Lib.hid (cloneM_any objs A a n w hn hA (by omega))
 have HM := Lib.hid hm
 have HB := Lib.hid hB
 have HQ := Lib.hid hq
 have HD := Lib.hid hD
 have HNO := Lib.hid hn
 have HSZ := Lib.hid hsz
 have HUL := Lib.hid hul
 clear hn hA hm hB hq hD hz hsz hu hul
 go_enter Tryz.func46, Tryz.ntmps46
 go_upto_region 1 with (fail)
 go_wp2_with fail
 refine HCL.out.mono ?_
 rintro e w1 ⟨v, rfl, hv, e1⟩
 obtain ⟨VA, vc, rfl, _, _⟩ := hv.form
 obtain ⟨bk, hbk⟩ : ∃ bk, bk = w1.heap.size := ⟨_, rfl⟩
 obtain ⟨W2, hW2⟩ : ∃ W2, W2 = (w1.alloc (.map #[] 0)).alloc (.map #[] 0) := ⟨_, rfl⟩
 obtain ⟨W3, hW3⟩ : ∃ W3, W3 = W2.alloc (.cells #[.slice VA n vc, .int .i64 (n : Int), .slice D q d, .int .i64 0, .int .i64 0, .map (some bk), .slice none 0 0, .map (some (bk + 1)), .slice none 0 0] 140) := ⟨_, rfl⟩
 have hs2 : W2.heap.size = bk + 2 := by rw [hW2, hbk]; simp
 have ha1 : (w1.alloc (.map #[] 0)).heap.size = bk + 1 := by rw [hbk]; simp
 have E2 : Ext w1 W2 := by rw [hW2]; exact ((Ext.refl w1).alloc _).alloc _
 have E3 : Ext W2 W3 := by rw [hW3]; exact (Ext.refl W2).alloc _
 have hmk : MapF Tryz.prog W3 bk fun _ => none := by
  have h1 : MapF Tryz.prog (w1.alloc (.map #[] 0)) bk fun _ => none := by rw [hbk]; exact MapF.made w1
  have h2 : MapF Tryz.prog W2 bk fun _ => none := by rw [hW2]; exact h1.ext ((Ext.refl _).alloc _)
  exact h2.ext E3
 have hmi : MapG Tryz.prog 162 litP DomP W3 (bk + 1) 0 fun _ => none := by
  have h1 : MapG Tryz.prog 162 litP DomP W2 (bk + 1) 0 fun _ => none := by rw [hW2, <- ha1]; exact MapG.made _
  exact h1.ext E3
 have hbl : w.heap.size <= bk := by rw [hbk]; exact e1.size
 have HK0 : Hid (NlAt w (bk + 2) bk (bk + 1) (.slice D q d) (n : Int) n (objs ++ L.memsOf (sh.take 0)) (.slice VA n vc) W3) := {
  ext := e1.trans (E2.trans E3)
  row := ⟨by rw [hW3, <- hs2]; exact heap_alloc_new W2 _⟩
  own := by
   have : L.memsOf (sh.take 0) = [] := rfl
   rw [this, List.append_nil]
   exact hv.ext (E2.trans E3) fun b hb => Nat.lt_of_lt_of_le hb e1.size
  mkn := hmk
  mi := hmi
  off := fun x hx => by have := (hv.lt hx).2; omega
  low := ⟨by omega, by omega, by omega, by omega, by omega, by omega⟩ }
 clear hmk hmi
 have hul2 := HUL.out
 go_upto_region 2 with (fail)
 rw [<- hbk, <- hW2, <- hW3]
 obtain ⟨bi, hbi⟩ : ∃ bi, bi = bk + 1 := ⟨_, rfl⟩
 obtain ⟨g, hg⟩ : ∃ g, g = bk + 1 + 1 := ⟨_, rfl⟩
 replace HK0 : Hid (NlAt w g bk bi (.slice D q d) (n : Int) n (objs ++ L.memsOf (sh.take 0)) (.slice VA n vc) W3) := by rw [hg, hbi]; exact HK0
 rw [<- hg, <- hbi]
 have HV := Lib.hid hv
 clear hbi hg hW2 hW3 hs2 ha1 E2 E3 hbk hbl hv e1
 go_wp2_with fail
 go_loopw [23] (fun i wr => ∃ (k nk : Nat) (v : Value), i = .int .i64 (k : Int) /\ k <= m /\ Hid (nk = n + (L.memsOf (sh.take k)).length /\ NlAt w g bk bi (.slice D q d) (n : Int) nk (objs ++ L.memsOf (sh.take k)) v wr)) (fun i _ => m - (intOf i).toNat)
 case atStart => exact ⟨0, n, _, rfl, Nat.zero_le _, rfl, HK0.out⟩
 case round =>
  obtain ⟨k, nk, v, rfl, hk, HK⟩ := hrel
  obtain ⟨W0, hW0⟩ : ∃ W0, W0 = wr := ⟨_, rfl⟩
  subst hW0
  by_cases hlt : k < m
  ·have hkl : k < sh.length := by rw [<- HM.out]; exact hlt
   obtain ⟨ub, uo, SA, sc, rfl, hbo, hps, hSA, u0, u1⟩ := shelf_get HB.out hkl
   have hshs := HSZ.out _ (List.getElem_mem hkl)
   have hle := memsOf_le hkl
   have hsu := memsOf_succ hkl
   have u0' := HK.out.2.ext.keepc u0
   have u1' := HK.out.2.ext.keepc u1
   obtain ⟨p, hp⟩ : ∃ p, p = sh[k].1 := ⟨_, rfl⟩
   obtain ⟨ms, hms⟩ : ∃ ms, ms = sh[k].2 := ⟨_, rfl⟩
   obtain ⟨sm, hsm⟩ : ∃ sm, sm = ms.length := ⟨_, rfl⟩
   unfold ShelfSize at hshs
   rw [<- hp, <- hms] at hshs hsu
   rw [<- hms] at hle hSA u1'
   rw [<- hp] at u0'
   rw [<- hsm] at hle u1'
   have HSM := Lib.hid hsm
   have HSU := Lib.hid hsu
   have HSA := Lib.hid hSA
   have HSH := Lib.hid hshs
   obtain ⟨W2, hW2⟩ : ∃ W2, W2 = W0.alloc (.cells #[.string p, .slice SA sm sc] 83) := ⟨_, rfl⟩
   obtain ⟨sb, hsb⟩ : ∃ sb, sb = W0.heap.size := ⟨_, rfl⟩
   have E2 : Ext W0 W2 := by rw [hW2]; exact (Ext.refl W0).alloc _
   have hb2 : W2.heap[sb]? = some (.cells #[.string p, .slice SA sm sc] 83 (0, 0)) := by rw [hW2, hsb]; exact heap_alloc_new W0 _
   have HSB := Lib.hid hsb
   have HU := Lib.hid u0
   clear hsb hbo hps u0 u1 hsm hsu hSA hp hms hshs
   go_upto_region 5 with (fail)
   rw [<- hW2, <- HSB.out]
   clear hW2 u0' u1'
   have s0 : W2.cell? ⟨sb, 0, none⟩ = _ := cell_of_row W2 sb 0 _ _ _ hb2
   have s1 : W2.cell? ⟨sb, 1, none⟩ = _ := cell_of_row W2 sb 1 _ _ _ hb2
   have hsg : sb ≠ g := fun e => absurd HK.out.2.row.lt (by rw [<- e, HSB.out]; omega)
   have HI0 : Hid (nk + 0 = n + (L.memsOf (sh.take k)).length + 0 /\ NlAt w g bk bi (.slice D q d) (n : Int) (nk + 0) (objs ++ (L.memsOf (sh.take k) ++ (ms.take 0).map fun m => (L.full p m.1, m.2))) v W2 /\ W2.cell? ⟨sb, 0, none⟩ = some (.string p) /\ v.ownBlock ≠ some sb) := by
    refine ⟨by rw [HK.out.1], ?_, s0, fun e => absurd (HK.out.2.own.lt e).2 (by rw [HSB.out]; omega)⟩
    rw [List.take_zero, List.map_nil, List.append_nil]
    exact HK.out.2.ext' E2
   have HSG := Lib.hid hsg
   clear hsg E2 hb2 s0
   go_wp2_with fail
   clear s1
   go_loopw [30] (fun i wr => ∃ (j : Nat) (v : Value), i = .int .i64 (j : Int) /\ j <= sm /\ Hid (nk + j = n + (L.memsOf (sh.take k)).length + j /\ NlAt w g bk bi (.slice D q d) (n : Int) (nk + j) (objs ++ (L.memsOf (sh.take k) ++ (ms.take j).map fun m => (L.full p m.1, m.2))) v wr /\ wr.cell? ⟨sb, 0, none⟩ = some (.string p) /\ v.ownBlock ≠ some sb)) (fun i _ => sm - (intOf i).toNat)
   case atStart => exact ⟨0, v, rfl, Nat.zero_le _, HI0⟩
   case round =>
    obtain ⟨j, v', rfl, hj, HJ⟩ := hrel
    obtain ⟨V1, hV1⟩ : ∃ V1, V1 = wr := ⟨_, rfl⟩
    subst hV1
    by_cases hjl : j < sm
    ·have hjm : j < ms.length := by rw [<- HSM.out]; exact hjl
     obtain ⟨mb, mo, s, TA, tc, TB, td, rfl, hbo, hms, hss, hTA, hTB, m0, m1, m2⟩ := mem_getB HSA.out hjm
     obtain ⟨tn, htn⟩ : ∃ tn, tn = ms[j].2.1.length := ⟨_, rfl⟩
     obtain ⟨un, hun⟩ : ∃ un, un = ms[j].2.2.length := ⟨_, rfl⟩
     rw [<- htn] at m1
     rw [<- hun] at m2
     have hszs := (HSH.out.2.1 _ (List.getElem_mem hjm)).1
     rw [hms] at hszs
     have htk : (ms.take (j + 1)).map (fun m => (L.full p m.1, m.2)) = (ms.take j).map (fun m => (L.full p m.1, m.2)) ++ [(L.full p s, ms[j].2)] := by
      rw [List.take_succ_eq_append_getElem hjm, List.map_append, List.map_singleton, hms]
     have HTK := Lib.hid htk
     have hps := HSH.out.1
     have hJ := HJ.out.2.1.ext
     have m0' := hJ.keepc m0
     have m1' := hJ.keepc m1
     have m2' := hJ.keepc m2
     obtain ⟨mx, hmx⟩ : ∃ mx : C.Mem, mx = (L.full p s, ms[j].2) := ⟨_, rfl⟩
     rw [<- hmx] at HTK
     have hmem : memR.is w (Old w) mx [.string (L.full p s), .slice TA tn tc, .slice TB un td] := by
      rw [hmx]
      refine ⟨[.string (L.full p s)], _, rfl, ⟨rfl, ?_⟩, [.slice TA tn tc], _, rfl, ⟨TA, tc, by rw [htn], hTA⟩, TB, td, by rw [hun], hTB⟩
      unfold L.full
      have h1 : p.data.toList.length = p.size := by simp
      have h2 : s.data.toList.length = s.size := by simp
      show (ByteArray.mk _).data.size <= _
      simp only [List.size_toArray, List.length_append, List.length_cons, h1, h2]
      omega
     have HMEM := Lib.hid hmem
     obtain ⟨W4, hW4⟩ : ∃ W4, W4 = V1.alloc (.cells #[.string s, .slice TA tn tc, .slice TB un td] 69) := ⟨_, rfl⟩
     obtain ⟨eb, heb⟩ : ∃ eb, eb = V1.heap.size := ⟨_, rfl⟩
     have E4 : Ext V1 W4 := by rw [hW4]; exact (Ext.refl V1).alloc _
     have hb4 : W4.heap[eb]? = some (.cells #[.string s, .slice TA tn tc, .slice TB un td] 69 (0, 0)) := by rw [hW4, heb]; exact heap_alloc_new V1 _
     have HEB := Lib.hid heb
     have HMS := Lib.hid hms
     clear htk hmx hmem hbo hms hTA hTB m0 m1 m2 hJ heb htn hun
     go_upto_region 8 with (fail)
     rw [<- hW4, <- HEB.out]
     clear hW4 m0' m1' m2'
     have HI4 := Lib.hid (HJ.out.2.1.ext' E4)
     have z0 : W4.cell? ⟨g, 0, none⟩ = some v' := HI4.out.row.c0
     have s0 := E4.keepc HJ.out.2.2.1
     have t0 : W4.cell? ⟨eb, 0, none⟩ = _ := cell_of_row W4 eb 0 _ _ _ hb4
     have t1 : W4.cell? ⟨eb, 1, none⟩ = _ := cell_of_row W4 eb 1 _ _ _ hb4
     have t2 : W4.cell? ⟨eb, 2, none⟩ = _ := cell_of_row W4 eb 2 _ _ _ hb4
     have n1 : ¬ v'.ownBlock = some g := fun e => (HI4.out.off _ e).1 rfl
     have n2 : ¬ v'.ownBlock = some sb := HJ.out.2.2.2
     have n3 : ¬ v'.ownBlock = some eb := fun e => absurd (HJ.out.2.1.own.lt e).2 (by rw [HEB.out]; omega)
     obtain ⟨Φ, hΦ⟩ : ∃ Φ : World -> Prop, ∀ W, Φ W ↔ Tch (fun i => v'.ownBlock = some i) W4 W := ⟨_, fun _ => Iff.rfl⟩
     have h0 : Φ W4.drew := (hΦ _).2 (((Ext.refl W4).drew).tch _)
     have fx0 : ∀ z : Lat Φ, z.w'.cell? ⟨g, 0, none⟩ = _ := fun z => ((hΦ _).1 z.h).keepc z0 n1
     have fx1 : ∀ z : Lat Φ, z.w'.cell? ⟨sb, 0, none⟩ = _ := fun z => ((hΦ _).1 z.h).keepc s0 n2
     have fx2 : ∀ z : Lat Φ, z.w'.cell? ⟨eb, 0, none⟩ = _ := fun z => ((hΦ _).1 z.h).keepc t0 n3
     have fx3 : ∀ z : Lat Φ, z.w'.cell? ⟨eb, 1, none⟩ = _ := fun z => ((hΦ _).1 z.h).keepc t1 n3
     have fx4 : ∀ z : Lat Φ, z.w'.cell? ⟨eb, 2, none⟩ = _ := fun z => ((hΦ _).1 z.h).keepc t2 n3
     have hne := Lat.some h0
     refine wp_region_tail 18 [14, 15] Φ h0 (by kernel_rfl) (by kernel_rfl) (by kernel_rfl) ?_
     iterate 14 (refine lex_pure rfl rfl rfl ?_; intro K hK; go_big_quiet_op; go_big_quiet_on)
     refine lex_eff rfl ?_
     go_wp2_with fail
     obtain ⟨W5, hW5⟩ : ∃ W5, W5 = (W4.alloc (.cells #[.string (p ++ (⟨#[33]⟩ : ByteArray) ++ s), .slice TA tn tc, .slice TB un td] 69)).drew := ⟨_, rfl⟩
     have E5 : Ext W4 W5 := by rw [hW5]; exact ((Ext.refl W4).alloc _).drew
     have hs5 : ∀ j v, ([.string (L.full p s), .slice TA tn tc, .slice TB un td] : List Value)[j]? = some v -> W5.cell? ((⟨W4.heap.size, 0, none⟩ : Addr).add j) = some v := by
      rw [hW5, full_is]
      intro j v hj
      rw [Addr.add_lit, Nat.zero_add]
      exact new_cells W4 [.string (L.full p s), .slice TA tn tc, .slice TB un td] 69 _ rfl j v hj
     rw [<- hW5]
     have hP5 : Φ W5 := (hΦ _).2 (E5.tch _)
     have HI5 := Lib.hid (HI4.out.ext' E5)
     have hbase5 : w.heap.size <= W5.heap.size := HI5.out.ext.size
     have hS5 : ∀ b, Old w b -> b < W5.heap.size /\ v'.ownBlock ≠ some b := fun b hb => ⟨Nat.lt_of_lt_of_le hb hbase5, fun e => absurd (HI5.out.own.lt e).1 (by have h2 : b < w.heap.size := hb; omega)⟩
     have hF5 : Flat memR W5 (Old w) [mx] [.string (L.full p s), .slice TA tn tc, .slice TB un td] := Flat.one (memR.keep HMEM.out (fun _ h => h) fun b hb => HI5.out.ext.block b hb)
     obtain ⟨i9, hi9, hz9, hz91, hz92⟩ := info_parts info69
     clear hW5
     have hbd : nk + j + 1 <= 100000 := by
      have h1 := HJ.out.1
      have h2 := HK.out.1
      omega
     refine ⟨⟨⟨W5, hP5⟩, rfl⟩, ?_⟩
     refine lex_eff rfl ?_
     go_wp2_with (at_builtin; refine wpList_append_cells rfl (.tmp 38) (.tmp 48) 22 rfl Tryz.underlying22 hi9 hz9 hz91 hz92 rfl (by decide) mem_one rfl HI5.out.own [mx] ⟨W4.heap.size, 0, none⟩ 1 1 rfl rfl (by decide) hF5 hs5 (by unfold maxLen; omega) (by omega) hbase5 hS5 ?_; intro v5 w5 hown5 hg5 hv5)
     obtain ⟨A5, c5, rfl, _⟩ := hown5.form
     have hT5 : Tch (fun i => v'.ownBlock = some i) W4 w5 := (E5.tch _).trans ⟨hg5.os, hg5.tape, hg5.output, hg5.size, fun i hi hx => hg5.block i hi fun e => hx e.symm⟩
     refine ⟨⟨⟨w5, (hΦ _).2 hT5⟩, rfl⟩, ?_⟩
     iterate 2 (refine lex_pure rfl rfl rfl ?_; intro K hK; go_big_quiet_op; go_big_quiet_on)
     refine lex_nil ?_
     show wpList _ _ _ (_ :: []) _ _
     obtain ⟨hI6, x6, xf⟩ := HI5.out.pushed hown5 hg5 hv5
     have y6 : W5.cell? ⟨sb, 0, none⟩ = some (.string p) := E5.keepc s0
     have y7 : (w5.setCell ⟨g, 0, none⟩ (Value.slice A5 (nk + j + 1) c5)).cell? ⟨sb, 0, none⟩ = some (.string p) := by
      have h1 := hT5.keepc s0 n2
      have h2 : Tch (fun i => i = g) w5 (w5.setCell ⟨g, 0, none⟩ (Value.slice A5 (nk + j + 1) c5)) := grown_tch (grownBy_setCell w5 ⟨g, 0, none⟩ (Value.slice A5 (nk + j + 1) c5))
      exact h2.keepc h1 HSG.out
     have y8 : (Value.slice A5 (nk + j + 1) c5).ownBlock ≠ some sb := fun e => by
      rcases hv5 with h | ⟨i, h, h1, _⟩
      ·exact n2 (h.symm.trans e)
      ·rw [h] at e
       cases e
       have := World.block_lt_of_cell? W5 _ y6
       exact absurd this (by show ¬ sb < W5.heap.size; omega)
     have HI6 : Hid (nk + (j + 1) = n + (L.memsOf (sh.take k)).length + (j + 1) /\ NlAt w g bk bi (.slice D q d) (n : Int) (nk + (j + 1)) (objs ++ (L.memsOf (sh.take k) ++ (ms.take (j + 1)).map fun m => (L.full p m.1, m.2))) (Value.slice A5 (nk + j + 1) c5) (w5.setCell ⟨g, 0, none⟩ (Value.slice A5 (nk + j + 1) c5)) /\ (w5.setCell ⟨g, 0, none⟩ (Value.slice A5 (nk + j + 1) c5)).cell? ⟨sb, 0, none⟩ = some (.string p) /\ (Value.slice A5 (nk + j + 1) c5).ownBlock ≠ some sb) := by
      refine ⟨by have := HJ.out.1; omega, ?_, y7, y8⟩
      rw [HTK.out]
      rw [List.append_assoc, List.append_assoc] at hI6
      exact hI6
     clear fx0 fx1 fx2 fx3 fx4 hne h0 hT5 hI6 y6 y7 y8 hv5 hg5 hown5 hs5 hF5 hS5 E5 n1 n2 n3 z0 s0 t0 t1 t2 hb4 E4 hP5
     go_wp2_with fail
     go_roundw
     case rel => exact ⟨j + 1, (Value.slice A5 (nk + j + 1) c5), by go_num, by omega, HI6⟩
     case measure => simp [intOf]; omega
    ·obtain rfl : j = sm := by omega
     have htk : ms.take j = ms := List.take_of_length_le (by rw [HSM.out]; exact Nat.le_refl _)
     have HN' : Hid (nk + j = n + (L.memsOf (sh.take (k + 1))).length /\ NlAt w g bk bi (.slice D q d) (n : Int) (nk + j) (objs ++ L.memsOf (sh.take (k + 1))) v' V1) := by
      have h := HJ.out.2.1
      rw [htk] at h
      rw [HSU.out]
      refine ⟨?_, h⟩
      rw [List.length_append, List.length_map, HJ.out.1, HSM.out, Nat.add_assoc]
     clear htk HJ
     go_wp2_with fail
     go_roundw
     case rel => exact ⟨k + 1, nk + j, v', by go_num, by omega, HN'⟩
     case measure => simp [intOf]; omega
  ·obtain rfl : k = m := by omega
   have htk : sh.take k = sh := List.take_of_length_le (by rw [HM.out]; exact Nat.le_refl _)
   have HR : Hid (RetNew w (L.envOf objs sh libs) (.returned (.pointer (some ⟨g, 0, none⟩))) W0) := by
    have h := HK.out.2
    rw [htk] at h
    exact h.done HNO.out HQ.out HD.out
   clear htk HK
   go_wp2_with fail
   go_ret
   exact HR.out
end Go.Proofs.YtfbhchpbflaphaaGreatDoor

namespace Go.Proofs.YtfbhchpbflaphaaGreatDoor.L
open C
variable {E : Env}
def Bd (E : Env) (m : Nat × Nat) : Prop := m.1 <= E.mems.length /\ m.2 <= E.libs.length
theorem aimN_bd (E : Env) (u : Nat) (x : ByteArray) : Bd E (aimN E u x) := by
 unfold aimN
 cases E.sym (u, x) with
 | none => exact ⟨Nat.zero_le _, Nat.zero_le _⟩
 | some s =>
  simp only
  split
  ·exact ⟨Nat.zero_le _, Nat.zero_le _⟩
  ·cases h : hit E x with
   | twice => exact ⟨Nat.zero_le _, Nat.zero_le _⟩
   | unknown => exact ⟨Nat.zero_le _, Nat.zero_le _⟩
   | unit v m => obtain ⟨q, _, _, hm⟩ := hit_unit h; exact ⟨hm, Nat.zero_le _⟩
   | lib j => exact ⟨Nat.le_refl _, hit_lib h⟩
theorem note_bd {st : St} {m : Nat × Nat} (h : Bd E st.2) (hm : Bd E m) : Bd E (note st m).2 := ⟨Nat.max_le.2 ⟨h.1, hm.1⟩, Nat.max_le.2 ⟨h.2, hm.2⟩⟩
theorem addS_bd {st st' : St} {p : Spot} (h : addS st p = .ok st') (hb : Bd E st.2) : Bd E st'.2 := by
 unfold addS at h
 split at h
 ·cases h; exact hb
 ·split at h
  ·cases h
  ·cases h; exact hb
theorem stepR_bd {u : Nat} {st st' : St} {x : ByteArray} (h : stepR E u st x = .ok st') (hb : Bd E st.2) : Bd E st'.2 := by
 unfold stepR at h
 split at h
 ·cases h
 ·exact addS_bd h (note_bd hb (aimN_bd E u x))
 ·cases h; exact note_bd hb (aimN_bd E u x)
theorem relsF_bd {u : Nat} : ∀ {l : List Rel} {st st' : St}, relsF E u l st = .ok st' -> Bd E st.2 -> Bd E st'.2
 | [], st, st', h, hb => by cases h; exact hb
 | r :: l, st, st', h, hb => by
  unfold relsF at h
  split at h
  ·cases h
  ·rename_i s hs
   exact relsF_bd h (stepR_bd hs hb)
theorem selF_bd : ∀ {f k : Nat} {st st' : St}, selF E f k st = .ok st' -> Bd E st.2 -> Bd E st'.2
 | 0, k, st, st', h, hb => by cases h; exact hb
 | f + 1, k, st, st', h, hb => by
  unfold selF at h
  split at h
  ·cases h; exact hb
  ·split at h
   ·cases h
   ·rename_i s hs
    exact selF_bd h (relsF_bd hs hb)
theorem aim_ne {u : Nat} {x : ByteArray} {e : Int} (h : aim E u x = .bad e) : e ≠ 0 := by
 unfold aim at h
 split at h
 ·cases h; decide
 ·split at h
  ·split at h
   ·cases h; decide
   ·cases h
  ·split at h <;> cases h <;> decide
theorem addS_ne {st : St} {p : Spot} {e : Int} (h : addS st p = .error e) : e ≠ 0 := by
 unfold addS at h
 split at h
 ·cases h
 ·split at h
  ·cases h; decide
  ·cases h
theorem stepR_ne {u : Nat} {st : St} {x : ByteArray} {e : Int} (h : stepR E u st x = .error e) : e ≠ 0 := by
 unfold stepR at h
 split at h
 ·rename_i he
  cases h
  exact aim_ne he
 ·exact addS_ne h
 ·cases h
theorem relsF_ne {u : Nat} {e : Int} : ∀ {l : List Rel} {st : St}, relsF E u l st = .error e -> e ≠ 0
 | [], st, h => by cases h
 | r :: l, st, h => by
  unfold relsF at h
  split at h
  ·rename_i hs
   cases h
   exact stepR_ne hs
  ·exact relsF_ne h
theorem selF_ne {e : Int} : ∀ {f k : Nat} {st : St}, selF E f k st = .error e -> e ≠ 0
 | 0, k, st, h => by cases h
 | f + 1, k, st, h => by
  unfold selF at h
  split at h
  ·cases h
  ·split at h
   ·rename_i hs
    cases h
    exact relsF_ne hs
   ·exact selF_ne h
theorem finish_ne {st : St} {e : Int} (h : finish E st = .error e) : e ≠ 0 := by
 unfold finish at h
 split at h
 ·rename_i hs
  cases h
  exact selF_ne hs
 ·split at h
  ·cases h; decide
  ·cases h
end Go.Proofs.YtfbhchpbflaphaaGreatDoor.L

namespace Go.Proofs.YtfbhchpbflaphaaGreatDoor
open Go.RowKit Go.Maps Go.ChangeMaps
theorem segs_cover {c b : UInt8} (hb : b ≠ c) : ∀ {l : List UInt8}, b ∈ l -> ∃ s ∈ Seg.segs c l, b ∈ s
 | x :: l, h => by
  rw [Seg.segs_cons]
  by_cases e : x = c
  ·rw [if_pos e]
   have hl : b ∈ l := by
    rcases List.mem_cons.1 h with rfl | h
    ·exact absurd e hb
    ·exact h
   obtain ⟨s, hs, h1⟩ := segs_cover hb hl
   exact ⟨s, List.mem_cons_of_mem _ hs, h1⟩
  ·rw [if_neg e]
   cases hs : Seg.segs c l with
   | nil => exact absurd hs (Seg.segs_ne c l)
   | cons y r =>
    rcases List.mem_cons.1 h with rfl | h
    ·exact ⟨_, List.mem_cons_self, List.mem_cons_self⟩
    ·obtain ⟨s, h1, h2⟩ := segs_cover hb h
     rw [hs] at h1
     rcases List.mem_cons.1 h1 with rfl | h1
     ·exact ⟨_, List.mem_cons_self, List.mem_cons_of_mem _ h2⟩
     ·exact ⟨s, List.mem_cons_of_mem _ h1, h2⟩
theorem okP_no33 (s : ByteArray) (h : okP s = true) : (33 : UInt8) ∉ s.data.toList := by
 intro hm
 obtain ⟨t, ht, hb⟩ := segs_cover (c := 47) (by decide) hm
 unfold okP pathL at h
 simp only [Bool.and_eq_true, List.all_eq_true, decide_eq_true_eq] at h
 have h1 := h.1.2 t ht
 unfold nameB at h1
 simp only [Bool.and_eq_true, List.all_eq_true] at h1
 exact absurd (h1.2 33 hb) (by decide)
theorem length_flatMap_le {α β : Type} {f : α -> List β} {n : Nat} : ∀ {l : List α}, (∀ a ∈ l, (f a).length <= n) -> (l.flatMap f).length <= l.length * n
 | [], _ => by simp
 | a :: l, h => by
  rw [List.flatMap_cons, List.length_append, List.length_cons, Nat.succ_mul]
  have h1 := h a List.mem_cons_self
  have h2 := length_flatMap_le (l := l) fun b hb => h b (List.mem_cons_of_mem _ hb)
  omega
structure CaseOk (objs : List C.Mem) (sh : List L.Shelf) (libs : List L.Libr) : Prop where
 mems : MemSizes objs
 no : objs.length <= 50
 shelves : ∀ s ∈ sh, ShelfSize s /\ s.2.length <= 50
 ns : sh.length <= 10
 lbs : ∀ l ∈ libs, LibSize l /\ (L.exps l).length <= 1000
 nl : libs.length <= 50
section
variable {objs : List C.Mem} {sh : List L.Shelf} {libs : List L.Libr}
theorem CaseOk.none (h : CaseOk objs sh libs) : CaseOk objs [] [] := ⟨h.mems, h.no, fun s hs => (by cases hs), Nat.zero_le _, fun s hs => (by cases hs), Nat.zero_le _⟩
theorem CaseOk.few (h : CaseOk objs sh libs) : (L.envOf objs sh libs).units.length <= 550 := by
 have h1 : (L.memsOf sh).length <= sh.length * 50 := length_flatMap_le fun s hs => by rw [List.length_map]; exact (h.shelves s hs).2
 have h2 := h.ns
 have h3 := h.no
 show (objs ++ L.memsOf sh).length <= _
 rw [List.length_append]
 omega
theorem CaseOk.env (h : CaseOk objs sh libs) (hv : L.validB okN okP objs sh libs = true) : EnvOk (L.envOf objs sh libs) := by
 have hU := L.valid_units hv libs
 have hf := h.few
 exact {
  units := hU
  few := by omega
  fewL := by have h1 : (L.envOf objs sh libs).libs.length = libs.length := rfl; have := h.nl; omega
  asked := by
   unfold asked
   rw [List.length_append]
   have h1 : ((L.envOf objs sh libs).units.flatMap fun m => m.2.1.map (·.1)).length <= (L.envOf objs sh libs).units.length * 128 := length_flatMap_le fun m hm => by
    rw [List.length_map]
    exact (L.check_parts (hU m hm)).1
   have h2 : ((L.envOf objs sh libs).libs.flatMap fun l => (L.exps l).map (·.1)).length <= (L.envOf objs sh libs).libs.length * 1000 := length_flatMap_le fun l hl => by
    rw [List.length_map]
    exact (h.lbs l hl).2
   have h3 : (L.envOf objs sh libs).libs.length = libs.length := rfl
   have h4 := h.nl
   omega
  names := L.valid_names okP_no33 hv libs
  sizes := by
   intro m hm
   rcases List.mem_append.1 hm with hm | hm
   ·have := h.mems m hm
    exact ⟨by omega, this.2⟩
   ·obtain ⟨s, hs, q, hq, rfl⟩ := L.mem_memsOf hm
    obtain ⟨⟨h1, h2, _⟩, _⟩ := h.shelves s hs
    have h3 := h2 q hq
    refine ⟨?_, h3.2⟩
    show (L.full s.1 q.1).size <= _
    unfold L.full
    have h4 : s.1.data.toList.length = s.1.size := by simp
    have h5 : q.1.data.toList.length = q.1.size := by simp
    show (ByteArray.mk _).data.size <= _
    simp only [List.size_toArray, List.length_append, List.length_cons, h4, h5]
    omega }
end
end Go.Proofs.YtfbhchpbflaphaaGreatDoor

namespace Go.Proofs.YtfbhchpbflaphaaGreatDoor
open Go.RowKit Go.Maps Go.ChangeMaps
def resV (r : ByteArray × (Bool × Int)) : Value := .tuple #[.string r.1, .bool r.2.1, .int .i64 r.2.2]
theorem LinkAt.extTch {w w0 w' : World} {S X : Nat -> Prop} {g : Nat} {E : L.Env} {st : L.St} {M : List (List (Int × Int))} {k : LC} (h : LinkAt w S X w0.heap.size g E st M k) (h0 : Ext w0 w) (ht : Tch X w w') : Ext w0 w' :=
 (((h0.tch fun _ => False).trans' ht fun i hi hx => absurd (h.lt i hx).1 (by omega))).ext fun _ _ h => h
attribute [local irreducible] wpLex wpT
set_option maxRecDepth 8000 in
set_option maxHeartbeats 4000000 in
theorem Resolve_any (x : ByteArray) (objs : List C.Mem) (sh : List L.Shelf) (libs : List L.Libr) (A B D : Option Addr) (a b d n m q : Nat) (w : World) (hn : n = objs.length) (hA : SliceAt memR w (Old w) A a objs) (hm : m = sh.length) (hB : SliceAt shelfR w (Old w) B b sh) (hq : q = libs.length) (hD : SliceAt librR w (Old w) D d libs)
 (hC : CaseOk objs sh libs) (hx : x.size <= 9223372036854775807) (hg : Gl w) :
 Calls Tryz.prog 18 #[.string x, .slice A n a, .slice B m b, .slice D q d] w (Al (resV (L.resolveL okN okP x objs sh libs)) w) := by
 have hno := hC.no
 have hns := hC.ns
 have hnl := hC.nl
 have hfew := hC.few
 have HV := Lib.hid (lvalid_any objs sh libs A B D a b d n m q w hn hA hm hB hq hD hC.mems (fun s hs => (hC.shelves s hs).1) (fun l hl => (hC.lbs l hl).1) (by omega) (by omega) (by omega) hg)
 have HNM := Lib.hid (fun W => Name_any x W hx)
 have HNW := Lib.hid (fun W (e : Ext w W) => newLinker_any objs sh libs A B D a b d n m q W hn (hA.ext e) hm (hB.ext e) hq (hD.ext e) hC.mems (fun s hs => (hC.shelves s hs).1) (by omega) (by omega))
 have HE := Lib.hid hC.env
 have HD := Lib.hid hD
 have HQ := Lib.hid hq
 have HX := Lib.hid hx
 obtain ⟨R, hR⟩ : ∃ R, R = L.resolveL okN okP x objs sh libs := ⟨_, rfl⟩
 rw [<- hR]
 unfold L.resolveL at hR
 have hnm : okN x = K.name x.data.toList := rfl
 rw [hnm] at hR
 obtain ⟨E, hE⟩ : ∃ E, E = L.envOf objs sh libs := ⟨_, rfl⟩
 rw [<- hE] at hR HNW HE
 have hlb : E.libs = libs := by rw [hE]; rfl
 have HLB := Lib.hid hlb
 generalize L.validB okN okP objs sh libs = V at HV hR HE
 generalize K.name x.data.toList = N at HNM hR
 clear hn hA hm hB hq hD hC hx hg hno hns hnl hfew hnm hE hlb
 cases V with
 | false =>
  have hR' : resV R = .tuple #[.string ⟨#[]⟩, .bool false, .int .i64 1] := by rw [hR]; rfl
  have HR := Lib.hid hR'
  clear hR hR' HE
  go_enter Tryz.func18, Tryz.ntmps18
  go_wp2_with fail
  refine HV.out.mono ?_
  rintro _ w1 ⟨rfl, e1⟩
  go_wp2_with fail
  go_ret3
  exact ⟨by rw [HR.out]; rfl, e1⟩
 | true =>
  cases N with
  | false =>
   have hR' : resV R = .tuple #[.string ⟨#[]⟩, .bool false, .int .i64 1] := by rw [hR]; rfl
   have HR := Lib.hid hR'
   clear hR hR' HE
   go_enter Tryz.func18, Tryz.ntmps18
   go_wp2_with fail
   refine HV.out.mono ?_
   rintro _ w1 ⟨rfl, e1⟩
   go_wp2_with fail
   refine (HNM.out _).mono ?_
   rintro _ w2 ⟨rfl, e2⟩
   go_wp2_with fail
   go_ret3
   exact ⟨by rw [HR.out]; rfl, e1.trans e2⟩
  | true =>
   have HEV := Lib.hid (HE.out rfl)
   rw [Bool.and_self, if_pos rfl] at hR
   have HR := Lib.hid hR
   clear hR HE
   go_enter Tryz.func18, Tryz.ntmps18
   go_wp2_with fail
   refine HV.out.mono ?_
   rintro _ w1 ⟨rfl, e1⟩
   go_wp2_with fail
   refine (HNM.out _).mono ?_
   rintro _ w2 ⟨rfl, e2⟩
   go_wp2_with fail
   refine (HNW.out _ (e1.trans e2)).mono ?_
   rintro e w3 ⟨e3, g, S, X, k, rfl, hL, hS⟩
   have HRES := Lib.hid (resolve_any w3 S X _ g E ([], 0, 0) [] k hL HEV.out x HX.out)
   have HL := Lib.hid hL
   have HE3 := Lib.hid e3
   have HE2 := Lib.hid (e1.trans e2)
   clear hL e3 e1 e2 hS
   go_wp2_with fail
   refine HRES.out.mono ?_
   rintro e w4 ⟨ht, hh⟩
   have HX4 := Lib.hid (HE2.out.trans (HL.out.extTch HE3.out ht))
   clear ht
   cases hhit : L.hit E x with
   | twice =>
    rw [hhit] at hh
    subst hh
    have hR' : resV R = .tuple #[.string ⟨#[]⟩, .bool false, .int .i64 6] := by rw [HR.out, hhit]; rfl
    have HR2 := Lib.hid hR'
    clear hR' hhit
    unfold placeV
    go_wp2_with fail
    go_ret3
    exact ⟨by rw [HR2.out]; rfl, HX4.out.alloc _⟩
   | unknown =>
    rw [hhit] at hh
    subst hh
    have hR' : resV R = .tuple #[.string ⟨#[]⟩, .bool false, .int .i64 8] := by rw [HR.out, hhit]; rfl
    have HR2 := Lib.hid hR'
    clear hR' hhit
    unfold placeV
    go_wp2_with fail
    go_ret3
    exact ⟨by rw [HR2.out]; rfl, HX4.out.alloc _⟩
   | unit u mm =>
    rw [hhit] at hh
    obtain ⟨rfl, hL4⟩ := hh
    have hR' : resV R = .tuple #[.string (E.name u), .bool false, .int .i64 0] := by rw [HR.out, hhit]; rfl
    have HR2 := Lib.hid hR'
    obtain ⟨qq, hqq, hq3⟩ := L.hit_unit hhit
    obtain ⟨hu, rfl⟩ := List.getElem?_eq_some_iff.1 hqq
    obtain ⟨W5, hW5⟩ : ∃ W5, W5 = w4.alloc (.cells #[.int .i64 (u : Int), .int .i64 (-1)] 101) := ⟨_, rfl⟩
    obtain ⟨pb, hpb⟩ : ∃ pb, pb = w4.heap.size := ⟨_, rfl⟩
    have E5 : Ext w4 W5 := by rw [hW5]; exact (Ext.refl w4).alloc _
    have hb5 : W5.heap[pb]? = some (.cells #[.int .i64 (u : Int), .int .i64 (-1)] 101 (0, 0)) := by rw [hW5, hpb]; exact heap_alloc_new w4 _
    have hL5 := hL4.ext E5
    obtain ⟨mb, mo, nm, SA, sc, SB, sd, hA, hB, hgk, hsz, hy1, hy2, x0, x1, x2⟩ := mem_getB hL5.units hu
    have hname : E.name u = nm := by
     unfold L.Env.name
     rw [List.getElem?_eq_getElem hu]
     exact hgk
    have c0 := hL5.row.c0
    rw [hA] at c0
    obtain ⟨nu, hnu⟩ : ∃ nu, nu = E.units.length := ⟨_, rfl⟩
    have hun : u < nu := by rw [hnu]; exact hu
    have hfw := HEV.out.few
    rw [<- hnu] at c0 hfw
    rw [hname] at HR2
    have p0 : W5.cell? ⟨pb, 0, none⟩ = _ := cell_of_row W5 pb 0 _ _ _ hb5
    have p1 : W5.cell? ⟨pb, 1, none⟩ = _ := cell_of_row W5 pb 1 _ _ _ hb5
    have HPB := Lib.hid hpb
    have HX5 := Lib.hid (HX4.out.trans E5)
    clear hR' hhit hqq hq3 hu hA hB hgk hsz hy1 hy2 x1 x2 hname hnu hb5 hL5 hL4 hpb HX4 E5
    unfold placeV
    go_upto_region 5 with (fail)
    rw [<- hW5, <- HPB.out]
    clear hW5
    go_upto_region 9 with (fail)
    go_quiet (fail)
    go_wp2_with fail
    go_ret3
    exact ⟨by rw [HR2.out]; rfl, HX5.out.drewN _⟩
   | lib j =>
    rw [hhit] at hh
    obtain ⟨rfl, hL4⟩ := hh
    have hj := L.hit_lib hhit
    rw [HLB.out] at hj
    have hR' : resV R = .tuple #[.string ((libs[j]?.map (·.1)).getD ⟨#[]⟩), .bool true, .int .i64 0] := by rw [HR.out, hhit]; rfl
    have HR2 := Lib.hid hR'
    obtain ⟨W5, hW5⟩ : ∃ W5, W5 = w4.alloc (.cells #[.int .i64 (-1), .int .i64 (j : Int)] 101) := ⟨_, rfl⟩
    obtain ⟨pb, hpb⟩ : ∃ pb, pb = w4.heap.size := ⟨_, rfl⟩
    have E5 : Ext w4 W5 := by rw [hW5]; exact (Ext.refl w4).alloc _
    have hb5 : W5.heap[pb]? = some (.cells #[.int .i64 (-1), .int .i64 (j : Int)] 101 (0, 0)) := by rw [hW5, hpb]; exact heap_alloc_new w4 _
    have HX5 := Lib.hid (HX4.out.trans E5)
    obtain ⟨mb, mo, rfl, hy1, hy2, x0, hy3⟩ := lib_get HD.out hj
    have x0' := HX5.out.keepc x0
    have hjq : j < q := by rw [HQ.out]; exact hj
    have hname : (libs[j]?.map (·.1)).getD ⟨#[]⟩ = libs[j].1 := by rw [List.getElem?_eq_getElem hj]; rfl
    rw [hname] at HR2
    generalize libs[j].1 = nm at x0' HR2
    have p0 : W5.cell? ⟨pb, 0, none⟩ = _ := cell_of_row W5 pb 0 _ _ _ hb5
    have p1 : W5.cell? ⟨pb, 1, none⟩ = _ := cell_of_row W5 pb 1 _ _ _ hb5
    have HPB := Lib.hid hpb
    clear hR' hhit hy1 hy2 hy3 hj x0 hname hb5 hL4 hpb HX4 E5
    unfold placeV
    go_upto_region 5 with (fail)
    rw [<- hW5, <- HPB.out]
    clear hW5
    go_wp2_with fail
    go_ret3
    exact ⟨by rw [HR2.out]; rfl, HX5.out⟩
end Go.Proofs.YtfbhchpbflaphaaGreatDoor

namespace Go.Proofs.YtfbhchpbflaphaaGreatDoor
open Go.RowKit
theorem SliceAt.cut {α : Type} {r : Rep α} {w : World} {S : Nat -> Prop} {A : Option Addr} {c : Nat} {l : List α} (h : SliceAt r w S A c l) (i j : Nat) (hij : i <= j) (hj : j <= l.length) (A' : Option Addr)
 (hA : i < j -> ∀ b off, A = some ⟨b, off, none⟩ -> A' = some ⟨b, off + i * r.size, none⟩) : SliceAt r w S A' (c - i) ((l.drop i).take (j - i)) := by
 obtain ⟨h1, h2, h3⟩ := h
 have hlen : ((l.drop i).take (j - i)).length = j - i := by simp; omega
 refine ⟨by omega, by omega, fun hne => ?_⟩
 have hlt : i < j := by
  rcases Nat.lt_or_ge i j with h | h
  ·exact h
  ·exact absurd (List.eq_nil_of_length_eq_zero (by omega)) hne
 obtain ⟨b, off, hb, hS, hr⟩ := h3 (by intro h; rw [h] at hj; simp at hj; omega)
 refine ⟨b, off + i * r.size, hA hlt b off hb, hS, fun q hq => ?_⟩
 obtain ⟨us, g1, g2⟩ := hr (i + q) (by omega)
 refine ⟨us, by simpa using g1, fun p u hp => ?_⟩
 have := g2 p u hp
 rwa [show off + i * r.size + (q * r.size + p) = off + ((i + q) * r.size + p) by rw [Nat.add_mul]; omega]
theorem run_slice_till {P : Program} {α : Type} {r : Rep α} {w : World} {S : Nat -> Prop} {A : Option Addr} {c n i : Nat} {l : List α} (t : TypeId) (ht : P.underlying t = some (.slice (P.elem t))) (hs : ∀ w', (sizeOf (P.elem t)).run P w' = .ok r.size w')
 (h : SliceAt r w S A c l) (hn : n = l.length) (hi : i <= n) :
 ∃ A', (∀ w', (Instr.slice t (.slice A n c) none (some (.int .i64 (i : Int))) none).run P w' = .ok (.slice A' i c) w') /\ SliceAt r w S A' c (l.take i) := by
 have hc := h.1
 refine ⟨if c = 0 then A else A.map (·.add (0 * r.size)), fun w' => ?_, ?_⟩
 ·rw [run_slice_h w' t A n c ht .i64 i (by omega) (by omega), hs]
  simp [Result.andThen, sliced]
 ·have := h.cut 0 i (by omega) (by omega) (if c = 0 then A else A.map (·.add (0 * r.size))) (fun hlt b off hA => by
   rw [if_neg (by omega), hA]; simp [Addr.add_lit])
  simpa using this
end Go.Proofs.YtfbhchpbflaphaaGreatDoor

namespace Go.Proofs.YtfbhchpbflaphaaGreatDoor
open Go.RowKit Go.Maps Go.ChangeMaps
structure RdAt (w : World) (vT vL : Value) (nt nl : Nat) (lt ll : List ByteArray) (wr : World) : Prop where
 ext : Ext w wr
 res : wr.heap[w.heap.size]? = some (.cells #[.slice none 0 0, .slice none 0 0] 38 (0, 0))
 blk : wr.heap[w.heap.size + 1]? = some (.cells #[vT, vL] 38 (0, 0))
 o1 : OwnB wr (w.heap.size + 2) vT nt lt
 o2 : OwnB wr (w.heap.size + 2) vL nl ll
 off : ∀ b, vT.ownBlock = some b -> vL.ownBlock ≠ some b
section
variable {w a d W : World} {vT vL : Value} {nt nl : Nat} {lt ll : List ByteArray}
theorem RdAt.ext' (h : RdAt w vT vL nt nl lt ll a) (he : Ext a W) : RdAt w vT vL nt nl lt ll W where
 ext := h.ext.trans he
 res := (he.block _ (hltA h.res)).trans h.res
 blk := (he.block _ (hltA h.blk)).trans h.blk
 o1 := h.o1.ext he
 o2 := h.o2.ext he
 off := h.off
theorem RdAt.pushed1 (h : RdAt w vT vL nt nl lt ll a) {v' : Value} {m : Nat} {l' : List ByteArray} (ho : OwnB d (w.heap.size + 2) v' m l') (hg : a.grownBy d vT.ownBlock)
 (hv : v'.ownBlock = vT.ownBlock ∨ ∃ i, v'.ownBlock = some i /\ a.heap.size <= i /\ i < d.heap.size) :
 RdAt w v' vL m nl l' ll (d.setCell ⟨w.heap.size + 1, 0, none⟩ v') /\ d.cell? ⟨w.heap.size + 1, 0, none⟩ = some vT /\ d.frozen? ⟨w.heap.size + 1, 0, none⟩ = false := by
 have hT : Tch (fun i => vT.ownBlock = some i) a d := ⟨hg.os, hg.tape, hg.output, hg.size, fun i hi hx => hg.block i hi fun e => hx e.symm⟩
 have hl1 := fun b hb => h.o1.lt (k := b) hb
 have hl2 := fun b hb => h.o2.lt (k := b) hb
 have b1 := (hT.block _ (hltA h.blk) fun e => by have := (hl1 _ e).1; omega).trans h.blk
 have b2 := (hT.block _ (hltA h.res) fun e => by have := (hl1 _ e).1; omega).trans h.res
 have hS : Tch (fun i => i = w.heap.size + 1) d (d.setCell ⟨w.heap.size + 1, 0, none⟩ v') := grown_tch (grownBy_setCell d ⟨w.heap.size + 1, 0, none⟩ v')
 refine ⟨?_, cell_of_row d _ 0 _ _ _ b1, Lib.frozen_of_heap b1 0⟩
 exact {
  ext := by
   have h1 : Tch (fun _ => False) w a := h.ext.tch _
   have h2 := h1.trans' hT fun i hi e => absurd hi (by have := (hl1 i e).1; omega)
   exact (h2.trans' hS fun i hi e => absurd hi (by omega)).ext fun _ _ h => h
  res := (hS.block _ (hltA b2) (by omega)).trans b2
  blk := heap_setCell_cells b1 0 _
  o1 := ho.tch hS fun b hb e => by have := (ho.lt hb).1; omega
  o2 := (h.o2.tch hT fun b hb e => h.off b e hb).tch hS fun b hb e => by have := (hl2 b hb).1; omega
  off := by
   intro b hb e
   rcases hv with h1 | ⟨i, h1, h2, _⟩
   ·exact h.off b (h1.symm.trans hb) e
   ·rw [h1] at hb
    cases hb
    have := (hl2 b e).2
    omega }
theorem RdAt.pushed2 (h : RdAt w vT vL nt nl lt ll a) {v' : Value} {m : Nat} {l' : List ByteArray} (ho : OwnB d (w.heap.size + 2) v' m l') (hg : a.grownBy d vL.ownBlock)
 (hv : v'.ownBlock = vL.ownBlock ∨ ∃ i, v'.ownBlock = some i /\ a.heap.size <= i /\ i < d.heap.size) :
 RdAt w vT v' nt m lt l' (d.setCell ⟨w.heap.size + 1, 1, none⟩ v') /\ d.cell? ⟨w.heap.size + 1, 1, none⟩ = some vL /\ d.frozen? ⟨w.heap.size + 1, 1, none⟩ = false := by
 have hT : Tch (fun i => vL.ownBlock = some i) a d := ⟨hg.os, hg.tape, hg.output, hg.size, fun i hi hx => hg.block i hi fun e => hx e.symm⟩
 have hl1 := fun b hb => h.o1.lt (k := b) hb
 have hl2 := fun b hb => h.o2.lt (k := b) hb
 have b1 := (hT.block _ (hltA h.blk) fun e => by have := (hl2 _ e).1; omega).trans h.blk
 have b2 := (hT.block _ (hltA h.res) fun e => by have := (hl2 _ e).1; omega).trans h.res
 have hS : Tch (fun i => i = w.heap.size + 1) d (d.setCell ⟨w.heap.size + 1, 1, none⟩ v') := grown_tch (grownBy_setCell d ⟨w.heap.size + 1, 1, none⟩ v')
 refine ⟨?_, cell_of_row d _ 1 _ _ _ b1, Lib.frozen_of_heap b1 1⟩
 exact {
  ext := by
   have h1 : Tch (fun _ => False) w a := h.ext.tch _
   have h2 := h1.trans' hT fun i hi e => absurd hi (by have := (hl2 i e).1; omega)
   exact (h2.trans' hS fun i hi e => absurd hi (by omega)).ext fun _ _ h => h
  res := (hS.block _ (hltA b2) (by omega)).trans b2
  blk := heap_setCell_cells b1 1 _
  o1 := (h.o1.tch hT fun b hb e => h.off b hb e).tch hS fun b hb e => by have := (hl1 b hb).1; omega
  o2 := ho.tch hS fun b hb e => by have := (ho.lt hb).1; omega
  off := by
   intro b hb e
   rcases hv with h1 | ⟨i, h1, h2, _⟩
   ·exact h.off b hb (h1.symm.trans e)
   ·rw [h1] at e
    cases e
    have := (hl1 b hb).2
    omega }
end
def RdV (w' : World) (B : Nat -> Prop) (r : L.Rd) (vs : List Value) : Prop := ∃ A1 c1 A2 c2, vs = [.slice A1 r.1.length c1, .slice A2 r.2.length c2] /\ SliceAt strR w' B A1 c1 r.1 /\ SliceAt strR w' B A2 c2 r.2
def RetRd (w : World) (r : L.Rd) (e : Ending) (w' : World) : Prop := Ext w w' /\ ∃ vs, e = .returned (.agg (Array.mk vs)) /\ RdV w' (Fresh w w') r vs
theorem ty22 : Tryz.prog.elem 22 = 69 := by kernel_rfl
theorem sz22 : ∀ w', (sizeOf (Tryz.prog.elem 22)).run Tryz.prog w' = .ok memR.size w' := fun _ => by kernel_rfl
theorem ty24 : Tryz.prog.elem 24 = 86 := by kernel_rfl
theorem sz24 : ∀ w', (sizeOf (Tryz.prog.elem 24)).run Tryz.prog w' = .ok librR.size w' := fun _ => by kernel_rfl
theorem take_names {l : List C.Mem} {k : Nat} (h : k < l.length) : (l.take (k + 1)).map (·.1) = (l.take k).map (·.1) ++ [l[k].1] := by
 rw [List.take_succ_eq_append_getElem h, List.map_append, List.map_singleton]
theorem take_paths {l : List L.Libr} {k : Nat} (h : k < l.length) : (l.take (k + 1)).map (·.1) = (l.take k).map (·.1) ++ [l[k].1] := by
 rw [List.take_succ_eq_append_getElem h, List.map_append, List.map_singleton]
theorem size35 : (Tryz.prog.info? 35).map (·.size) = some 8 := by kernel_rfl
theorem size38 : (Tryz.prog.info? 38).map (·.size) = some 2 := by kernel_rfl
theorem heap_setRow (w : World) (g : Nat) (cs : Array Value) {old : Array Value} {t : TypeId} {fr : Nat × Nat} (h : w.heap[g]? = some (.cells old t fr)) : (w.setRow g cs).heap[g]? = some (.cells cs t fr) := by
 simp only [World.setRow]
 rw [Array.getElem?_modify, if_pos rfl, h]
 rfl
theorem heap_setRow_other (w : World) (g k : Nat) (cs : Array Value) (h : g ≠ k) : (w.setRow g cs).heap[k]? = w.heap[k]? := by
 simp only [World.setRow]
 rw [Array.getElem?_modify, if_neg h]
theorem tch_setRow (w : World) (g : Nat) (cs : Array Value) : Tch (fun i => i = g) w (w.setRow g cs) :=
 ⟨rfl, rfl, rfl, by rw [size_setRow]; exact Nat.le_refl _, fun k _ hx => heap_setRow_other w g k cs fun e => hx e.symm⟩
attribute [local irreducible] wpLex wpT
set_option maxRecDepth 8000 in
set_option maxHeartbeats 4000000 in
theorem reading_any (w : World) (S X : Nat -> Prop) (base g : Nat) (E : L.Env) (st : L.St) (M : List (List (Int × Int))) (k : LC) (h : LinkAt w S X base g E st M k) (hE : EnvOk E) (hb : L.Bd E st.2) (hlz : ∀ l ∈ E.libs, l.1.size <= 9223372036854775807) :
 Calls Tryz.prog 86 #[.pointer (some ⟨g, 0, none⟩)] w (RetRd w (E.reading st.2)) := by
 obtain ⟨i0, hi0, hz0, hz1, hz2⟩ := info_parts str_info
 obtain ⟨W1, hW1⟩ : ∃ W1, W1 = (w.alloc (.cells #[.slice none 0 0, .slice none 0 0] 38)).alloc (.cells #[.slice none 0 0, .slice none 0 0] 38) := ⟨_, rfl⟩
 have E1 : Ext w W1 := by rw [hW1]; exact ((Ext.refl w).alloc _).alloc _
 have hsz : (w.alloc (.cells #[.slice none 0 0, .slice none 0 0] 38)).heap.size = w.heap.size + 1 := by simp
 have hbR : W1.heap[w.heap.size]? = some (.cells #[.slice none 0 0, .slice none 0 0] 38 (0, 0)) := by rw [hW1]; exact (((Ext.refl (w.alloc _)).alloc _).block _ (by simp)).trans (heap_alloc_new w _)
 have hbT : W1.heap[w.heap.size + 1]? = some (.cells #[.slice none 0 0, .slice none 0 0] 38 (0, 0)) := by rw [hW1, <- hsz]; exact heap_alloc_new _ _
 have hL1 := h.ext E1
 obtain ⟨no, hno⟩ : ∃ no, no = E.objs.length := ⟨_, rfl⟩
 obtain ⟨nu, hnu⟩ : ∃ nu, nu = E.units.length := ⟨_, rfl⟩
 obtain ⟨nl, hnl⟩ : ∃ nl, nl = E.libs.length := ⟨_, rfl⟩
 obtain ⟨mm, hmm⟩ : ∃ mm, mm = st.2.1 := ⟨_, rfl⟩
 obtain ⟨ml, hml⟩ : ∃ ml, ml = st.2.2 := ⟨_, rfl⟩
 obtain ⟨tn, htn⟩ : ∃ tn, tn = no + mm := ⟨_, rfl⟩
 have hun : E.units.length = E.objs.length + E.mems.length := by unfold L.Env.units; simp
 have htu : tn <= nu := by have := hb.1; omega
 have hmlu : ml <= nl := by have := hb.2; omega
 have hfu := hE.few
 have hfl := hE.fewL
 rw [<- hnu] at hfu
 rw [<- hnl] at hfl
 have c0 := hL1.row.c0
 have c1 := hL1.row.c1
 have c2 := hL1.row.c2
 have c3 := hL1.row.c3
 have c4 := hL1.row.c4
 rw [<- hnu] at c0
 rw [<- hno] at c1
 rw [<- hnl] at c2
 rw [<- hmm] at c3
 rw [<- hml] at c4
 obtain ⟨A', hsl, hsA⟩ := run_slice_till (P := Tryz.prog) 22 (ty22 ▸ Tryz.underlying22) sz22 h.units hnu htu
 obtain ⟨D', hsl2, hsD⟩ := run_slice_till (P := Tryz.prog) 24 (ty24 ▸ Tryz.underlying24) sz24 h.libs hnl hmlu
 have hq : (no : Int) + (mm : Int) = (tn : Int) := by omega
 have HSA := Lib.hid hsA
 have HSB : Hid (∀ b, S b -> b < w.heap.size) := fun b hb => (h.out b hb).1
 have HCC : Hid (w.cell? ⟨g, 2, none⟩ = some (.slice k.B nl k.d) /\ w.cell? ⟨g, 4, none⟩ = some (.int .i64 (ml : Int))) := by
  have d2 := h.row.c2
  have d4 := h.row.c4
  rw [<- hnl] at d2
  rw [<- hml] at d4
  exact ⟨d2, d4⟩
 have HSD := Lib.hid hsD
 have HU := Lib.hid hE.sizes
 have HLZ := Lib.hid hlz
 have HP0 : Hid (RdAt w (.slice none 0 0) (.slice none 0 0) 0 0 ((E.units.take 0).map (·.1)) [] W1) := ⟨E1, hbR, hbT, OwnL.nil _ _, OwnL.nil _ _, fun b hb => by simp [Value.ownBlock] at hb⟩
 obtain ⟨R, hR⟩ : ∃ R, R = E.reading st.2 := ⟨_, rfl⟩
 rw [<- hR]
 have hR' : R = ((E.units.take tn).map (·.1), (E.libs.take ml).map (·.1)) := by rw [hR, htn, hno, hmm, hml]; rfl
 have HR := Lib.hid hR'
 have HN := Lib.hid hnu
 have HNL := Lib.hid hnl
 have HW1 := Lib.hid hW1
 clear hR hR' hsA hsD hno hnu hnl hmm hml htn hun hb hE h hL1 hbT hbR hsz hW1 hlz
 have HE1 := Lib.hid E1
 clear E1
 go_enter Tryz.func86, Tryz.ntmps86
 go_upto_region 2 with (fail)
 rw [<- HW1.out]
 go_quiet (fail)
 obtain ⟨W2, hW2⟩ : ∃ W2, W2 = W1.drewN nq := ⟨_, rfl⟩
 have E2 : Ext W1 W2 := by rw [hW2]; exact (Ext.refl W1).drewN nq
 rw [<- hW2]
 have HP2 := Lib.hid (HP0.out.ext' E2)
 clear hW2 E2 c0 c1 c2 c3 c4 hq hsl HP0
 go_wp2_with fail
 go_loopw [23] (fun i wr => ∃ (j : Nat) (vT : Value), j <= tn /\ i = .int .i64 (j : Int) /\ Hid (RdAt w vT (.slice none 0 0) j 0 ((E.units.take j).map (·.1)) [] wr)) (fun i _ => tn - (intOf i).toNat)
 case atStart => exact ⟨0, _, Nat.zero_le _, rfl, HP2.out⟩
 case round =>
  obtain ⟨j, vT, hj, rfl, HK⟩ := hrel
  obtain ⟨W0, hW0⟩ : ∃ W0, W0 = wr := ⟨_, rfl⟩
  subst hW0
  by_cases hlt : j < tn
  ·have hju : j < E.units.length := by have := HN.out; omega
   have hjt : j < (E.units.take tn).length := by rw [List.length_take]; omega
   have HT : Hid (SliceAt memR W0 S A' k.c (E.units.take tn)) := HSA.out.keep (fun _ h => h) fun b hb => HK.out.ext.block b (HSB.out b hb)
   obtain ⟨mb, mo, s, TA, tc, TB, td, rfl, hbo, hms, hss, hTA, hTB, m0, m1, m2⟩ := mem_getB HT.out hjt
   have hge : (E.units.take tn)[j] = E.units[j] := List.getElem_take
   rw [hge] at hms m1 m2
   have htk := take_names hju
   rw [hms] at htk
   have HTK := Lib.hid htk
   generalize E.units[j].2.1.length = tl at m1
   generalize E.units[j].2.2.length = ul at m2
   obtain ⟨W4, hW4⟩ : ∃ W4, W4 = W0.alloc (.cells #[.string s, .slice TA tl tc, .slice TB ul td] 69) := ⟨_, rfl⟩
   obtain ⟨eb, heb⟩ : ∃ eb, eb = W0.heap.size := ⟨_, rfl⟩
   have E4 : Ext W0 W4 := by rw [hW4]; exact (Ext.refl W0).alloc _
   have hb4 : W4.heap[eb]? = some (.cells #[.string s, .slice TA tl tc, .slice TB ul td] 69 (0, 0)) := by rw [hW4, heb]; exact heap_alloc_new W0 _
   have t0 : W4.cell? ⟨eb, 0, none⟩ = _ := cell_of_row W4 eb 0 _ _ _ hb4
   have HR4 := Lib.hid (HK.out.ext' E4)
   have z0 : W4.cell? ⟨w.heap.size + 1, 0, none⟩ = some vT := cell_of_row W4 _ 0 _ _ _ HR4.out.blk
   have HEB := Lib.hid heb
   clear htk hms hss hTA hTB hbo hge heb hb4 E4 HT HK hju hjt
   go_upto_region 5 with (fail)
   rw [<- hW4, <- HEB.out]
   clear hW4 m0 m1 m2
   have hown := (HR4.out.ext' ((Ext.refl W4).alloc (.cells #[.string s] 9))).o1
   have HR5 := Lib.hid (HR4.out.ext' ((Ext.refl W4).alloc (.cells #[.string s] 9)))
   have hbase : w.heap.size + 2 <= (W4.alloc (.cells #[.string s] 9)).heap.size := Nat.le_trans (hltA HR5.out.blk) (Nat.le_refl _)
   go_wp2_with (at_builtin; refine wpList_append_one rfl (.tmp 28) (.tmp 31) 36 rfl Tryz.underlying36 hi0 hz0 hz1 hz2 rfl (by decide) (by decide) rfl hown s rfl rfl (one_cells _ s 9 _ rfl) (strC_one s) (by omega) hbase ?_; intro v5 w5 hown5 hg5 hv5; obtain ⟨A5, c5, rfl⟩ := hown5.form; obtain ⟨hI, x7, xf⟩ := HR5.out.pushed1 hown5 hg5 hv5)
   have HI : Hid (RdAt w (.slice A5 (j + 1) c5) (.slice none 0 0) (j + 1) 0 ((E.units.take (j + 1)).map (·.1)) [] (w5.setCell ⟨w.heap.size + 1, 0, none⟩ (.slice A5 (j + 1) c5))) := by rw [HTK.out]; exact hI
   go_roundw
   case rel => exact ⟨j + 1, _, by omega, by go_num, HI⟩
   case measure => simp [intOf]; omega
  ·obtain rfl : j = tn := by omega
   obtain ⟨T, hT⟩ : ∃ T, T = (E.units.take j).map (·.1) := ⟨_, rfl⟩
   have HTS : Hid (∀ y ∈ T, y.size <= 9223372036854775807) := fun y hy => by
    rw [hT] at hy
    obtain ⟨m, hm, rfl⟩ := List.mem_map.1 hy
    have := (HU.out m (List.mem_of_mem_take hm)).1
    omega
   rw [<- hT] at HK HR
   have c2 := HK.out.ext.keepc HCC.out.1
   have c4 := HK.out.ext.keepc HCC.out.2
   have HK2 : Hid (RdAt w vT (.slice none 0 0) j 0 T ((E.libs.take 0).map (·.1)) W0) := HK.out
   clear hT HK HP2
   go_upto_region 7 with (fail)
   go_quiet (fail)
   obtain ⟨W3, hW3⟩ : ∃ W3, W3 = W0.drewN nq := ⟨_, rfl⟩
   have E3 : Ext W0 W3 := by rw [hW3]; exact (Ext.refl W0).drewN nq
   rw [<- hW3]
   have HP3 := Lib.hid (HK2.out.ext' E3)
   clear hW3 E3 c2 c4 hsl2 HK2
   go_wp2_with fail
   go_loopw [45] (fun i wr => ∃ (q : Nat) (vL : Value), q <= ml /\ i = .int .i64 (q : Int) /\ Hid (RdAt w vT vL j q T ((E.libs.take q).map (·.1)) wr)) (fun i _ => ml - (intOf i).toNat)
   case atStart => exact ⟨0, _, Nat.zero_le _, rfl, HP3.out⟩
   case round =>
    obtain ⟨q, vL, hq, rfl, HK⟩ := hrel
    obtain ⟨V0, hV0⟩ : ∃ V0, V0 = wr := ⟨_, rfl⟩
    subst hV0
    by_cases hlt : q < ml
    ·have hql : q < E.libs.length := by have := HNL.out; omega
     have hqt : q < (E.libs.take ml).length := by rw [List.length_take]; omega
     have HT : Hid (SliceAt librR V0 S D' k.d (E.libs.take ml)) := HSD.out.keep (fun _ h => h) fun b hb => HK.out.ext.block b (HSB.out b hb)
     obtain ⟨b, off, kd, en, im, A1, n1, c1, A2, n2, c2, A3, n3, c3, A4, c4, A5, n5, c5, rfl, hbo, hs, hkd, hEX, m0, m1, m2, m3, m4, m5, m6, m7, m8⟩ := lib_cells HT.out hqt
     have hge : (E.libs.take ml)[q] = E.libs[q] := List.getElem_take
     rw [hge] at m0 m7
     have htk := take_paths hql
     have HTK := Lib.hid htk
     generalize E.libs[q].1 = s at m0 HTK
     generalize (L.exps E.libs[q]).length = n4 at m7
     obtain ⟨W4, hW4⟩ : ∃ W4, W4 = V0.alloc (.cells #[.string s, .int .i64 kd, .int .i64 en, .string im, .slice A1 n1 c1, .slice A2 n2 c2, .slice A3 n3 c3, .slice A4 n4 c4, .slice A5 n5 c5] 86) := ⟨_, rfl⟩
     obtain ⟨eb, heb⟩ : ∃ eb, eb = V0.heap.size := ⟨_, rfl⟩
     have E4 : Ext V0 W4 := by rw [hW4]; exact (Ext.refl V0).alloc _
     have hb4 : W4.heap[eb]? = some (.cells #[.string s, .int .i64 kd, .int .i64 en, .string im, .slice A1 n1 c1, .slice A2 n2 c2, .slice A3 n3 c3, .slice A4 n4 c4, .slice A5 n5 c5] 86 (0, 0)) := by rw [hW4, heb]; exact heap_alloc_new V0 _
     have t0 : W4.cell? ⟨eb, 0, none⟩ = _ := cell_of_row W4 eb 0 _ _ _ hb4
     have HR4 := Lib.hid (HK.out.ext' E4)
     have z1 : W4.cell? ⟨w.heap.size + 1, 1, none⟩ = some vL := cell_of_row W4 _ 1 _ _ _ HR4.out.blk
     have HEB := Lib.hid heb
     clear htk hs hkd hEX hbo hge heb hb4 E4 HT HK hql hqt
     go_upto_region 10 with (fail)
     rw [<- hW4, <- HEB.out]
     clear hW4 m0 m1 m2 m3 m4 m5 m6 m7 m8
     have hown := (HR4.out.ext' ((Ext.refl W4).alloc (.cells #[.string s] 9))).o2
     have HR5 := Lib.hid (HR4.out.ext' ((Ext.refl W4).alloc (.cells #[.string s] 9)))
     have hbase : w.heap.size + 2 <= (W4.alloc (.cells #[.string s] 9)).heap.size := Nat.le_trans (hltA HR5.out.blk) (Nat.le_refl _)
     go_wp2_with (at_builtin; refine wpList_append_one rfl (.tmp 50) (.tmp 53) 36 rfl Tryz.underlying36 hi0 hz0 hz1 hz2 rfl (by decide) (by decide) rfl hown s rfl rfl (one_cells _ s 9 _ rfl) (strC_one s) (by omega) hbase ?_; intro v5 w5 hown5 hg5 hv5; obtain ⟨B5, d5, rfl⟩ := hown5.form; obtain ⟨hI, x7, xf⟩ := HR5.out.pushed2 hown5 hg5 hv5)
     have HI : Hid (RdAt w vT (.slice B5 (q + 1) d5) j (q + 1) T ((E.libs.take (q + 1)).map (·.1)) (w5.setCell ⟨w.heap.size + 1, 1, none⟩ (.slice B5 (q + 1) d5))) := by rw [HTK.out]; exact hI
     go_roundw
     case rel => exact ⟨q + 1, _, by omega, by go_num, HI⟩
     case measure => simp [intOf]; omega
    ·obtain rfl : q = ml := by omega
     have h0 := HK.out
     have hT9 : ∀ y ∈ T, y.size <= 9223372036854775807 := HTS.out
     have hL9 : ∀ y ∈ (E.libs.take q).map (·.1), y.size <= 9223372036854775807 := fun y hy => by
      obtain ⟨l, hl, rfl⟩ := List.mem_map.1 hy
      exact HLZ.out l (List.mem_of_mem_take hl)
     obtain ⟨TL, hTL⟩ : ∃ TL, TL = (E.libs.take q).map (·.1) := ⟨_, rfl⟩
     rw [<- hTL] at h0 hL9 HR
     have k1 := h0.o1.1
     have k2 := h0.o2.1
     obtain ⟨A1, c1, rfl, s1⟩ := OwnL.slice h0.o1 fun B => strC_is hT9 B V0
     obtain ⟨A2, c2, rfl, s2⟩ := OwnL.slice h0.o2 fun B => strC_is hL9 B V0
     have z0 : V0.cell? ⟨w.heap.size + 1, 0, none⟩ = some (.slice A1 j c1) := cell_of_row V0 _ 0 _ _ _ h0.blk
     have z1 : V0.cell? ⟨w.heap.size + 1, 1, none⟩ = some (.slice A2 q c2) := cell_of_row V0 _ 1 _ _ _ h0.blk
     have hres := h0.res
     have HZ := Lib.hid h0
     have HS1 := Lib.hid s1
     have HS2 := Lib.hid s2
     have HK1 := Lib.hid k1
     have HK2 := Lib.hid k2
     clear h0 hT9 hL9 hTL s1 s2 k1 k2 HK
     have x0 : V0.cell? ⟨w.heap.size, 0, none⟩ = some (.slice none 0 0) := cell_of_row V0 _ 0 _ _ _ hres
     have x1 : V0.cell? ⟨w.heap.size, 1, none⟩ = some (.slice none 0 0) := cell_of_row V0 _ 1 _ _ _ hres
     have f0 := Lib.frozen_of_heap hres 0
     have f1 := Lib.frozen_of_heap hres 1
     have HRS := Lib.hid hres
     clear hres
     go_wp2_with fail
     have hC : ((V0.setCell ⟨w.heap.size, 0, none⟩ (.slice A1 j c1)).setCell ⟨w.heap.size, 1, none⟩ (.slice A2 q c2)).heap[w.heap.size]? = some (.cells (Array.mk [.slice A1 j c1, .slice A2 q c2]) 38 (0, 0)) := heap_setCell_cells (heap_setCell_cells HRS.out 0 _) 1 _
     have hT : Tch (fun i => i = w.heap.size) V0 ((V0.setCell ⟨w.heap.size, 0, none⟩ (.slice A1 j c1)).setCell ⟨w.heap.size, 1, none⟩ (.slice A2 q c2)) := (grown_tch (grownBy_setCell V0 ⟨w.heap.size, 0, none⟩ _)).trans (grown_tch (grownBy_setCell _ ⟨w.heap.size, 1, none⟩ _))
     refine bodyPost_ret (v := .agg (Array.mk [.slice A1 j c1, .slice A2 q c2])) ?_ ?_ ?_
     rotate_left 2
     refine ⟨?_, _, rfl, ?_⟩
     rotate_left 2
     ·exact results_cell_row (p := 2) (ty := 38) Tryz.results86 _ _ w.heap.size 38 (Array.mk [.slice A1 j c1, .slice A2 q c2]) (0, 0) _ rfl hC Tryz.underlying38 rfl size38
     ·rfl
     ·have h1 : Tch (fun _ => False) w V0 := HZ.out.ext.tch _
      exact (h1.trans' hT fun i hi e => absurd hi (by omega)).ext fun _ _ h => h
     ·rw [HR.out]
      refine ⟨A1, c1, A2, c2, ?_, HS1.out.keep (fun i hi => ?_) (fun i hi => ?_), HS2.out.keep (fun i hi => ?_) (fun i hi => ?_)⟩
      ·rw [<- HK1.out, <- HK2.out]
      ·have h1 := hi.2.1
       have h2 := hi.2.2
       have h3 := hT.size
       exact ⟨by omega, by omega⟩
      ·have h1 := hi.2.1
       exact hT.block i hi.2.2 (by omega)
      ·have h1 := hi.2.1
       have h2 := hi.2.2
       have h3 := hT.size
       exact ⟨by omega, by omega⟩
      ·have h1 := hi.2.1
       exact hT.block i hi.2.2 (by omega)
end Go.Proofs.YtfbhchpbflaphaaGreatDoor
