/- The texts Gs of the seat, joined. -/
import Derived.Test.YtfbhchpbflaphaaGreatDoorS11
import Derived.Deep.CutRange
namespace Go.Proofs.YtfbhchpbflaphaaGreatDoor
open Go.RowKit Go.Maps Go.ChangeMaps
def zeroB : L.Bin := (0, 0, ⟨#[]⟩, [], [], [], [], [])
def RetPlace (w : World) (E : L.Env) (l : List L.Spot) (e : Ending) (w' : World) : Prop :=
 Ext w w' /\ ∃ vs b er, e = .returned (.tuple #[.agg (Array.mk vs), .int .i64 er]) /\ BinV w' (Fresh w w') b vs /\ vs[6]? = some (.slice none 0 0) /\ (b, er) = if 65536 < L.fin (E.sizes l) 0 then (zeroB, (10 : Int)) else (E.bin l 0 0 [], 0)
structure PlcAt (w : World) (tb : Nat) (E : L.Env) (l : List L.Spot) (i : Nat) (vP : Value) (wr : World) : Prop where
 ext : Ext w wr
 blk : wr.heap[tb]? = some (.cells (binCells ⟨#[]⟩ vP (.slice none 0 0) (.slice none 0 0)) 35 (0, 0))
 own : OwnL plcC 49 5 wr (w.heap.size + 2) vP i ((E.places l).take i)
 off : vP.ownBlock ≠ some tb
 res : wr.heap[w.heap.size]? = some (.cells (binCells ⟨#[]⟩ (.slice none 0 0) (.slice none 0 0) (.slice none 0 0)) 35 (0, 0))
theorem quo4 (n : Nat) : ((n : Int) + 3).tdiv 4 = (((n + 3) / 4 : Nat) : Int) := by rw [Int.tdiv_eq_ediv_of_nonneg (by omega)]; omega
theorem quo4' (n : Nat) : ((n : Int) + 3) / 4 = (((n + 3) / 4 : Nat) : Int) := by omega
theorem unit_name {w : World} {S X : Nat -> Prop} {base g : Nat} {E : L.Env} {st : L.St} {M : List (List (Int × Int))} {k : LC} (h : LinkAt w S X base g E st M k) {u : Nat} (hu : u < E.units.length) :
 ∃ b off, k.A = some ⟨b, off, none⟩ /\ w.cell? ⟨b, off + u * 3, none⟩ = some (.string (E.name u)) := by
 obtain ⟨b, off, s, SA, sc, SB, sd, hA, hB, hgk, hs, hSA, hSB, c0, c1, c2⟩ := mem_getB h.units hu
 refine ⟨b, off, hA, ?_⟩
 have : E.name u = s := by unfold L.Env.name; rw [List.getElem?_eq_getElem hu, <- hgk]; rfl
 rw [this]
 exact c0
attribute [local irreducible] wpLex wpT
set_option maxRecDepth 8000 in
set_option maxHeartbeats 4000000 in
theorem place_any (w : World) (S X : Nat -> Prop) (base g : Nat) (E : L.Env) (st : L.St) (k : LC) (h : LinkAt w S X base g E st (meansTo E st.1 st.1.length) k) (hE : EnvOk E) (hl : L.ListOk E st.1) (hG : GoodTo E st.1 st.1.length) :
 Calls Tryz.prog 85 #[.pointer (some ⟨g, 0, none⟩)] w (RetPlace w E st.1) := by
 have HL := Lib.hid h
 have HE := Lib.hid hE
 have HOK := Lib.hid hl
 have HGD := Lib.hid hG
 obtain ⟨n, hn⟩ : ∃ n, n = st.1.length := ⟨_, rfl⟩
 obtain ⟨vA, vc, hvL⟩ := h.list.form
 rw [<- hn] at hvL
 have hn128 : n <= 128 := by rw [hn]; exact hl.1
 obtain ⟨W1, hW1⟩ : ∃ W1, W1 = (w.alloc (.cells #[.int .i64 0, .int .i64 0, .string ⟨#[]⟩, .slice none 0 0, .slice none 0 0, .slice none 0 0, .slice none 0 0, .slice none 0 0] 35)).alloc (.cells #[.int .i64 0, .int .i64 0, .string ⟨#[]⟩, .slice none 0 0, .slice none 0 0, .slice none 0 0, .slice none 0 0, .slice none 0 0] 35) := ⟨_, rfl⟩
 have E1 : Ext w W1 := by rw [hW1]; exact ((Ext.refl w).alloc _).alloc _
 have hsz : (w.alloc (.cells #[.int .i64 0, .int .i64 0, .string ⟨#[]⟩, .slice none 0 0, .slice none 0 0, .slice none 0 0, .slice none 0 0, .slice none 0 0] 35)).heap.size = w.heap.size + 1 := by simp
 have hbR : W1.heap[w.heap.size]? = some (.cells #[.int .i64 0, .int .i64 0, .string ⟨#[]⟩, .slice none 0 0, .slice none 0 0, .slice none 0 0, .slice none 0 0, .slice none 0 0] 35 (0, 0)) := by rw [hW1]; exact (((Ext.refl (w.alloc _)).alloc _).block _ (by simp)).trans (heap_alloc_new w _)
 have hbT : W1.heap[w.heap.size + 1]? = some (.cells (binCells ⟨#[]⟩ (.slice none 0 0) (.slice none 0 0) (.slice none 0 0)) 35 (0, 0)) := by rw [hW1, <- hsz]; exact heap_alloc_new _ _
 have HP0 : Hid (PlcAt w (w.heap.size + 1) E st.1 0 (.slice none 0 0) W1) := ⟨E1, hbT, OwnL.nil _ _, by simp [Value.ownBlock], hbR⟩
 have HX1 := Lib.hid E1
 have HBR := Lib.hid hbR
 have c6 := (h.ext E1).row.c6
 rw [hvL] at c6
 have HVL := Lib.hid hvL
 have HN := Lib.hid hn
 have HW1 := Lib.hid hW1
 clear h hE hl hG hW1 E1 hsz hbR hbT hvL hn
 go_enter Tryz.func85, Tryz.ntmps85
 go_upto_region 3 with (fail)
 rw [<- HW1.out]
 go_wp2_with fail
 clear c6
 go_loopw [5, 23] (fun e i wr => ∃ (i0 : Nat) (vP : Value), i = .int .i64 (i0 : Int) /\ i0 <= n /\ e = .int .i64 ((L.fin ((E.sizes st.1).take i0) 0 : Nat) : Int) /\ Hid (PlcAt w (w.heap.size + 1) E st.1 i0 vP wr)) (fun _ i _ => n - (intOf i).toNat)
 case atStart => exact ⟨0, _, rfl, Nat.zero_le _, rfl, HP0⟩
 case round =>
  obtain ⟨i0, vP, rfl, hi, rfl, HK⟩ := hrel
  by_cases hlt : i0 < n
  ·have hil : i0 < st.1.length := by rw [<- HN.out]; exact hlt
   have hLr := HL.out.ext HK.out.ext
   obtain ⟨c, hc⟩ := Option.isSome_iff_exists.1 (HOK.out.2.2 _ (List.getElem_mem hil)).2
   have hpu := (HOK.out.2.2 _ (List.getElem_mem hil)).1
   have HDATA := Lib.hid (fun W (hW : Ext wr W) => data_any W S X base g E st _ k (hLr.ext hW) HE.out hil HOK.out.1 hc)
   obtain ⟨bl, ol, cl, hvq, v0, v1⟩ := hLr.spot hil
   rw [HVL.out] at hvq
   cases hvq
   obtain ⟨ub, uo, hA, hun⟩ := unit_name hLr hpu
   have hsl : (E.sizes st.1).length = st.1.length := by unfold L.Env.sizes; simp
   have hfs := fin_take_succ (l := E.sizes st.1) (i := i0) (by rw [hsl]; exact hil)
   rw [sizes_get hil (by rw [hsl]; exact hil), L.sec_is hc] at hfs
   have hfb := fin_bound ((E.sizes st.1).take i0) 0 fun s hs => sizes_small HE.out HOK.out s (List.mem_of_mem_take hs)
   have hcs := (rels_few HE.out hc).2
   have hpl := places_get (E := E) hil (by rw [places_len]; exact hil)
   rw [L.sec_is hc] at hpl
   have hpt : (E.places st.1).take (i0 + 1) = (E.places st.1).take i0 ++ [(E.places st.1)[i0]'(by rw [places_len]; exact hil)] := List.take_succ_eq_append_getElem _
   rw [hpl] at hpt
   rw [List.length_take] at hfb
   generalize L.fin ((E.sizes st.1).take i0) 0 = en at *
   obtain ⟨nm, hnm⟩ : ∃ nm, nm = E.name st.1[i0].1 := ⟨_, rfl⟩
   obtain ⟨pu, hpue⟩ : ∃ pu, pu = st.1[i0].1 := ⟨_, rfl⟩
   obtain ⟨px, hpxe⟩ : ∃ px, px = st.1[i0].2 := ⟨_, rfl⟩
   obtain ⟨nu, hnu⟩ : ∃ nu, nu = E.units.length := ⟨_, rfl⟩
   obtain ⟨ck, cd, cr⟩ := c
   simp only at hfs hcs hpt
   have c0 := hLr.row.c0
   have c6 := hLr.row.c6
   rw [hA, <- hnu] at c0
   rw [HVL.out] at c6
   rw [<- hnm] at hun hpt
   rw [<- hpue] at v0 hun hpu
   rw [<- hpxe] at v1 hpt
   have HPUU := Lib.hid hpu
   rw [<- hnu] at hpu
   have hnuf := HE.out.few
   rw [<- hnu] at hnuf
   obtain ⟨W2, hW2⟩ : ∃ W2, W2 = wr.alloc (.cells #[.int .i64 (pu : Int), .string px] 162) := ⟨_, rfl⟩
   obtain ⟨sb, hsb⟩ : ∃ sb, sb = wr.heap.size := ⟨_, rfl⟩
   have E2 : Ext wr W2 := by rw [hW2]; exact (Ext.refl wr).alloc _
   have hb2 : W2.heap[sb]? = some (.cells #[.int .i64 (pu : Int), .string px] 162 (0, 0)) := by rw [hW2, hsb]; exact heap_alloc_new wr _
   have HSB := Lib.hid hsb
   have HE2 := Lib.hid E2
   have HB2 := Lib.hid hb2
   have HFS := Lib.hid hfs
   have HPT := Lib.hid hpt
   have HKK := Lib.hid HK.out
   clear hsb hb2 hfs hpt hc hpl hsl hnm hpue hpxe hnu hLr HK
   go_upto_region 6 with (fail)
   rw [<- hW2, <- HSB.out]
   clear hW2
   go_wp2_with fail
   refine (HDATA.out _ HE2.out).mono ?_
   rintro e w3 ⟨d3, RA, rc, hRA, rfl⟩
   simp only
   obtain ⟨rn, hrn⟩ : ∃ rn, rn = cr.length := ⟨_, rfl⟩
   rw [<- hrn]
   clear hrn hRA
   obtain ⟨W3, hW3⟩ : ∃ W3, W3 = w3.alloc (.cells #[.int .i64 ck, .string cd, .slice RA rn rc] 67) := ⟨_, rfl⟩
   obtain ⟨db, hdb⟩ : ∃ db, db = w3.heap.size := ⟨_, rfl⟩
   have E3 : Ext W2 W3 := by rw [hW3]; exact d3.alloc _
   have hb3 : W3.heap[db]? = some (.cells #[.int .i64 ck, .string cd, .slice RA rn rc] 67 (0, 0)) := by rw [hW3, hdb]; exact heap_alloc_new w3 _
   have hdbl : W2.heap.size <= db := by rw [hdb]; exact d3.size
   have HDB := Lib.hid hdb
   clear hdb d3
   go_upto_region 7 with (fail)
   rw [<- hW3, <- HDB.out]
   clear hW3
   have hEX : Ext wr W3 := E2.trans E3
   have q1 := quo4 en
   have q2 := quo4' en
   have q3 : (((en + 3) / 4 : Nat) : Int) * 4 = ((L.up en : Nat) : Int) := by unfold L.up; omega
   obtain ⟨qn, hqn⟩ : ∃ qn, qn = (en + 3) / 4 := ⟨_, rfl⟩
   rw [<- hqn] at q1 q2 q3
   obtain ⟨ua, hua⟩ : ∃ ua, ua = L.up en := ⟨_, rfl⟩
   have HUA := Lib.hid hua
   have hup : L.up en <= en + 3 := by unfold L.up; omega
   have hqb : qn <= en + 3 := by omega
   rw [<- hua] at q3 hup
   clear hua hqn
   have y3 : W3.cell? ⟨w.heap.size + 1, 3, none⟩ = some vP := hEX.keepc (cell_of_row wr _ 3 _ _ _ HKK.out.blk)
   have g3 := hEX.keepf (hltA HKK.out.blk) (Lib.frozen_of_heap HKK.out.blk 3)
   have a0 := hEX.keepc c0
   have an := hEX.keepc hun
   have hb2' := (E3.block _ (hltA HB2.out)).trans HB2.out
   have s0 : W3.cell? ⟨sb, 0, none⟩ = _ := cell_of_row W3 sb 0 _ _ _ hb2'
   have s1 : W3.cell? ⟨sb, 1, none⟩ = _ := cell_of_row W3 sb 1 _ _ _ hb2'
   have t0 : W3.cell? ⟨db, 0, none⟩ = _ := cell_of_row W3 db 0 _ _ _ hb3
   have t1 : W3.cell? ⟨db, 1, none⟩ = _ := cell_of_row W3 db 1 _ _ _ hb3
   have hown3 := HKK.out.own.ext hEX
   have hvlt : ∀ b, vP.ownBlock = some b -> w.heap.size + 2 <= b /\ b < wr.heap.size := fun b hb => HKK.out.own.lt hb
   have n1 : ¬ vP.ownBlock = some (w.heap.size + 1) := HKK.out.off
   have n2 : ¬ vP.ownBlock = some g := fun e => absurd (hvlt _ e).1 (by have := (HL.out.lt g HL.out.inX.1).2; omega)
   have n3 : ¬ vP.ownBlock = some sb := fun e => absurd (hvlt _ e).2 (by rw [HSB.out]; omega)
   have n4 : ¬ vP.ownBlock = some db := fun e => absurd (hvlt _ e).2 (by have := HE2.out.size; omega)
   have n5 : ¬ vP.ownBlock = some ub := fun e => by
    obtain ⟨ub', uo', hA', hun'⟩ := unit_name HL.out (u := pu) HPUU.out
    rw [hA] at hA'
    cases hA'
    have := World.block_lt_of_cell? w _ hun'
    have h9 := (hvlt _ e).1
    exact absurd this (by show ¬ ub < w.heap.size; omega)
   obtain ⟨Φ, hΦ⟩ : ∃ Φ : World -> Prop, ∀ W, Φ W ↔ Tch (fun i => vP.ownBlock = some i) W3 W := ⟨_, fun _ => Iff.rfl⟩
   have h0 : Φ W3.drew := (hΦ _).2 (((Ext.refl W3).drew).tch _)
   have fx0 : ∀ z : Lat Φ, z.w'.cell? ⟨w.heap.size + 1, 3, none⟩ = _ := fun z => ((hΦ _).1 z.h).keepc y3 n1
   have fx1 : ∀ z : Lat Φ, z.w'.cell? ⟨g, 0, none⟩ = _ := fun z => ((hΦ _).1 z.h).keepc a0 n2
   have fx2 : ∀ z : Lat Φ, z.w'.cell? ⟨ub, uo + pu * 3, none⟩ = _ := fun z => ((hΦ _).1 z.h).keepc an n5
   have fx3 : ∀ z : Lat Φ, z.w'.cell? ⟨sb, 0, none⟩ = _ := fun z => ((hΦ _).1 z.h).keepc s0 n3
   have fx4 : ∀ z : Lat Φ, z.w'.cell? ⟨sb, 1, none⟩ = _ := fun z => ((hΦ _).1 z.h).keepc s1 n3
   have fx5 : ∀ z : Lat Φ, z.w'.cell? ⟨db, 0, none⟩ = _ := fun z => ((hΦ _).1 z.h).keepc t0 n4
   have fx6 : ∀ z : Lat Φ, z.w'.cell? ⟨db, 1, none⟩ = _ := fun z => ((hΦ _).1 z.h).keepc t1 n4
   have hne := Lat.some h0
   go_upto_region 8 with (fail)
   refine wp_region_tail 23 [20, 21] Φ h0 (by kernel_rfl) (by kernel_rfl) (by kernel_rfl) ?_
   iterate 20 (refine lex_pure rfl rfl rfl ?_; intro K hK; go_big_quiet_op; go_big_quiet_on)
   refine lex_eff rfl ?_
   go_wp2_with fail
   obtain ⟨el, hel⟩ : ∃ el : L.Plc, el = (nm, px, ck, (ua : Int), (cd.size : Int)) := ⟨_, rfl⟩
   obtain ⟨W4, hW4⟩ : ∃ W4, W4 = (W3.alloc (.cells #[.string nm, .string px, .int .i64 ck, .int .i64 (ua : Int), .int .i64 (cd.size : Int)] 49)).drew := ⟨_, rfl⟩
   have E4 : Ext W3 W4 := by rw [hW4]; exact ((Ext.refl W3).alloc _).drew
   have hs4 : ∀ j v, (plcC el)[j]? = some v -> W4.cell? ⟨W3.heap.size, j, none⟩ = some v := by rw [hW4, hel]; exact new_cells W3 (plcC (nm, px, ck, (ua : Int), (cd.size : Int))) 49 _ rfl
   rw [<- hW4]
   have hP4 : Φ W4 := (hΦ _).2 (E4.tch _)
   have hown4 := hown3.ext E4
   have hbase4 : w.heap.size + 2 <= W4.heap.size := Nat.le_trans (hltA HKK.out.blk) (Nat.le_trans hEX.size E4.size)
   have HEL := Lib.hid hel
   obtain ⟨i9, hi9, hz9, hz91, hz92⟩ := info_parts info49
   clear hW4 hel
   refine ⟨⟨⟨W4, hP4⟩, rfl⟩, ?_⟩
   refine lex_eff rfl ?_
   go_wp2_with (at_builtin; refine wpList_append_one rfl (.tmp 36) (.tmp 55) 29 rfl Tryz.underlying29 hi9 hz9 hz91 hz92 rfl (by decide) (by decide) rfl hown4 el rfl rfl hs4 (plcC_one el) (by omega) hbase4 ?_; intro v5 w5 hown5 hg5 hv5)
   obtain ⟨A5, c5, rfl⟩ := hown5.form
   have hg5' : W4.grownBy w5 vP.ownBlock := hg5
   have hv5' : (Value.slice A5 (i0 + 1) c5).ownBlock = vP.ownBlock ∨ ∃ b, (Value.slice A5 (i0 + 1) c5).ownBlock = some b /\ W4.heap.size <= b /\ b < w5.heap.size := hv5
   have hT5 : Tch (fun i => vP.ownBlock = some i) W3 w5 := (E4.tch _).trans ⟨hg5'.os, hg5'.tape, hg5'.output, hg5'.size, fun i hi hx => hg5'.block i hi fun e => hx e.symm⟩
   refine ⟨⟨⟨w5, (hΦ _).2 hT5⟩, rfl⟩, ?_⟩
   refine lex_pure rfl rfl rfl ?_; intro K hK; go_big_quiet_op; go_big_quiet_on
   refine lex_nil ?_
   show wpList _ _ _ (_ :: []) _ _
   have hbT := (hEX.block _ (hltA HKK.out.blk)).trans HKK.out.blk
   have hbT5 := (hT5.block _ (hltA hbT) n1).trans hbT
   have z3 : w5.cell? ⟨w.heap.size + 1, 3, none⟩ = _ := cell_of_row w5 _ 3 _ _ _ hbT5
   have zf : w5.frozen? ⟨w.heap.size + 1, 3, none⟩ = false := Lib.frozen_of_heap hbT5 3
   have z1 : w5.cell? ⟨db, 1, none⟩ = _ := hT5.keepc t1 n4
   have htbl : w.heap.size + 1 < wr.heap.size := (hltA HKK.out.blk)
   obtain ⟨W6, hW6⟩ : ∃ W6, W6 = w5.setCell ⟨w.heap.size + 1, 3, none⟩ (.slice A5 (i0 + 1) c5) := ⟨_, rfl⟩
   have hT6 : Tch (fun i => i = w.heap.size + 1) w5 W6 := by rw [hW6]; exact grown_tch (grownBy_setCell w5 ⟨w.heap.size + 1, 3, none⟩ _)
   have hb6 : W6.heap[w.heap.size + 1]? = some (.cells (binCells ⟨#[]⟩ (.slice A5 (i0 + 1) c5) (.slice none 0 0) (.slice none 0 0)) 35 (0, 0)) := by rw [hW6]; exact heap_setCell_cells hbT5 3 _
   have hoff6 : (Value.slice A5 (i0 + 1) c5).ownBlock ≠ some (w.heap.size + 1) := fun e => by
    rcases hv5' with h | ⟨b, h1, h2, _⟩
    ·exact n1 (h.symm.trans e)
    ·rw [h1] at e
     cases e
     have := E4.size
     have := hEX.size
     omega
   have hown6 : OwnL plcC 49 5 W6 (w.heap.size + 2) (.slice A5 (i0 + 1) c5) (i0 + 1) ((E.places st.1).take (i0 + 1)) := by
    rw [HPT.out, <- HUA.out, <- HEL.out]
    exact hown5.tch hT6 fun b hb e => hoff6 (by rw [hb, e])
   have hEw : Ext w W6 := by
    have h1 : Tch (fun _ => False) w W3 := (HKK.out.ext.trans hEX).tch _
    have h2 : Tch (fun _ => False) w w5 := h1.trans' hT5 fun i hi e => absurd hi (by have := (hvlt i e).1; omega)
    exact (h2.trans' hT6 fun i hi e => absurd hi (by omega)).ext fun _ _ h => h
   have hres6 : W6.heap[w.heap.size]? = some (.cells (binCells ⟨#[]⟩ (.slice none 0 0) (.slice none 0 0) (.slice none 0 0)) 35 (0, 0)) := by
    have l1 := (hEX.block _ (hltA HKK.out.res)).trans HKK.out.res
    have l2 := (hT5.block _ (hltA l1) (fun e => by have := (hvlt _ e).1; omega)).trans l1
    exact (hT6.block _ (hltA l2) (by omega)).trans l2
   have HP6 : Hid (PlcAt w (w.heap.size + 1) E st.1 (i0 + 1) (.slice A5 (i0 + 1) c5) W6) := ⟨hEw, hb6, hown6, hoff6, hres6⟩
   have hcd : cd.size <= 8192 := hcs
   have z1' : W6.cell? ⟨db, 1, none⟩ = _ := hT6.keepc z1 (show ¬ db = w.heap.size + 1 by have := HE2.out.size; omega)
   clear fx0 fx1 fx2 fx3 fx4 fx5 fx6 hne h0 hT6 hb6 hres6 hown6 hEw hbT hbT5 hown5 hg5 hg5' hv5 hv5' hT5 hP4 hs4 hown4 E4 E3 E2 hEX hb3 hb2' y3 g3 a0 an s0 s1 t0 t1 hown3 hvlt n1 n2 n3 n4 n5 hoff6
   go_upto_region 9 with (fail)
   rw [<- hW6]
   clear hW6 z3 zf z1
   go_wp2_with fail
   go_roundw
   case rel => exact ⟨i0 + 1, _, by go_num, by omega, by rw [HFS.out, <- HUA.out]; simp, HP6⟩
   case measure => simp [intOf]; omega
  ·obtain rfl : i0 = n := by omega
   have hin : i0 = st.1.length := HN.out
   have hsl : (E.sizes st.1).length = st.1.length := by unfold L.Env.sizes; simp
   have htk : (E.sizes st.1).take i0 = E.sizes st.1 := List.take_of_length_le (by omega)
   rw [htk]
   have hpt : (E.places st.1).take i0 = E.places st.1 := List.take_of_length_le (by rw [places_len]; omega)
   have hfb := fin_bound (E.sizes st.1) 0 (sizes_small HE.out HOK.out)
   rw [hsl] at hfb
   obtain ⟨NN, hNN⟩ : ∃ NN, NN = L.fin (E.sizes st.1) 0 := ⟨_, rfl⟩
   rw [<- hNN] at hfb ⊢
   have hNb : NN <= 1048960 := by omega
   have HNN := Lib.hid hNN
   have hown := HK.out.own
   rw [hpt] at hown
   have HOWN := Lib.hid hown
   have HEXT := Lib.hid HK.out.ext
   have HBLK := Lib.hid HK.out.blk
   have HOFF := Lib.hid HK.out.off
   have HRES := Lib.hid HK.out.res
   have c6 := (HL.out.ext HK.out.ext).row.c6
   rw [HVL.out] at c6
   have hdn : decide (i0 < i0) = false := decide_eq_false (Nat.lt_irrefl i0)
   clear hin hsl htk hpt hfb hNN hown HK
   by_cases hbig : 65536 < NN
   ·have hbd : decide (65536 < NN) = true := decide_eq_true hbig
    have r : ∀ i, wr.cell? ⟨w.heap.size, i, none⟩ = (binCells ⟨#[]⟩ (.slice none 0 0) (.slice none 0 0) (.slice none 0 0))[i]? := fun i => cell_of_row wr _ i _ _ _ HRES.out
    have r0 : wr.cell? ⟨w.heap.size, 0, none⟩ = some (.int .i64 0) := r 0
    have r1 : wr.cell? ⟨w.heap.size, 1, none⟩ = some (.int .i64 0) := r 1
    have r2 : wr.cell? ⟨w.heap.size, 2, none⟩ = some (.string ⟨#[]⟩) := r 2
    have r3 : wr.cell? ⟨w.heap.size, 3, none⟩ = some (.slice none 0 0) := r 3
    have r4 : wr.cell? ⟨w.heap.size, 4, none⟩ = some (.slice none 0 0) := r 4
    have r5 : wr.cell? ⟨w.heap.size, 5, none⟩ = some (.slice none 0 0) := r 5
    have r6 : wr.cell? ⟨w.heap.size, 6, none⟩ = some (.slice none 0 0) := r 6
    have r7 : wr.cell? ⟨w.heap.size, 7, none⟩ = some (.slice none 0 0) := r 7
    have f := fun i => Lib.frozen_of_heap HRES.out i
    have f0 := f 0
    have f1 := f 1
    have f2 := f 2
    have f3 := f 3
    have f4 := f 4
    have f5 := f 5
    have f6 := f 6
    have f7 := f 7
    clear r f
    go_wp2_with fail
    have hz : ∀ (a : World) (i : Nat) (v : Value), Ext w a -> Ext w (a.setCell ⟨w.heap.size, i, none⟩ v) := fun a i v h => h.setCell (p := ⟨w.heap.size, i, none⟩) (Nat.le_refl _) v
    refine bodyPost_ret (v := .tuple #[.agg (Array.mk [.int .i64 0, .int .i64 0, .string ⟨#[]⟩, .slice none 0 0, .slice none 0 0, .slice none 0 0, .slice none 0 0, .slice none 0 0]), .int .i64 10]) (by simp [results, Tryz.results85, go_sem, r0, r1, r2, r3, r4, r5, r6, r7]) rfl ⟨hz _ _ _ (hz _ _ _ (hz _ _ _ (hz _ _ _ (hz _ _ _ (hz _ _ _ (hz _ _ _ (hz _ _ _ HEXT.out))))))), _, zeroB, 10, rfl, ?_, rfl, ?_⟩
    ·exact ⟨⟨none, 0, none, 0, none, 0, none, 0, none, 0, rfl, SliceAt.nil _ _ _ _ _ (by omega), SliceAt.nil _ _ _ _ _ (by omega), SliceAt.nil _ _ _ _ _ (by omega), SliceAt.nil _ _ _ _ _ (by omega), SliceAt.nil _ _ _ _ _ (by omega), by decide, by decide, by decide⟩⟩
    ·rw [<- HNN.out, if_pos hbig]
   ·have hbd : decide (65536 < NN) = false := decide_eq_false hbig
    go_wp2_with (at_make; refine wpList_make_full _ rfl _ _ 80 rfl wr.heap.size 5 _ _ 1 rfl rfl rfl rfl .i64 .i64 _ _ NN rfl rfl rfl rfl (by show 1 * NN <= 281474976710656; omega) (by unfold maxLen; omega) (Nat.le_refl _) ?_; intro w2 hown2 hgrow2; have e12 : Ext wr w2 := Below.grown (Ext.refl wr) hgrow2 (Nat.le_refl _) (fun k hk => by cases hk); have c6' := e12.keepc c6)
    rw [byV_zeros] at hown2
    obtain ⟨ib, hib⟩ : ∃ ib, ib = wr.heap.size := ⟨_, rfl⟩
    rw [<- hib] at hown2 ⊢
    obtain ⟨hrow, _⟩ := row_of_made hown2 (by simp) (by omega)
    have htbl := (hltA HBLK.out)
    have hlt : ∀ b, vP.ownBlock = some b -> b < ib := fun b hb => by rw [hib]; exact (HOWN.out.lt hb).2
    have HI0 : Hid (ImgAt w (w.heap.size + 1) ib E st.1 NN 0 0 (fixesTo E st.1 0) (impsTo E st.1 0) (imgTo E st.1 0) vP (.slice none 0 0) (.slice none 0 0) w2) := {
     ext := HEXT.out.trans e12
     blk := (e12.block _ htbl).trans HBLK.out
     plc := by rw [<- HN.out]; exact HOWN.out.ext e12
     fix := OwnL.nil _ _
     imp := OwnL.nil _ _
     row := by
      have : imgTo E st.1 0 = List.replicate NN 0 := by
       unfold imgTo
       rw [List.take_zero, List.take_zero, <- HNN.out]
       simp [L.imgF, L.fin]
      rw [this]
      exact hrow
     low := ⟨by rw [hib]; exact htbl, by rw [hib]; omega⟩
     offT := ⟨HOFF.out, by simp [Value.ownBlock], by simp [Value.ownBlock]⟩
     offI := ⟨fun e => absurd (hlt _ e) (Nat.lt_irrefl _), by simp [Value.ownBlock], by simp [Value.ownBlock]⟩
     apart := fun b hb => by cases hb
     apart2 := fun b hb => by cases hb
     res := (e12.block _ (hltA HRES.out)).trans HRES.out }
    have HPL := Lib.hid HOWN.out
    clear hrow hown2 hgrow2 e12 hlt htbl c6 hib
    go_wp2_with fail
    clear c6'
    go_loopw [74] (fun i wr => ∃ (kk nf ni : Nat) (vF vI : Value), i = .int .i64 (kk : Int) /\ kk <= i0 /\ nf <= kk * 2048 /\ ni <= kk * 2048 /\ Hid (ImgAt w (w.heap.size + 1) ib E st.1 NN nf ni (fixesTo E st.1 kk) (impsTo E st.1 kk) (imgTo E st.1 kk) vP vF vI wr)) (fun i _ => i0 - (intOf i).toNat)
    case atStart => exact ⟨0, 0, 0, _, _, rfl, Nat.zero_le _, by omega, by omega, HI0⟩
    case round =>
     obtain ⟨kk, nf, ni, vF, vI, rfl, hk, hnf, hni, HK⟩ := hrel
     obtain ⟨W0, hW0⟩ : ∃ W0, W0 = wr := ⟨_, rfl⟩
     subst hW0
     by_cases hlt : kk < i0
     ·have hkl : kk < st.1.length := by rw [<- HN.out]; exact hlt
      obtain ⟨c, hc⟩ := Option.isSome_iff_exists.1 (HOK.out.2.2 _ (List.getElem_mem hkl)).2
      have HDATA := Lib.hid (fun W (hW : Ext w W) => data_any W S X base g E st _ k (HL.out.ext hW) HE.out hkl HOK.out.1 hc)
      have hpll : kk < (E.places st.1).length := by rw [places_len]; exact hkl
      obtain ⟨pb, po, pc, hvp, _, _, _, hpc⟩ := HK.out.plc.cell (fun a _ => rfl) hpll
      have hp3 := hpc 3 _ rfl
      rw [places_get hkl hpll] at hp3
      rw [<- HN.out] at hvp
      obtain ⟨at0, hat⟩ : ∃ at0, at0 = L.up (L.fin ((E.sizes st.1).take kk) 0) := ⟨_, rfl⟩
      have hp3' : W0.cell? ⟨pb, po + kk * 5 + 3, none⟩ = some (.int .i64 (at0 : Int)) := by rw [hat]; exact hp3
      have HAT := Lib.hid hat
      have HVP := Lib.hid hvp
      have HCC := Lib.hid hc
      obtain ⟨ck, cd, cr⟩ := c
      obtain ⟨rn, hrn⟩ : ∃ rn, rn = cr.length := ⟨_, rfl⟩
      have HRN := Lib.hid hrn
      have y3 : W0.cell? ⟨w.heap.size + 1, 3, none⟩ = some vP := cell_of_row W0 _ 3 _ _ _ HK.out.blk
      rw [hvp] at y3
      have HKK := Lib.hid HK.out
      clear hpc hp3 hat hvp hrn hc HK hpll
      go_upto_region 17 with (fail)
      go_cut [12, 13, 74] from 74 to 167 (fun p12 p13 p74 wy => ∃ (db : Nat) (RA : Option Addr) (rc : Nat), p74 = .int .i64 (kk : Int) /\ p13 = .int .i64 (at0 : Int) /\ p12 = .pointer (some ⟨db, 0, none⟩) /\ Hid (wy.heap[db]? = some (.cells #[.int .i64 ck, .string cd, .slice RA rn rc] 67 (0, 0)) /\ W0.heap.size <= db /\ SliceAt relR wy S RA rc cr /\ Ext W0 wy))
      case first =>
       have fx0 : ∀ z : Lat (Ext W0), z.w'.cell? ⟨w.heap.size + 1, 3, none⟩ = _ := fun z => z.h.keepc y3
       have fx1 : ∀ z : Lat (Ext W0), z.w'.cell? ⟨pb, po + kk * 5 + 3, none⟩ = _ := fun z => z.h.keepc hp3'
       have hne := Lat.some (Φ := Ext W0) ((Ext.refl W0).drew)
       refine wp_region_tree (FT.path [0,1,3,4,5,6,7,8] (.fork (FT.path [2,9,10,11] .leaf) (FT.path [9,2,10,11] .leaf))) [2, 9, 10] (Ext W0) ((Ext.refl W0).drew) (by kernel_rfl) (by kernel_rfl) ?_
       iterate 8 (refine ftl_pure rfl rfl rfl rfl ?_; intro K hK; go_big_quiet_op; go_big_quiet_on)
       refine ft_fork ?_ ?_
       ·refine ftl_eff rfl rfl ?_
        go_wp2_with fail
        refine (HDATA.out _ (HKK.out.ext.trans (Ext.refl W0).drew)).mono ?_
        rintro e w3 ⟨d3, RA, rc, hRA, rfl⟩
        simp only
        rw [<- HRN.out]
        have E3 : Ext W0 w3 := (Ext.refl W0).drew.trans d3
        have hR3 : SliceAt relR w3 S RA rc cr := hRA.tch (d3.tch fun _ => False) fun b hb => ⟨Nat.lt_of_lt_of_le (HL.out.out b hb).1 HKK.out.ext.size, fun h => h⟩
        clear hRA d3
        go_wp2_with fail
        refine ⟨⟨⟨w3, E3⟩, rfl⟩, ?_⟩
        refine ftl_eff rfl rfl ?_
        go_wp2_with fail
        obtain ⟨W4, hW4⟩ : ∃ W4, W4 = w3.alloc (.cells #[.int .i64 0, .string ⟨#[]⟩, .slice none 0 0] 67) := ⟨_, rfl⟩
        obtain ⟨db, hdbe⟩ : ∃ db, db = w3.heap.size := ⟨_, rfl⟩
        have E4 : Ext W0 W4 := by rw [hW4]; exact E3.alloc _
        have hb4 : W4.heap[db]? = some (.cells #[.int .i64 0, .string ⟨#[]⟩, .slice none 0 0] 67 (0, 0)) := by rw [hW4, hdbe]; exact heap_alloc_new w3 _
        have hdb : W0.heap.size <= db := by rw [hdbe]; exact E3.size
        have hR4 : SliceAt relR W4 S RA rc cr := by rw [hW4]; exact hR3.tch (((Ext.refl w3).alloc _).tch fun _ => False) fun b hb => ⟨Nat.lt_of_lt_of_le (HL.out.out b hb).1 (Nat.le_trans HKK.out.ext.size E3.size), fun h => h⟩
        rw [<- hW4, <- hdbe]
        clear hW4 hdbe E3 hR3
        refine ⟨⟨⟨W4, E4⟩, rfl⟩, ?_⟩
        have s0 : W4.cell? ⟨db, 0, none⟩ = _ := cell_of_row W4 db 0 _ _ _ hb4
        have s1 : W4.cell? ⟨db, 1, none⟩ = _ := cell_of_row W4 db 1 _ _ _ hb4
        have s2 : W4.cell? ⟨db, 2, none⟩ = _ := cell_of_row W4 db 2 _ _ _ hb4
        have t0 := Lib.frozen_of_heap hb4 0
        have t1 := Lib.frozen_of_heap hb4 1
        have t2 := Lib.frozen_of_heap hb4 2
        refine ftl_eff rfl rfl ?_
        go_wp2_with fail
        obtain ⟨W5, hW5⟩ : ∃ W5, W5 = ((W4.setCell ⟨db, 0, none⟩ (.int .i64 ck)).setCell ⟨db, 1, none⟩ (.string cd)).setCell ⟨db, 2, none⟩ (.slice RA rn rc) := ⟨_, rfl⟩
        have E5 : Ext W0 W5 := by rw [hW5]; exact ((E4.setCell (p := ⟨db, 0, none⟩) hdb _).setCell (p := ⟨db, 1, none⟩) hdb _).setCell (p := ⟨db, 2, none⟩) hdb _
        have hT5 : Tch (fun i => i = db) W4 W5 := by rw [hW5]; exact ((((Ext.refl W4).tch (fun i => i = db)).setCell (p := ⟨db, 0, none⟩) (fun _ => rfl) _).setCell (p := ⟨db, 1, none⟩) (fun _ => rfl) _).setCell (p := ⟨db, 2, none⟩) (fun _ => rfl) _
        have hb5 : W5.heap[db]? = some (.cells #[.int .i64 ck, .string cd, .slice RA rn rc] 67 (0, 0)) := by rw [hW5]; exact heap_setCell_cells (heap_setCell_cells (heap_setCell_cells hb4 0 _) 1 _) 2 _
        have hSW : w.heap.size <= db := Nat.le_trans HKK.out.ext.size hdb
        have hR5 := hR4.tch hT5 fun b hb => ⟨Nat.lt_of_lt_of_le (HL.out.out b hb).1 (Nat.le_trans HKK.out.ext.size E4.size), fun e => absurd (HL.out.out b hb).1 (by rw [e]; omega)⟩
        rw [<- hW5]
        clear hW5 s0 s1 s2 t0 t1 t2 hb4 hT5
        refine ⟨⟨⟨W5, E5⟩, rfl⟩, ?_⟩
        refine ftl_pure rfl rfl rfl rfl ?_; intro K hK; go_big_quiet_op; go_big_quiet_on
        refine ft_leaf ?_
        clear fx0 fx1 hne
        go_wp2_with fail
        go_meet
        exact ⟨db, RA, rc, rfl, rfl, rfl, hb5, hdb, hR5, E5⟩
       ·refine ftl_eff rfl rfl ?_
        go_wp2_with fail
        obtain ⟨W3, hW3⟩ : ∃ W3, W3 = (W0.alloc (.cells #[.int .i64 0, .string ⟨#[]⟩, .slice none 0 0] 67)).drew := ⟨_, rfl⟩
        obtain ⟨db, hdbe⟩ : ∃ db, db = W0.heap.size := ⟨_, rfl⟩
        have E3 : Ext W0 W3 := by rw [hW3]; exact ((Ext.refl W0).alloc _).drew
        have hb3 : W3.heap[db]? = some (.cells #[.int .i64 0, .string ⟨#[]⟩, .slice none 0 0] 67 (0, 0)) := by rw [hW3, hdbe]; exact heap_alloc_new W0 _
        have hdb : W0.heap.size <= db := by rw [hdbe]; exact Nat.le_refl _
        rw [<- hW3, <- hdbe]
        clear hW3 hdbe
        refine ⟨⟨⟨W3, E3⟩, rfl⟩, ?_⟩
        refine ftl_eff rfl rfl ?_
        go_wp2_with fail
        refine (HDATA.out _ (HKK.out.ext.trans E3)).mono ?_
        rintro e W4 ⟨d4, RA, rc, hRA, rfl⟩
        simp only
        rw [<- HRN.out]
        have E4 : Ext W0 W4 := E3.trans d4
        have hR4 : SliceAt relR W4 S RA rc cr := hRA.tch (d4.tch fun _ => False) fun b hb => ⟨Nat.lt_of_lt_of_le (HL.out.out b hb).1 (Nat.le_trans HKK.out.ext.size E3.size), fun h => h⟩
        have hb4 := (d4.block _ (hltA hb3)).trans hb3
        clear hRA d4 hb3 E3
        go_wp2_with fail
        refine ⟨⟨⟨W4, E4⟩, rfl⟩, ?_⟩
        have s0 : W4.cell? ⟨db, 0, none⟩ = _ := cell_of_row W4 db 0 _ _ _ hb4
        have s1 : W4.cell? ⟨db, 1, none⟩ = _ := cell_of_row W4 db 1 _ _ _ hb4
        have s2 : W4.cell? ⟨db, 2, none⟩ = _ := cell_of_row W4 db 2 _ _ _ hb4
        have t0 := Lib.frozen_of_heap hb4 0
        have t1 := Lib.frozen_of_heap hb4 1
        have t2 := Lib.frozen_of_heap hb4 2
        refine ftl_eff rfl rfl ?_
        go_wp2_with fail
        obtain ⟨W5, hW5⟩ : ∃ W5, W5 = ((W4.setCell ⟨db, 0, none⟩ (.int .i64 ck)).setCell ⟨db, 1, none⟩ (.string cd)).setCell ⟨db, 2, none⟩ (.slice RA rn rc) := ⟨_, rfl⟩
        have E5 : Ext W0 W5 := by rw [hW5]; exact ((E4.setCell (p := ⟨db, 0, none⟩) hdb _).setCell (p := ⟨db, 1, none⟩) hdb _).setCell (p := ⟨db, 2, none⟩) hdb _
        have hT5 : Tch (fun i => i = db) W4 W5 := by rw [hW5]; exact ((((Ext.refl W4).tch (fun i => i = db)).setCell (p := ⟨db, 0, none⟩) (fun _ => rfl) _).setCell (p := ⟨db, 1, none⟩) (fun _ => rfl) _).setCell (p := ⟨db, 2, none⟩) (fun _ => rfl) _
        have hb5 : W5.heap[db]? = some (.cells #[.int .i64 ck, .string cd, .slice RA rn rc] 67 (0, 0)) := by rw [hW5]; exact heap_setCell_cells (heap_setCell_cells (heap_setCell_cells hb4 0 _) 1 _) 2 _
        have hSW : w.heap.size <= db := Nat.le_trans HKK.out.ext.size hdb
        have hR5 := hR4.tch hT5 fun b hb => ⟨Nat.lt_of_lt_of_le (HL.out.out b hb).1 (Nat.le_trans HKK.out.ext.size E4.size), fun e => absurd (HL.out.out b hb).1 (by rw [e]; omega)⟩
        rw [<- hW5]
        clear hW5 s0 s1 s2 t0 t1 t2 hb4 hT5
        refine ⟨⟨⟨W5, E5⟩, rfl⟩, ?_⟩
        refine ftl_pure rfl rfl rfl rfl ?_; intro K hK; go_big_quiet_op; go_big_quiet_on
        refine ft_leaf ?_
        clear fx0 fx1 hne
        go_wp2_with fail
        go_meet
        exact ⟨db, RA, rc, rfl, rfl, rfl, hb5, hdb, hR5, E5⟩
      case rest =>
       obtain ⟨db, RA, rc, rfl, rfl, rfl, HC⟩ := hcut
       obtain ⟨hdbk, hdbl, hRA, hE0⟩ := HC.out
       have hKc := HKK.out.ext' hE0
       have z1 : wc.cell? ⟨db, 1, none⟩ = _ := cell_of_row wc db 1 _ _ _ hdbk
       have z2 : wc.cell? ⟨db, 2, none⟩ = _ := cell_of_row wc db 2 _ _ _ hdbk
       have hcsz : cd.size <= 8192 := (rels_few HE.out HCC.out).2
       have hfit := up_fit (E := E) hkl
       rw [L.sec_is HCC.out, <- HAT.out, <- HNN.out] at hfit
       have hlen := imgTo_len HE.out HOK.out kk
       rw [<- HNN.out] at hlen
       have hcp : (Builtin.copy_ #[80, 9] 3 #[.slice (some ⟨ib, if NN = at0 then 0 else at0, none⟩) (NN - at0) (NN - at0), .string cd]).run Tryz.prog wc.drew = .ok (goInt cd.size) (wc.drew.setCells ib at0 (cd.data.toList.map fun x => Value.int .u8 (x.toNat : Int))) := by
        by_cases hz : NN = at0
        ·have hc0 : cd.size = 0 := by simp only at hfit; omega
         have hd0 : cd.data.toList = [] := List.eq_nil_of_length_eq_zero (by simpa using hc0)
         have h1 := run_copy_string (P := Tryz.prog) wc.drew 80 9 3 5 ib 0 (NN - at0) (NN - at0) cd Tryz.underlying80 Tryz.sizeOf5 (by omega) (fun j hj => by omega) (fun j hj => by omega)
         rw [if_pos hz, h1, hd0]
         rfl
        ·rw [if_neg hz]
         exact run_copy_string (P := Tryz.prog) wc.drew 80 9 3 5 ib at0 (NN - at0) (NN - at0) cd Tryz.underlying80 Tryz.sizeOf5 (by have := hfit; simp only at this; omega) (fun j hj => hKc.row.isSome (by have := hfit; simp only at this; omega)) (fun j hj => hKc.row.frozen (by have := hfit; simp only at this; omega))
       have fx0 : ∀ z : Lat (Ext wc), z.w'.cell? ⟨db, 1, none⟩ = _ := fun z => z.h.keepc z1
       have hne := Lat.some (Φ := Ext wc) ((Ext.refl wc).drew)
       have hatn : at0 <= NN := by omega
       go_upto_region 18 with (fail)
       have hS0 : SliceAt relR w S RA rc cr := hRA.keep (fun _ h => h) fun b hb => ((HKK.out.ext.trans hE0).block b (HL.out.out b hb).1).symm
       have HS0 := Lib.hid hS0
       clear hS0
       go_cut [12, 13, 74] from 74 to 167 (fun p12 p13 p74 wy => p74 = .int .i64 (kk : Int) /\ p13 = .int .i64 (at0 : Int) /\ p12 = .pointer (some ⟨db, 0, none⟩) /\ Hid (ImgAt w (w.heap.size + 1) ib E st.1 NN nf ni (fixesTo E st.1 kk ++ L.fixF E st.1[kk].1 at0 (cr.take 0)) (impsTo E st.1 kk ++ L.impF E st.1[kk].1 at0 (cr.take 0)) (imgX E st.1 kk ++ (L.patch E st.1 st.1[kk].1 (cr.take 0) cd.data.toList ++ List.replicate (NN - L.fin ((E.sizes st.1).take (kk + 1)) 0) 0)) vP vF vI wy /\ wy.cell? ⟨db, 2, none⟩ = some (.slice RA rn rc)))
       case first =>
        by_cases hz : NN = at0
        ·rw [if_pos hz] at hcp
         subst hz
         refine wp_region_tail 5 [] (Ext wc) ((Ext.refl wc).drew) (by kernel_rfl) (by kernel_rfl) (by kernel_rfl) ?_
         iterate 5 (refine lex_pure rfl rfl rfl ?_; intro K hK; go_big_quiet_op; go_big_quiet_on)
         refine lex_nil ?_
         show wpList _ _ _ (_ :: []) _ _
         clear fx0 hne
         refine wpList_copy_at _ rfl (.tmp 88) (.tmp 90) 80 9 rfl (.slice (some ⟨ib, 0, none⟩) (NN - NN) (NN - NN)) (.string cd) (by simp [go_sem]) rfl hcp ?_
         have hdat : (E.data st.1[kk]).map (fun x => Value.int .u8 (x.toNat : Int)) = cd.data.toList.map fun x => Value.int .u8 (x.toNat : Int) := by unfold L.Env.data; rw [L.sec_is HCC.out]
         obtain ⟨W6, hW6⟩ : ∃ W6, W6 = wc.drew.setCells ib NN (cd.data.toList.map fun x => Value.int .u8 (x.toNat : Int)) := ⟨_, rfl⟩
         have hT6 : Tch (fun i => i = ib) wc.drew W6 := by rw [hW6]; exact grown_tch (grownBy_setCells ib _ NN wc.drew)
         have hrow6 : ByRow W6 ib 5 NN (imgX E st.1 kk ++ (L.patch E st.1 st.1[kk].1 (cr.take 0) cd.data.toList ++ List.replicate (NN - L.fin ((E.sizes st.1).take (kk + 1)) 0) 0)) := by
          have h1 := (hKc.ext' (Ext.refl wc).drew).row.cells (d := E.data st.1[kk]) (i := NN) (by rw [hlen]; unfold L.Env.data; rw [L.sec_is HCC.out]; simp; exact hfit)
          have h2 := img_copy HE.out HOK.out hkl
          rw [<- HAT.out] at h2
          rw [h2, <- HNN.out] at h1
          have h3 : E.data st.1[kk] = cd.data.toList := by unfold L.Env.data; rw [L.sec_is HCC.out]
          rw [hW6]
          unfold byV at h1
          rw [h3] at h1
          exact h1
         have hI6 := (hKc.ext' (Ext.refl wc).drew).bytes hT6 hrow6
         rw [<- hW6]
         have z2' : W6.cell? ⟨db, 2, none⟩ = _ := hT6.keepc (show wc.drew.cell? ⟨db, 2, none⟩ = _ from z2) (show ¬ db = ib by have := HKK.out.row.lt; omega)
         have HI6 : Hid (ImgAt w (w.heap.size + 1) ib E st.1 NN nf ni (fixesTo E st.1 kk ++ L.fixF E st.1[kk].1 NN (cr.take 0)) (impsTo E st.1 kk ++ L.impF E st.1[kk].1 NN (cr.take 0)) (imgX E st.1 kk ++ (L.patch E st.1 st.1[kk].1 (cr.take 0) cd.data.toList ++ List.replicate (NN - L.fin ((E.sizes st.1).take (kk + 1)) 0) 0)) vP vF vI W6) := by
          have e1 : L.fixF E st.1[kk].1 NN (cr.take 0) = [] := rfl
          have e2 : L.impF E st.1[kk].1 NN (cr.take 0) = [] := rfl
          rw [e1, e2, List.append_nil, List.append_nil]
          exact hI6
         clear hdat hW6 hT6 hrow6 hI6 hcp
         go_wp2_with fail
         go_meet
         exact ⟨rfl, rfl, rfl, HI6.out, z2'⟩
        ·rw [if_neg hz] at hcp
         have hz' : ¬ at0 = NN := fun e => hz e.symm
         refine wp_region_tail 5 [] (Ext wc) ((Ext.refl wc).drew) (by kernel_rfl) (by kernel_rfl) (by kernel_rfl) ?_
         iterate 5 (refine lex_pure rfl rfl rfl ?_; intro K hK; go_big_quiet_op; go_big_quiet_on)
         refine lex_nil ?_
         show wpList _ _ _ (_ :: []) _ _
         clear fx0 hne
         refine wpList_copy_at _ rfl (.tmp 88) (.tmp 90) 80 9 rfl (.slice (some ⟨ib, at0, none⟩) (NN - at0) (NN - at0)) (.string cd) (by simp [go_sem]) rfl hcp ?_
         have hdat : (E.data st.1[kk]).map (fun x => Value.int .u8 (x.toNat : Int)) = cd.data.toList.map fun x => Value.int .u8 (x.toNat : Int) := by unfold L.Env.data; rw [L.sec_is HCC.out]
         obtain ⟨W6, hW6⟩ : ∃ W6, W6 = wc.drew.setCells ib at0 (cd.data.toList.map fun x => Value.int .u8 (x.toNat : Int)) := ⟨_, rfl⟩
         have hT6 : Tch (fun i => i = ib) wc.drew W6 := by rw [hW6]; exact grown_tch (grownBy_setCells ib _ at0 wc.drew)
         have hrow6 : ByRow W6 ib 5 NN (imgX E st.1 kk ++ (L.patch E st.1 st.1[kk].1 (cr.take 0) cd.data.toList ++ List.replicate (NN - L.fin ((E.sizes st.1).take (kk + 1)) 0) 0)) := by
          have h1 := (hKc.ext' (Ext.refl wc).drew).row.cells (d := E.data st.1[kk]) (i := at0) (by rw [hlen]; unfold L.Env.data; rw [L.sec_is HCC.out]; simp; exact hfit)
          have h2 := img_copy HE.out HOK.out hkl
          rw [<- HAT.out] at h2
          rw [h2, <- HNN.out] at h1
          have h3 : E.data st.1[kk] = cd.data.toList := by unfold L.Env.data; rw [L.sec_is HCC.out]
          rw [hW6]
          unfold byV at h1
          rw [h3] at h1
          exact h1
         have hI6 := (hKc.ext' (Ext.refl wc).drew).bytes hT6 hrow6
         rw [<- hW6]
         have z2' : W6.cell? ⟨db, 2, none⟩ = _ := hT6.keepc (show wc.drew.cell? ⟨db, 2, none⟩ = _ from z2) (show ¬ db = ib by have := HKK.out.row.lt; omega)
         have HI6 : Hid (ImgAt w (w.heap.size + 1) ib E st.1 NN nf ni (fixesTo E st.1 kk ++ L.fixF E st.1[kk].1 at0 (cr.take 0)) (impsTo E st.1 kk ++ L.impF E st.1[kk].1 at0 (cr.take 0)) (imgX E st.1 kk ++ (L.patch E st.1 st.1[kk].1 (cr.take 0) cd.data.toList ++ List.replicate (NN - L.fin ((E.sizes st.1).take (kk + 1)) 0) 0)) vP vF vI W6) := by
          have e1 : L.fixF E st.1[kk].1 at0 (cr.take 0) = [] := rfl
          have e2 : L.impF E st.1[kk].1 at0 (cr.take 0) = [] := rfl
          rw [e1, e2, List.append_nil, List.append_nil]
          exact hI6
         clear hdat hW6 hT6 hrow6 hI6 hcp
         go_wp2_with fail
         go_meet
         exact ⟨rfl, rfl, rfl, HI6.out, z2'⟩
       case rest =>
        obtain ⟨rfl, rfl, rfl, HC2⟩ := hcut
        have z2' := HC2.out.2
        have HI6 := Lib.hid HC2.out.1
        clear HC2 fx0 hne
        have hrn8 : rn <= 2048 := by rw [HRN.out]; exact (rels_few HE.out HCC.out).1
        have HRO := Lib.hid (fun r hr => L.rel_ok HE.out.units (HOK.out.2.2 _ (List.getElem_mem hkl)).2 (r := r) hr)
        have HGR := Lib.hid (fun r hr => HGD.out kk hkl hkl r hr)
        have hrels : E.rels st.1[kk] = cr := by unfold L.Env.rels; rw [L.sec_is HCC.out]
        rw [hrels] at HRO HGR
        have HRELS := Lib.hid hrels
        clear hcp hdbk hRA hE0 hKc z1 z2 hrels HC HI0 y3 hp3'
        go_wp2_with fail
        clear z2'
        obtain ⟨V0, hV0⟩ : ∃ V0, V0 = W0 := ⟨_, rfl⟩
        subst hV0
        go_loopw [95] (fun i wr => ∃ (j mf mi : Nat) (vF' vI' : Value), i = .int .i64 (j : Int) /\ j <= rn /\ mf <= nf + j /\ mi <= ni + j /\ Hid (ImgAt w (w.heap.size + 1) ib E st.1 NN mf mi (fixesTo E st.1 kk ++ L.fixF E st.1[kk].1 at0 (cr.take j)) (impsTo E st.1 kk ++ L.impF E st.1[kk].1 at0 (cr.take j)) (imgX E st.1 kk ++ (L.patch E st.1 st.1[kk].1 (cr.take j) cd.data.toList ++ List.replicate (NN - L.fin ((E.sizes st.1).take (kk + 1)) 0) 0)) vP vF' vI' wr)) (fun i _ => rn - (intOf i).toNat)
        case atStart => exact ⟨0, nf, ni, vF, vI, rfl, Nat.zero_le _, by omega, by omega, HI6⟩
        case round =>
         obtain ⟨j, mf, mi, vF', vI', rfl, hj, hmf, hmi, HJ⟩ := hrel
         obtain ⟨V1, hV1⟩ : ∃ V1, V1 = wr := ⟨_, rfl⟩
         subst hV1
         by_cases hjl : j < rn
         ·have hjc : j < cr.length := by rw [<- HRN.out]; exact hjl
          have hS1 : SliceAt relR V1 S RA rc cr := HS0.out.tch (HJ.out.ext.tch fun _ => False) fun b hb => ⟨(HL.out.out b hb).1, fun h => h⟩
          obtain ⟨qb, qo, rfl, _, _, hrs, z0, z1⟩ := rel_getB hS1 hjc
          have hrm : cr[j] ∈ cr := List.getElem_mem hjc
          have hro := HRO.out cr[j] hrm
          have hgr := HGR.out cr[j] hrm
          have hmlen : (meansTo E st.1 st.1.length).length = st.1.length := by unfold meansTo; rw [List.length_map, List.length_take, Nat.min_self]
          have hmk : (meansTo E st.1 st.1.length)[kk]'(by rw [hmlen]; exact hkl) = relMeans E st.1 st.1[kk].1 cr := by
           unfold meansTo
           rw [List.getElem_map, List.getElem_take, HRELS.out]
          have hml2 : (relMeans E st.1 st.1[kk].1 cr).length = cr.length := by unfold relMeans; rw [List.length_map]
          have hmj : (relMeans E st.1 st.1[kk].1 cr)[j]'(by rw [hml2]; exact hjc) = meanI E st.1 st.1[kk].1 cr[j].2 := by unfold relMeans; rw [List.getElem_map]
          obtain ⟨mb, mo, mc, nb, no, nc, hvm, w0, w1, w2⟩ := (HL.out.ext HJ.out.ext).meant (i := kk) (by rw [hmlen]; exact hkl) (j := j) (by rw [hmk, hml2]; exact hjc)
          simp only [hmk, hmj, hml2] at w0 w1 w2
          rw [hmlen, <- HN.out] at hvm
          rw [<- HRN.out] at w0
          have c8 := (HL.out.ext HJ.out.ext).row.c8
          rw [hvm] at c8
          have htk1 : cr.take (j + 1) = cr.take j ++ [cr[j]] := List.take_succ_eq_append_getElem hjc
          obtain ⟨rx, hrx⟩ : ∃ rx, rx = cr[j].2 := ⟨_, rfl⟩
          obtain ⟨ra, hra⟩ : ∃ ra : Nat, (ra : Int) = cr[j].1 := ⟨cr[j].1.toNat, by omega⟩
          rw [<- hrx] at z1 w1 w2
          rw [<- hra] at z0 hro
          rw [<- hrx] at hgr
          have hraz : (E.data st.1[kk]).length = cd.size := by unfold L.Env.data; rw [L.sec_is HCC.out]; simp
          rw [hraz] at hro
          have hra1 : ra + 4 <= cd.size := by have := hro.2.2; omega
          have HTK := Lib.hid htk1
          have HRX := Lib.hid hrx
          have HRA := Lib.hid hra
          have HJJ := Lib.hid HJ.out
          have hatN : at0 + cd.size <= NN := hfit
          clear hS1 hrs hrm hro hmlen hmk hml2 hmj hvm htk1 hrx hra hraz HJ HI6
          rcases hgr with ⟨q, haq, hqm⟩ | ⟨jj, haq, hjj⟩
          ·have hme : meanI E st.1 st.1[kk].1 rx = ((L.pos st.1 q : Int), -1) := by unfold meanI; rw [haq]
           rw [hme] at w1 w2
           obtain ⟨hpl, hpq0⟩ := L.pos_lt hqm
           have e1 := fixF_spot (E := E) (u := st.1[kk].1) (a := at0) (l := cr.take j) (r := cr[j]) (by rw [<- HRX.out]; exact haq)
           have e2 := impF_spot (E := E) (u := st.1[kk].1) (a := at0) (l := cr.take j) (r := cr[j]) (by rw [<- HRX.out]; exact haq)
           have e3 := L.patch_snoc E st.1 st.1[kk].1 cr[j] (cr.take j) cd.data.toList
           rw [<- HRX.out, haq] at e3
           replace e3 : L.patch E st.1 st.1[kk].1 (cr.take j ++ [cr[j]]) cd.data.toList = L.putAt (L.patch E st.1 st.1[kk].1 (cr.take j) cd.data.toList) cr[j].1.toNat (L.word (E.at st.1 q)) := e3
           rw [<- HTK.out] at e1 e2 e3
           rw [<- HRA.out] at e1 e3
           rw [Int.toNat_natCast] at e3
           obtain ⟨pb', po', pc', hvp', _, _, _, hpc'⟩ := HJJ.out.plc.cell (fun a _ => rfl) (show L.pos st.1 q < (E.places st.1).length by rw [places_len]; exact hpl)
           rw [<- HN.out, HVP.out] at hvp'
           cases hvp'
           have p3 := hpc' 3 _ rfl
           rw [places_get hpl (by rw [places_len]; exact hpl)] at p3
           have hva : E.at st.1 q = L.up (L.fin ((E.sizes st.1).take (L.pos st.1 q)) 0) := by
            unfold L.Env.at
            rw [List.getD, at_get hpl]
            rfl
           obtain ⟨va, hvae⟩ : ∃ va, va = E.at st.1 q := ⟨_, rfl⟩
           replace p3 : V1.cell? ⟨pb, po + L.pos st.1 q * 5 + 3, none⟩ = some (.int .i64 (va : Int)) := by rw [hvae, hva]; exact p3
           have hvas : va <= 2000000 := by
            have h1 := up_fit (E := E) hpl
            rw [<- hva, <- hvae, <- HNN.out] at h1
            omega
           rw [<- hvae] at e3
           obtain ⟨pq, hpqe⟩ : ∃ pq, pq = L.pos st.1 q := ⟨_, rfl⟩
           rw [<- hpqe] at p3 w1 hpl
           rw [<- HN.out] at hpl
           have hpb : pb < w.heap.size + 2 + V1.heap.size := by have := World.block_lt_of_cell? V1 _ p3; exact Nat.lt_of_lt_of_le this (Nat.le_add_left _ _)
           have HE1 := Lib.hid e1
           have HE2 := Lib.hid e2
           have HE3 := Lib.hid e3
           clear e1 e2 e3 hme hpq0 hpc' hva hvae hpqe hpb
           obtain ⟨W2, hW2⟩ : ∃ W2, W2 = V1.alloc (.cells #[.int .i64 (ra : Int), .string rx] 151) := ⟨_, rfl⟩
           obtain ⟨rb, hrb⟩ : ∃ rb, rb = V1.heap.size := ⟨_, rfl⟩
           have X2 : Ext V1 W2 := by rw [hW2]; exact (Ext.refl V1).alloc _
           have hb2 : W2.heap[rb]? = some (.cells #[.int .i64 (ra : Int), .string rx] 151 (0, 0)) := by rw [hW2, hrb]; exact heap_alloc_new V1 _
           have HRB := Lib.hid hrb
           clear hrb
           have c8' := X2.keepc c8
           have w0' := X2.keepc w0
           have w1' := X2.keepc w1
           have w2' := X2.keepc w2
           go_upto_region 22 with (fail)
           rw [<- hW2, <- HRB.out]
           clear hW2 c8 w0 w1 w2 z0 z1
           obtain ⟨W3, hW3⟩ : ∃ W3, W3 = W2.alloc (.cells #[.int .i64 (pq : Int), .int .i64 (-1)] 195) := ⟨_, rfl⟩
           obtain ⟨eb, heb⟩ : ∃ eb, eb = W2.heap.size := ⟨_, rfl⟩
           have X3 : Ext V1 W3 := by rw [hW3]; exact X2.alloc _
           have hb3 : W3.heap[eb]? = some (.cells #[.int .i64 (pq : Int), .int .i64 (-1)] 195 (0, 0)) := by rw [hW3, heb]; exact heap_alloc_new W2 _
           have hb2' : W3.heap[rb]? = some (.cells #[.int .i64 (ra : Int), .string rx] 151 (0, 0)) := by rw [hW3]; exact (((Ext.refl W2).alloc _).block _ (hltA hb2)).trans hb2
           have HEB := Lib.hid (show eb = W2.heap.size from heb)
           have hebl : V1.heap.size <= eb := by rw [heb]; exact X2.size
           clear heb
           go_upto_region 23 with (fail)
           rw [<- hW3, <- HEB.out]
           clear hW3 c8' w0' w1' w2' hb2
           have a0 : W3.cell? ⟨rb, 0, none⟩ = _ := cell_of_row W3 rb 0 _ _ _ hb2'
           have a1 : W3.cell? ⟨rb, 1, none⟩ = _ := cell_of_row W3 rb 1 _ _ _ hb2'
           have b0 : W3.cell? ⟨eb, 0, none⟩ = _ := cell_of_row W3 eb 0 _ _ _ hb3
           have b1 : W3.cell? ⟨eb, 1, none⟩ = _ := cell_of_row W3 eb 1 _ _ _ hb3
           have HI3 := Lib.hid (HJJ.out.ext' X3)
           have y3 : W3.cell? ⟨w.heap.size + 1, 3, none⟩ = some vP := cell_of_row W3 _ 3 _ _ _ HI3.out.blk
           have p3' := X3.keepc p3
           have hplc : ∃ c, HI3.out = c := ⟨_, rfl⟩
           have hibl : ib < V1.heap.size := HJJ.out.row.lt
           have hrbl : V1.heap.size <= rb := by rw [HRB.out]; exact Nat.le_refl _
           have hpbi : ¬ pb = ib := fun e => HJJ.out.offI.1 (by rw [HVP.out, e]; rfl)
           obtain ⟨B0, hB0⟩ : ∃ B0, B0 = imgX E st.1 kk ++ (L.patch E st.1 st.1[kk].1 (cr.take j) cd.data.toList ++ List.replicate (NN - L.fin ((E.sizes st.1).take (kk + 1)) 0) 0) := ⟨_, rfl⟩
           have HB0 := Lib.hid hB0
           have HI4 : Hid (ImgAt w (w.heap.size + 1) ib E st.1 NN mf mi (fixesTo E st.1 kk ++ L.fixF E st.1[kk].1 at0 (cr.take j)) (impsTo E st.1 kk ++ L.impF E st.1[kk].1 at0 (cr.take j)) (L.putAt B0 (at0 + ra) ((L.word va).take 0)) vP vF' vI' W3 /\ Tch (fun i => i = ib) W3 W3) := by
            rw [List.take_zero, putAt_none, hB0]
            exact ⟨HI3.out, Tch.refl _ _⟩
           have hdl : (E.data st.1[kk]).length = cd.data.toList.length := by unfold L.Env.data; rw [L.sec_is HCC.out]
           have hpl2 : (L.patch E st.1 st.1[kk].1 (cr.take j) cd.data.toList).length = cd.size := by
            rw [L.patch_len E st.1 st.1[kk].1 (cr.take j) cd.data.toList fun r hr => by
             have := (HRO.out r (List.mem_of_mem_take hr)).2
             rw [hdl] at this
             exact this]
            simp
           have HPL2 := Lib.hid hpl2
           have hB0l : B0.length = NN := by
            have h1 := imgX_len HE.out HOK.out (l := st.1) kk
            rw [<- HAT.out] at h1
            have h2 := fin_take_succ (l := E.sizes st.1) (i := kk) (by unfold L.Env.sizes; rw [List.length_map]; exact hkl)
            rw [sizes_get hkl (by unfold L.Env.sizes; rw [List.length_map]; exact hkl), L.sec_is HCC.out, <- HAT.out] at h2
            simp only at h2
            rw [hB0, List.length_append, List.length_append, List.length_replicate, h1, hpl2, h2]
            omega
           have HLB := Lib.hid hB0l
           have HFA := Lib.hid (show at0 + ra + 4 <= NN by omega)
           clear hB0 hB0l hplc
           go_upto_region 24 with (fail)
           go_wp2_with fail
           go_loopw [113] (fun i wr => ∃ t : Nat, i = .int .i64 (t : Int) /\ t <= 4 /\ Hid (ImgAt w (w.heap.size + 1) ib E st.1 NN mf mi (fixesTo E st.1 kk ++ L.fixF E st.1[kk].1 at0 (cr.take j)) (impsTo E st.1 kk ++ L.impF E st.1[kk].1 at0 (cr.take j)) (L.putAt B0 (at0 + ra) ((L.word va).take t)) vP vF' vI' wr /\ Tch (fun i => i = ib) W3 wr)) (fun i _ => 4 - (intOf i).toNat)
           case atStart => exact ⟨0, rfl, by omega, HI4⟩
           case round =>
            obtain ⟨t, rfl, ht, HT⟩ := hrel
            by_cases htl : t < 4
            ·obtain ⟨V2, hV2⟩ : ∃ V2, V2 = wr := ⟨_, rfl⟩
             subst hV2
             have hfa := HFA.out
             have m3 := HT.out.2.keepc y3 (by intro e; exact HJJ.out.low.2 e.symm)
             rw [HVP.out] at m3
             have mp := HT.out.2.keepc p3' hpbi
             have ma := HT.out.2.keepc a0 (by show ¬ rb = ib; omega)
             have mb0 := HT.out.2.keepc b0 (by show ¬ eb = ib; omega)
             have fx0 : ∀ z : Lat (Ext V2), z.w'.cell? ⟨w.heap.size + 1, 3, none⟩ = _ := fun z => z.h.keepc m3
             have fx1 : ∀ z : Lat (Ext V2), z.w'.cell? ⟨pb, po + pq * 5 + 3, none⟩ = _ := fun z => z.h.keepc mp
             have fx2 : ∀ z : Lat (Ext V2), z.w'.cell? ⟨rb, 0, none⟩ = _ := fun z => z.h.keepc ma
             have fx3 : ∀ z : Lat (Ext V2), z.w'.cell? ⟨eb, 0, none⟩ = _ := fun z => z.h.keepc mb0
             have hne := Lat.some (Φ := Ext V2) ((Ext.refl V2).drew)
             go_upto_region 27 with (fail)
             refine wp_region_tail 19 [] (Ext V2) ((Ext.refl V2).drew) (by kernel_rfl) (by kernel_rfl) (by kernel_rfl) ?_
             iterate 19 (refine lex_pure rfl rfl rfl ?_; intro K hK; go_big_quiet_op; go_big_quiet_on)
             refine lex_nil ?_
             show wpList _ _ _ (_ :: []) _ _
             clear fx0 fx1 fx2 fx3 hne
             have hlt4 : (L.putAt B0 (at0 + ra) ((L.word va).take t)).length = NN := by
              rw [putAt_len _ _ _ (by rw [List.length_take, HLB.out]; have : (L.word va).length = 4 := rfl; omega), HLB.out]
             have mi0 := HT.out.1.row.cell (i := at0 + ra + t) (by rw [hlt4]; omega)
             have mf0 := HT.out.1.row.frozen (i := at0 + ra + t) (by omega)
             clear hlt4
             go_wp2_with fail
             refine ⟨⟨t + 1, by go_num, by omega, ?_⟩, by simp [intOf]; omega⟩
             have hv : ((va : Int) / 2 ^ (8 * t) % 256) = ((((L.word va).getD t 0).toNat : Nat) : Int) := by
              rw [word_byte va t htl]
              push_cast
              rfl
             rw [hv]
             have hT1 : Tch (fun i => i = ib) V2 (V2.setCell ⟨ib, at0 + ra + t, none⟩ (.int .u8 ((((L.word va).getD t 0).toNat : Nat) : Int))) := grown_tch (grownBy_setCell V2 ⟨ib, at0 + ra + t, none⟩ _)
             have hr1 := HT.out.1.row.set (at0 + ra + t) ((L.word va).getD t 0)
             rw [putAt_succ _ _ _ _ htl (by rw [HLB.out]; omega)] at hr1
             exact ⟨(HT.out.1.bytes hT1 hr1).ext' (Ext.refl _).drew, (HT.out.2.trans hT1).trans (((Ext.refl _).drew).tch _)⟩
            ·obtain rfl : t = 4 := by omega
             obtain ⟨V2, hV2⟩ : ∃ V2, V2 = wr := ⟨_, rfl⟩
             subst hV2
             have hXl := imgX_len HE.out HOK.out (l := st.1) kk
             rw [<- HAT.out] at hXl
             have hbytes : L.putAt B0 (at0 + ra) ((L.word va).take 4) = imgX E st.1 kk ++ (L.patch E st.1 st.1[kk].1 (cr.take (j + 1)) cd.data.toList ++ List.replicate (NN - L.fin ((E.sizes st.1).take (kk + 1)) 0) 0) := by
              have h4 : (L.word va).take 4 = L.word va := rfl
              rw [h4, HB0.out, HE3.out]
              exact L.putAt_mid (by rw [hXl]) (by rw [HPL2.out]; show ra + 4 <= cd.size; omega)
             have hI := HT.out.1
             rw [hbytes] at hI
             have HI5 := Lib.hid hI
             have xra := HT.out.2.keepc a0 (by show ¬ rb = ib; omega)
             clear hbytes hI hXl HT
             have x4 : V2.cell? ⟨w.heap.size + 1, 4, none⟩ = some vF' := cell_of_row V2 _ 4 _ _ _ HI5.out.blk
             obtain ⟨W4, hW4⟩ : ∃ W4, W4 = V2.alloc (.cells #[.int .i64 ((at0 : Int) + (ra : Int))] 3) := ⟨_, rfl⟩
             have E4 : Ext V2 W4 := by rw [hW4]; exact (Ext.refl V2).alloc _
             have hs4 : ∀ j v, (intC ((at0 : Int) + (ra : Int)))[j]? = some v -> W4.cell? ⟨V2.heap.size, j, none⟩ = some v := by rw [hW4]; exact new_cells V2 (intC ((at0 : Int) + (ra : Int))) 3 _ rfl
             have HI6 := Lib.hid (HI5.out.ext' E4)
             have hbase4 : w.heap.size + 2 <= W4.heap.size := Nat.le_trans (hltA HI5.out.blk) E4.size
             obtain ⟨i9, hi9, hz9, hz91, hz92⟩ := info_parts info3
             go_upto_region 29 with (fail)
             go_wp2_with (at_builtin; rw [<- hW4]; refine wpList_append_one rfl (.tmp 137) (.tmp 142) 30 rfl Tryz.underlying30 hi9 hz9 hz91 hz92 rfl (by decide) (by decide) rfl HI6.out.fix ((at0 : Int) + (ra : Int)) rfl rfl hs4 (intC_one _) (by omega) hbase4 ?_; intro v5 w5 hown5 hg5 hv5; obtain ⟨A5, c5, rfl⟩ := hown5.form; obtain ⟨hI7, x7, xf7⟩ := HI6.out.fixed hown5 hg5 hv5; have HI7 := Lib.hid hI7; clear hI7 hown5 hg5 hv5)
             exact ⟨⟨j + 1, mf + 1, mi, _, vI', by go_num, by omega, by omega, by omega, by rw [HE1.out, HE2.out, <- List.append_assoc]; exact HI7.out⟩, by simp [intOf]; omega⟩
          ·have hme : meanI E st.1 st.1[kk].1 rx = (-1, (jj : Int)) := by unfold meanI; rw [haq]
           rw [hme] at w1 w2
           have e1 := fixF_lib (E := E) (u := st.1[kk].1) (a := at0) (l := cr.take j) (r := cr[j]) (by rw [<- HRX.out]; exact haq)
           have e2 := impF_lib (E := E) (u := st.1[kk].1) (a := at0) (l := cr.take j) (r := cr[j]) (by rw [<- HRX.out]; exact haq) hjj
           have e3 := L.patch_snoc E st.1 st.1[kk].1 cr[j] (cr.take j) cd.data.toList
           rw [<- HRX.out, haq] at e3
           replace e3 : L.patch E st.1 st.1[kk].1 (cr.take j ++ [cr[j]]) cd.data.toList = L.patch E st.1 st.1[kk].1 (cr.take j) cd.data.toList := e3
           rw [<- HTK.out] at e1 e2 e3
           rw [<- HRX.out, <- HRA.out] at e2
           have HE1 := Lib.hid e1
           have HE2 := Lib.hid e2
           have HE3 := Lib.hid e3
           obtain ⟨lb, lo, hlA, hlb, hls, l0w, _⟩ := lib_get HL.out.libsOld hjj
           have l0 := HJJ.out.ext.keepc l0w
           have HLB : Hid (lb < w.heap.size) := Lib.hid (World.block_lt_of_cell? w _ l0w)
           clear l0w
           obtain ⟨W2, hW2⟩ : ∃ W2, W2 = V1.alloc (.cells #[.int .i64 (ra : Int), .string rx] 151) := ⟨_, rfl⟩
           obtain ⟨rb, hrb⟩ : ∃ rb, rb = V1.heap.size := ⟨_, rfl⟩
           have X2 : Ext V1 W2 := by rw [hW2]; exact (Ext.refl V1).alloc _
           have hb2 : W2.heap[rb]? = some (.cells #[.int .i64 (ra : Int), .string rx] 151 (0, 0)) := by rw [hW2, hrb]; exact heap_alloc_new V1 _
           have HRB := Lib.hid hrb
           clear hrb
           have c8' := X2.keepc c8
           have w0' := X2.keepc w0
           have w1' := X2.keepc w1
           have w2' := X2.keepc w2
           go_upto_region 22 with (fail)
           rw [<- hW2, <- HRB.out]
           clear hW2 c8 w0 w1 w2 z0 z1
           obtain ⟨W3, hW3⟩ : ∃ W3, W3 = W2.alloc (.cells #[.int .i64 (-1), .int .i64 (jj : Int)] 195) := ⟨_, rfl⟩
           obtain ⟨eb, heb⟩ : ∃ eb, eb = W2.heap.size := ⟨_, rfl⟩
           have X3 : Ext V1 W3 := by rw [hW3]; exact X2.alloc _
           have hb3 : W3.heap[eb]? = some (.cells #[.int .i64 (-1), .int .i64 (jj : Int)] 195 (0, 0)) := by rw [hW3, heb]; exact heap_alloc_new W2 _
           have hb2' : W3.heap[rb]? = some (.cells #[.int .i64 (ra : Int), .string rx] 151 (0, 0)) := by rw [hW3]; exact (((Ext.refl W2).alloc _).block _ (hltA hb2)).trans hb2
           have HEB := Lib.hid (show eb = W2.heap.size from heb)
           have hebl : V1.heap.size <= eb := by rw [heb]; exact X2.size
           clear heb
           go_upto_region 23 with (fail)
           rw [<- hW3, <- HEB.out]
           clear hW3 c8' w0' w1' w2' hb2
           have a0 : W3.cell? ⟨rb, 0, none⟩ = _ := cell_of_row W3 rb 0 _ _ _ hb2'
           have a1 : W3.cell? ⟨rb, 1, none⟩ = _ := cell_of_row W3 rb 1 _ _ _ hb2'
           have b0 : W3.cell? ⟨eb, 0, none⟩ = _ := cell_of_row W3 eb 0 _ _ _ hb3
           have b1 : W3.cell? ⟨eb, 1, none⟩ = _ := cell_of_row W3 eb 1 _ _ _ hb3
           have HI3 := Lib.hid (HJJ.out.ext' X3)
           have y5 : W3.cell? ⟨w.heap.size + 1, 5, none⟩ = some vI' := cell_of_row W3 _ 5 _ _ _ HI3.out.blk
           have c2 := (HL.out.ext HI3.out.ext).row.c2
           rw [hlA] at c2
           have l0' := X3.keepc l0
           obtain ⟨nl, hnl⟩ : ∃ nl, nl = E.libs.length := ⟨_, rfl⟩
           have hfl := HE.out.fewL
           have hjn : jj < nl := by rw [hnl]; exact hjj
           rw [<- hnl] at c2 hfl
           obtain ⟨lp, hlp⟩ : ∃ lp, lp = E.libs[jj].1 := ⟨_, rfl⟩
           rw [<- hlp] at l0'
           have HLP := Lib.hid hlp
           clear l0 hlA hlb hls hnl hlp
           have hvlt : ∀ b, vI'.ownBlock = some b -> w.heap.size + 2 <= b /\ b < V1.heap.size := fun b hb => HJJ.out.imp.lt hb
           have n1 : ¬ vI'.ownBlock = some (w.heap.size + 1) := HI3.out.offT.2.2
           have n2 : ¬ vI'.ownBlock = some g := fun e => absurd (hvlt _ e).1 (by have := (HL.out.lt g HL.out.inX.1).2; omega)
           have n3 : ¬ vI'.ownBlock = some rb := fun e => absurd (hvlt _ e).2 (by rw [HRB.out]; omega)
           have n4 : ¬ vI'.ownBlock = some eb := fun e => absurd (hvlt _ e).2 (by omega)
           have n5 : ¬ vI'.ownBlock = some lb := fun e => by
            have h9 := (hvlt _ e).1
            have hlbw : lb < w.heap.size := HLB.out
            omega
           obtain ⟨Φ, hΦ⟩ : ∃ Φ : World -> Prop, ∀ W, Φ W ↔ Tch (fun i => vI'.ownBlock = some i) W3 W := ⟨_, fun _ => Iff.rfl⟩
           have h0 : Φ W3.drew := (hΦ _).2 (((Ext.refl W3).drew).tch _)
           have fx0 : ∀ z : Lat Φ, z.w'.cell? ⟨w.heap.size + 1, 5, none⟩ = _ := fun z => ((hΦ _).1 z.h).keepc y5 n1
           have fx1 : ∀ z : Lat Φ, z.w'.cell? ⟨g, 2, none⟩ = _ := fun z => ((hΦ _).1 z.h).keepc c2 n2
           have fx2 : ∀ z : Lat Φ, z.w'.cell? ⟨lb, lo + jj * 9, none⟩ = _ := fun z => ((hΦ _).1 z.h).keepc l0' n5
           have fx3 : ∀ z : Lat Φ, z.w'.cell? ⟨rb, 0, none⟩ = _ := fun z => ((hΦ _).1 z.h).keepc a0 n3
           have fx4 : ∀ z : Lat Φ, z.w'.cell? ⟨rb, 1, none⟩ = _ := fun z => ((hΦ _).1 z.h).keepc a1 n3
           have fx5 : ∀ z : Lat Φ, z.w'.cell? ⟨eb, 1, none⟩ = _ := fun z => ((hΦ _).1 z.h).keepc b1 n4
           have hne := Lat.some h0
           have hjd : ¬ (jj : Int) < 0 := by omega
           go_upto_region 30 with (fail)
           refine wp_region_tail 21 [18, 19] Φ h0 (by kernel_rfl) (by kernel_rfl) (by kernel_rfl) ?_
           iterate 18 (refine lex_pure rfl rfl rfl ?_; intro K hK; go_big_quiet_op; go_big_quiet_on)
           refine lex_eff rfl ?_
           go_wp2_with fail
           obtain ⟨el, hel⟩ : ∃ el : L.Impt, el = (lp, rx, (at0 : Int) + (ra : Int)) := ⟨_, rfl⟩
           obtain ⟨W4, hW4⟩ : ∃ W4, W4 = (W3.alloc (.cells #[.string lp, .string rx, .int .i64 ((at0 : Int) + (ra : Int))] 128)).drew := ⟨_, rfl⟩
           have E4 : Ext W3 W4 := by rw [hW4]; exact ((Ext.refl W3).alloc _).drew
           have hs4 : ∀ j v, (impC el)[j]? = some v -> W4.cell? ⟨W3.heap.size, j, none⟩ = some v := by rw [hW4, hel]; exact new_cells W3 (impC (lp, rx, (at0 : Int) + (ra : Int))) 128 _ rfl
           rw [<- hW4]
           have hP4 : Φ W4 := (hΦ _).2 (E4.tch _)
           have HI4 := Lib.hid (HI3.out.ext' E4)
           have hbase4 : w.heap.size + 2 <= W4.heap.size := Nat.le_trans (hltA HJJ.out.blk) (Nat.le_trans X3.size E4.size)
           have HEL := Lib.hid hel
           obtain ⟨i9, hi9, hz9, hz91, hz92⟩ := info_parts info128
           clear hW4 hel
           refine ⟨⟨⟨W4, hP4⟩, rfl⟩, ?_⟩
           refine lex_eff rfl ?_
           go_wp2_with (at_builtin; refine wpList_append_one rfl (.tmp 146) (.tmp 163) 31 rfl Tryz.underlying31 hi9 hz9 hz91 hz92 rfl (by decide) (by decide) rfl HI4.out.imp el rfl rfl hs4 (impC_one el) (by omega) hbase4 ?_; intro v5 w5 hown5 hg5 hv5)
           obtain ⟨A5, c5, rfl⟩ := hown5.form
           have hg5' : W4.grownBy w5 vI'.ownBlock := hg5
           have hT5 : Tch (fun i => vI'.ownBlock = some i) W3 w5 := (E4.tch _).trans ⟨hg5'.os, hg5'.tape, hg5'.output, hg5'.size, fun i hi hx => hg5'.block i hi fun e => hx e.symm⟩
           refine ⟨⟨⟨w5, (hΦ _).2 hT5⟩, rfl⟩, ?_⟩
           refine lex_pure rfl rfl rfl ?_; intro K hK; go_big_quiet_op; go_big_quiet_on
           refine lex_nil ?_
           show wpList _ _ _ (_ :: []) _ _
           obtain ⟨hI5, x5, xf⟩ := HI4.out.imported hown5 hg5 hv5
           have HI5 := Lib.hid hI5
           clear fx0 fx1 fx2 fx3 fx4 fx5 hne h0 hP4 hs4 E4 hown5 hg5 hg5' hv5 hT5 n1 n2 n3 n4 n5 hvlt y5 c2 l0' a0 a1 b0 b1 hb3 hb2' X3 X2 hI5
           go_wp2_with fail
           go_roundw
           case rel => exact ⟨j + 1, mf, mi + 1, vF', _, by go_num, by omega, by omega, by omega, by rw [HE1.out, HE2.out, HE3.out, <- List.append_assoc, <- HLP.out, <- HEL.out]; exact HI5.out⟩
           case measure => simp [intOf]; omega
         ·obtain rfl : j = rn := by omega
          have htk : cr.take j = cr := List.take_of_length_le (by rw [HRN.out]; exact Nat.le_refl _)
          have HN' : Hid (ImgAt w (w.heap.size + 1) ib E st.1 NN mf mi (fixesTo E st.1 (kk + 1)) (impsTo E st.1 (kk + 1)) (imgTo E st.1 (kk + 1)) vP vF' vI' V1) := by
           have h := HJ.out
           rw [htk] at h
           have f1 := fixes_succ (E := E) hkl
           rw [HRELS.out, <- HAT.out] at f1
           have f2 := imps_succ (E := E) hkl
           rw [HRELS.out, <- HAT.out] at f2
           have f3 := img_next (E := E) hkl HE.out HOK.out
           have f4 : E.chunk st.1 st.1[kk] = L.patch E st.1 st.1[kk].1 cr cd.data.toList := by
            unfold L.Env.chunk
            rw [HRELS.out]
            unfold L.Env.data
            rw [L.sec_is HCC.out]
           rw [f4, <- HNN.out] at f3
           rw [f1, f2, <- f3]
           exact h
          clear htk HJ
          go_wp2_with fail
          go_roundw
          case rel => exact ⟨kk + 1, mf, mi, vF', vI', by go_num, by omega, by omega, by omega, HN'⟩
          case measure => simp [intOf]; omega
     ·obtain rfl : kk = i0 := by omega
      have htk := fixes_all (E := E) st.1
      have htk2 := imps_all (E := E) st.1
      have htk3 := imgTo_all (E := E) st.1
      rw [<- HN.out] at htk htk2 htk3
      have HZ := Lib.hid HK.out
      rw [htk, htk2, htk3] at HZ
      clear htk htk2 htk3 HK HI0
      have hlen : (E.img st.1).length = NN := by
       have h := imgTo_len HE.out HOK.out st.1.length
       rw [imgTo_all, <- HNN.out] at h
       exact h
      obtain ⟨im, him⟩ : ∃ im : ByteArray, im = ⟨(E.img st.1).toArray⟩ := ⟨_, rfl⟩
      have hcv : (convert 80 9 (.slice (some ⟨ib, 0, none⟩) NN NN)).run Tryz.prog W0 = .ok (.string im) W0 := by
       have h1 := run_convert_bytes_back (P := Tryz.prog) W0 80 9 5 ⟨ib, 0, none⟩ NN (E.img st.1) rfl rfl rfl (fun j hj => by
        have := HZ.out.row.cell hj
        rw [Addr.add_lit, Nat.zero_add, this]
        simp [List.getD, hj])
       rw [hlen] at h1
       rw [him]
       exact h1
      have HIM := Lib.hid him
      have HLEN := Lib.hid hlen
      have x2 : W0.cell? ⟨w.heap.size + 1, 2, none⟩ = _ := cell_of_row W0 _ 2 _ _ _ HZ.out.blk
      have xf := Lib.frozen_of_heap HZ.out.blk 2
      obtain ⟨W2, hW2⟩ : ∃ W2, W2 = W0.setCell ⟨w.heap.size + 1, 2, none⟩ (.string im) := ⟨_, rfl⟩
      have hT2 : Tch (fun i => i = w.heap.size + 1) W0 W2 := by rw [hW2]; exact grown_tch (grownBy_setCell W0 ⟨w.heap.size + 1, 2, none⟩ _)
      have hb2 : W2.heap[w.heap.size + 1]? = some (.cells (binCells im vP vF vI) 35 (0, 0)) := by rw [hW2]; exact heap_setCell_cells HZ.out.blk 2 _
      have hr2 := (hT2.block _ (hltA HZ.out.res) (by omega)).trans HZ.out.res
      have HT2 := Lib.hid hT2
      clear him hlen hT2
      go_upto_region 34 with (fail)
      rw [<- hW2]
      clear hW2 x2 xf hcv
      have r : ∀ i, W2.cell? ⟨w.heap.size, i, none⟩ = (binCells ⟨#[]⟩ (.slice none 0 0) (.slice none 0 0) (.slice none 0 0))[i]? := fun i => cell_of_row W2 _ i _ _ _ hr2
      have r0 : W2.cell? ⟨w.heap.size, 0, none⟩ = some (.int .i64 0) := r 0
      have r1 : W2.cell? ⟨w.heap.size, 1, none⟩ = some (.int .i64 0) := r 1
      have r2 : W2.cell? ⟨w.heap.size, 2, none⟩ = some (.string ⟨#[]⟩) := r 2
      have r3 : W2.cell? ⟨w.heap.size, 3, none⟩ = some (.slice none 0 0) := r 3
      have r4 : W2.cell? ⟨w.heap.size, 4, none⟩ = some (.slice none 0 0) := r 4
      have r5 : W2.cell? ⟨w.heap.size, 5, none⟩ = some (.slice none 0 0) := r 5
      have r6 : W2.cell? ⟨w.heap.size, 6, none⟩ = some (.slice none 0 0) := r 6
      have r7 : W2.cell? ⟨w.heap.size, 7, none⟩ = some (.slice none 0 0) := r 7
      have q : ∀ i, W2.cell? ⟨w.heap.size + 1, i, none⟩ = (binCells im vP vF vI)[i]? := fun i => cell_of_row W2 _ i _ _ _ hb2
      have q0 : W2.cell? ⟨w.heap.size + 1, 0, none⟩ = some (.int .i64 0) := q 0
      have q1 : W2.cell? ⟨w.heap.size + 1, 1, none⟩ = some (.int .i64 0) := q 1
      have q2 : W2.cell? ⟨w.heap.size + 1, 2, none⟩ = some (.string im) := q 2
      have q3 : W2.cell? ⟨w.heap.size + 1, 3, none⟩ = some vP := q 3
      have q4 : W2.cell? ⟨w.heap.size + 1, 4, none⟩ = some vF := q 4
      have q5 : W2.cell? ⟨w.heap.size + 1, 5, none⟩ = some vI := q 5
      have q6 : W2.cell? ⟨w.heap.size + 1, 6, none⟩ = some (.slice none 0 0) := q 6
      have q7 : W2.cell? ⟨w.heap.size + 1, 7, none⟩ = some (.slice none 0 0) := q 7
      have f := fun i => Lib.frozen_of_heap hr2 i
      have f0 := f 0
      have f1 := f 1
      have f2 := f 2
      have f3 := f 3
      have f4 := f 4
      have f5 := f 5
      have f6 := f 6
      have f7 := f 7
      have HZ2 := Lib.hid hr2
      obtain ⟨A1, c1, rfl⟩ := HZ.out.plc.form
      obtain ⟨A2, c2, rfl⟩ := HZ.out.fix.form
      obtain ⟨A3, c3, rfl⟩ := HZ.out.imp.form
      clear r q f hr2 hb2
      go_wp2_with fail
      refine bodyPost_ret (v := .tuple #[.agg (Array.mk [.int .i64 0, .int .i64 0, .string im, .slice A1 st.1.length c1, .slice A2 nf c2, .slice A3 ni c3, .slice none 0 0, .slice none 0 0]), .int .i64 0]) (by simp [results, Tryz.results85, go_sem, r0, r1, r2, r3, r4, r5, r6, r7]) rfl ?_
      generalize hWf : World.setCell _ _ _ = Wf
      have hTf : Tch (fun i => i = w.heap.size ∨ i = w.heap.size + 1) W0 Wf := by
       rw [<- hWf]
       have h2 : Tch (fun i => i = w.heap.size ∨ i = w.heap.size + 1) W0 W2 := ⟨HT2.out.os, HT2.out.tape, HT2.out.output, HT2.out.size, fun i hi hx => HT2.out.block i hi fun e => hx (Or.inr e)⟩
       exact (((((((h2.setCell (p := ⟨w.heap.size, 0, none⟩) (fun _ => Or.inl rfl) _).setCell (p := ⟨w.heap.size, 1, none⟩) (fun _ => Or.inl rfl) _).setCell (p := ⟨w.heap.size, 2, none⟩) (fun _ => Or.inl rfl) _).setCell (p := ⟨w.heap.size, 3, none⟩) (fun _ => Or.inl rfl) _).setCell (p := ⟨w.heap.size, 4, none⟩) (fun _ => Or.inl rfl) _).setCell (p := ⟨w.heap.size, 5, none⟩) (fun _ => Or.inl rfl) _).setCell (p := ⟨w.heap.size, 6, none⟩) (fun _ => Or.inl rfl) _).setCell (p := ⟨w.heap.size, 7, none⟩) (fun _ => Or.inl rfl) _
      clear hWf
      have g1 := HZ.out.plc.tch hTf fun b hb h => by have := (HZ.out.plc.lt hb).1; omega
      have g2 := HZ.out.fix.tch hTf fun b hb h => by have := (HZ.out.fix.lt hb).1; omega
      have g3 := HZ.out.imp.tch hTf fun b hb h => by have := (HZ.out.imp.lt hb).1; omega
      have hlz : ∀ m ∈ E.libs, m.1.size <= 9223372036854775807 := fun m hm => by
       obtain ⟨i, hi, rfl⟩ := List.mem_iff_getElem.1 hm
       obtain ⟨_, _, _, _, h, _⟩ := lib_get HL.out.libsOld hi
       exact h
      have k2 := g2.1
      have k3 := g3.1
      obtain ⟨_, _, y1, s1'⟩ := g1.slice fun B => plc_is HE.out HOK.out
      have s1 := s1'.keep (w' := Wf) (B' := Fresh w Wf) (fun k hk => ⟨by have := hk.2.1; omega, hk.2.2⟩) fun _ _ => rfl
      clear s1'
      obtain ⟨_, _, y2, s2'⟩ := g2.slice fun B => fix_is HE.out HOK.out
      have s2 := s2'.keep (w' := Wf) (B' := Fresh w Wf) (fun k hk => ⟨by have := hk.2.1; omega, hk.2.2⟩) fun _ _ => rfl
      clear s2'
      obtain ⟨_, _, y3, s3'⟩ := g3.slice fun B => imp_is HE.out HOK.out hlz
      have s3 := s3'.keep (w' := Wf) (B' := Fresh w Wf) (fun k hk => ⟨by have := hk.2.1; omega, hk.2.2⟩) fun _ _ => rfl
      clear s3'
      cases y1
      cases y2
      cases y3
      refine ⟨?_, _, E.bin st.1 0 0 [], 0, rfl, ⟨⟨A1, c1, A2, c2, A3, c3, none, 0, none, 0, ?_, s1, s2, s3, SliceAt.nil _ _ _ _ _ (by omega), SliceAt.nil _ _ _ _ _ (by omega), (by decide : (Lit.int .i64 0).wf = true), (by decide : (Lit.int .i64 0).wf = true), ?_⟩⟩, rfl, ?_⟩
      ·have h1 : Tch (fun _ => False) w W0 := HZ.out.ext.tch _
       exact (h1.trans' hTf fun i hi e => absurd hi (by omega)).ext fun _ _ h => h
      ·unfold L.Env.bin
       simp only [places_len, <- k2, <- k3, <- HIM.out]
       rfl
      ·show (ByteArray.mk (E.img st.1).toArray).size <= _
       have : (ByteArray.mk (E.img st.1).toArray).size = (E.img st.1).length := by simp [ByteArray.size]
       rw [this, HLEN.out]
       omega
      ·rw [<- HNN.out, if_neg hbig]
end Go.Proofs.YtfbhchpbflaphaaGreatDoor
