/- The texts Li Lj Lk Lp Lpa of the seat, joined. -/
import Derived.Test.YtfbhchpbflaphaaGreatDoorS16
namespace Go.Proofs.YtfbhchpbflaphaaGreatDoor
open Go.RowKit Go.Maps Go.ChangeMaps
def RetPl (w : World) (kd : Int) (E : L.Env) (l : List L.Spot) (e : Ending) (w' : World) : Prop := Ext w w' /\ ∃ PA pc BA bc, e = .returned (.tuple #[.agg (kdRow kd (.slice PA l.length pc)), .slice BA (L.fin (E.sizes l) 0) bc]) /\
 OwnL plcC 49 5 w' (w.heap.size + 2) (.slice PA l.length pc) l.length (E.places l) /\ w'.ownsRow (w.heap.size + 2) 5 1 (.slice BA (L.fin (E.sizes l) 0) bc) (L.fin (E.sizes l) 0) (byV (imgD E l l.length))
theorem fin_all {E : L.Env} (hE : EnvOk E) {l : List L.Spot} (h : L.ListOk E l) (k : Nat) : L.fin ((E.sizes l).take k) 0 <= 128 * 8195 := by
 have h1 := fin_bound ((E.sizes l).take k) 0 fun s hs => sizes_small hE h s (List.mem_of_mem_take hs)
 have h2 : ((E.sizes l).take k).length <= 128 := by
  rw [List.length_take]
  have : (E.sizes l).length = l.length := by unfold L.Env.sizes; simp
  have := h.1
  omega
 omega
theorem byV_snoc0 (bs : C.Bs) (t : Nat) : byV (bs ++ List.replicate t 0) ++ [.int .u8 0] = byV (bs ++ List.replicate (t + 1) 0) := by
 rw [List.replicate_succ', <- List.append_assoc, byV_append (bs ++ List.replicate t 0)]
 rfl
theorem strCells_byV (s : ByteArray) : Lib.strCells s = byV s.data.toList := rfl
abbrev bput (w : World) (b : Nat) (x0 x1 x2 x3 x4 x5 x6 x7 : Value) : World := (((((((w.setCell ⟨b, 0, none⟩ x0).setCell ⟨b, 1, none⟩ x1).setCell ⟨b, 2, none⟩ x2).setCell ⟨b, 3, none⟩ x3).setCell ⟨b, 4, none⟩ x4).setCell ⟨b, 5, none⟩ x5).setCell ⟨b, 6, none⟩ x6).setCell ⟨b, 7, none⟩ x7
theorem bput_tch (w : World) (b : Nat) (x0 x1 x2 x3 x4 x5 x6 x7 : Value) : Tch (fun k => k = b) w (bput w b x0 x1 x2 x3 x4 x5 x6 x7) :=
 ((((((((Tch.refl (fun k => k = b) w).setCell (p := ⟨b, 0, none⟩) (fun _ => rfl) _).setCell (p := ⟨b, 1, none⟩) (fun _ => rfl) _).setCell (p := ⟨b, 2, none⟩) (fun _ => rfl) _).setCell (p := ⟨b, 3, none⟩) (fun _ => rfl) _).setCell (p := ⟨b, 4, none⟩) (fun _ => rfl) _).setCell (p := ⟨b, 5, none⟩) (fun _ => rfl) _).setCell (p := ⟨b, 6, none⟩) (fun _ => rfl) _).setCell (p := ⟨b, 7, none⟩) (fun _ => rfl) _
theorem bput_row {w : World} {b : Nat} (h : w.heap[b]? = some (.cells zrow35 35 (0, 0))) (x0 x1 x2 x3 x4 x5 x6 x7 : Value) : (bput w b x0 x1 x2 x3 x4 x5 x6 x7).heap[b]? = some (.cells #[x0, x1, x2, x3, x4, x5, x6, x7] 35 (0, 0)) := by
 have h0 : (w.setCell ⟨b, 0, none⟩ x0).heap[b]? = some (.cells #[x0, .int .i64 0, .string ⟨#[]⟩, .slice none 0 0, .slice none 0 0, .slice none 0 0, .slice none 0 0, .slice none 0 0] 35 (0, 0)) := heap_setCell_cells h 0 x0
 have h1 : ((w.setCell ⟨b, 0, none⟩ x0).setCell ⟨b, 1, none⟩ x1).heap[b]? = some (.cells #[x0, x1, .string ⟨#[]⟩, .slice none 0 0, .slice none 0 0, .slice none 0 0, .slice none 0 0, .slice none 0 0] 35 (0, 0)) := heap_setCell_cells h0 1 x1
 have h2 : (((w.setCell ⟨b, 0, none⟩ x0).setCell ⟨b, 1, none⟩ x1).setCell ⟨b, 2, none⟩ x2).heap[b]? = some (.cells #[x0, x1, x2, .slice none 0 0, .slice none 0 0, .slice none 0 0, .slice none 0 0, .slice none 0 0] 35 (0, 0)) := heap_setCell_cells h1 2 x2
 have h3 : ((((w.setCell ⟨b, 0, none⟩ x0).setCell ⟨b, 1, none⟩ x1).setCell ⟨b, 2, none⟩ x2).setCell ⟨b, 3, none⟩ x3).heap[b]? = some (.cells #[x0, x1, x2, x3, .slice none 0 0, .slice none 0 0, .slice none 0 0, .slice none 0 0] 35 (0, 0)) := heap_setCell_cells h2 3 x3
 have h4 : (((((w.setCell ⟨b, 0, none⟩ x0).setCell ⟨b, 1, none⟩ x1).setCell ⟨b, 2, none⟩ x2).setCell ⟨b, 3, none⟩ x3).setCell ⟨b, 4, none⟩ x4).heap[b]? = some (.cells #[x0, x1, x2, x3, x4, .slice none 0 0, .slice none 0 0, .slice none 0 0] 35 (0, 0)) := heap_setCell_cells h3 4 x4
 have h5 : ((((((w.setCell ⟨b, 0, none⟩ x0).setCell ⟨b, 1, none⟩ x1).setCell ⟨b, 2, none⟩ x2).setCell ⟨b, 3, none⟩ x3).setCell ⟨b, 4, none⟩ x4).setCell ⟨b, 5, none⟩ x5).heap[b]? = some (.cells #[x0, x1, x2, x3, x4, x5, .slice none 0 0, .slice none 0 0] 35 (0, 0)) := heap_setCell_cells h4 5 x5
 have h6 : (((((((w.setCell ⟨b, 0, none⟩ x0).setCell ⟨b, 1, none⟩ x1).setCell ⟨b, 2, none⟩ x2).setCell ⟨b, 3, none⟩ x3).setCell ⟨b, 4, none⟩ x4).setCell ⟨b, 5, none⟩ x5).setCell ⟨b, 6, none⟩ x6).heap[b]? = some (.cells #[x0, x1, x2, x3, x4, x5, x6, .slice none 0 0] 35 (0, 0)) := heap_setCell_cells h5 6 x6
 have h7 : ((((((((w.setCell ⟨b, 0, none⟩ x0).setCell ⟨b, 1, none⟩ x1).setCell ⟨b, 2, none⟩ x2).setCell ⟨b, 3, none⟩ x3).setCell ⟨b, 4, none⟩ x4).setCell ⟨b, 5, none⟩ x5).setCell ⟨b, 6, none⟩ x6).setCell ⟨b, 7, none⟩ x7).heap[b]? = some (.cells #[x0, x1, x2, x3, x4, x5, x6, x7] 35 (0, 0)) := heap_setCell_cells h6 7 x7
 exact h7
def lenV : Value -> Nat
 | .slice _ n _ => n
 | _ => 0
set_option maxRecDepth 8000 in
set_option maxHeartbeats 8000000 in
theorem place_rf {g : Nat} {E : L.Env} {A M D : Option Addr} {a m d : Nat} {w : World} {v : Value} {st : L.St} (h : RlAt g E A M D a m d w v st) (hE : EnvOk E) (hl : L.ListOk E st.1) (kd : Int) :
 Calls Tryz.prog 93 #[.pointer (some ⟨g, 0, none⟩), .int .i64 kd] w (RetPl w kd E st.1) := by
 obtain ⟨LA, lc, hv, _, _⟩ := h.list.form
 obtain ⟨n, hn⟩ : ∃ n, n = st.1.length := ⟨_, rfl⟩
 have hn8 : n <= 128 := by rw [hn]; exact hl.1
 obtain ⟨W1, hW1⟩ : ∃ W1, W1 = (w.alloc (.cells zrow35 35)).alloc (.cells (kdRow kd (.slice none 0 0)) 35) := ⟨_, rfl⟩
 have hsz : (w.alloc (.cells zrow35 35)).heap.size = w.heap.size + 1 := by simp
 have E1 : Ext w W1 := by rw [hW1]; exact ((Ext.refl w).alloc _).alloc _
 have H1 : Hid (PlR w kd E st.1 0 (.slice none 0 0) (.slice none 0 0) 0 [] W1) := {
  ext := E1
  res := by rw [hW1]; exact (((Ext.refl (w.alloc _)).alloc _).block _ (by simp)).trans (heap_alloc_new w _)
  blk := by rw [hW1, <- hsz]; exact heap_alloc_new _ _
  plc := OwnL.nil _ _
  img := ⟨rfl, .inl ⟨rfl, rfl⟩⟩ }
 have c3 : W1.cell? ⟨g, 3, none⟩ = _ := (h.ext E1).cell 3
 rw [show (#[.slice A E.objs.length a, .slice M E.mems.length m, .slice D E.libs.length d, v, .int .i64 (st.2.1 : Int), .int .i64 (st.2.2 : Int)] : Array Value)[3]? = some v from rfl, hv, <- hn] at c3
 have HW1 := Lib.hid hW1
 have HN := Lib.hid hn
 have HV := Lib.hid hv
 have HH := Lib.hid h
 have HE := Lib.hid hE
 have HOK := Lib.hid hl
 clear hn hv h hE hl hW1 hsz E1
 go_enter Tryz.func93, Tryz.ntmps93
 go_upto_region 2 with (fail)
 rw [<- HW1.out]
 go_wp2_with fail
 clear c3
 go_loopw [7, 18] (fun vB i wr => ∃ (k nb : Nat) (vP : Value), i = .int .i64 (k : Int) /\ k <= n /\ nb <= 1048960 /\ Hid (nb = L.fin ((E.sizes st.1).take k) 0 /\ PlR w kd E st.1 k vP vB nb (imgD E st.1 k) wr)) (fun _ i _ => n - (intOf i).toNat)
 case atStart => exact ⟨0, 0, _, rfl, Nat.zero_le _, Nat.zero_le _, rfl, H1.out⟩
 case round =>
  obtain ⟨k, nb, vP, rfl, hk, hnb, HK⟩ := hrel
  obtain ⟨W0, hW0⟩ : ∃ W0, W0 = wr := ⟨_, rfl⟩
  subst hW0
  by_cases hlt : k < n
  ·have hks : k < st.1.length := by rw [<- HN.out]; exact hlt
   have hso : k < (spots E st.1).length := by rw [spots_len]; exact hks
   obtain ⟨bl, ol, cap, SA, sc, SB, sd, hve, hbl, hz1, hz2, hSA, hSB, m0, m1, m2, m3⟩ := own_spot HH.out.list hso
   have hge : (spots E st.1)[k] = (unitAt E st.1[k].1, st.1[k].2) := spots_get E hks
   rw [hge] at hz1 hz2 hSA hSB m0 m1 m2 m3
   simp only at hz1 hz2 hSA hSB m0 m1 m2 m3
   obtain ⟨rfl, hcc⟩ : LA = some ⟨bl, ol, none⟩ /\ lc = cap := by
    have h9 := HV.out.symm.trans hve
    injection h9 with h9 _ h8
    exact ⟨h9, h8⟩
   obtain ⟨c, hc⟩ := Option.isSome_iff_exists.1 (HOK.out.2.2 _ (List.getElem_mem hks)).2
   have hpu : st.1[k].1 < E.units.length := (HOK.out.2.2 _ (List.getElem_mem hks)).1
   have hX0 := HK.out.2.ext
   have hgw := HH.out.lt
   have HSEC := Lib.hid (fun W (hW : Ext w W) => section_rf E HE.out st.1[k] c hc W (fun i => i < g) (fun i hi => Nat.lt_of_lt_of_le (Nat.lt_trans hi hgw) hW.size) SA SB sc sd (hSA.keep (fun _ h => h) fun i hi => hW.block i (Nat.lt_trans hi hgw)) (hSB.keep (fun _ h => h) fun i hi => hW.block i (Nat.lt_trans hi hgw)) (unitAt E st.1[k].1).1 hz2)
   have hpl := places_get (E := E) hks (by rw [places_len]; exact hks)
   rw [L.sec_is hc, unitAt_name] at hpl
   have hpt : (E.places st.1).take (k + 1) = (E.places st.1).take k ++ [(E.places st.1)[k]'(by rw [places_len]; exact hks)] := List.take_succ_eq_append_getElem _
   rw [hpl] at hpt
   have hsl : (E.sizes st.1).length = st.1.length := by unfold L.Env.sizes; simp
   have hfs := fin_take_succ (l := E.sizes st.1) (i := k) (by rw [hsl]; exact hks)
   rw [sizes_get hks (by rw [hsl]; exact hks), L.sec_is hc, <- HK.out.1] at hfs
   have hdt : E.data st.1[k] = c.2.1.data.toList := by unfold L.Env.data; rw [L.sec_is hc]
   have his := imgD_succ E hks
   rw [<- HK.out.1, hdt] at his
   rw [<- HK.out.1] at hpt
   have hfa := fin_all HE.out HOK.out (k + 1)
   obtain ⟨ck, cd, cr⟩ := c
   simp only at hfs his hpt
   obtain ⟨ua, hua⟩ : ∃ ua, ua = L.up nb := ⟨_, rfl⟩
   rw [<- hua] at hfs his hpt
   have hup : nb <= ua /\ ua <= nb + 3 /\ ua % 4 = 0 := by rw [hua]; unfold L.up; omega
   obtain ⟨px, hpx⟩ : ∃ px, px = st.1[k].2 := ⟨_, rfl⟩
   rw [<- hpx] at HSEC m3 hpt
   generalize (unitAt E st.1[k].1).2.1.length = tl at HSEC m1
   generalize (unitAt E st.1[k].1).2.2.length = ul at HSEC m2
   generalize (unitAt E st.1[k].1).1 = nm at HSEC m0 hpt
   replace m0 := hX0.keepc m0
   replace m1 := hX0.keepc m1
   replace m2 := hX0.keepc m2
   replace m3 := hX0.keepc m3
   obtain ⟨W2, hW2⟩ : ∃ W2, W2 = W0.alloc (.cells (spotV nm SA tl sc SB ul sd px) 123) := ⟨_, rfl⟩
   obtain ⟨eb, heb⟩ : ∃ eb, eb = W0.heap.size := ⟨_, rfl⟩
   have E2 : Ext W0 W2 := by rw [hW2]; exact (Ext.refl W0).alloc _
   have hb2 : W2.heap[eb]? = some (.cells (spotV nm SA tl sc SB ul sd px) 123 (0, 0)) := by rw [hW2, heb]; exact heap_alloc_new W0 _
   obtain ⟨BA, bc, hvb⟩ := ownsRow_form HK.out.2.img
   subst hvb
   have HI0 : Hid (nb = nb + 0 /\ PlR w kd E st.1 k vP (.slice BA nb bc) nb (imgD E st.1 k ++ List.replicate 0 0) W2 /\ W2.heap[eb]? = some (.cells (spotV nm SA tl sc SB ul sd px) 123 (0, 0))) := ⟨rfl, by rw [List.replicate_zero, List.append_nil]; exact HK.out.2.ext' E2, hb2⟩
   have HEB := Lib.hid heb
   have HFS := Lib.hid hfs
   have HIS := Lib.hid his
   have HPT := Lib.hid hpt
   have hfs2 : ua + cd.size <= 1048960 := by rw [<- hfs]; omega
   have hebw : w.heap.size + 2 <= eb := by rw [heb]; have := (hltA HK.out.2.blk); omega
   clear hso hve hbl hz1 hz2 hSA hSB hge hcc hc hpu hX0 hgw hpl hpt hsl hfs hdt his hfa hua hpx heb E2 hb2 HK
   go_upto_region 6 with (fail)
   rw [<- hW2, <- HEB.out]
   clear hW2 m0 m1 m2 m3
   go_loopw [7] (fun v7 wx => ∃ (t nn : Nat) (BA' : Option Addr) (bc' : Nat), v7 = .slice BA' nn bc' /\ nb <= nn /\ nn <= ua /\ Hid (nn = nb + t /\ PlR w kd E st.1 k vP (.slice BA' nn bc') nn (imgD E st.1 k ++ List.replicate t 0) wx /\ wx.heap[eb]? = some (.cells (spotV nm SA tl sc SB ul sd px) 123 (0, 0)))) (fun v7 _ => ua - lenV v7)
   case atStart => exact ⟨0, nb, BA, bc, rfl, Nat.le_refl _, hup.1, HI0.out⟩
   case round =>
    obtain ⟨t, nn, BA', bc', rfl, hn1, hn2, HT⟩ := hrel
    obtain ⟨V0, hV0⟩ : ∃ V0, V0 = wr := ⟨_, rfl⟩
    subst hV0
    by_cases h4 : nn % 4 = 0
    ·have hnu : nn = ua := by omega
     have ht1 : (nn : Int) % 4 = 0 := by omega
     have ht2 : Int.tmod (nn : Int) 4 = 0 := by rw [Int.tmod_eq_emod_of_nonneg (by omega)]; exact ht1
     subst hnu
     obtain ⟨hnt, hPT, hrow⟩ := HT.out
     obtain ⟨PA, pc, hvp⟩ := hPT.plc.2.form
     subst hvp
     have HNT := Lib.hid hnt
     have HP0 := Lib.hid hPT
     have e0 : V0.cell? ⟨eb, 0, none⟩ = _ := cell_of_row V0 eb 0 _ _ _ hrow
     have e1 : V0.cell? ⟨eb, 1, none⟩ = _ := cell_of_row V0 eb 1 _ _ _ hrow
     have e2 : V0.cell? ⟨eb, 2, none⟩ = _ := cell_of_row V0 eb 2 _ _ _ hrow
     have e3 : V0.cell? ⟨eb, 3, none⟩ = _ := cell_of_row V0 eb 3 _ _ _ hrow
     have HROW := Lib.hid hrow
     clear hnt hPT hrow HT h4
     go_wp2_with fail
     refine (HSEC.out _ HP0.out.ext).mono ?_
     rintro e w5 ⟨d5, RA, rc, hRA, rfl⟩
     simp only
     obtain ⟨rn, hrn⟩ : ∃ rn, rn = cr.length := ⟨_, rfl⟩
     rw [<- hrn]
     obtain ⟨W5, hW5⟩ : ∃ W5, W5 = w5.alloc (.cells #[.int .i64 ck, .string cd, .slice RA rn rc] 67) := ⟨_, rfl⟩
     obtain ⟨db, hdb⟩ : ∃ db, db = w5.heap.size := ⟨_, rfl⟩
     have E5 : Ext V0 W5 := by rw [hW5]; exact d5.alloc _
     have hb5 : W5.heap[db]? = some (.cells #[.int .i64 ck, .string cd, .slice RA rn rc] 67 (0, 0)) := by rw [hW5, hdb]; exact heap_alloc_new w5 _
     have hdl : V0.heap.size <= db := by rw [hdb]; exact d5.size
     have hP5 := HP0.out.ext' E5
     have b3 : W5.cell? ⟨w.heap.size + 1, 3, none⟩ = _ := cell_of_row W5 _ 3 _ _ _ hP5.blk
     have x0 := E5.keepc e0
     have x3 := E5.keepc e3
     have y0 : W5.cell? ⟨db, 0, none⟩ = _ := cell_of_row W5 db 0 _ _ _ hb5
     have y1 : W5.cell? ⟨db, 1, none⟩ = _ := cell_of_row W5 db 1 _ _ _ hb5
     obtain ⟨el, hel⟩ : ∃ el : L.Plc, el = (nm, px, ck, (nn : Int), (cd.size : Int)) := ⟨_, rfl⟩
     have E6 : Ext W5 (W5.alloc (.cells #[.string nm, .string px, .int .i64 ck, .int .i64 (nn : Int), .int .i64 (cd.size : Int)] 49)) := (Ext.refl W5).alloc _
     have hP6 := hP5.ext' E6
     have hown6 := hP6.plc
     have hs6 : ∀ j v, (plcC el)[j]? = some v -> (W5.alloc (.cells #[.string nm, .string px, .int .i64 ck, .int .i64 (nn : Int), .int .i64 (cd.size : Int)] 49)).cell? ⟨W5.heap.size, j, none⟩ = some v := by rw [hel]; exact new_cells W5 (plcC (nm, px, ck, (nn : Int), (cd.size : Int))) 49 _ rfl
     have hbase6 : w.heap.size + 2 <= (W5.alloc (.cells #[.string nm, .string px, .int .i64 ck, .int .i64 (nn : Int), .int .i64 (cd.size : Int)] 49)).heap.size := (hltA hP6.blk)
     have HP6 := Lib.hid hP6
     have HPT2 : Hid ((E.places st.1).take (k + 1) = (E.places st.1).take k ++ [el]) := by rw [hel]; exact HPT.out
     obtain ⟨i9, hi9, hz9, hz91, hz92⟩ := info_parts info49
     have HY1 := Lib.hid (E6.keepc y1)
     have HDB := Lib.hid hdb
     have HDL := Lib.hid hdl
     clear hrn hRA d5 hb5 hdb hdl hel hP5 hP6 E5 E6 e0 e1 e2 e3 ht1 ht2
     go_upto_region 9 with (fail)
     rw [<- hW5, <- HDB.out]
     clear hW5
     go_upto_region 10 with (at_builtin; refine wpList_append_one rfl (.tmp 32) (.tmp 46) 29 rfl Tryz.underlying29 hi9 hz9 hz91 hz92 rfl (by decide) (by decide) rfl hown6 el rfl rfl hs6 (plcC_one el) (by omega) hbase6 ?_; intro v7 w7 hown7 hg7 hv7; obtain ⟨A7, c7, rfl⟩ := hown7.form; rw [<- HPT2.out] at hown7; obtain ⟨hP7, q7, qf⟩ := HP6.out.placed hown7 hg7)
     have hdn : (Value.slice PA k pc).ownBlock ≠ some db := fun e => by
      have h1 := (HP0.out.plc.lt e).2
      have h2 := HDL.out
      omega
     have hdt : db ≠ w.heap.size + 1 := by
      have h1 := (hltA HP0.out.blk)
      have h2 := HDL.out
      omega
     have hT7 : Tch (fun i => (Value.slice PA k pc).ownBlock = some i) (W5.alloc (.cells #[.string nm, .string px, .int .i64 ck, .int .i64 (nn : Int), .int .i64 (cd.size : Int)] 49)) w7 := ⟨hg7.os, hg7.tape, hg7.output, hg7.size, fun i hi hx => hg7.block i hi fun e => hx e.symm⟩
     have z1 := (grown_tch (grownBy_setCell w7 ⟨w.heap.size + 1, 3, none⟩ (Value.slice A7 (k + 1) c7))).keepc (hT7.keepc HY1.out hdn) hdt
     have him7 := hP7.img
     have hbase7 : w.heap.size + 2 <= (w7.setCell ⟨w.heap.size + 1, 3, none⟩ (Value.slice A7 (k + 1) c7)).heap.size := (hltA hP7.blk)
     have HP7 := Lib.hid hP7
     obtain ⟨i5, hi5, hz5, hs5, hb5⟩ := info_parts info5
     clear hown7 hg7 hv7 hP7 q7 qf hdn hdt hT7 hown6 hs6 hbase6 b3 x0 x3 y0 y1 hi9 hz9 hz91 hz92
     go_wp2_with (at_builtin; refine Lib.wpList_append_own_string _ rfl (.tmp 49) (.tmp 51) 80 9 rfl (w.heap.size + 2) 5 i5 Tryz.underlying80 Tryz.underlying9 hi5 hz5 hs5 hb5 (.slice BA' nn bc') nn _ rfl him7 cd rfl (by unfold maxLen; omega) (by omega) hbase7 ?_; intro v8 w8 hr8 hg8 _; obtain ⟨A8, c8, rfl⟩ := ownsRow_form hr8)
     rw [strCells_byV, <- byV_append] at hr8
     have hP8 := HP7.out.more hr8 hg8
     have hbs : imgD E st.1 k ++ List.replicate t 0 ++ cd.data.toList = imgD E st.1 (k + 1) := by
      rw [HIS.out, List.append_assoc, show nn - nb = t by have := HNT.out; omega]
     rw [hbs] at hP8
     have HNX : Hid (nn + cd.size = L.fin ((E.sizes st.1).take (k + 1)) 0 /\ PlR w kd E st.1 (k + 1) (Value.slice A7 (k + 1) c7) (Value.slice A8 (nn + cd.size) c8) (nn + cd.size) (imgD E st.1 (k + 1)) w8) := ⟨HFS.out.symm, hP8⟩
     clear hr8 hg8 hP8 hbs him7 hbase7 z1
     go_wp2_with fail
     exact ⟨⟨k + 1, nn + cd.size, _, by go_num, by omega, hfs2, HNX⟩, by simp [intOf]; omega⟩
    ·obtain ⟨rr, hrr⟩ : ∃ rr : Nat, rr = nn % 4 := ⟨_, rfl⟩
     have ht1 : (nn : Int) % 4 = (rr : Int) := by omega
     have ht2 : Int.tmod (nn : Int) 4 = (rr : Int) := by rw [Int.tmod_eq_emod_of_nonneg (by omega)]; exact ht1
     have ht3 : ((rr : Int) == 0) = false := by simp; omega
     have hnu : nn + 1 <= ua := by omega
     have ht4 : ((rr : Int) != 0) = true := by simp; omega
     have hE1 : Ext V0 (V0.alloc (.cells #[.int .u8 0] 5)) := (Ext.refl V0).alloc _
     have hP1 := HT.out.2.1.ext' hE1
     have him1 := hP1.img
     have heb1 := (hE1.block _ (hltA HT.out.2.2)).trans HT.out.2.2
     have hnews : ∀ j u, ([.int .u8 0] : List Value)[j]? = some u -> (V0.alloc (.cells #[.int .u8 0] 5)).cell? ((⟨V0.heap.size, 0, none⟩ : Addr).add j) = some u := by
      intro j u hj
      rw [Addr.add_lit, Nat.zero_add]
      exact new_cells V0 [.int .u8 0] 5 _ rfl j u hj
     have hone : ∀ u ∈ ([.int .u8 0] : List Value), u.oneCell' = true := by intro u hu; rw [List.mem_singleton.1 hu]; rfl
     have hbase : w.heap.size + 2 <= (V0.alloc (.cells #[.int .u8 0] 5)).heap.size := (hltA hP1.blk)
     have HP1 := Lib.hid hP1
     have HEB1 := Lib.hid heb1
     have HTN := Lib.hid HT.out.1
     obtain ⟨i9, hi9, hz9, hz91, hz92⟩ := info_parts info5
     clear hrr h4 HT hP1 heb1 hE1
     go_wp2_with (at_builtin; refine wpList_append_own _ rfl (.tmp 26) (.tmp 27) 80 rfl (w.heap.size + 2) 5 i9 (.int .u8 0) 1 1 Tryz.underlying80 hi9 hz9 hz91 hz92 rfl (by decide) (.slice BA' nn bc') nn _ rfl him1 ⟨V0.heap.size, 0, none⟩ 1 1 [.int .u8 0] rfl rfl hnews hone (by unfold maxLen; omega) (by omega) hbase ?_; intro v3 w3 hr3 hg3 _; obtain ⟨A3, c3, rfl⟩ := ownsRow_form hr3)
     rw [byV_snoc0] at hr3
     have hne : (Value.slice BA' nn bc').ownBlock ≠ some eb := fun e => by
      obtain ⟨c, fz, h2⟩ := Lib.ownsRow_kind him1 eb e
      rw [HEB1.out] at h2
      injection h2 with h2
      injection h2 with _ h3 _
      exact absurd h3 (by decide)
     have HNX : Hid (nn + 1 = nb + (t + 1) /\ PlR w kd E st.1 k vP (.slice A3 (nn + 1) c3) (nn + 1) (imgD E st.1 k ++ List.replicate (t + 1) 0) w3 /\ w3.heap[eb]? = some (.cells (spotV nm SA tl sc SB ul sd px) 123 (0, 0))) :=
      ⟨by have := HTN.out; omega, HP1.out.more hr3 hg3, (hg3.block eb (hltA HEB1.out) fun e => hne e.symm).trans HEB1.out⟩
     clear hne hr3 hg3 him1 hnews hone hbase
     go_wp2_with fail
     go_roundw
     case rel => exact ⟨t + 1, nn + 1, A3, c3, rfl, by omega, hnu, HNX⟩
     case measure => show ua - (nn + 1) < ua - nn; omega
  ·obtain rfl : k = n := by omega
   have hfull : (E.sizes st.1).take k = E.sizes st.1 := List.take_of_length_le (by unfold L.Env.sizes; rw [List.length_map, HN.out]; exact Nat.le_refl _)
   have hpf : (E.places st.1).take k = E.places st.1 := List.take_of_length_le (by rw [places_len, HN.out]; exact Nat.le_refl _)
   obtain ⟨PA, pc, hvp⟩ := HK.out.2.plc.2.form
   obtain ⟨BA, bc, hvb⟩ := ownsRow_form HK.out.2.img
   have hb := HK.out.2.blk
   have hr := HK.out.2.res
   subst hvp hvb
   have b0 : W0.cell? ⟨w.heap.size + 1, 0, none⟩ = _ := cell_of_row W0 _ 0 _ _ _ hb
   have b1 : W0.cell? ⟨w.heap.size + 1, 1, none⟩ = _ := cell_of_row W0 _ 1 _ _ _ hb
   have b2 : W0.cell? ⟨w.heap.size + 1, 2, none⟩ = _ := cell_of_row W0 _ 2 _ _ _ hb
   have b3 : W0.cell? ⟨w.heap.size + 1, 3, none⟩ = _ := cell_of_row W0 _ 3 _ _ _ hb
   have b4 : W0.cell? ⟨w.heap.size + 1, 4, none⟩ = _ := cell_of_row W0 _ 4 _ _ _ hb
   have b5 : W0.cell? ⟨w.heap.size + 1, 5, none⟩ = _ := cell_of_row W0 _ 5 _ _ _ hb
   have b6 : W0.cell? ⟨w.heap.size + 1, 6, none⟩ = _ := cell_of_row W0 _ 6 _ _ _ hb
   have b7 : W0.cell? ⟨w.heap.size + 1, 7, none⟩ = _ := cell_of_row W0 _ 7 _ _ _ hb
   obtain ⟨⟨r0, r1, r2, r3, r4, r5, r6, r7⟩, f0, f1, f2, f3, f4, f5, f6, f7⟩ := zcells hr
   have HB := Lib.hid HK.out
   have HR := Lib.hid hr
   have HF : Hid ((E.sizes st.1).take k = E.sizes st.1 /\ (E.places st.1).take k = E.places st.1) := ⟨hfull, hpf⟩
   clear hfull hpf hb hr HK hk
   go_wp2_with fail
   have hT := bput_tch W0 w.heap.size (.int .i64 kd) (.int .i64 0) (.string ⟨#[]⟩) (.slice PA k pc) (.slice none 0 0) (.slice none 0 0) (.slice none 0 0) (.slice none 0 0)
   obtain ⟨hnb, hP⟩ := HB.out
   rw [HF.out.1] at hnb
   refine bodyPost_ret (results_one rfl _ _ w.heap.size 35 _ (0, 0) _ rfl (bput_row HR.out _ _ _ _ _ _ _ _) Tryz.underlying35 rfl size35) rfl ?_
   have hpl := hP.plc
   have him := hP.img
   rw [HF.out.2] at hpl
   refine ⟨((hP.ext.tch fun _ => False).trans' hT fun i hi e => absurd hi (by omega)).ext fun _ _ h => h, PA, pc, BA, bc, by rw [<- HN.out, <- hnb]; rfl, ?_, ?_⟩
   ·rw [<- HN.out]
    exact hpl.tch hT fun b hb e => by have := (hpl.lt hb).1; omega
   ·rw [<- hnb, <- HN.out]
    exact ownsRow_tch him hT fun b hb e => by have := (him.lt b hb).1; omega
end Go.Proofs.YtfbhchpbflaphaaGreatDoor

namespace Go.Proofs.YtfbhchpbflaphaaGreatDoor
open Go.RowKit
def imgL : List C.Bs -> Nat -> C.Bs
 | [], _ => []
 | c :: cs, e => List.replicate (L.up e - e) 0 ++ (c ++ imgL cs (L.up e + c.length))
def offL : List C.Bs -> Nat -> Nat -> Nat
 | [], _, _ => 0
 | _ :: _, e, 0 => L.up e - e
 | c :: cs, e, k + 1 => L.up e - e + (c.length + offL cs (L.up e + c.length) k)
theorem imgF_imgL (f : L.Spot -> C.Bs) : ∀ (l : List L.Spot) (e : Nat), L.imgF f l e = imgL (l.map f) e
 | [], _ => rfl
 | p :: l, e => by
  show List.replicate (L.up e - e) 0 ++ (f p ++ L.imgF f l (L.up e + (f p).length)) = List.replicate (L.up e - e) 0 ++ (f p ++ imgL (l.map f) (L.up e + (f p).length))
  rw [imgF_imgL f l]
theorem up_ge (e : Nat) : e <= L.up e := by unfold L.up; omega
theorem offL_at : ∀ (cs : List C.Bs) (e k : Nat), k < cs.length -> offL cs e k + e = L.up (L.fin ((cs.map List.length).take k) e)
 | c :: cs, e, 0, _ => by
  have := up_ge e
  show L.up e - e + e = L.up e
  omega
 | c :: cs, e, k + 1, h => by
  have ih := offL_at cs (L.up e + c.length) k (by simpa using h)
  have := up_ge e
  show L.up e - e + (c.length + offL cs (L.up e + c.length) k) + e = L.up (L.fin ((cs.map List.length).take k) (L.up e + c.length))
  omega
theorem putAt_right (X Y v : C.Bs) (i : Nat) : L.putAt (X ++ Y) (X.length + i) v = X ++ L.putAt Y i v := by
 unfold L.putAt
 rw [List.take_append, List.take_of_length_le (by omega), Nat.add_sub_cancel_left, List.append_assoc]
 congr 2
 congr 1
 rw [List.drop_append, List.drop_eq_nil_of_le (by omega), List.nil_append]
 congr 1
 omega
theorem putAt_left (X Y v : C.Bs) (i : Nat) (h : i + v.length <= X.length) : L.putAt (X ++ Y) i v = L.putAt X i v ++ Y := by
 unfold L.putAt
 rw [List.take_append_of_le_length (by omega), List.drop_append_of_le_length (by omega)]
 simp
theorem imgL_put : ∀ (cs : List C.Bs) (e k : Nat) (h : k < cs.length) (o : Nat) (v : C.Bs), o + v.length <= cs[k].length -> L.putAt (imgL cs e) (offL cs e k + o) v = imgL (cs.set k (L.putAt cs[k] o v)) e
 | c :: cs, e, 0, _, o, v, ho => by
  have ho : o + v.length <= c.length := ho
  have h1 := putAt_right (List.replicate (L.up e - e) 0) (c ++ imgL cs (L.up e + c.length)) v o
  rw [List.length_replicate] at h1
  show L.putAt (List.replicate (L.up e - e) 0 ++ (c ++ imgL cs (L.up e + c.length))) (L.up e - e + o) v = List.replicate (L.up e - e) 0 ++ (L.putAt c o v ++ imgL cs (L.up e + (L.putAt c o v).length))
  rw [h1, putAt_left _ _ _ _ ho, L.putAt_len ho]
 | c :: cs, e, k + 1, h, o, v, ho => by
  have hk : k < cs.length := by simpa using h
  have ih := imgL_put cs (L.up e + c.length) k hk o v ho
  have h1 := putAt_right (List.replicate (L.up e - e) 0 ++ c) (imgL cs (L.up e + c.length)) v (offL cs (L.up e + c.length) k + o)
  rw [List.length_append, List.length_replicate, List.append_assoc, List.append_assoc, ih] at h1
  show L.putAt (List.replicate (L.up e - e) 0 ++ (c ++ imgL cs (L.up e + c.length))) (L.up e - e + (c.length + offL cs (L.up e + c.length) k) + o) v = List.replicate (L.up e - e) 0 ++ (c ++ imgL (cs.set k (L.putAt cs[k] o v)) (L.up e + c.length))
  rw [<- h1]
  congr 1
  omega
def mixC (E : L.Env) (l : List L.Spot) (kk : Nat) (rs : List C.Rel) : List C.Bs := ((l.take kk).map (E.chunk l)) ++ (match l[kk]? with | some p => L.patch E l p.1 rs (E.data p) :: (l.drop (kk + 1)).map (fun p => E.data p) | none => [])
theorem mixC_start (E : L.Env) (l : List L.Spot) : imgL (mixC E l 0 []) 0 = imgD E l l.length := by
 unfold imgD
 rw [List.take_length, imgF_imgL]
 congr 1
 unfold mixC
 rw [List.take_zero, List.map_nil, List.nil_append]
 cases l with
 | nil => rfl
 | cons p l => rfl
theorem mixC_done {E : L.Env} {l : List L.Spot} {kk : Nat} (hk : kk < l.length) : mixC E l kk (E.rels l[kk]) = mixC E l (kk + 1) [] := by
 unfold mixC
 rw [List.getElem?_eq_getElem hk, List.take_succ_eq_append_getElem hk, List.map_append, List.append_assoc]
 congr 1
 show E.chunk l l[kk] :: (l.drop (kk + 1)).map (fun p => E.data p) = E.chunk l l[kk] :: (match l[kk + 1]? with | some p => L.patch E l p.1 [] (E.data p) :: (l.drop (kk + 1 + 1)).map (fun p => E.data p) | none => [])
 congr 1
 by_cases h : kk + 1 < l.length
 ·rw [List.drop_eq_getElem_cons h, List.getElem?_eq_getElem h]
  rfl
 ·rw [List.drop_eq_nil_of_le (by omega), List.getElem?_eq_none (by omega)]
  rfl
theorem mixC_end (E : L.Env) (l : List L.Spot) : imgL (mixC E l l.length []) 0 = E.img l := by
 unfold L.Env.img
 rw [imgF_imgL]
 congr 1
 unfold mixC
 rw [List.take_length, List.getElem?_eq_none (Nat.le_refl _), List.append_nil]
theorem mixC_len {E : L.Env} {l : List L.Spot} {kk : Nat} (hk : kk < l.length) (rs : List C.Rel) : kk < (mixC E l kk rs).length := by
 unfold mixC
 rw [List.length_append, List.length_map, List.length_take, List.getElem?_eq_getElem hk]
 simp
 omega
theorem mixC_get {E : L.Env} {l : List L.Spot} {kk : Nat} (hk : kk < l.length) (rs : List C.Rel) : (mixC E l kk rs)[kk]'(mixC_len hk rs) = L.patch E l l[kk].1 rs (E.data l[kk]) := by
 have h : (mixC E l kk rs)[kk]? = some (L.patch E l l[kk].1 rs (E.data l[kk])) := by
  unfold mixC
  rw [List.getElem?_eq_getElem hk, List.getElem?_append_right (by rw [List.length_map, List.length_take]; omega), List.length_map, List.length_take, Nat.min_eq_left (by omega), Nat.sub_self]
  rfl
 rw [List.getElem?_eq_getElem (mixC_len hk rs)] at h
 exact Option.some.inj h
theorem mixC_set {E : L.Env} {l : List L.Spot} {kk : Nat} (hk : kk < l.length) (rs rs' : List C.Rel) : (mixC E l kk rs).set kk (L.patch E l l[kk].1 rs' (E.data l[kk])) = mixC E l kk rs' := by
 unfold mixC
 rw [List.getElem?_eq_getElem hk, List.set_append_right _ _ (by rw [List.length_map, List.length_take]; omega), List.length_map, List.length_take, Nat.min_eq_left (by omega), Nat.sub_self]
 rfl
end Go.Proofs.YtfbhchpbflaphaaGreatDoor

namespace Go.Proofs.YtfbhchpbflaphaaGreatDoor
open Go.RowKit
theorem data_len (E : L.Env) (p : L.Spot) : (E.data p).length = (E.sec p).2.1.size := Array.length_toList ..
theorem mixC_sizes {E : L.Env} (hU : L.UnitsOk okN E) {l : List L.Spot} (hl : ∀ p ∈ l, (E.sec? p).isSome = true) {kk : Nat} (hk : kk < l.length) (rs : List C.Rel) (hrs : ∀ r ∈ rs, r ∈ E.rels l[kk]) : (mixC E l kk rs).map List.length = E.sizes l := by
 have h1 : (E.sizes l) = (E.sizes (l.take kk)) ++ ((E.sec l[kk]).2.1.size :: E.sizes (l.drop (kk + 1))) := by
  have h2 : l = l.take kk ++ (l[kk] :: l.drop (kk + 1)) := by rw [<- List.drop_eq_getElem_cons hk, List.take_append_drop]
  unfold L.Env.sizes
  rw [<- List.map_cons (f := fun p : L.Spot => (E.sec p).2.1.size), <- List.map_append, <- h2]
 rw [h1]
 unfold mixC
 rw [List.getElem?_eq_getElem hk, List.map_append, List.map_map]
 congr 1
 ·unfold L.Env.sizes
  exact List.map_congr_left fun p hp => L.chunk_len hU l (hl p (List.mem_of_mem_take hp))
 ·show (L.patch E l l[kk].1 rs (E.data l[kk])).length :: ((l.drop (kk + 1)).map fun p => E.data p).map List.length = _
  rw [L.patch_len E l l[kk].1 rs _ fun r hr => (L.rel_ok hU (hl _ (List.getElem_mem hk)) (hrs r hr)).2, data_len, List.map_map]
  congr 1
section
variable {E : L.Env} (hU : L.UnitsOk okN E) {l : List L.Spot} (hl : ∀ p ∈ l, (E.sec? p).isSome = true) {kk j : Nat} (hk : kk < l.length) (hj : j < (E.rels l[kk]).length)
include hU hl
theorem mix_put {p : L.Spot} (ha : L.aim E l[kk].1 (E.rels l[kk])[j].2 = .spot p) : L.putAt (imgL (mixC E l kk ((E.rels l[kk]).take j)) 0) (L.up (L.fin ((E.sizes l).take kk) 0) + (E.rels l[kk])[j].1.toNat) (L.word (E.at l p)) = imgL (mixC E l kk ((E.rels l[kk]).take (j + 1))) 0 := by
 have hs := mixC_sizes hU hl hk ((E.rels l[kk]).take j) fun r hr => List.mem_of_mem_take hr
 have ho := offL_at (mixC E l kk ((E.rels l[kk]).take j)) 0 kk (mixC_len hk _)
 rw [hs, Nat.add_zero] at ho
 have hrel := L.rel_ok hU (hl _ (List.getElem_mem hk)) (List.getElem_mem hj)
 have hlen : (L.patch E l l[kk].1 ((E.rels l[kk]).take j) (E.data l[kk])).length = (E.data l[kk]).length := L.patch_len E l l[kk].1 _ _ fun r hr => (L.rel_ok hU (hl _ (List.getElem_mem hk)) (List.mem_of_mem_take hr)).2
 have hw : (L.word (E.at l p)).length = 4 := rfl
 have h1 := imgL_put (mixC E l kk ((E.rels l[kk]).take j)) 0 kk (mixC_len hk _) (E.rels l[kk])[j].1.toNat (L.word (E.at l p)) (by rw [mixC_get hk, hlen, hw]; omega)
 rw [<- ho, h1, mixC_get hk, List.take_succ_eq_append_getElem hj]
 have h2 := L.patch_snoc E l l[kk].1 (E.rels l[kk])[j] ((E.rels l[kk]).take j) (E.data l[kk])
 rw [ha] at h2
 rw [<- mixC_set hk ((E.rels l[kk]).take j) ((E.rels l[kk]).take j ++ [(E.rels l[kk])[j]]), h2]
omit hU hl in
theorem mix_lib {q : Nat} (ha : L.aim E l[kk].1 (E.rels l[kk])[j].2 = .lib q) : imgL (mixC E l kk ((E.rels l[kk]).take (j + 1))) 0 = imgL (mixC E l kk ((E.rels l[kk]).take j)) 0 := by
 rw [List.take_succ_eq_append_getElem hj]
 have h2 := L.patch_snoc E l l[kk].1 (E.rels l[kk])[j] ((E.rels l[kk]).take j) (E.data l[kk])
 rw [ha] at h2
 rw [<- mixC_set hk ((E.rels l[kk]).take j) ((E.rels l[kk]).take j ++ [(E.rels l[kk])[j]]), h2, mixC_set hk]
end
end Go.Proofs.YtfbhchpbflaphaaGreatDoor

namespace Go.Proofs.YtfbhchpbflaphaaGreatDoor
open Go.RowKit Go.Maps Go.ChangeMaps
theorem ownsRow_cells {base g n cap : Nat} : ∀ {d bs : C.Bs} {i : Nat} {w : World}, w.ownsRow base 5 1 (.slice (some ⟨g, 0, none⟩) n cap) n (byV bs) -> i + d.length <= bs.length -> (w.setCells g i (byV d)).ownsRow base 5 1 (.slice (some ⟨g, 0, none⟩) n cap) n (byV (L.putAt bs i d)) /\ Tch (fun k => k = g) w (w.setCells g i (byV d))
 | [], bs, i, w, h, _ => by
  have : L.putAt bs i [] = bs := by unfold L.putAt; simp
  rw [this]
  exact ⟨h, Tch.refl _ _⟩
 | b :: d, bs, i, w, h, hl => by
  rw [List.length_cons] at hl
  rw [putAt_cons bs i b d hl]
  obtain ⟨h1, h2⟩ := h.stored i (.int .u8 (b.toNat : Int))
  have h3 : (byV bs).set i (.int .u8 (b.toNat : Int)) = byV (bs.set i b) := by unfold byV; rw [List.map_set]
  rw [h3] at h1
  obtain ⟨h4, h5⟩ := ownsRow_cells (d := d) (i := i + 1) h1 (by rw [List.length_set]; omega)
  exact ⟨h4, (grown_tch h2).trans h5⟩
abbrev fiRow (kd : Int) (vP vF vI : Value) : Array Value := #[.int .i64 kd, .int .i64 0, .string ⟨#[]⟩, vP, vF, vI, .slice none 0 0, .slice none 0 0]
structure FiR (w : World) (g : Nat) (kd : Int) (E : L.Env) (A M D : Option Addr) (a m d : Nat) (v : Value) (st : L.St) (tb base : Nat) (nf ni : Nat) (fx : List Int) (im : List L.Impt) (N : Nat) (bs : C.Bs) (vP vF vI vB : Value) (wr : World) : Prop where
 tch : Tch (fun i => i = g) w wr
 link : RlAt g E A M D a m d wr v st
 res : wr.heap[w.heap.size]? = some (.cells zrow35 35 (0, 0))
 res2 : wr.heap[w.heap.size + 1]? = some (.cells zrow38 38 (0, 0))
 blk : wr.heap[tb]? = some (.cells (fiRow kd vP vF vI) 35 (0, 0))
 plc : OwnL plcC 49 5 wr base vP st.1.length (E.places st.1)
 fix : OwnL intC 3 1 wr base vF nf fx
 imp : OwnL impC 128 3 wr base vI ni im
 img : wr.ownsRow base 5 1 vB N (byV bs)
 low : w.heap.size + 2 <= base /\ w.heap.size + 2 <= tb /\ g < w.heap.size
theorem heap_kinds {w : World} {i j : Nat} {c c' : Array Value} {e e' : TypeId} {f f' : Nat × Nat} (h : w.heap[i]? = some (.cells c e f)) (h' : w.heap[j]? = some (.cells c' e' f')) (he : e ≠ e') : i ≠ j := by
 rintro rfl
 rw [h] at h'
 injection h' with h'
 injection h' with _ h3 _
 exact he h3
section
variable {w wr W : World} {g : Nat} {kd : Int} {E : L.Env} {A M D : Option Addr} {a m d : Nat} {v : Value} {st : L.St} {tb base nf ni : Nat} {fx : List Int} {im : List L.Impt} {N : Nat} {bs : C.Bs} {vP vF vI vB : Value}
theorem FiR.linked (h : FiR w g kd E A M D a m d v st tb base nf ni fx im N bs vP vF vI vB wr) (hT : Tch (fun i => i = g) wr W) (hl : RlAt g E A M D a m d W v st) : FiR w g kd E A M D a m d v st tb base nf ni fx im N bs vP vF vI vB W where
 tch := h.tch.trans hT
 link := hl
 res := (hT.block _ (hltA h.res) (by have := h.low; omega)).trans h.res
 res2 := (hT.block _ (hltA h.res2) (by have := h.low; omega)).trans h.res2
 blk := (hT.block _ (hltA h.blk) (by have := h.low; omega)).trans h.blk
 plc := h.plc.tch hT fun b hb e => by have := (h.plc.lt hb).1; have := h.low; omega
 fix := h.fix.tch hT fun b hb e => by have := (h.fix.lt hb).1; have := h.low; omega
 imp := h.imp.tch hT fun b hb e => by have := (h.imp.lt hb).1; have := h.low; omega
 img := ownsRow_tch h.img hT fun b hb e => by have := (h.img.lt b hb).1; have := h.low; omega
 low := h.low
theorem FiR.ext' (h : FiR w g kd E A M D a m d v st tb base nf ni fx im N bs vP vF vI vB wr) (he : Ext wr W) : FiR w g kd E A M D a m d v st tb base nf ni fx im N bs vP vF vI vB W :=
 h.linked (he.tch _) (h.link.ext he)
theorem FiR.at5 (h : FiR w g kd E A M D a m d v st tb base nf ni fx im N bs vP vF vI vB wr) {k : Nat} (hk : vB.ownBlock = some k) : base <= k /\ k ≠ tb /\ vP.ownBlock ≠ some k /\ vF.ownBlock ≠ some k /\ vI.ownBlock ≠ some k /\ v.ownBlock ≠ some k := by
 obtain ⟨c, fz, h1⟩ := Lib.ownsRow_kind h.img k hk
 obtain ⟨hn, xs, hl, _⟩ := h.link.list
 exact ⟨(h.img.lt k hk).1, heap_kinds h1 h.blk (by decide), fun e => rows_apart h.plc.2 h.img (by decide) e hk, fun e => rows_apart h.fix.2 h.img (by decide) e hk, fun e => rows_apart h.imp.2 h.img (by decide) e hk, fun e => rows_apart hl h.img (by decide) e hk⟩
theorem FiR.patched {ib cap : Nat} (h : FiR w g kd E A M D a m d v st tb base nf ni fx im N bs vP vF vI (.slice (some ⟨ib, 0, none⟩) N cap) wr) {i : Nat} {dd : C.Bs} (hd : i + dd.length <= bs.length) : FiR w g kd E A M D a m d v st tb base nf ni fx im N (L.putAt bs i dd) vP vF vI (.slice (some ⟨ib, 0, none⟩) N cap) (wr.setCells ib i (byV dd)) := by
 obtain ⟨h1, hT⟩ := ownsRow_cells h.img hd
 obtain ⟨k1, k2, k3, k4, k5, k6⟩ := h.at5 (k := ib) rfl
 have hlow := h.low
 exact {
  tch := h.tch.trans' hT fun i hi e => absurd hi (by omega)
  link := h.link.tch hT (fun k hk => by omega) fun k hk e => k6 (by rw [hk, e])
  res := (hT.block _ (hltA h.res) (by omega)).trans h.res
  res2 := (hT.block _ (hltA h.res2) (by omega)).trans h.res2
  blk := (hT.block _ (hltA h.blk) (fun e => k2 e.symm)).trans h.blk
  plc := h.plc.tch hT fun b hb e => k3 (by rw [hb, e])
  fix := h.fix.tch hT fun b hb e => k4 (by rw [hb, e])
  imp := h.imp.tch hT fun b hb e => k5 (by rw [hb, e])
  img := h1
  low := h.low }
theorem ownAts_apart {w : World} {b b' : Nat} {e e' : TypeId} {s s' : Nat} {v v' : Value} {n n' : Nat} {xs xs' : List Value} (h : OwnAt w b e s v n xs) (h' : OwnAt w b' e' s' v' n' xs') (he : e ≠ e') {k : Nat} (hk : v.ownBlock = some k) : v'.ownBlock ≠ some k := by
 intro hk'
 obtain ⟨c, h1⟩ := ownAt_kind h hk
 obtain ⟨c', h2⟩ := ownAt_kind h' hk'
 exact heap_kinds h1 h2 he rfl
theorem FiR.fixed (h : FiR w g kd E A M D a m d v st tb base nf ni fx im N bs vP vF vI vB wr) {vF' : Value} {nf' : Nat} {fx' : List Int} (ho : OwnL intC 3 1 W base vF' nf' fx') (hg : wr.grownBy W vF.ownBlock) :
 FiR w g kd E A M D a m d v st tb base nf' ni fx' im N bs vP vF' vI vB (W.setCell ⟨tb, 4, none⟩ vF') /\ W.cell? ⟨tb, 4, none⟩ = some vF /\ W.frozen? ⟨tb, 4, none⟩ = false := by
 have hT : Tch (fun i => vF.ownBlock = some i) wr W := ⟨hg.os, hg.tape, hg.output, hg.size, fun i hi hx => hg.block i hi fun e => hx e.symm⟩
 have hS : Tch (fun i => i = tb) W (W.setCell ⟨tb, 4, none⟩ vF') := grown_tch (grownBy_setCell W ⟨tb, 4, none⟩ vF')
 have hlow := h.low
 have hbt : vF.ownBlock ≠ some tb := fun e => by
  obtain ⟨c, h1⟩ := ownAt_kind h.fix.2 e
  exact heap_kinds h1 h.blk (by decide) rfl
 obtain ⟨hn, xs, hl, _⟩ := h.link.list
 have b1 := (hT.block _ (hltA h.blk) hbt).trans h.blk
 have b2 := (hT.block _ (hltA h.res) fun e => by have := (h.fix.lt e).1; omega).trans h.res
 have b3 := (hT.block _ (hltA h.res2) fun e => by have := (h.fix.lt e).1; omega).trans h.res2
 have hP := h.plc.tch hT fun b hb e => ownAts_apart h.plc.2 h.fix.2 (by decide) hb e
 have hI := h.imp.tch hT fun b hb e => ownAts_apart h.imp.2 h.fix.2 (by decide) hb e
 have hB := ownsRow_tch h.img hT fun b hb e => rows_apart h.fix.2 h.img (by decide) e hb
 have hL := h.link.tch hT (fun k hk => by have := (h.fix.lt hk).1; omega) fun k hk e => ownAts_apart hl h.fix.2 (by decide) hk e
 obtain ⟨hn2, xs2, hl2, _⟩ := hL.list
 refine ⟨?_, cell_of_row W tb 4 _ _ _ b1, Lib.frozen_of_heap b1 4⟩
 exact {
  tch := (h.tch.trans' hT fun i hi e => absurd hi (by have := (h.fix.lt e).1; omega)).trans' hS fun i hi e => absurd hi (by omega)
  link := hL.tch hS (fun k hk => by omega) fun k hk e => by
   obtain ⟨c, h1⟩ := ownAt_kind hl2 hk
   exact heap_kinds h1 b1 (by decide) e
  res := (hS.block _ (hltA b2) (by omega)).trans b2
  res2 := (hS.block _ (hltA b3) (by omega)).trans b3
  blk := heap_setCell_cells b1 4 vF'
  plc := hP.tch hS fun b hb e => by
   obtain ⟨c, h1⟩ := ownAt_kind hP.2 hb
   exact heap_kinds h1 b1 (by decide) e
  fix := ho.tch hS fun b hb e => by
   obtain ⟨c, h1⟩ := ownAt_kind ho.2 hb
   exact heap_kinds h1 b1 (by decide) e
  imp := hI.tch hS fun b hb e => by
   obtain ⟨c, h1⟩ := ownAt_kind hI.2 hb
   exact heap_kinds h1 b1 (by decide) e
  img := ownsRow_tch hB hS fun b hb e => by
   obtain ⟨c, fz, h1⟩ := Lib.ownsRow_kind hB b hb
   exact heap_kinds h1 b1 (by decide) e
  low := h.low }
theorem FiR.imported (h : FiR w g kd E A M D a m d v st tb base nf ni fx im N bs vP vF vI vB wr) {vI' : Value} {ni' : Nat} {im' : List L.Impt} (ho : OwnL impC 128 3 W base vI' ni' im') (hg : wr.grownBy W vI.ownBlock) :
 FiR w g kd E A M D a m d v st tb base nf ni' fx im' N bs vP vF vI' vB (W.setCell ⟨tb, 5, none⟩ vI') /\ W.cell? ⟨tb, 5, none⟩ = some vI /\ W.frozen? ⟨tb, 5, none⟩ = false := by
 have hT : Tch (fun i => vI.ownBlock = some i) wr W := ⟨hg.os, hg.tape, hg.output, hg.size, fun i hi hx => hg.block i hi fun e => hx e.symm⟩
 have hS : Tch (fun i => i = tb) W (W.setCell ⟨tb, 5, none⟩ vI') := grown_tch (grownBy_setCell W ⟨tb, 5, none⟩ vI')
 have hlow := h.low
 have hbt : vI.ownBlock ≠ some tb := fun e => by
  obtain ⟨c, h1⟩ := ownAt_kind h.imp.2 e
  exact heap_kinds h1 h.blk (by decide) rfl
 obtain ⟨hn, xs, hl, _⟩ := h.link.list
 have b1 := (hT.block _ (hltA h.blk) hbt).trans h.blk
 have b2 := (hT.block _ (hltA h.res) fun e => by have := (h.imp.lt e).1; omega).trans h.res
 have b3 := (hT.block _ (hltA h.res2) fun e => by have := (h.imp.lt e).1; omega).trans h.res2
 have hP := h.plc.tch hT fun b hb e => ownAts_apart h.plc.2 h.imp.2 (by decide) hb e
 have hI := h.fix.tch hT fun b hb e => ownAts_apart h.fix.2 h.imp.2 (by decide) hb e
 have hB := ownsRow_tch h.img hT fun b hb e => rows_apart h.imp.2 h.img (by decide) e hb
 have hL := h.link.tch hT (fun k hk => by have := (h.imp.lt hk).1; omega) fun k hk e => ownAts_apart hl h.imp.2 (by decide) hk e
 obtain ⟨hn2, xs2, hl2, _⟩ := hL.list
 refine ⟨?_, cell_of_row W tb 5 _ _ _ b1, Lib.frozen_of_heap b1 5⟩
 exact {
  tch := (h.tch.trans' hT fun i hi e => absurd hi (by have := (h.imp.lt e).1; omega)).trans' hS fun i hi e => absurd hi (by omega)
  link := hL.tch hS (fun k hk => by omega) fun k hk e => by
   obtain ⟨c, h1⟩ := ownAt_kind hl2 hk
   exact heap_kinds h1 b1 (by decide) e
  res := (hS.block _ (hltA b2) (by omega)).trans b2
  res2 := (hS.block _ (hltA b3) (by omega)).trans b3
  blk := heap_setCell_cells b1 5 vI'
  plc := hP.tch hS fun b hb e => by
   obtain ⟨c, h1⟩ := ownAt_kind hP.2 hb
   exact heap_kinds h1 b1 (by decide) e
  imp := ho.tch hS fun b hb e => by
   obtain ⟨c, h1⟩ := ownAt_kind ho.2 hb
   exact heap_kinds h1 b1 (by decide) e
  fix := hI.tch hS fun b hb e => by
   obtain ⟨c, h1⟩ := ownAt_kind hI.2 hb
   exact heap_kinds h1 b1 (by decide) e
  img := ownsRow_tch hB hS fun b hb e => by
   obtain ⟨c, fz, h1⟩ := Lib.ownsRow_kind hB b hb
   exact heap_kinds h1 b1 (by decide) e
  low := h.low }
end
theorem size5 : (Tryz.prog.info? 5).map (·.size) = some 1 := by kernel_rfl
theorem copy_word {w : World} {base g n cap : Nat} {bs : C.Bs} {o x wb dl dc : Nat} (h : w.ownsRow base 5 1 (.slice (some ⟨g, 0, none⟩) n cap) n (byV bs)) (ho : o + 4 <= n) (hdl : dl = n - o) (hw : ∀ j u, (byV (L.word x))[j]? = some u -> w.cell? ⟨wb, j, none⟩ = some u) :
 (Builtin.copy_ #[80, 80] 3 #[.slice (some ⟨g, o, none⟩) dl dc, .slice (some ⟨wb, 0, none⟩) 4 4]).run Tryz.prog w = .ok (goInt 4) (w.setCells g o (byV (L.word x))) := by
 have hl : (byV (L.word x)).length = 4 := by rw [byV_length]; rfl
 have hx := h.1
 have h1 := run_copy_cells (P := Tryz.prog) w 80 80 3 5 g o dl dc ⟨wb, 0, none⟩ 4 4 (byV (L.word x)) Tryz.underlying80 size5 (by rw [hl, hdl]; exact (Nat.min_eq_left (by omega)).symm)
  (fun j u hj => by rw [Addr.add_lit, Nat.zero_add]; exact hw j u hj)
  (fun j hj => by
   rw [h.cellAt (o + j) (by omega), List.getElem?_eq_getElem (by omega)]
   rfl)
  (fun j _ => h.frozenAt (o + j))
  (fun u hu => by
   unfold byV at hu
   obtain ⟨b, _, rfl⟩ := List.mem_map.1 hu
   rfl)
 rw [hl] at h1
 exact h1
end Go.Proofs.YtfbhchpbflaphaaGreatDoor

namespace Go.Proofs.YtfbhchpbflaphaaGreatDoor
open Go.RowKit Go.Maps Go.ChangeMaps
theorem pos_lt {l : List L.Spot} {q : L.Spot} (hq : q ∈ l) : L.pos l q < l.length := List.findIdx_lt_length.2 ⟨q, hq, by simp⟩
theorem pos_get {l : List L.Spot} {q : L.Spot} (hq : q ∈ l) : l[L.pos l q]'(pos_lt hq) = q := by
 have h := List.findIdx_getElem (p := fun x => decide (x = q)) (xs := l) (w := pos_lt hq)
 exact of_decide_eq_true h
theorem pos_first {l : List L.Spot} {q : L.Spot} {j : Nat} (hj : j < l.length) (h : j < L.pos l q) : l[j] ≠ q := by
 have h1 := List.not_of_lt_findIdx (p := fun x => decide (x = q)) (xs := l) h
 exact of_decide_eq_false h1
section
variable {E : L.Env}
theorem spot_place (hE : EnvOk E) {l : List L.Spot} (hl : L.ListOk E l) {q : L.Spot} (hq : q ∈ l) : ∃ (k0 : Nat) (h : k0 < (E.places l).length), PlcIs (unitAt E q.1).1 q.2 (E.places l)[k0] /\ (∀ j (_ : j < (E.places l).length), j < k0 -> ¬ PlcIs (unitAt E q.1).1 q.2 (E.places l)[j]) /\ (E.places l)[k0].2.2.2.1 = ((E.at l q : Nat) : Int) := by
 have hk := pos_lt hq
 have hp : L.pos l q < (E.places l).length := by rw [places_len]; exact hk
 refine ⟨L.pos l q, hp, ?_, ?_, ?_⟩
 ·rw [places_get hk hp, pos_get hq]
  exact ⟨by rw [unitAt_name], rfl⟩
 ·intro j hj hjp h
  have hjl : j < l.length := by rw [places_len] at hj; exact hj
  rw [places_get hjl hj] at h
  obtain ⟨h1, h2⟩ := h
  refine pos_first hjl hjp ?_
  rw [L.spot_eq hE.names (hl.2.2 _ (List.getElem_mem hjl)).1 (hl.2.2 _ hq).1, unitAt_name E q.1]
  refine ⟨h1, ?_⟩
  have h3 : l[j].2.data = q.2.data := Array.toList_inj.1 h2
  exact congrArg ByteArray.mk h3
 ·rw [places_get hk hp]
  show ((L.up (L.fin ((E.sizes l).take (L.pos l q)) 0) : Nat) : Int) = _
  have h1 := at_get (E := E) hk
  unfold L.Env.at
  rw [List.getD_eq_getElem?_getD, h1]
  rfl
theorem at_fit {l : List L.Spot} {q : L.Spot} (hq : q ∈ l) : E.at l q <= L.fin (E.sizes l) 0 := by
 have hk := pos_lt hq
 have h1 := at_get (E := E) hk
 have h2 := up_fit (E := E) hk
 unfold L.Env.at
 rw [List.getD_eq_getElem?_getD, h1]
 show L.up (L.fin ((E.sizes l).take (L.pos l q)) 0) <= _
 omega
theorem rel_fit (hE : EnvOk E) {l : List L.Spot} (hl : L.ListOk E l) {kk : Nat} (hk : kk < l.length) {r : C.Rel} (hr : r ∈ E.rels l[kk]) : 0 <= r.1 /\ L.up (L.fin ((E.sizes l).take kk) 0) + r.1.toNat + 4 <= L.fin (E.sizes l) 0 /\ (E.sym (l[kk].1, r.2)).isSome = true := by
 have h1 := L.rel_ok hE.units (hl.2.2 _ (List.getElem_mem hk)).2 hr
 have h2 := up_fit (E := E) hk
 have h3 := data_len E l[kk]
 refine ⟨?_, ?_, h1.1⟩
 ·have := h1.2; omega
 ·have := h1.2; omega
end
theorem conv_nil (w : World) : (convert 80 9 (.slice none 0 0)).run Tryz.prog w = .ok (.string ⟨#[]⟩) w := by kernel_rfl
theorem own_string {w : World} {base n : Nat} {v : Value} {bs : C.Bs} (h : w.ownsRow base 5 1 v n (byV bs)) (hl : bs.length = n) : (convert 80 9 v).run Tryz.prog w = .ok (.string ⟨bs.toArray⟩) w := by
 rcases h.2 with ⟨hv, hx⟩ | ⟨g, cap, cur, hv, _⟩
 ·have hb : bs = [] := by
   rcases bs with _ | ⟨b, bs⟩
   ·rfl
   ·rw [List.length_cons] at hl
    omega
  subst hb
  rw [hv]
  exact conv_nil w
 ·subst hv
  have h1 := run_convert_bytes_back (P := Tryz.prog) w 80 9 5 ⟨g, 0, none⟩ cap bs Tryz.underlying80 Tryz.underlying5 Tryz.underlying9 (fun j hj => by
   rw [Addr.add_lit, Nat.zero_add, h.cellAt j (by omega)]
   simp [byV, hj])
  rw [hl] at h1
  exact h1
structure RfAt (w : World) (rb : Nat) (vT vL : Value) (nt nl : Nat) (lt ll : List ByteArray) (wr : World) : Prop where
 ext : Ext w wr
 low : rb = w.heap.size
 blk : wr.heap[rb]? = some (.cells #[vT, vL] 38 (0, 0))
 o1 : OwnB wr (w.heap.size + 1) vT nt lt
 o2 : OwnB wr (w.heap.size + 1) vL nl ll
 off : ∀ b, vT.ownBlock = some b -> vL.ownBlock ≠ some b
section
variable {w a d W : World} {rb : Nat} {vT vL : Value} {nt nl : Nat} {lt ll : List ByteArray}
theorem RfAt.ext' (h : RfAt w rb vT vL nt nl lt ll a) (he : Ext a W) : RfAt w rb vT vL nt nl lt ll W where
 ext := h.ext.trans he
 low := h.low
 blk := (he.block _ (hltA h.blk)).trans h.blk
 o1 := h.o1.ext he
 o2 := h.o2.ext he
 off := h.off
theorem RfAt.pushed1 (h : RfAt w rb vT vL nt nl lt ll a) {v' : Value} {m : Nat} {l' : List ByteArray} (ho : OwnB d (w.heap.size + 1) v' m l') (hg : a.grownBy d vT.ownBlock)
 (hv : v'.ownBlock = vT.ownBlock ∨ ∃ i, v'.ownBlock = some i /\ a.heap.size <= i /\ i < d.heap.size) :
 RfAt w rb v' vL m nl l' ll (d.setCell ⟨rb, 0, none⟩ v') /\ d.cell? ⟨rb, 0, none⟩ = some vT /\ d.frozen? ⟨rb, 0, none⟩ = false := by
 have hlow := h.low
 have hT : Tch (fun i => vT.ownBlock = some i) a d := ⟨hg.os, hg.tape, hg.output, hg.size, fun i hi hx => hg.block i hi fun e => hx e.symm⟩
 have hl1 := fun b hb => h.o1.lt (k := b) hb
 have hl2 := fun b hb => h.o2.lt (k := b) hb
 have b1 := (hT.block _ (hltA h.blk) fun e => by have := (hl1 _ e).1; omega).trans h.blk
 have hS : Tch (fun i => i = rb) d (d.setCell ⟨rb, 0, none⟩ v') := grown_tch (grownBy_setCell d ⟨rb, 0, none⟩ v')
 refine ⟨?_, cell_of_row d _ 0 _ _ _ b1, Lib.frozen_of_heap b1 0⟩
 exact {
  ext := by
   have h1 : Tch (fun _ => False) w a := h.ext.tch _
   have h2 := h1.trans' hT fun i hi e => absurd hi (by have := (hl1 i e).1; omega)
   exact (h2.trans' hS fun i hi e => absurd hi (by omega)).ext fun _ _ h => h
  low := h.low
  blk := heap_setCell_cells b1 0 _
  o1 := ho.tch hS fun b hb e => by have := (ho.lt hb).1; omega
  o2 := (h.o2.tch hT fun b hb e => h.off b e hb).tch hS fun b hb e => by have := (hl2 b hb).1; omega
  off := by
   intro b hb e
   rcases hv with h1 | ⟨i, h1, h2, _⟩
   ·exact h.off b (h1.symm.trans hb) e
   ·rw [h1] at hb
    cases hb
    have := (hl2 b e).2
    omega }
theorem RfAt.pushed2 (h : RfAt w rb vT vL nt nl lt ll a) {v' : Value} {m : Nat} {l' : List ByteArray} (ho : OwnB d (w.heap.size + 1) v' m l') (hg : a.grownBy d vL.ownBlock)
 (hv : v'.ownBlock = vL.ownBlock ∨ ∃ i, v'.ownBlock = some i /\ a.heap.size <= i /\ i < d.heap.size) :
 RfAt w rb vT v' nt m lt l' (d.setCell ⟨rb, 1, none⟩ v') /\ d.cell? ⟨rb, 1, none⟩ = some vL /\ d.frozen? ⟨rb, 1, none⟩ = false := by
 have hlow := h.low
 have hT : Tch (fun i => vL.ownBlock = some i) a d := ⟨hg.os, hg.tape, hg.output, hg.size, fun i hi hx => hg.block i hi fun e => hx e.symm⟩
 have hl1 := fun b hb => h.o1.lt (k := b) hb
 have hl2 := fun b hb => h.o2.lt (k := b) hb
 have b1 := (hT.block _ (hltA h.blk) fun e => by have := (hl2 _ e).1; omega).trans h.blk
 have hS : Tch (fun i => i = rb) d (d.setCell ⟨rb, 1, none⟩ v') := grown_tch (grownBy_setCell d ⟨rb, 1, none⟩ v')
 refine ⟨?_, cell_of_row d _ 1 _ _ _ b1, Lib.frozen_of_heap b1 1⟩
 exact {
  ext := by
   have h1 : Tch (fun _ => False) w a := h.ext.tch _
   have h2 := h1.trans' hT fun i hi e => absurd hi (by have := (hl2 i e).1; omega)
   exact (h2.trans' hS fun i hi e => absurd hi (by omega)).ext fun _ _ h => h
  low := h.low
  blk := heap_setCell_cells b1 1 _
  o1 := (h.o1.tch hT fun b hb e => h.off b hb e).tch hS fun b hb e => by have := (hl1 b hb).1; omega
  o2 := ho.tch hS fun b hb e => by have := (ho.lt hb).1; omega
  off := by
   intro b hb e
   rcases hv with h1 | ⟨i, h1, h2, _⟩
   ·exact h.off b hb (h1.symm.trans e)
   ·rw [h1] at e
    cases e
    have := (hl1 b hb).2
    omega }
end
theorem elem80 : Tryz.prog.elem 80 = 5 := by kernel_rfl
theorem slice_image {ib n c i : Nat} (hi : i < n) (hc : n <= c) : ∀ w' : World, (Instr.slice 80 (.slice (some ⟨ib, 0, none⟩) n c) (some (.int .i64 (i : Int))) none none).run Tryz.prog w' = .ok (.slice (some ⟨ib, i, none⟩) (n - i) (c - i)) w' := fun w' => by
 have h1 := run_slice_l (P := Tryz.prog) w' 80 (some ⟨ib, 0, none⟩) n c (elem80 ▸ Tryz.underlying80) .i64 i (by omega) (by omega)
 rw [elem80, Tryz.sizeOf5] at h1
 rw [h1]
 have : ¬ c = i := by omega
 simp [Result.andThen, sliced, this, Addr.add_lit]
theorem tail_tch {g eb : Nat} {row : Array Value} {RA SA SB : Option Addr} {rc sc sd : Nat} {cr : List C.Rel} {l1 : List C.Sym} {l2 : List C.Sec} {w w' : World} {X : Nat -> Prop}
 (h : w.heap[eb]? = some (.cells row 123 (0, 0)) /\ SliceAt relR w (fun i => i < g) RA rc cr /\ SliceAt symR w (fun i => i < g) SA sc l1 /\ SliceAt secR w (fun i => i < g) SB sd l2) (hT : Tch X w w') (hg : g < w.heap.size) (hX : ∀ k, X k -> g <= k) (he : ¬ X eb) :
 w'.heap[eb]? = some (.cells row 123 (0, 0)) /\ SliceAt relR w' (fun i => i < g) RA rc cr /\ SliceAt symR w' (fun i => i < g) SA sc l1 /\ SliceAt secR w' (fun i => i < g) SB sd l2 :=
 ⟨(hT.block _ (hltA h.1) he).trans h.1, low_tch h.2.1 hT hg hX, low_tch h.2.2.1 hT hg hX, low_tch h.2.2.2 hT hg hX⟩
section
variable {w wr W : World} {g : Nat} {kd : Int} {E : L.Env} {A M D : Option Addr} {a m d : Nat} {v : Value} {st : L.St} {tb base nf ni : Nat} {fx : List Int} {im : List L.Impt} {N : Nat} {bs : C.Bs} {vP vF vI vB : Value}
theorem FiR.apart (h : FiR w g kd E A M D a m d v st tb base nf ni fx im N bs vP vF vI vB wr) {eb : Nat} {c : Array Value} {f : Nat × Nat} (he : wr.heap[eb]? = some (.cells c 123 f)) : eb ≠ tb /\ vF.ownBlock ≠ some eb /\ vI.ownBlock ≠ some eb /\ vB.ownBlock ≠ some eb := by
 refine ⟨heap_kinds he h.blk (by decide), fun e => ?_, fun e => ?_, fun e => ?_⟩
 ·obtain ⟨c, h1⟩ := ownAt_kind h.fix.2 e
  exact heap_kinds h1 he (by decide) rfl
 ·obtain ⟨c, h1⟩ := ownAt_kind h.imp.2 e
  exact heap_kinds h1 he (by decide) rfl
 ·obtain ⟨c, fz, h1⟩ := Lib.ownsRow_kind h.img eb e
  exact heap_kinds h1 he (by decide) rfl
theorem FiR.image {BA : Option Addr} {bc : Nat} (h : FiR w g kd E A M D a m d v st tb base nf ni fx im N bs vP vF vI (.slice BA N bc) wr) (hN : 0 < N) : ∃ ib, BA = some ⟨ib, 0, none⟩ /\ N <= bc /\ bc <= 9223372036854775807 := by
 rcases h.img.2 with ⟨hv, _⟩ | ⟨g', cap, cur, hv, hb, hh, hn, hc, hs, ht⟩
 ·injection hv with _ h2
  omega
 ·injection hv with h1 _ h3
  subst h3
  refine ⟨g', h1, hn, ?_⟩
  unfold maxLen at hc
  omega
theorem FiR.places {PA : Option Addr} {n pc : Nat} (h : FiR w g kd E A M D a m d v st tb base nf ni fx im N bs (.slice PA n pc) vF vI vB wr) {k : Nat} (hk : k < st.1.length) : ∃ pb po, PA = some ⟨pb, po, none⟩ /\ base <= pb /\ pb < wr.heap.size /\ wr.cell? ⟨pb, po + k * 5 + 3, none⟩ = some (.int .i64 ((L.up (L.fin ((E.sizes st.1).take k) 0) : Nat) : Int)) := by
 have hpll : k < (E.places st.1).length := by rw [places_len]; exact hk
 obtain ⟨pb, po, pcc, hvp, h1, h2, _, hpc⟩ := h.plc.cell (fun a _ => rfl) hpll
 injection hvp with h3
 have hp3 := hpc 3 _ rfl
 rw [places_get hk hpll] at hp3
 exact ⟨pb, po, h3, h1, h2, hp3⟩
end
theorem mix_put' {E : L.Env} (hU : L.UnitsOk okN E) {l : List L.Spot} (hl : ∀ p ∈ l, (E.sec? p).isSome = true) {kk j : Nat} (hk : kk < l.length) {cr : List C.Rel} (hcr : E.rels l[kk] = cr) (hj : j < cr.length) {p : L.Spot} (ha : L.aim E l[kk].1 cr[j].2 = .spot p) :
 L.putAt (imgL (mixC E l kk (cr.take j)) 0) (L.up (L.fin ((E.sizes l).take kk) 0) + cr[j].1.toNat) (L.word (E.at l p)) = imgL (mixC E l kk (cr.take (j + 1))) 0 := by
 subst hcr
 exact mix_put hU hl hk hj ha
theorem mix_lib' {E : L.Env} {l : List L.Spot} {kk j : Nat} (hk : kk < l.length) {cr : List C.Rel} (hcr : E.rels l[kk] = cr) (hj : j < cr.length) {q : Nat} (ha : L.aim E l[kk].1 cr[j].2 = .lib q) : imgL (mixC E l kk (cr.take (j + 1))) 0 = imgL (mixC E l kk (cr.take j)) 0 := by
 subst hcr
 exact mix_lib hk hj ha
structure FnR (w : World) (g : Nat) (kd : Int) (E : L.Env) (A M D : Option Addr) (a m d : Nat) (v : Value) (st : L.St) (tb base nf ni : Nat) (im : ByteArray) (vP vF vI : Value) (wr : World) : Prop where
 tch : Tch (fun i => i = g) w wr
 link : RlAt g E A M D a m d wr v st
 res : wr.heap[w.heap.size]? = some (.cells zrow35 35 (0, 0))
 res2 : wr.heap[w.heap.size + 1]? = some (.cells zrow38 38 (0, 0))
 blk : wr.heap[tb]? = some (.cells #[.int .i64 kd, .int .i64 0, .string im, vP, vF, vI, .slice none 0 0, .slice none 0 0] 35 (0, 0))
 plc : OwnL plcC 49 5 wr base vP st.1.length (E.places st.1)
 fix : OwnL intC 3 1 wr base vF nf (E.fixes st.1)
 imp : OwnL impC 128 3 wr base vI ni (E.imps st.1)
 low : w.heap.size + 2 <= base /\ w.heap.size + 2 <= tb /\ g < w.heap.size
section
variable {w wr W : World} {g : Nat} {kd : Int} {E : L.Env} {A M D : Option Addr} {a m d : Nat} {v : Value} {st : L.St} {tb base nf ni : Nat} {N : Nat} {bs : C.Bs} {vP vF vI vB : Value} {im : ByteArray}
theorem FiR.imaged (h : FiR w g kd E A M D a m d v st tb base nf ni (E.fixes st.1) (E.imps st.1) N bs vP vF vI vB wr) (im : ByteArray) : FnR w g kd E A M D a m d v st tb base nf ni im vP vF vI (wr.setCell ⟨tb, 2, none⟩ (.string im)) := by
 have hS : Tch (fun i => i = tb) wr (wr.setCell ⟨tb, 2, none⟩ (.string im)) := grown_tch (grownBy_setCell wr ⟨tb, 2, none⟩ _)
 have hlow := h.low
 obtain ⟨hn, xs, hl, _⟩ := h.link.list
 exact {
  tch := h.tch.trans' hS fun i hi e => absurd hi (by omega)
  link := h.link.tch hS (fun k hk => by omega) fun k hk e => by
   obtain ⟨c, h1⟩ := ownAt_kind hl hk
   exact heap_kinds h1 h.blk (by decide) e
  res := (hS.block _ (hltA h.res) (by omega)).trans h.res
  res2 := (hS.block _ (hltA h.res2) (by omega)).trans h.res2
  blk := heap_setCell_cells h.blk 2 _
  plc := h.plc.tch hS fun b hb e => by
   obtain ⟨c, h1⟩ := ownAt_kind h.plc.2 hb
   exact heap_kinds h1 h.blk (by decide) e
  fix := h.fix.tch hS fun b hb e => by
   obtain ⟨c, h1⟩ := ownAt_kind h.fix.2 hb
   exact heap_kinds h1 h.blk (by decide) e
  imp := h.imp.tch hS fun b hb e => by
   obtain ⟨c, h1⟩ := ownAt_kind h.imp.2 hb
   exact heap_kinds h1 h.blk (by decide) e
  low := h.low }
theorem FnR.ext' (h : FnR w g kd E A M D a m d v st tb base nf ni im vP vF vI wr) (he : Ext wr W) : FnR w g kd E A M D a m d v st tb base nf ni im vP vF vI W where
 tch := h.tch.trans (he.tch _)
 link := h.link.ext he
 res := (he.block _ (hltA h.res)).trans h.res
 res2 := (he.block _ (hltA h.res2)).trans h.res2
 blk := (he.block _ (hltA h.blk)).trans h.blk
 plc := h.plc.ext he
 fix := h.fix.ext he
 imp := h.imp.ext he
 low := h.low
theorem libs_small {B : Nat -> Prop} {c : Nat} {l : List L.Libr} (h : SliceAt librR w B D c l) : ∀ q ∈ l, q.1.size <= 9223372036854775807 := fun q hq => by
 obtain ⟨i, hi, rfl⟩ := List.mem_iff_getElem.1 hq
 obtain ⟨_, _, _, _, h1, _⟩ := lib_get h hi
 exact h1
theorem read_split {E : L.Env} (k j : Nat) : E.reading (k, j) = (E.objs.map (·.1) ++ (E.mems.take k).map (·.1), (E.libs.take j).map (·.1)) := by
 unfold L.Env.reading L.Env.units
 rw [List.take_length_add_append, List.map_append]
theorem FnR.back {W9 : World} {rb n pc fc ic nt nl tc lc : Nat} {PA FA IA TA LA : Option Addr} (h : FnR w g kd E A M D a m d v st tb base nf ni im (.slice PA n pc) (.slice FA nf fc) (.slice IA ni ic) wr) (hE : EnvOk E) (hl : L.ListOk E st.1) (hkd : (Lit.int .i64 kd).wf = true)
 (him : im = ⟨(E.img st.1).toArray⟩) (hz : (E.img st.1).length <= 65536) (hn : n = st.1.length) (hR : RfAt wr rb (.slice TA nt tc) (.slice LA nl lc) nt nl (E.reading st.2).1 (E.reading st.2).2 W9) {W : World}
 (hT : Tch (fun i => i = w.heap.size ∨ i = w.heap.size + 1) W9 W) :
 Tch (fun i => i = g) w W /\ RetBR w W (E.bin st.1 kd 0 []) (E.reading st.2) 0 (.returned (.tuple #[.agg #[.int .i64 kd, .int .i64 0, .string im, .slice PA n pc, .slice FA nf fc, .slice IA ni ic, .slice none 0 0, .slice none 0 0], .agg #[.slice TA nt tc, .slice LA nl lc], .int .i64 0])) := by
 have h9 := h.ext' hR.ext
 have hlow := h.low
 have g1 := h9.plc.tch hT fun b hb e => by have := (h9.plc.lt hb).1; omega
 have g2 := h9.fix.tch hT fun b hb e => by have := (h9.fix.lt hb).1; omega
 have g3 := h9.imp.tch hT fun b hb e => by have := (h9.imp.lt hb).1; omega
 have hwr : w.heap.size <= wr.heap.size := h.tch.size
 have hres2 := (hltA h.res2)
 have g4 := hR.o1.tch hT fun b hb e => by have := (hR.o1.lt hb).1; omega
 have g5 := hR.o2.tch hT fun b hb e => by have := (hR.o2.lt hb).1; omega
 have hlz := libs_small h.link.libs
 have hT9 : ∀ y ∈ (E.reading st.2).1, y.size <= 9223372036854775807 := fun y hy => by
  obtain ⟨q, hq, rfl⟩ := List.mem_map.1 hy
  have := (hE.sizes q (List.mem_of_mem_take hq)).1
  omega
 have hL9 : ∀ y ∈ (E.reading st.2).2, y.size <= 9223372036854775807 := fun y hy => by
  obtain ⟨q, hq, rfl⟩ := List.mem_map.1 hy
  exact hlz q (List.mem_of_mem_take hq)
 have k2 := g2.1
 have k3 := g3.1
 have k4 := g4.1
 have k5 := g5.1
 obtain ⟨_, _, y1, s1'⟩ := g1.slice fun B => plc_is hE hl
 have s1 := s1'.keep (w' := W) (B' := Fresh w W) (fun k hk => ⟨by have := hk.2.1; omega, hk.2.2⟩) fun _ _ => rfl
 obtain ⟨_, _, y2, s2'⟩ := g2.slice fun B => fix_is hE hl
 have s2 := s2'.keep (w' := W) (B' := Fresh w W) (fun k hk => ⟨by have := hk.2.1; omega, hk.2.2⟩) fun _ _ => rfl
 obtain ⟨_, _, y3, s3'⟩ := g3.slice fun B => imp_is hE hl hlz
 have s3 := s3'.keep (w' := W) (B' := Fresh w W) (fun k hk => ⟨by have := hk.2.1; omega, hk.2.2⟩) fun _ _ => rfl
 obtain ⟨_, _, y4, s4'⟩ := g4.slice fun B => strC_is hT9 B W
 have s4 := s4'.keep (w' := W) (B' := Fresh w W) (fun k hk => ⟨by have := hk.2.1; omega, hk.2.2⟩) fun _ _ => rfl
 obtain ⟨_, _, y5, s5'⟩ := g5.slice fun B => strC_is hL9 B W
 have s5 := s5'.keep (w' := W) (B' := Fresh w W) (fun k hk => ⟨by have := hk.2.1; omega, hk.2.2⟩) fun _ _ => rfl
 clear s1' s2' s3' s4' s5'
 cases y1
 cases y2
 cases y3
 cases y4
 cases y5
 refine ⟨h9.tch.trans' hT fun i hi e => absurd hi (by omega), _, _, rfl, ⟨⟨PA, pc, FA, fc, IA, ic, none, 0, none, 0, ?_, s1, s2, s3, SliceAt.nil _ _ _ _ _ (by omega), SliceAt.nil _ _ _ _ _ (by omega), hkd, (by decide : (Lit.int .i64 0).wf = true), ?_⟩⟩, TA, tc, LA, lc, ?_, s4, s5⟩
 ·unfold L.Env.bin
  simp only [places_len, <- k2, <- k3, <- him]
  rfl
 ·show (ByteArray.mk (E.img st.1).toArray).size <= _
  have : (ByteArray.mk (E.img st.1).toArray).size = (E.img st.1).length := by simp [ByteArray.size]
  rw [this]
  omega
 ·rw [<- k4, <- k5]
end
end Go.Proofs.YtfbhchpbflaphaaGreatDoor
