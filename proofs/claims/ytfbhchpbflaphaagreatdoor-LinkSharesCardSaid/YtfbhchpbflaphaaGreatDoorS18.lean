/- The texts Lq of the seat, joined. -/
import Derived.Test.YtfbhchpbflaphaaGreatDoorS17
namespace Go.Proofs.YtfbhchpbflaphaaGreatDoor
open Go.RowKit Go.Maps Go.ChangeMaps
def finR (E : L.Env) (st : L.St) (kd : Int) : L.Bin × (L.Rd × Int) := if 65536 < L.fin (E.sizes st.1) 0 then (zeroB, ([], []), 10) else (E.bin st.1 kd 0 [], E.reading st.2, 0)
def RetFr (w : World) (g : Nat) (r : L.Bin × (L.Rd × Int)) (e : Ending) (w' : World) : Prop := Tch (fun i => i = g) w w' /\ RetBR w w' r.1 r.2.1 r.2.2 e /\ ∀ vs rs er, e = .returned (.tuple #[.agg (Array.mk vs), .agg (Array.mk rs), er]) -> vs[6]? = some (.slice none 0 0)
attribute [local irreducible] wpLex wpT
set_option maxRecDepth 8000 in
set_option maxHeartbeats 8000000 in
theorem finish_rf {g : Nat} {E : L.Env} {A M D : Option Addr} {a m d : Nat} {w : World} {v : Value} {st : L.St} (h : RlAt g E A M D a m d w v st) (hE : EnvOk E) (hl : L.ListOk E st.1) (hb : L.Bd E st.2) (hg : GoodTo E st.1 st.1.length) (hn : NotedTo E st.1 st.2 st.1.length) (kd : Int) (hk : (Lit.int .i64 kd).wf = true) :
 Calls Tryz.prog 58 #[.pointer (some ⟨g, 0, none⟩), .int .i64 kd] w (RetFr w g (finR E st kd)) := by
 obtain ⟨hx, hA, hB, hs⟩ := two_cells w
 obtain ⟨W1, hW1⟩ : ∃ W1, W1 = (w.alloc (.cells zrow35 35)).alloc (.cells zrow38 38) := ⟨_, rfl⟩
 rw [<- hW1] at hx hA hB hs
 obtain ⟨N, hN⟩ : ∃ N, N = L.fin (E.sizes st.1) 0 := ⟨_, rfl⟩
 have HPL := Lib.hid (place_rf (h.ext hx) hE hl kd)
 obtain ⟨FV, hFV⟩ : ∃ FV, FV = finR E st kd := ⟨_, rfl⟩
 rw [<- hFV]
 unfold finR at hFV
 rw [<- hN] at hFV
 unfold RetPl at HPL
 rw [<- hN] at HPL
 obtain ⟨n, hnn⟩ : ∃ n, n = st.1.length := ⟨_, rfl⟩
 have HNN := Lib.hid hnn
 have HW1 := Lib.hid hW1
 have HX1 := Lib.hid hx
 have HA := Lib.hid hA
 have HB := Lib.hid hB
 have HS := Lib.hid hs
 have HFV := Lib.hid hFV
 have HN := Lib.hid hN
 have HH := Lib.hid h
 have HE := Lib.hid hE
 have HOK := Lib.hid hl
 have HBD := Lib.hid hb
 have HGD := Lib.hid hg
 have HND := Lib.hid hn
 have HKD := Lib.hid hk
 clear hx hA hB hs hW1 hFV h hE hl hb hg hn hk hN hnn
 go_enter Tryz.func58, Tryz.ntmps58
 go_upto_region 1 with (fail)
 rw [<- HW1.out]
 go_wp2_with fail
 refine HPL.out.mono ?_
 rintro e w2 ⟨e2, PA, pc, BA, bc, rfl, hOP, hOB⟩
 rw [<- HNN.out]
 rw [<- HNN.out] at hOP
 obtain ⟨W3, hW3⟩ : ∃ W3, W3 = w2.alloc (.cells (kdRow kd (.slice PA n pc)) 35) := ⟨_, rfl⟩
 obtain ⟨tb, htb⟩ : ∃ tb, tb = w2.heap.size := ⟨_, rfl⟩
 have E3 : Ext W1 W3 := by rw [hW3]; exact e2.alloc _
 have hb3 : W3.heap[tb]? = some (.cells (kdRow kd (.slice PA n pc)) 35 (0, 0)) := by rw [hW3, htb]; exact heap_alloc_new w2 _
 have hA3 := (E3.block _ (hltA HA.out)).trans HA.out
 have hB3 := (E3.block _ (hltA HB.out)).trans HB.out
 have HX3 := Lib.hid (HX1.out.trans E3)
 have HTB := Lib.hid htb
 go_upto_region 2 with (fail)
 rw [<- hW3, <- HTB.out]
 by_cases hbig : 65536 < N
 ·have hfv : FV = (zeroB, ([], []), 10) := by rw [HFV.out, if_pos hbig]
  have HFV2 := Lib.hid hfv
  have hdb : decide ((65536 : Int) < (N : Int)) = true := decide_eq_true (by omega)
  obtain ⟨⟨r0, r1, r2, r3, r4, r5, r6, r7⟩, f0, f1, f2, f3, f4, f5, f6, f7⟩ := zcells hA3
  obtain ⟨s0, s1, t0, t1⟩ := zcells2 hB3
  obtain ⟨hA4, hB4⟩ := zput_rows hA3 hB3
  have HA4 := Lib.hid hA4
  have HB4 := Lib.hid hB4
  clear hfv hA4 hB4 hA3 hB3 hbig htb hW3 E3 hb3 hOP hOB e2
  go_wp2_with fail
  refine ret_bre rfl rfl rfl rfl HA4.out HB4.out rfl rfl rfl ?_
  rw [HFV2.out]
  exact ⟨(zput_ext HX3.out).tch _, RetBR.none _ _ _, fun vs rs er h => by cases h; rfl⟩
 ·obtain ⟨l, hle⟩ : ∃ l, l = st.1 := ⟨_, rfl⟩
  have hfv : FV = (E.bin st.1 kd 0 [], E.reading st.2, 0) := by rw [HFV.out, if_neg hbig]
  have HFV2 := Lib.hid hfv
  have hdb : decide ((65536 : Int) < (N : Int)) = false := decide_eq_false (by omega)
  have HF0 : Hid (FiR w g kd E A M D a m d v st tb (W1.heap.size + 2) 0 0 (fixesTo E st.1 0) (impsTo E st.1 0) N (imgL (mixC E st.1 0 []) 0) (.slice PA n pc) (.slice none 0 0) (.slice none 0 0) (.slice BA N bc) W3) := {
   tch := HX3.out.tch _
   link := HH.out.ext HX3.out
   res := hA3
   res2 := hB3
   blk := hb3
   plc := by rw [<- HNN.out]; exact hOP.ext (by rw [hW3]; exact (Ext.refl w2).alloc _)
   fix := OwnL.nil _ _
   imp := OwnL.nil _ _
   img := by rw [mixC_start]; exact ownsRow_tch hOB ((show Ext w2 W3 by rw [hW3]; exact (Ext.refl w2).alloc _).tch fun _ => False) fun _ _ h => h
   low := ⟨by have := HS.out; omega, by have := HS.out; have := e2.size; omega, HH.out.lt⟩ }
  obtain ⟨LA, lc, hv, _, _⟩ := HH.out.list.form
  have HV := Lib.hid hv
  have c3 : W3.cell? ⟨g, 3, none⟩ = _ := HF0.out.link.cell 3
  rw [show (#[.slice A E.objs.length a, .slice M E.mems.length m, .slice D E.libs.length d, v, .int .i64 (st.2.1 : Int), .int .i64 (st.2.2 : Int)] : Array Value)[3]? = some v from rfl, hv, <- HNN.out] at c3
  have hn8 : n <= 128 := by rw [HNN.out]; exact HOK.out.1
  have hN6 : N <= 65536 := by omega
  clear hfv hbig htb hW3 E3 hb3 hOP hOB e2 hA3 hB3 hle hv
  go_wp2_with fail
  clear c3
  go_loopw [40] (fun i wr => ∃ (kk nf ni : Nat) (vF vI : Value), i = .int .i64 (kk : Int) /\ kk <= n /\ nf <= kk * 2048 /\ ni <= kk * 2048 /\ Hid (FiR w g kd E A M D a m d v st tb (W1.heap.size + 2) nf ni (fixesTo E st.1 kk) (impsTo E st.1 kk) N (imgL (mixC E st.1 kk []) 0) (.slice PA n pc) vF vI (.slice BA N bc) wr)) (fun i _ => n - (intOf i).toNat)
  case atStart => exact ⟨0, 0, 0, _, _, rfl, Nat.zero_le _, by omega, by omega, HF0.out⟩
  case round =>
   obtain ⟨kk, nf, ni, vF, vI, rfl, hk, hnf, hni, HK⟩ := hrel
   obtain ⟨W0, hW0⟩ : ∃ W0, W0 = wr := ⟨_, rfl⟩
   subst hW0
   by_cases hlt : kk < n
   ·have hks : kk < st.1.length := by rw [<- HNN.out]; exact hlt
    have hso : kk < (spots E st.1).length := by rw [spots_len]; exact hks
    obtain ⟨bl, ol, cap, SA, sc, SB, sd, hve, hbl, hz1, hz2, hSA, hSB, m0, m1, m2, m3⟩ := own_spot HK.out.link.list hso
    have hge : (spots E st.1)[kk] = (unitAt E st.1[kk].1, st.1[kk].2) := spots_get E hks
    rw [hge] at hz1 hz2 hSA hSB m0 m1 m2 m3
    simp only at hz1 hz2 hSA hSB m0 m1 m2 m3
    obtain ⟨rfl, hcc⟩ : LA = some ⟨bl, ol, none⟩ /\ lc = cap := by
     have h9 := HV.out.symm.trans hve
     injection h9 with h9 _ h8
     exact ⟨h9, h8⟩
    obtain ⟨c, hc⟩ := Option.isSome_iff_exists.1 (HOK.out.2.2 _ (List.getElem_mem hks)).2
    have hpu : st.1[kk].1 < E.units.length := (HOK.out.2.2 _ (List.getElem_mem hks)).1
    have hrl : E.rels st.1[kk] = c.2.2 := by unfold L.Env.rels; rw [L.sec_is hc]
    have hgl := HK.out.link.lt
    obtain ⟨px, hpx⟩ : ∃ px, px = st.1[kk].2 := ⟨_, rfl⟩
    have HSEC := Lib.hid (fun W (hW : Ext W0 W) => section_rf E HE.out st.1[kk] c hc W (fun i => i < g) (fun i hi => Nat.lt_of_lt_of_le (Nat.lt_trans hi hgl) hW.size) SA SB sc sd (hSA.keep (fun _ h => h) fun i hi => hW.block i (Nat.lt_trans hi hgl)) (hSB.keep (fun _ h => h) fun i hi => hW.block i (Nat.lt_trans hi hgl)) (unitAt E st.1[kk].1).1 hz2)
    rw [<- hpx] at HSEC m3
    obtain ⟨W2, hW2⟩ : ∃ W2, W2 = W0.alloc (.cells (spotV (unitAt E st.1[kk].1).1 SA (unitAt E st.1[kk].1).2.1.length sc SB (unitAt E st.1[kk].1).2.2.length sd px) 123) := ⟨_, rfl⟩
    obtain ⟨eb, heb⟩ : ∃ eb, eb = W0.heap.size := ⟨_, rfl⟩
    have E2 : Ext W0 W2 := by rw [hW2]; exact (Ext.refl W0).alloc _
    have hb2 : W2.heap[eb]? = some (.cells (spotV (unitAt E st.1[kk].1).1 SA (unitAt E st.1[kk].1).2.1.length sc SB (unitAt E st.1[kk].1).2.2.length sd px) 123 (0, 0)) := by rw [hW2, heb]; exact heap_alloc_new W0 _
    have HSA : Hid (SliceAt symR W0 (fun i => i < g) SA sc (unitAt E st.1[kk].1).2.1 /\ SliceAt secR W0 (fun i => i < g) SB sd (unitAt E st.1[kk].1).2.2) := ⟨hSA, hSB⟩
    have e0 : W2.cell? ⟨eb, 0, none⟩ = _ := cell_of_row W2 eb 0 _ _ _ hb2
    have e1 : W2.cell? ⟨eb, 1, none⟩ = _ := cell_of_row W2 eb 1 _ _ _ hb2
    have e2 : W2.cell? ⟨eb, 2, none⟩ = _ := cell_of_row W2 eb 2 _ _ _ hb2
    have e3 : W2.cell? ⟨eb, 3, none⟩ = _ := cell_of_row W2 eb 3 _ _ _ hb2
    have HEB := Lib.hid heb
    have HE2 := Lib.hid E2
    have HROW := Lib.hid hb2
    have HRL : Hid (E.rels st.1[kk] = c.2.2 /\ st.1[kk].1 < E.units.length) := ⟨hrl, hpu⟩
    have HCS := Lib.hid hc
    have HMT := Lib.hid (fun (W : World) (hW : RlAt g E A M D a m d W v st) (x : ByteArray) (hx : x.size <= 9223372036854775807) (sy : C.Sym) (hsy : E.sym (st.1[kk].1, x) = some sy) (h1 : SliceAt symR W (fun i => i < g) SA sc (unitAt E st.1[kk].1).2.1) (h2 : SliceAt secR W (fun i => i < g) SB sd (unitAt E st.1[kk].1).2.2) => meant_any hW HE.out HBD.out st.1[kk].1 hpu x hx sy hsy SA SB sc sd h1 h2)
    generalize (unitAt E st.1[kk].1).2.1.length = tl at *
    generalize (unitAt E st.1[kk].1).2.2.length = ul at *
    generalize (unitAt E st.1[kk].1).1 = nm at *
    clear hso hve hbl hz1 hz2 hSA hSB hge hcc hpu hrl hgl hpx heb E2 hb2
    go_upto_region 7 with (fail)
    rw [<- hW2, <- HEB.out]
    clear hW2 m0 m1 m2 m3
    go_wp2_with fail
    refine (HSEC.out _ HE2.out).mono ?_
    rintro e w5 ⟨d5, RA, rc, hRA, rfl⟩
    have hrn8 : c.2.2.length <= 2048 := (rels_few HE.out HCS.out).1
    obtain ⟨ck, cd, cr⟩ := c
    simp only at hRA hrn8 HRL ⊢
    obtain ⟨rn, hrn⟩ : ∃ rn, rn = cr.length := ⟨_, rfl⟩
    rw [<- hrn] at hrn8 ⊢
    have HRN := Lib.hid hrn
    obtain ⟨at0, hat⟩ : ∃ at0, at0 = L.up (L.fin ((E.sizes st.1).take kk) 0) := ⟨_, rfl⟩
    have HAT := Lib.hid hat
    have HI0 : Hid (FiR w g kd E A M D a m d v st tb (W1.heap.size + 2) nf ni (fixesTo E st.1 kk ++ L.fixF E st.1[kk].1 at0 (cr.take 0)) (impsTo E st.1 kk ++ L.impF E st.1[kk].1 at0 (cr.take 0)) N (imgL (mixC E st.1 kk (cr.take 0)) 0) (.slice PA n pc) vF vI (.slice BA N bc) w5 /\ w5.heap[eb]? = some (.cells (spotV nm SA tl sc SB ul sd px) 123 (0, 0)) /\ SliceAt relR w5 (fun i => i < g) RA rc cr /\ SliceAt symR w5 (fun i => i < g) SA sc (unitAt E st.1[kk].1).2.1 /\ SliceAt secR w5 (fun i => i < g) SB sd (unitAt E st.1[kk].1).2.2) := by
     have hX := HE2.out.trans d5
     have hgl := HK.out.link.lt
     refine ⟨?_, (d5.block _ (hltA HROW.out)).trans HROW.out, hRA.keep (fun _ h => h) fun i hi => d5.block i (Nat.lt_of_lt_of_le (Nat.lt_trans hi hgl) HE2.out.size), HSA.out.1.keep (fun _ h => h) fun i hi => hX.block i (Nat.lt_trans hi hgl), HSA.out.2.keep (fun _ h => h) fun i hi => hX.block i (Nat.lt_trans hi hgl)⟩
     have hf : L.fixF E st.1[kk].1 at0 (cr.take 0) = [] := rfl
     have hi : L.impF E st.1[kk].1 at0 (cr.take 0) = [] := rfl
     rw [hf, hi, List.append_nil, List.append_nil, List.take_zero]
     exact HK.out.ext' hX
    have hfd : ∀ W : World, (Instr.field 67 (.agg #[.int .i64 ck, .string cd, .slice RA rn rc]) 2).run Tryz.prog W = .ok (.slice RA rn rc) W := fun _ => by kernel_rfl
    clear hrn hat hRA d5 e0 e1 e2 e3 HK
    go_wp2_with fail
    clear hfd
    go_loopw [49] (fun i wx => ∃ (j mf mi : Nat) (vF vI : Value), i = .int .i64 (j : Int) /\ j <= rn /\ mf <= nf + j /\ mi <= ni + j /\ Hid (FiR w g kd E A M D a m d v st tb (W1.heap.size + 2) mf mi (fixesTo E st.1 kk ++ L.fixF E st.1[kk].1 at0 (cr.take j)) (impsTo E st.1 kk ++ L.impF E st.1[kk].1 at0 (cr.take j)) N (imgL (mixC E st.1 kk (cr.take j)) 0) (.slice PA n pc) vF vI (.slice BA N bc) wx /\ wx.heap[eb]? = some (.cells (spotV nm SA tl sc SB ul sd px) 123 (0, 0)) /\ SliceAt relR wx (fun i => i < g) RA rc cr /\ SliceAt symR wx (fun i => i < g) SA sc (unitAt E st.1[kk].1).2.1 /\ SliceAt secR wx (fun i => i < g) SB sd (unitAt E st.1[kk].1).2.2)) (fun i _ => rn - (intOf i).toNat)
    case atStart => exact ⟨0, nf, ni, vF, vI, rfl, Nat.zero_le _, by omega, by omega, HI0.out⟩
    case round =>
     obtain ⟨j, mf, mi, vF, vI, rfl, hj, hmf, hmi, HJ⟩ := hrel
     obtain ⟨V0, hV0⟩ : ∃ V0, V0 = wr := ⟨_, rfl⟩
     subst hV0
     by_cases hjl : j < rn
     ·have hjr : j < cr.length := by rw [<- HRN.out]; exact hjl
      obtain ⟨hF, htl⟩ := HJ.out
      have hmem : cr[j] ∈ E.rels st.1[kk] := by rw [HRL.out.1]; exact List.getElem_mem hjr
      obtain ⟨hr0, hfit, hsys⟩ := rel_fit HE.out HOK.out hks hmem
      obtain ⟨sy, hsy⟩ := Option.isSome_iff_exists.1 hsys
      have hgd := HGD.out kk hks hks cr[j] hmem
      have hnt := HND.out kk hks hks cr[j] hmem
      obtain ⟨rb, ro, rfl, hrb, hwf, hxz, q0, q1⟩ := rel_getB htl.2.1 hjr
      obtain ⟨rx, hrx⟩ : ∃ rx, rx = cr[j].2 := ⟨_, rfl⟩
      obtain ⟨ra, hra⟩ : ∃ ra : Nat, cr[j].1 = (ra : Int) := ⟨cr[j].1.toNat, by omega⟩
      rw [hra] at q0 hfit
      rw [Int.toNat_natCast, <- HAT.out, <- HN.out] at hfit
      rw [<- hrx] at q1 hxz hsy hgd hnt
      obtain ⟨ap, hap⟩ : ∃ ap, ap = at0 + ra := ⟨_, rfl⟩
      have hsum : (at0 : Int) + (ra : Int) = (ap : Int) := by omega
      have hfp : ap + 4 <= N := by omega
      obtain ⟨pb, po, rfl, hpb, hpl, p3⟩ := hF.places hks
      rw [<- HAT.out] at p3
      obtain ⟨ib, rfl, hNc, hc63⟩ := hF.image (by omega)
      have HRX : Hid (∃ _ : j < cr.length, rx = cr[j].2 /\ cr[j].1 = (ra : Int) /\ ap = at0 + ra /\ cr.take (j + 1) = cr.take j ++ [cr[j]]) := ⟨hjr, hrx, hra, hap, List.take_succ_eq_append_getElem hjr⟩
      obtain ⟨W4, hW4⟩ : ∃ W4, W4 = V0.alloc (.cells #[.int .i64 (ra : Int), .string rx] 151) := ⟨_, rfl⟩
      obtain ⟨qb, hqb⟩ : ∃ qb, qb = V0.heap.size := ⟨_, rfl⟩
      have E4 : Ext V0 W4 := by rw [hW4]; exact (Ext.refl V0).alloc _
      have hb4 : W4.heap[qb]? = some (.cells #[.int .i64 (ra : Int), .string rx] 151 (0, 0)) := by rw [hW4, hqb]; exact heap_alloc_new V0 _
      have HF4 := Lib.hid (hF.ext' E4)
      have HT4 := Lib.hid (tail_tch htl (E4.tch fun _ => False) hF.link.lt (fun _ h => h.elim) fun h => h)
      have y3 : W4.cell? ⟨tb, 3, none⟩ = some (.slice (some ⟨pb, po, none⟩) n pc) := cell_of_row W4 _ 3 _ _ _ HF4.out.blk
      have p3' := E4.keepc p3
      have t0 : W4.cell? ⟨qb, 0, none⟩ = _ := cell_of_row W4 qb 0 _ _ _ hb4
      have t1 : W4.cell? ⟨qb, 1, none⟩ = _ := cell_of_row W4 qb 1 _ _ _ hb4
      have HQB := Lib.hid hqb
      have HB4 := Lib.hid hb4
      have HSY := Lib.hid hsy
      have HXZ := Lib.hid hxz
      have HGJ := Lib.hid hgd
      have HSAME : Hid (L.note st (L.aimN E st.1[kk].1 rx) = st) := note_same hnt
      have hks8 : at0 <= 65536 /\ ra <= 65536 := by omega
      obtain ⟨hk1, hk2⟩ := hks8
      clear hF htl hmem hr0 hfit hsys hsy hgd hnt hrb hwf hxz hrx hra hap hpl p3 hqb hb4 E4 HJ hjr hpb
      go_upto_region 10 with (fail)
      rw [<- hW4, <- HQB.out]
      clear hW4 q0 q1
      go_quiet (fail)
      obtain ⟨W5, hW5⟩ : ∃ W5, W5 = W4.drewN nq := ⟨_, rfl⟩
      have E5 : Ext W4 W5 := by rw [hW5]; exact (Ext.refl W4).drewN nq
      rw [<- hW5]
      have HF5 := Lib.hid (HF4.out.ext' E5)
      have HT5 := Lib.hid (tail_tch HT4.out (E5.tch fun _ => False) HF4.out.link.lt (fun _ h => h.elim) fun h => h)
      have e0 : W5.cell? ⟨eb, 0, none⟩ = _ := cell_of_row W5 eb 0 _ _ _ HT5.out.1
      have e1 : W5.cell? ⟨eb, 1, none⟩ = _ := cell_of_row W5 eb 1 _ _ _ HT5.out.1
      have e2 : W5.cell? ⟨eb, 2, none⟩ = _ := cell_of_row W5 eb 2 _ _ _ HT5.out.1
      have b5 := (E5.block _ (hltA HB4.out)).trans HB4.out
      have u1 : W5.cell? ⟨qb, 1, none⟩ = _ := cell_of_row W5 qb 1 _ _ _ b5
      have HB5 := Lib.hid b5
      have HM := Lib.hid (HMT.out W5 HF5.out.link rx HXZ.out sy HSY.out HT5.out.2.2.1 HT5.out.2.2.2)
      rw [HSAME.out] at HM
      clear hW5 y3 p3' t0 t1 E5 b5 HF4 HT4 HB4
      go_wp2_with fail
      refine HM.out.mono ?_
      intro e w6 hq
      obtain ⟨hT6, hc6, s, TA, tn, tc, TB, un, td, y, li, er, rfl, hMG⟩ := mt_form hq
      obtain ⟨W7, hW7⟩ : ∃ W7, W7 = w6.alloc (.cells (spotV s TA tn tc TB un td y) 123) := ⟨_, rfl⟩
      obtain ⟨mb, hmb⟩ : ∃ mb, mb = w6.heap.size := ⟨_, rfl⟩
      have E7 : Ext w6 W7 := by rw [hW7]; exact (Ext.refl w6).alloc _
      have hb7 : W7.heap[mb]? = some (.cells (spotV s TA tn tc TB un td y) 123 (0, 0)) := by rw [hW7, hmb]; exact heap_alloc_new w6 _
      have hgl := HF5.out.link.lt
      have hbl5 := (hltA HB5.out)
      have hebl := (hltA HT5.out.1)
      have hqg : qb ≠ g := by
       intro e
       have h1 := HB5.out
       rw [e] at h1
       exact heap_kinds h1 HF5.out.link.row (by decide) rfl
      have heg : eb ≠ g := heap_kinds HT5.out.1 HF5.out.link.row (by decide)
      have b7 := (E7.block _ (Nat.lt_of_lt_of_le hbl5 hT6.size)).trans ((hT6.block _ hbl5 hqg).trans HB5.out)
      have HB7 := Lib.hid b7
      have HT6 := Lib.hid (tail_tch HT5.out hT6 hgl (fun k hk => by rw [hk]; exact Nat.le_refl _) heg)
      have HT7 := Lib.hid (tail_tch HT6.out (E7.tch fun _ => False) (Nat.lt_of_lt_of_le hgl hT6.size) (fun _ h => h.elim) fun h => h)
      have HMB := Lib.hid hmb
      have HM7 := Lib.hid hb7
      have HE7 := Lib.hid E7
      clear e0 e1 e2 u1 hmb hb7 b7 HT5 hebl hbl5 hqg heg HM
      rcases HGJ.out with ⟨q, haq, hqm⟩ | ⟨jj, haq, hjj⟩
      ·rw [haq] at hMG
       obtain ⟨rfl, rfl, hRl, hs, htn, hun, hy, hTA, hTB⟩ := hMG
       have HF7 := Lib.hid ((HF5.out.linked hT6 hRl).ext' E7)
       obtain ⟨k0, hk0, hpis, hpno, hpat⟩ := spot_place HE.out HOK.out hqm
       have hatf := at_fit (E := E) hqm
       rw [<- HN.out] at hatf
       obtain ⟨xq, hxq⟩ : ∃ xq, xq = E.at st.1 q := ⟨_, rfl⟩
       rw [<- hxq] at hpat hatf
       obtain ⟨FA, fc, rfl⟩ := HF7.out.fix.form
       obtain ⟨IA, ic, rfl⟩ := HF7.out.imp.form
       obtain ⟨PA', pc', hpe, hPS⟩ := HF7.out.plc.sliceOld fun B => plc_is HE.out HOK.out
       injection hpe with hp1 hp2 hp3
       clear hp2
       subst hp1
       subst hp3
       have HAD : Hid (∀ W, Ext W7 W -> Calls Tryz.prog 64 #[.agg #[.int .i64 kd, .int .i64 0, .string ⟨#[]⟩, .slice (some ⟨pb, po, none⟩) n pc, .slice FA mf fc, .slice IA mi ic, .slice none 0 0, .slice none 0 0], .agg (spotV s TA tn tc TB un td y)] W (Al (.int .i64 (xq : Int)) W)) := fun W hW => by
        rw [<- hpat]
        exact address_any (E.places st.1) (some ⟨pb, po, none⟩) pc n (by rw [places_len]; exact HNN.out) k0 hk0 s y (by rw [hs, hy]; exact hpis) (by rw [hs, hy]; exact hpno) W (hPS.keep (fun k hk => Nat.lt_of_lt_of_le hk hW.size) fun k hk => hW.block k hk) kd 0 ⟨#[]⟩ FA IA none none mf fc mi ic 0 0 0 0 TA tn tc TB un td
       have HWD := Lib.hid (Word_any xq (by omega))
       have y0 : W7.cell? ⟨tb, 0, none⟩ = some (.int .i64 kd) := cell_of_row W7 _ 0 _ _ _ HF7.out.blk
       have y1 : W7.cell? ⟨tb, 1, none⟩ = some (.int .i64 0) := cell_of_row W7 _ 1 _ _ _ HF7.out.blk
       have y2 : W7.cell? ⟨tb, 2, none⟩ = some (.string ⟨#[]⟩) := cell_of_row W7 _ 2 _ _ _ HF7.out.blk
       have y3 : W7.cell? ⟨tb, 3, none⟩ = some (.slice (some ⟨pb, po, none⟩) n pc) := cell_of_row W7 _ 3 _ _ _ HF7.out.blk
       have y4 : W7.cell? ⟨tb, 4, none⟩ = some (.slice FA mf fc) := cell_of_row W7 _ 4 _ _ _ HF7.out.blk
       have y5 : W7.cell? ⟨tb, 5, none⟩ = some (.slice IA mi ic) := cell_of_row W7 _ 5 _ _ _ HF7.out.blk
       have y6 : W7.cell? ⟨tb, 6, none⟩ = some (.slice none 0 0) := cell_of_row W7 _ 6 _ _ _ HF7.out.blk
       have y7 : W7.cell? ⟨tb, 7, none⟩ = some (.slice none 0 0) := cell_of_row W7 _ 7 _ _ _ HF7.out.blk
       have z0 : W7.cell? ⟨mb, 0, none⟩ = _ := cell_of_row W7 mb 0 _ _ _ HM7.out
       have z1 : W7.cell? ⟨mb, 1, none⟩ = _ := cell_of_row W7 mb 1 _ _ _ HM7.out
       have z2 : W7.cell? ⟨mb, 2, none⟩ = _ := cell_of_row W7 mb 2 _ _ _ HM7.out
       have z3 : W7.cell? ⟨mb, 3, none⟩ = _ := cell_of_row W7 mb 3 _ _ _ HM7.out
       have fx0 : ∀ z : Lat (Ext W7), z.w'.cell? ⟨tb, 0, none⟩ = _ := fun z => z.h.keepc y0
       have fx1 : ∀ z : Lat (Ext W7), z.w'.cell? ⟨tb, 1, none⟩ = _ := fun z => z.h.keepc y1
       have fx2 : ∀ z : Lat (Ext W7), z.w'.cell? ⟨tb, 2, none⟩ = _ := fun z => z.h.keepc y2
       have fx3 : ∀ z : Lat (Ext W7), z.w'.cell? ⟨tb, 3, none⟩ = _ := fun z => z.h.keepc y3
       have fx4 : ∀ z : Lat (Ext W7), z.w'.cell? ⟨tb, 4, none⟩ = _ := fun z => z.h.keepc y4
       have fx5 : ∀ z : Lat (Ext W7), z.w'.cell? ⟨tb, 5, none⟩ = _ := fun z => z.h.keepc y5
       have fx6 : ∀ z : Lat (Ext W7), z.w'.cell? ⟨tb, 6, none⟩ = _ := fun z => z.h.keepc y6
       have fx7 : ∀ z : Lat (Ext W7), z.w'.cell? ⟨tb, 7, none⟩ = _ := fun z => z.h.keepc y7
       have fx8 : ∀ z : Lat (Ext W7), z.w'.cell? ⟨mb, 0, none⟩ = _ := fun z => z.h.keepc z0
       have fx9 : ∀ z : Lat (Ext W7), z.w'.cell? ⟨mb, 1, none⟩ = _ := fun z => z.h.keepc z1
       have fx10 : ∀ z : Lat (Ext W7), z.w'.cell? ⟨mb, 2, none⟩ = _ := fun z => z.h.keepc z2
       have fx11 : ∀ z : Lat (Ext W7), z.w'.cell? ⟨mb, 3, none⟩ = _ := fun z => z.h.keepc z3
       have hne := Lat.some (Φ := Ext W7) ((Ext.refl W7).drew)
       have hsl := slice_image (ib := ib) (i := ap) (n := N) (c := bc) (by omega) hNc
       have HQM : Hid (L.aim E st.1[kk].1 rx = .spot q /\ xq = E.at st.1 q) := ⟨haq, hxq⟩
       have hE0 : Hid (Ext W7 W7.drew) := (Ext.refl W7).drew
       obtain ⟨dl, hdl⟩ : ∃ dl, dl = N - ap := ⟨_, rfl⟩
       obtain ⟨dc, hdc⟩ : ∃ dc, dc = bc - ap := ⟨_, rfl⟩
       rw [<- hdl, <- hdc] at hsl
       have HDL := Lib.hid hdl
       clear y0 y1 y2 y3 y4 y5 y6 y7 z0 z1 z2 z3 hRl hs htn hun hy hTA hTB hpis hpno hpat hxq hPS hT6 hc6 hq haq hqm hdl hdc hgl E7
       go_upto_region 14 with (fail)
       rw [<- hW7, <- HMB.out]
       clear hW7
       refine wp_region_tail 8 [5, 7] (Ext W7) hE0.out (by kernel_rfl) (by kernel_rfl) (by kernel_rfl) ?_
       simp only [List.take_succ_cons, List.take_zero, List.drop_succ_cons, List.drop_zero]
       iterate 5 (refine lex_pure rfl rfl rfl ?_; intro K hK; go_big_quiet_op; go_big_quiet_on)
       refine lex_eff rfl ?_
       go_wp2_with fail
       refine (HAD.out _ ((Ext.refl W7).drew)).mono ?_
       rintro e w8 ⟨rfl, x8⟩
       have X8 : Ext W7 w8 := (Ext.refl W7).drew.trans x8
       go_wp2_with fail
       refine ⟨⟨⟨w8, X8⟩, rfl⟩, ?_⟩
       refine lex_pure rfl rfl rfl ?_; intro K hK; go_big_quiet_op; go_big_quiet_on
       refine lex_eff rfl ?_
       go_wp2_with fail
       refine (HWD.out w8).mono ?_
       rintro e w9 ⟨x9, wb, hwb, hwbl, rfl, hwc⟩
       go_wp2_with fail
       refine ⟨⟨⟨w9, X8.trans x9⟩, rfl⟩, ?_⟩
       refine lex_nil ?_
       show wpList _ _ _ (_ :: []) _ _
       have X9 := X8.trans x9
       have HF9 := Lib.hid (HF7.out.ext' X9)
       have hcp := copy_word HF9.out.img (o := ap) (x := xq) (wb := wb) (dl := dl) (dc := dc) hfp HDL.out hwc
       have hbl : (imgL (mixC E st.1 kk (cr.take j)) 0).length = N := by
        have h1 := HF9.out.img.1
        rw [byV_length, Nat.mul_one] at h1
        exact h1
       obtain ⟨hO10, hT10⟩ := ownsRow_cells (d := L.word xq) (i := ap) HF9.out.img (by rw [hbl]; exact hfp)
       have hF10 := HF9.out.patched (i := ap) (dd := L.word xq) (by rw [hbl]; exact hfp)
       obtain ⟨hjr2, hx1, hx2, hx3, hx4⟩ := HRX.out
       have hput := mix_put' HE.out.units (fun p hp => (HOK.out.2.2 p hp).2) hks HRL.out.1 hjr2 (by rw [<- hx1]; exact HQM.out.1)
       rw [hx2, Int.toNat_natCast, <- HAT.out, <- hx3, <- HQM.out.2] at hput
       rw [hput] at hF10
       clear hx1 hx2 hx3 hx4 hjr2
       have hg9 : g < w9.heap.size := HF9.out.link.lt
       have hib := HF9.out.at5 (k := ib) rfl
       have HT9 := Lib.hid (tail_tch HT7.out (X9.tch fun _ => False) HF7.out.link.lt (fun _ h => h.elim) fun h => h)
       have HT10 := Lib.hid (tail_tch HT9.out hT10 hg9 (fun k hk => by rw [hk]; have := HF9.out.low; omega) fun e => (HF9.out.apart HT9.out.1).2.2.2 (by rw [e]; rfl))
       obtain ⟨W10, hW10⟩ : ∃ W10, W10 = w9.setCells ib ap (byV (L.word xq)) := ⟨_, rfl⟩
       rw [<- hW10] at hcp hF10 HT10
       have HF10 := Lib.hid hF10
       clear fx0 fx1 fx2 fx3 fx4 fx5 fx6 fx7 fx8 fx9 fx10 fx11 hne hsl hO10 hT10 hF10 hput hbl hW10 hib hg9 X9 X8 x8 x9 hwb hwbl hwc HT9
       refine wpList_copy_at _ rfl (.tmp 94) (.tmp 99) 80 80 rfl (.slice (some ⟨ib, ap, none⟩) dl dc) (.slice (some ⟨wb, 0, none⟩) 4 4) rfl rfl hcp ?_
       clear hcp
       have y4 : W10.cell? ⟨tb, 4, none⟩ = some (.slice FA mf fc) := cell_of_row W10 _ 4 _ _ _ HF10.out.blk
       have HF11 := Lib.hid (HF10.out.ext' ((Ext.refl W10).alloc (.cells #[.int .i64 (ap : Int)] 3)))
       have HT11 := Lib.hid (tail_tch HT10.out (((Ext.refl W10).alloc (.cells #[.int .i64 (ap : Int)] 3)).tch fun _ => False) HF10.out.link.lt (fun _ h => h.elim) fun h => h)
       have hs11 : ∀ j u, (intC (ap : Int))[j]? = some u -> (W10.alloc (.cells #[.int .i64 (ap : Int)] 3)).cell? ⟨W10.heap.size, j, none⟩ = some u := new_cells W10 (intC (ap : Int)) 3 _ rfl
       have hbase : W1.heap.size + 2 <= (W10.alloc (.cells #[.int .i64 (ap : Int)] 3)).heap.size := by
        have h1 := HF11.out.img.lt ib rfl
        omega
       obtain ⟨i9, hi9, hz9, hz91, hz92⟩ := info_parts info3
       go_wp2_with (at_builtin; refine wpList_append_one rfl (.tmp 102) (.tmp 104) 30 rfl Tryz.underlying30 hi9 hz9 hz91 hz92 rfl (by decide) (by decide) rfl HF11.out.fix (ap : Int) rfl rfl hs11 (intC_one _) (by omega) hbase ?_; intro v5 w5 hown5 hg5 hv5; obtain ⟨A5, c5, rfl⟩ := hown5.form; obtain ⟨hI, x7, xf⟩ := HF11.out.fixed hown5 hg5)
       have hap2 := HF11.out.apart HT11.out.1
       have hT12 : Tch (fun i => (Value.slice FA mf fc).ownBlock = some i ∨ i = tb) (W10.alloc (.cells #[.int .i64 (ap : Int)] 3)) (w5.setCell ⟨tb, 4, none⟩ (.slice A5 (mf + 1) c5)) := by
        have h1 : Tch (fun i => (Value.slice FA mf fc).ownBlock = some i ∨ i = tb) (W10.alloc (.cells #[.int .i64 (ap : Int)] 3)) w5 := ⟨hg5.os, hg5.tape, hg5.output, hg5.size, fun i hi hx => hg5.block i hi fun e => hx (.inl e.symm)⟩
        exact h1.trans' (grown_tch (grownBy_setCell w5 ⟨tb, 4, none⟩ _)) fun i _ e => .inr e
       have hT13 := tail_tch HT11.out hT12 HF11.out.link.lt (fun k hk => by
        have hlow := HF11.out.low
        rcases hk with h | h
        ·have := (HF11.out.fix.lt h).1; omega
        ·omega) fun hk => by
         rcases hk with h | h
         ·exact hap2.2.1 h
         ·exact hap2.1 h
       obtain ⟨hjr2, hx1, hx2, hx3, hx4⟩ := HRX.out
       have e1 : (fixesTo E st.1 kk ++ L.fixF E st.1[kk].1 at0 (cr.take j)) ++ [(ap : Int)] = fixesTo E st.1 kk ++ L.fixF E st.1[kk].1 at0 (cr.take (j + 1)) := by
        rw [hx4, fixF_spot (by rw [<- hx1]; exact HQM.out.1), hx2, List.append_assoc, hsum]
       have e2 : impsTo E st.1 kk ++ L.impF E st.1[kk].1 at0 (cr.take j) = impsTo E st.1 kk ++ L.impF E st.1[kk].1 at0 (cr.take (j + 1)) := by
        rw [hx4, impF_spot (by rw [<- hx1]; exact HQM.out.1)]
       rw [e1, e2] at hI
       have HNX := Lib.hid (And.intro hI hT13)
       clear hx1 hx2 hx3 hx4 hjr2 hI hT13 e1 e2 hT12 hap2 hs11 hbase hown5 hg5 hv5
       go_roundw
       case rel => exact ⟨j + 1, mf + 1, mi, _, _, by go_num, by omega, by omega, by omega, HNX⟩
       case measure => simp [intOf]; omega
      ·rw [haq] at hMG
       obtain ⟨rfl, rfl, hRl⟩ := hMG
       have HF7 := Lib.hid ((HF5.out.linked hT6 hRl).ext' E7)
       obtain ⟨IA, ic, rfl⟩ := HF7.out.imp.form
       obtain ⟨lb, lo, hD, hlb, hls, l0, hl9⟩ := lib_get HF7.out.link.libs hjj
       obtain ⟨nl, hnl⟩ : ∃ nl, nl = E.libs.length := ⟨_, rfl⟩
       have hjn : jj < nl := by rw [hnl]; exact hjj
       have hfl := HE.out.fewL
       have c2 : W7.cell? ⟨g, 2, none⟩ = some (.slice D E.libs.length d) := HF7.out.link.cell 2
       rw [hD, <- hnl] at c2
       rw [<- hnl] at hfl
       obtain ⟨lp, hlp⟩ : ∃ lp, lp = E.libs[jj].1 := ⟨_, rfl⟩
       rw [<- hlp] at l0
       have y5 : W7.cell? ⟨tb, 5, none⟩ = some (.slice IA mi ic) := cell_of_row W7 _ 5 _ _ _ HF7.out.blk
       have t1 : W7.cell? ⟨qb, 1, none⟩ = _ := cell_of_row W7 qb 1 _ _ _ HB7.out
       have hlow := HF7.out.low
       have hlbg : lb < g := hlb
       have n1 : ¬ (Value.slice IA mi ic).ownBlock = some tb := fun e => by
        obtain ⟨c, h1⟩ := ownAt_kind HF7.out.imp.2 e
        exact heap_kinds h1 HF7.out.blk (by decide) rfl
       have n2 : ¬ (Value.slice IA mi ic).ownBlock = some g := fun e => by have := (HF7.out.imp.lt e).1; omega
       have n3 : ¬ (Value.slice IA mi ic).ownBlock = some qb := fun e => by
        obtain ⟨c, h1⟩ := ownAt_kind HF7.out.imp.2 e
        exact heap_kinds h1 HB7.out (by decide) rfl
       have n4 : ¬ (Value.slice IA mi ic).ownBlock = some lb := fun e => by have := (HF7.out.imp.lt e).1; omega
       obtain ⟨Φ, hΦ⟩ : ∃ Φ : World -> Prop, ∀ W, Φ W ↔ Tch (fun i => (Value.slice IA mi ic).ownBlock = some i) W7 W := ⟨_, fun _ => Iff.rfl⟩
       have h0 : Φ W7.drew := (hΦ _).2 (((Ext.refl W7).drew).tch _)
       have fx0 : ∀ z : Lat Φ, z.w'.cell? ⟨tb, 5, none⟩ = _ := fun z => ((hΦ _).1 z.h).keepc y5 n1
       have fx1 : ∀ z : Lat Φ, z.w'.cell? ⟨g, 2, none⟩ = _ := fun z => ((hΦ _).1 z.h).keepc c2 n2
       have fx2 : ∀ z : Lat Φ, z.w'.cell? ⟨lb, lo + jj * 9, none⟩ = _ := fun z => ((hΦ _).1 z.h).keepc l0 n4
       have fx3 : ∀ z : Lat Φ, z.w'.cell? ⟨qb, 1, none⟩ = _ := fun z => ((hΦ _).1 z.h).keepc t1 n3
       have hne := Lat.some h0
       have hdj : decide ((0 : Int) <= (jj : Int)) = true := decide_eq_true (by omega)
       have HLP : Hid (L.aim E st.1[kk].1 rx = .lib jj /\ ∃ h : jj < E.libs.length, lp = E.libs[jj].1) := ⟨haq, hjj, hlp⟩
       clear hl9
       clear hRl hT6 hc6 hq haq hjj hlp hD hlb hls hnl l0 hlow hlbg hgl y5 c2 t1 E7
       go_upto_region 13 with (fail)
       rw [<- hW7, <- HMB.out]
       clear hW7
       refine wp_region_tail 18 [15, 16] Φ h0 (by kernel_rfl) (by kernel_rfl) (by kernel_rfl) ?_
       simp only [List.take_succ_cons, List.take_zero, List.drop_succ_cons, List.drop_zero]
       iterate 15 (refine lex_pure rfl rfl rfl ?_; intro K hK; go_big_quiet_op; go_big_quiet_on)
       refine lex_eff rfl ?_
       go_wp2_with fail
       obtain ⟨el, hel⟩ : ∃ el : L.Impt, el = (lp, rx, (ap : Int)) := ⟨_, rfl⟩
       obtain ⟨W8, hW8⟩ : ∃ W8, W8 = (W7.alloc (.cells #[.string lp, .string rx, .int .i64 (ap : Int)] 128)).drew := ⟨_, rfl⟩
       have E8 : Ext W7 W8 := by rw [hW8]; exact ((Ext.refl W7).alloc _).drew
       have hs8 : ∀ j u, (impC el)[j]? = some u -> W8.cell? ⟨W7.heap.size, j, none⟩ = some u := by rw [hW8, hel]; exact new_cells W7 (impC (lp, rx, (ap : Int))) 128 _ rfl
       rw [<- hW8]
       have hP8 : Φ W8 := (hΦ _).2 (E8.tch _)
       have HF8 := Lib.hid (HF7.out.ext' E8)
       have HT8 := Lib.hid (tail_tch HT7.out (E8.tch fun _ => False) HF7.out.link.lt (fun _ h => h.elim) fun h => h)
       have hbase8 : W1.heap.size + 2 <= W8.heap.size := by
        have h1 := HF8.out.img.lt ib rfl
        omega
       have HEL := Lib.hid hel
       obtain ⟨i9, hi9, hz9, hz91, hz92⟩ := info_parts info128
       clear hW8 hel
       refine ⟨⟨⟨W8, hP8⟩, rfl⟩, ?_⟩
       refine lex_eff rfl ?_
       go_wp2_with (at_builtin; refine wpList_append_one rfl (.tmp 75) (.tmp 89) 31 rfl Tryz.underlying31 hi9 hz9 hz91 hz92 rfl (by decide) (by decide) rfl HF8.out.imp el rfl rfl hs8 (impC_one el) (by omega) hbase8 ?_; intro v5 w5 hown5 hg5 hv5)
       obtain ⟨A5, c5, rfl⟩ := hown5.form
       have hg5' : W8.grownBy w5 (Value.slice IA mi ic).ownBlock := hg5
       have hT5 : Tch (fun i => (Value.slice IA mi ic).ownBlock = some i) W7 w5 := (E8.tch _).trans ⟨hg5'.os, hg5'.tape, hg5'.output, hg5'.size, fun i hi hx => hg5'.block i hi fun e => hx e.symm⟩
       refine ⟨⟨⟨w5, (hΦ _).2 hT5⟩, rfl⟩, ?_⟩
       refine lex_pure rfl rfl rfl ?_; intro K hK; go_big_quiet_op; go_big_quiet_on
       refine lex_nil ?_
       show wpList _ _ _ (_ :: []) _ _
       obtain ⟨hI, x7, xf⟩ := HF8.out.imported hown5 hg5
       have hap2 := HF8.out.apart HT8.out.1
       have hT12 : Tch (fun i => (Value.slice IA mi ic).ownBlock = some i ∨ i = tb) W8 (w5.setCell ⟨tb, 5, none⟩ (.slice A5 (mi + 1) c5)) := by
        have h1 : Tch (fun i => (Value.slice IA mi ic).ownBlock = some i ∨ i = tb) W8 w5 := ⟨hg5'.os, hg5'.tape, hg5'.output, hg5'.size, fun i hi hx => hg5'.block i hi fun e => hx (.inl e.symm)⟩
        exact h1.trans' (grown_tch (grownBy_setCell w5 ⟨tb, 5, none⟩ _)) fun i _ e => .inr e
       have hT13 := tail_tch HT8.out hT12 HF8.out.link.lt (fun k hk => by
        have hlow := HF8.out.low
        rcases hk with h | h
        ·have := (HF8.out.imp.lt h).1; omega
        ·omega) fun hk => by
         rcases hk with h | h
         ·exact hap2.2.2.1 h
         ·exact hap2.1 h
       obtain ⟨hjj2, hlp2⟩ := HLP.out.2
       obtain ⟨hjr2, hx1, hx2, hx3, hx4⟩ := HRX.out
       have e1 : fixesTo E st.1 kk ++ L.fixF E st.1[kk].1 at0 (cr.take j) = fixesTo E st.1 kk ++ L.fixF E st.1[kk].1 at0 (cr.take (j + 1)) := by
        rw [hx4, fixF_lib (by rw [<- hx1]; exact HLP.out.1)]
       have e2 : (impsTo E st.1 kk ++ L.impF E st.1[kk].1 at0 (cr.take j)) ++ [el] = impsTo E st.1 kk ++ L.impF E st.1[kk].1 at0 (cr.take (j + 1)) := by
        rw [hx4, impF_lib (by rw [<- hx1]; exact HLP.out.1) hjj2, hx2, List.append_assoc, hsum, HEL.out, hlp2, hx1]
       have e3 : imgL (mixC E st.1 kk (cr.take j)) 0 = imgL (mixC E st.1 kk (cr.take (j + 1))) 0 := (mix_lib' hks HRL.out.1 hjr2 (by rw [<- hx1]; exact HLP.out.1)).symm
       rw [e1, e2, e3] at hI
       have HNX := Lib.hid (And.intro hI hT13)
       clear fx0 fx1 fx2 fx3 hne h0 hP8 hs8 E8 hown5 hg5 hg5' hv5 hT5 n1 n2 n3 n4 hI hT13 e1 e2 e3 hT12 hap2 hbase8 hjj2 hlp2 hx1 hx2 hx3 hx4 hjr2
       go_wp2_with fail
       go_roundw
       case rel => exact ⟨j + 1, mf, mi + 1, _, _, by go_num, by omega, by omega, by omega, HNX⟩
       case measure => simp [intOf]; omega
     ·obtain rfl : j = rn := by omega
      have hfull : cr.take j = cr := List.take_of_length_le (by rw [HRN.out]; exact Nat.le_refl _)
      have hks2 : kk < st.1.length := by rw [<- HNN.out]; exact hlt
      have HNX : Hid (FiR w g kd E A M D a m d v st tb (W1.heap.size + 2) mf mi (fixesTo E st.1 (kk + 1)) (impsTo E st.1 (kk + 1)) N (imgL (mixC E st.1 (kk + 1) []) 0) (.slice PA n pc) vF vI (.slice BA N bc) V0) := by
       have h1 := HJ.out.1
       rw [hfull, HAT.out, <- HRL.out.1, <- fixes_succ hks2, <- imps_succ hks2, mixC_done hks2] at h1
       exact h1
      clear hfull hks2 HJ
      go_wp2_with fail
      exact ⟨⟨kk + 1, mf, mi, vF, vI, by go_num, by omega, by omega, by omega, HNX⟩, by simp [intOf]; omega⟩
   ·obtain rfl : kk = n := by omega
    have hnl : kk = st.1.length := HNN.out
    have hZ := HK.out
    rw [show fixesTo E st.1 kk = E.fixes st.1 by rw [hnl]; exact fixes_all _, show impsTo E st.1 kk = E.imps st.1 by rw [hnl]; exact imps_all _, show imgL (mixC E st.1 kk []) 0 = E.img st.1 by rw [hnl]; exact mixC_end E _] at hZ
    have hlen : (E.img st.1).length = N := by
     have h1 := hZ.img.1
     rw [byV_length, Nat.mul_one] at h1
     exact h1
    obtain ⟨im, him⟩ : ∃ im : ByteArray, im = ⟨(E.img st.1).toArray⟩ := ⟨_, rfl⟩
    have hcv := own_string hZ.img hlen
    rw [<- him] at hcv
    have x2 : W0.cell? ⟨tb, 2, none⟩ = some (.string ⟨#[]⟩) := cell_of_row W0 _ 2 _ _ _ hZ.blk
    have xf := Lib.frozen_of_heap hZ.blk 2
    have hN2 := hZ.imaged im
    obtain ⟨FA, fc, rfl⟩ := hZ.fix.form
    obtain ⟨IA, ic, rfl⟩ := hZ.imp.form
    obtain ⟨W2, hW2⟩ : ∃ W2, W2 = W0.setCell ⟨tb, 2, none⟩ (.string im) := ⟨_, rfl⟩
    rw [<- hW2] at hN2
    have HN2 := Lib.hid hN2
    have HIM : Hid (im = ⟨(E.img st.1).toArray⟩ /\ (E.img st.1).length <= 65536 /\ kk = st.1.length) := ⟨him, by omega, hnl⟩
    clear him hlen hZ HK hN2 hnl
    go_upto_region 19 with (fail)
    rw [<- hW2]
    clear hW2 x2 xf hcv
    obtain ⟨W3, hW3⟩ : ∃ W3, W3 = W2.alloc (.cells #[.slice none 0 0, .slice none 0 0] 38) := ⟨_, rfl⟩
    obtain ⟨rb, hrb⟩ : ∃ rb, rb = W2.heap.size := ⟨_, rfl⟩
    have E3 : Ext W2 W3 := by rw [hW3]; exact (Ext.refl W2).alloc _
    have hb3 : W3.heap[rb]? = some (.cells #[.slice none 0 0, .slice none 0 0] 38 (0, 0)) := by rw [hW3, hrb]; exact heap_alloc_new W2 _
    have HR0 : Hid (RfAt W2 rb (.slice none 0 0) (.slice none 0 0) 0 0 ((E.objs.take 0).map (·.1)) [] W3) := ⟨E3, hrb, hb3, OwnL.nil _ _, OwnL.nil _ _, fun b hb => by simp [Value.ownBlock] at hb⟩
    have HRB := Lib.hid hrb
    obtain ⟨no, hno⟩ : ∃ no, no = E.objs.length := ⟨_, rfl⟩
    obtain ⟨nm, hnm⟩ : ∃ nm, nm = E.mems.length := ⟨_, rfl⟩
    obtain ⟨nl, hnl⟩ : ∃ nl, nl = E.libs.length := ⟨_, rfl⟩
    obtain ⟨mm, hmm⟩ : ∃ mm, mm = st.2.1 := ⟨_, rfl⟩
    obtain ⟨ml, hml⟩ : ∃ ml, ml = st.2.2 := ⟨_, rfl⟩
    have hlens := HE.out.lens
    have hfl := HE.out.fewL
    have hmm1 : mm <= nm := by have := HBD.out.1; omega
    have hml1 : ml <= nl := by have := HBD.out.2; omega
    have hno5 : no <= 100000 := by omega
    have hnm5 : nm <= 100000 := by omega
    have hnl5 : nl <= 100000 := by omega
    have c0 : W3.cell? ⟨g, 0, none⟩ = some (.slice A E.objs.length a) := (HN2.out.link.ext E3).cell 0
    rw [<- hno] at c0
    obtain ⟨i0, hi0, hz0, hz1, hz2⟩ := info_parts str_info
    have HNO : Hid (no = E.objs.length /\ nm = E.mems.length /\ nl = E.libs.length /\ mm = st.2.1 /\ ml = st.2.2) := ⟨hno, hnm, hnl, hmm, hml⟩
    obtain ⟨M', hslM, hsM⟩ := run_slice_till (P := Tryz.prog) 22 (ty22 ▸ Tryz.underlying22) sz22 HN2.out.link.mems hnm hmm1
    obtain ⟨D', hslD, hsD⟩ := run_slice_till (P := Tryz.prog) 24 (ty24 ▸ Tryz.underlying24) sz24 HN2.out.link.libs hnl hml1
    have HSM := Lib.hid hsM
    have HSD := Lib.hid hsD
    have HSLM := Lib.hid hslM
    have HSLD := Lib.hid hslD
    clear hrb hb3 hno hnm hnl hmm hml hsM hsD hslM hslD hlens hfl
    have HE3 := Lib.hid E3
    clear E3
    go_upto_region 20 with (fail)
    rw [<- hW3, <- HRB.out]
    clear hW3
    go_wp2_with fail
    clear c0
    go_loopw [119] (fun i wr => ∃ (j : Nat) (vT : Value), j <= no /\ i = .int .i64 (j : Int) /\ Hid (RfAt W2 rb vT (.slice none 0 0) j 0 ((E.objs.take j).map (·.1)) [] wr)) (fun i _ => no - (intOf i).toNat)
    case atStart => exact ⟨0, _, Nat.zero_le _, rfl, HR0.out⟩
    case round =>
     obtain ⟨j, vT, hj, rfl, HK⟩ := hrel
     obtain ⟨V0, hV0⟩ : ∃ V0, V0 = wr := ⟨_, rfl⟩
     subst hV0
     by_cases hlt2 : j < no
     ·have hjo : j < E.objs.length := by rw [<- HNO.out.1]; exact hlt2
      have hgl := HN2.out.link.lt
      have HT : Hid (SliceAt memR V0 (fun i => i < g) A a E.objs) := HN2.out.link.objs.keep (fun _ h => h) fun b hb => HK.out.ext.block b (Nat.lt_trans hb hgl)
      obtain ⟨mb, mo, s, TA, tc, TB, td, hAe, hbo, hms, hss, hTA, hTB, m0, m1, m2⟩ := mem_getB HT.out hjo
      subst hAe
      have htk := take_names hjo
      rw [hms] at htk
      have HTK := Lib.hid htk
      generalize E.objs[j].2.1.length = tl at m1
      generalize E.objs[j].2.2.length = ul at m2
      obtain ⟨W4, hW4⟩ : ∃ W4, W4 = V0.alloc (.cells #[.string s, .slice TA tl tc, .slice TB ul td] 69) := ⟨_, rfl⟩
      obtain ⟨eb, heb⟩ : ∃ eb, eb = V0.heap.size := ⟨_, rfl⟩
      have E4 : Ext V0 W4 := by rw [hW4]; exact (Ext.refl V0).alloc _
      have hb4 : W4.heap[eb]? = some (.cells #[.string s, .slice TA tl tc, .slice TB ul td] 69 (0, 0)) := by rw [hW4, heb]; exact heap_alloc_new V0 _
      have t0 : W4.cell? ⟨eb, 0, none⟩ = _ := cell_of_row W4 eb 0 _ _ _ hb4
      have HR4 := Lib.hid (HK.out.ext' E4)
      have z0 : W4.cell? ⟨rb, 0, none⟩ = some vT := cell_of_row W4 _ 0 _ _ _ HR4.out.blk
      have HEB := Lib.hid heb
      clear htk hms hss hTA hTB hbo heb hb4 E4 HT HK hjo hgl
      go_upto_region 23 with (fail)
      rw [<- hW4, <- HEB.out]
      clear hW4 m0 m1 m2
      have HR5 := Lib.hid (HR4.out.ext' ((Ext.refl W4).alloc (.cells #[.string s] 9)))
      have hbase : W2.heap.size + 1 <= (W4.alloc (.cells #[.string s] 9)).heap.size := by
       have h1 := (hltA HR5.out.blk)
       have h2 := HR5.out.low
       omega
      go_wp2_with (at_builtin; refine wpList_append_one rfl (.tmp 124) (.tmp 127) 36 rfl Tryz.underlying36 hi0 hz0 hz1 hz2 rfl (by decide) (by decide) rfl HR5.out.o1 s rfl rfl (one_cells _ s 9 _ rfl) (strC_one s) (by omega) hbase ?_; intro v5 w5 hown5 hg5 hv5; obtain ⟨A5, c5, rfl⟩ := hown5.form; obtain ⟨hI, x7, xf⟩ := HR5.out.pushed1 hown5 hg5 hv5)
      have HI : Hid (RfAt W2 rb (.slice A5 (j + 1) c5) (.slice none 0 0) (j + 1) 0 ((E.objs.take (j + 1)).map (·.1)) [] (w5.setCell ⟨rb, 0, none⟩ (.slice A5 (j + 1) c5))) := by rw [HTK.out]; exact hI
      go_roundw
      case rel => exact ⟨j + 1, _, by omega, by go_num, HI⟩
      case measure => simp [intOf]; omega
     ·obtain rfl : j = no := by omega
      obtain ⟨T0, hT0⟩ : ∃ T0, T0 = (E.objs.take j).map (·.1) := ⟨_, rfl⟩
      have HR1 : Hid (RfAt W2 rb vT (.slice none 0 0) (j + 0) 0 (T0 ++ (E.mems.take 0).map (·.1)) [] V0) := by
       rw [List.take_zero, List.map_nil, List.append_nil, hT0]
       exact HK.out
      have HT0 : Hid (T0 = E.objs.map (·.1)) := (show T0 = E.objs.map (·.1) by rw [hT0, List.take_of_length_le (by rw [HNO.out.1]; exact Nat.le_refl _)])
      have hL0 := HN2.out.link.ext HK.out.ext
      have c1 : V0.cell? ⟨g, 1, none⟩ = some (.slice M E.mems.length m) := hL0.cell 1
      have c4 : V0.cell? ⟨g, 4, none⟩ = some (.int .i64 (st.2.1 : Int)) := hL0.cell 4
      rw [<- HNO.out.2.1] at c1
      rw [<- HNO.out.2.2.2.1] at c4
      have hsl := HSLM.out
      clear hT0 HK hL0
      go_upto_region 25 with (fail)
      go_quiet (fail)
      obtain ⟨W4, hW4⟩ : ∃ W4, W4 = V0.drewN nq := ⟨_, rfl⟩
      have E4 : Ext V0 W4 := by rw [hW4]; exact (Ext.refl V0).drewN nq
      rw [<- hW4]
      have HP4 := Lib.hid (HR1.out.ext' E4)
      clear hW4 E4 c1 c4 hsl HR1
      go_wp2_with fail
      go_loopw [142] (fun i wr => ∃ (q : Nat) (vT : Value), q <= mm /\ i = .int .i64 (q : Int) /\ Hid (RfAt W2 rb vT (.slice none 0 0) (j + q) 0 (T0 ++ (E.mems.take q).map (·.1)) [] wr)) (fun i _ => mm - (intOf i).toNat)
      case atStart => exact ⟨0, _, Nat.zero_le _, rfl, HP4.out⟩
      case round =>
       obtain ⟨q, vT, hq, rfl, HK⟩ := hrel
       obtain ⟨V1, hV1⟩ : ∃ V1, V1 = wr := ⟨_, rfl⟩
       subst hV1
       by_cases hlt3 : q < mm
       ·have hqm : q < E.mems.length := by rw [<- HNO.out.2.1]; omega
        have hqt : q < (E.mems.take mm).length := by rw [List.length_take]; omega
        have hgl := HN2.out.link.lt
        have HT : Hid (SliceAt memR V1 (fun i => i < g) M' m (E.mems.take mm)) := HSM.out.keep (fun _ h => h) fun b hb => HK.out.ext.block b (Nat.lt_trans hb hgl)
        obtain ⟨mb, mo, s, TA, tc, TB, td, rfl, hbo, hms, hss, hTA, hTB, m0, m1, m2⟩ := mem_getB HT.out hqt
        have hge : (E.mems.take mm)[q] = E.mems[q] := List.getElem_take
        rw [hge] at hms m1 m2
        have htk := take_names hqm
        rw [hms] at htk
        have HTK := Lib.hid htk
        generalize E.mems[q].2.1.length = tl at m1
        generalize E.mems[q].2.2.length = ul at m2
        obtain ⟨W5, hW5⟩ : ∃ W5, W5 = V1.alloc (.cells #[.string s, .slice TA tl tc, .slice TB ul td] 69) := ⟨_, rfl⟩
        obtain ⟨eb, heb⟩ : ∃ eb, eb = V1.heap.size := ⟨_, rfl⟩
        have E5 : Ext V1 W5 := by rw [hW5]; exact (Ext.refl V1).alloc _
        have hb5 : W5.heap[eb]? = some (.cells #[.string s, .slice TA tl tc, .slice TB ul td] 69 (0, 0)) := by rw [hW5, heb]; exact heap_alloc_new V1 _
        have t0 : W5.cell? ⟨eb, 0, none⟩ = _ := cell_of_row W5 eb 0 _ _ _ hb5
        have HR4 := Lib.hid (HK.out.ext' E5)
        have z0 : W5.cell? ⟨rb, 0, none⟩ = some vT := cell_of_row W5 _ 0 _ _ _ HR4.out.blk
        have HEB := Lib.hid heb
        clear htk hms hss hTA hTB hbo heb hb5 E5 HT HK hqm hqt hgl hge
        go_upto_region 28 with (fail)
        rw [<- hW5, <- HEB.out]
        clear hW5 m0 m1 m2
        have HR5 := Lib.hid (HR4.out.ext' ((Ext.refl W5).alloc (.cells #[.string s] 9)))
        have hbase : W2.heap.size + 1 <= (W5.alloc (.cells #[.string s] 9)).heap.size := by
         have h1 := (hltA HR5.out.blk)
         have h2 := HR5.out.low
         omega
        go_wp2_with (at_builtin; refine wpList_append_one rfl (.tmp 147) (.tmp 150) 36 rfl Tryz.underlying36 hi0 hz0 hz1 hz2 rfl (by decide) (by decide) rfl HR5.out.o1 s rfl rfl (one_cells _ s 9 _ rfl) (strC_one s) (by omega) hbase ?_; intro v5 w5 hown5 hg5 hv5; obtain ⟨A5, c5, rfl⟩ := hown5.form; obtain ⟨hI, x7, xf⟩ := HR5.out.pushed1 hown5 hg5 hv5)
        have HI : Hid (RfAt W2 rb (.slice A5 (j + q + 1) c5) (.slice none 0 0) (j + (q + 1)) 0 (T0 ++ (E.mems.take (q + 1)).map (·.1)) [] (w5.setCell ⟨rb, 0, none⟩ (.slice A5 (j + q + 1) c5))) := by rw [HTK.out, <- List.append_assoc]; exact hI
        go_roundw
        case rel => exact ⟨q + 1, _, by omega, by go_num, HI⟩
        case measure => simp [intOf]; omega
       ·obtain rfl : q = mm := by omega
        obtain ⟨T1, hT1⟩ : ∃ T1, T1 = T0 ++ (E.mems.take q).map (·.1) := ⟨_, rfl⟩
        have HT1 := Lib.hid hT1
        rw [<- hT1] at HK
        have HR1 : Hid (RfAt W2 rb vT (.slice none 0 0) (j + q) 0 T1 ((E.libs.take 0).map (·.1)) V1) := HK.out
        have hL0 := HN2.out.link.ext HK.out.ext
        have c2 : V1.cell? ⟨g, 2, none⟩ = some (.slice D E.libs.length d) := hL0.cell 2
        have c5 : V1.cell? ⟨g, 5, none⟩ = some (.int .i64 (st.2.2 : Int)) := hL0.cell 5
        rw [<- HNO.out.2.2.1] at c2
        rw [<- HNO.out.2.2.2.2] at c5
        have hsl := HSLD.out
        clear hT1 HK hL0 HP4
        go_upto_region 30 with (fail)
        go_quiet (fail)
        obtain ⟨W5, hW5⟩ : ∃ W5, W5 = V1.drewN nq := ⟨_, rfl⟩
        have E5 : Ext V1 W5 := by rw [hW5]; exact (Ext.refl V1).drewN nq
        rw [<- hW5]
        have HP5 := Lib.hid (HR1.out.ext' E5)
        clear hW5 E5 c2 c5 hsl HR1
        go_wp2_with fail
        go_loopw [165] (fun i wr => ∃ (p : Nat) (vL : Value), p <= ml /\ i = .int .i64 (p : Int) /\ Hid (RfAt W2 rb vT vL (j + q) p T1 ((E.libs.take p).map (·.1)) wr)) (fun i _ => ml - (intOf i).toNat)
        case atStart => exact ⟨0, _, Nat.zero_le _, rfl, HP5.out⟩
        case round =>
         obtain ⟨p, vL, hp, rfl, HK⟩ := hrel
         obtain ⟨V2, hV2⟩ : ∃ V2, V2 = wr := ⟨_, rfl⟩
         subst hV2
         by_cases hlt4 : p < ml
         ·have hpl : p < E.libs.length := by rw [<- HNO.out.2.2.1]; omega
          have hpt : p < (E.libs.take ml).length := by rw [List.length_take]; omega
          have hgl := HN2.out.link.lt
          have HT : Hid (SliceAt librR V2 (fun i => i < g) D' d (E.libs.take ml)) := HSD.out.keep (fun _ h => h) fun b hb => HK.out.ext.block b (Nat.lt_trans hb hgl)
          obtain ⟨b, off, kd2, en, im2, A1, n1, c1, A2, n2, c2, A3, n3, c3, A4, c4, A5, n5, c5, rfl, hbo, hs, hkd, hEX, m0, m1, m2, m3, m4, m5, m6, m7, m8⟩ := lib_cells HT.out hpt
          have hge : (E.libs.take ml)[p] = E.libs[p] := List.getElem_take
          rw [hge] at m0 m7
          have htk := take_paths hpl
          have HTK := Lib.hid htk
          generalize E.libs[p].1 = s at m0 HTK
          generalize (L.exps E.libs[p]).length = n4 at m7
          obtain ⟨W6, hW6⟩ : ∃ W6, W6 = V2.alloc (.cells #[.string s, .int .i64 kd2, .int .i64 en, .string im2, .slice A1 n1 c1, .slice A2 n2 c2, .slice A3 n3 c3, .slice A4 n4 c4, .slice A5 n5 c5] 86) := ⟨_, rfl⟩
          obtain ⟨eb, heb⟩ : ∃ eb, eb = V2.heap.size := ⟨_, rfl⟩
          have E6 : Ext V2 W6 := by rw [hW6]; exact (Ext.refl V2).alloc _
          have hb6 : W6.heap[eb]? = some (.cells #[.string s, .int .i64 kd2, .int .i64 en, .string im2, .slice A1 n1 c1, .slice A2 n2 c2, .slice A3 n3 c3, .slice A4 n4 c4, .slice A5 n5 c5] 86 (0, 0)) := by rw [hW6, heb]; exact heap_alloc_new V2 _
          have t0 : W6.cell? ⟨eb, 0, none⟩ = _ := cell_of_row W6 eb 0 _ _ _ hb6
          have HR4 := Lib.hid (HK.out.ext' E6)
          have z1 : W6.cell? ⟨rb, 1, none⟩ = some vL := cell_of_row W6 _ 1 _ _ _ HR4.out.blk
          have HEB := Lib.hid heb
          clear htk hs hkd hEX hbo hge heb hb6 E6 HT HK hpl hpt hgl
          go_upto_region 33 with (fail)
          rw [<- hW6, <- HEB.out]
          clear hW6 m0 m1 m2 m3 m4 m5 m6 m7 m8
          have HR5 := Lib.hid (HR4.out.ext' ((Ext.refl W6).alloc (.cells #[.string s] 9)))
          have hbase : W2.heap.size + 1 <= (W6.alloc (.cells #[.string s] 9)).heap.size := by
           have h1 := (hltA HR5.out.blk)
           have h2 := HR5.out.low
           omega
          go_wp2_with (at_builtin; refine wpList_append_one rfl (.tmp 170) (.tmp 173) 36 rfl Tryz.underlying36 hi0 hz0 hz1 hz2 rfl (by decide) (by decide) rfl HR5.out.o2 s rfl rfl (one_cells _ s 9 _ rfl) (strC_one s) (by omega) hbase ?_; intro v5 w5 hown5 hg5 hv5; obtain ⟨B5, d5, rfl⟩ := hown5.form; obtain ⟨hI, x7, xf⟩ := HR5.out.pushed2 hown5 hg5 hv5)
          have HI : Hid (RfAt W2 rb vT (.slice B5 (p + 1) d5) (j + q) (p + 1) T1 ((E.libs.take (p + 1)).map (·.1)) (w5.setCell ⟨rb, 1, none⟩ (.slice B5 (p + 1) d5))) := by rw [HTK.out]; exact hI
          go_roundw
          case rel => exact ⟨p + 1, _, by omega, by go_num, HI⟩
          case measure => simp [intOf]; omega
         ·obtain rfl : p = ml := by omega
          have hrd : E.reading st.2 = (T1, (E.libs.take p).map (·.1)) := by
           rw [show st.2 = (q, p) by rw [HNO.out.2.2.2.1, HNO.out.2.2.2.2], read_split, HT1.out, HT0.out]
          have hR9 : RfAt W2 rb vT vL (j + q) p (E.reading st.2).1 (E.reading st.2).2 V2 := by rw [hrd]; exact HK.out
          obtain ⟨TA, tc, rfl⟩ := hR9.o1.form
          obtain ⟨LA, lc, rfl⟩ := hR9.o2.form
          have HR9 := Lib.hid hR9
          have HF9 := Lib.hid (HN2.out.ext' hR9.ext)
          have y0 : V2.cell? ⟨tb, 0, none⟩ = some (.int .i64 kd) := cell_of_row V2 _ 0 _ _ _ HF9.out.blk
          have y1 : V2.cell? ⟨tb, 1, none⟩ = some (.int .i64 0) := cell_of_row V2 _ 1 _ _ _ HF9.out.blk
          have y2 : V2.cell? ⟨tb, 2, none⟩ = some (.string im) := cell_of_row V2 _ 2 _ _ _ HF9.out.blk
          have y3 : V2.cell? ⟨tb, 3, none⟩ = some (.slice PA kk pc) := cell_of_row V2 _ 3 _ _ _ HF9.out.blk
          have y4 : V2.cell? ⟨tb, 4, none⟩ = some (.slice FA nf fc) := cell_of_row V2 _ 4 _ _ _ HF9.out.blk
          have y5 : V2.cell? ⟨tb, 5, none⟩ = some (.slice IA ni ic) := cell_of_row V2 _ 5 _ _ _ HF9.out.blk
          have y6 : V2.cell? ⟨tb, 6, none⟩ = some (.slice none 0 0) := cell_of_row V2 _ 6 _ _ _ HF9.out.blk
          have y7 : V2.cell? ⟨tb, 7, none⟩ = some (.slice none 0 0) := cell_of_row V2 _ 7 _ _ _ HF9.out.blk
          have z0 : V2.cell? ⟨rb, 0, none⟩ = some (.slice TA (j + q) tc) := cell_of_row V2 _ 0 _ _ _ HR9.out.blk
          have z1 : V2.cell? ⟨rb, 1, none⟩ = some (.slice LA p lc) := cell_of_row V2 _ 1 _ _ _ HR9.out.blk
          have n1 : ¬ (tb = w.heap.size ∨ tb = w.heap.size + 1) := by have := HF9.out.low; omega
          have n2 : ¬ (rb = w.heap.size ∨ rb = w.heap.size + 1) := by
           have h1 := HRB.out
           have h2 := (hltA HN2.out.res2)
           omega
          obtain ⟨Φ, hΦ⟩ : ∃ Φ : World -> Prop, ∀ W, Φ W ↔ Tch (fun i => i = w.heap.size ∨ i = w.heap.size + 1) V2 W := ⟨_, fun _ => Iff.rfl⟩
          have h0 : Φ V2.drew := (hΦ _).2 (((Ext.refl V2).drew).tch _)
          have fx0 : ∀ z : Lat Φ, z.w'.cell? ⟨tb, 0, none⟩ = _ := fun z => ((hΦ _).1 z.h).keepc y0 n1
          have fx1 : ∀ z : Lat Φ, z.w'.cell? ⟨tb, 1, none⟩ = _ := fun z => ((hΦ _).1 z.h).keepc y1 n1
          have fx2 : ∀ z : Lat Φ, z.w'.cell? ⟨tb, 2, none⟩ = _ := fun z => ((hΦ _).1 z.h).keepc y2 n1
          have fx3 : ∀ z : Lat Φ, z.w'.cell? ⟨tb, 3, none⟩ = _ := fun z => ((hΦ _).1 z.h).keepc y3 n1
          have fx4 : ∀ z : Lat Φ, z.w'.cell? ⟨tb, 4, none⟩ = _ := fun z => ((hΦ _).1 z.h).keepc y4 n1
          have fx5 : ∀ z : Lat Φ, z.w'.cell? ⟨tb, 5, none⟩ = _ := fun z => ((hΦ _).1 z.h).keepc y5 n1
          have fx6 : ∀ z : Lat Φ, z.w'.cell? ⟨tb, 6, none⟩ = _ := fun z => ((hΦ _).1 z.h).keepc y6 n1
          have fx7 : ∀ z : Lat Φ, z.w'.cell? ⟨tb, 7, none⟩ = _ := fun z => ((hΦ _).1 z.h).keepc y7 n1
          have fx8 : ∀ z : Lat Φ, z.w'.cell? ⟨rb, 0, none⟩ = _ := fun z => ((hΦ _).1 z.h).keepc z0 n2
          have fx9 : ∀ z : Lat Φ, z.w'.cell? ⟨rb, 1, none⟩ = _ := fun z => ((hΦ _).1 z.h).keepc z1 n2
          have hne := Lat.some h0
          have hA9 : V2.heap[w.heap.size]? = some (.cells zrow35 35 (0, 0)) := HF9.out.res
          have hB9 : V2.heap[w.heap.size + 1]? = some (.cells zrow38 38 (0, 0)) := HF9.out.res2
          have hD9 : V2.drew.heap[w.heap.size]? = some (.cells zrow35 35 (0, 0)) := hA9
          have hD10 : V2.drew.heap[w.heap.size + 1]? = some (.cells zrow38 38 (0, 0)) := hB9
          have HD9 := Lib.hid hD9
          have HD10 := Lib.hid hD10
          clear hrd hR9 HK y0 y1 y2 y3 y4 y5 y6 y7 z0 z1 hA9 hB9
          go_upto_region 35 with (fail)
          refine wp_region_tail 4 [2, 3] Φ h0 (by kernel_rfl) (by kernel_rfl) (by kernel_rfl) ?_
          simp only [List.take_succ_cons, List.take_zero, List.drop_succ_cons, List.drop_zero]
          iterate 2 (refine lex_pure rfl rfl rfl ?_; intro K hK; go_big_quiet_op; go_big_quiet_on)
          clear hD9
          obtain ⟨c35, hc35⟩ : ∃ c, c = (#[.int .i64 kd, .int .i64 0, .string im, .slice PA kk pc, .slice FA nf fc, .slice IA ni ic, .slice none 0 0, .slice none 0 0] : Array Value) := ⟨_, rfl⟩
          obtain ⟨c38, hc38⟩ : ∃ c, c = (#[.slice TA (j + q) tc, .slice LA p lc] : Array Value) := ⟨_, rfl⟩
          refine lex_eff rfl ?_
          refine wpList_store_row rfl 35 (.tmp 4) (.tmp 177) rfl w.heap.size c35 rfl ?_ 35 _ HD9.out ?_ ?_ ?_ ?_
          ·rw [hc35]; rfl
          ·rw [hc35, size35]; rfl
          ·rw [hc35]; rfl
          ·rw [hc35]
           refine all_one fun u hu => ?_
           simp only [List.mem_cons, List.not_mem_nil, or_false] at hu
           rcases hu with rfl | rfl | rfl | rfl | rfl | rfl | rfl | rfl <;> rfl
          obtain ⟨W8, hW8⟩ : ∃ W8, W8 = V2.drew.setRow w.heap.size c35 := ⟨_, rfl⟩
          have hT8 : Tch (fun i => i = w.heap.size) V2.drew W8 := by rw [hW8]; exact tch_setRow V2.drew w.heap.size _
          have hT8' : Tch (fun i => i = w.heap.size ∨ i = w.heap.size + 1) V2 W8 := (((Ext.refl V2).drew).tch _).trans (hT8.mono fun _ _ h => .inl h)
          have hA8 : W8.heap[w.heap.size]? = some (.cells c35 35 (0, 0)) := by rw [hW8]; exact heap_setRow V2.drew w.heap.size _ HD9.out
          have hB8 := (hT8.block _ (hltA hD10) (by omega)).trans hD10
          rw [<- hW8]
          clear hW8
          refine ⟨⟨⟨W8, (hΦ _).2 hT8'⟩, rfl⟩, ?_⟩
          refine lex_eff rfl ?_
          refine wpList_store_row rfl 38 (.tmp 5) (.tmp 178) rfl (w.heap.size + 1) c38 rfl ?_ 38 _ hB8 ?_ ?_ ?_ ?_
          ·rw [hc38]; rfl
          ·rw [hc38, size38]; rfl
          ·rw [hc38]; rfl
          ·rw [hc38]
           refine all_one fun u hu => ?_
           simp only [List.mem_cons, List.not_mem_nil, or_false] at hu
           rcases hu with rfl | rfl <;> rfl
          obtain ⟨W9, hW9⟩ : ∃ W9, W9 = W8.setRow (w.heap.size + 1) c38 := ⟨_, rfl⟩
          have hT9 : Tch (fun i => i = w.heap.size + 1) W8 W9 := by rw [hW9]; exact tch_setRow W8 (w.heap.size + 1) _
          have hB9 : W9.heap[w.heap.size + 1]? = some (.cells c38 38 (0, 0)) := by rw [hW9]; exact heap_setRow W8 (w.heap.size + 1) _ hB8
          have hA9 := (hT9.block _ (hltA hA8) (by omega)).trans hA8
          rw [<- hW9]
          have hT89 := hT8'.trans (hT9.mono fun _ _ h => .inr h)
          have HT9 := Lib.hid hT89
          have HA9 := Lib.hid hA9
          have HB9 := Lib.hid hB9
          have HC35 := Lib.hid hc35
          have HC38 := Lib.hid hc38
          clear hW9
          refine ⟨⟨⟨W9, (hΦ _).2 hT89⟩, rfl⟩, ?_⟩
          refine lex_nil ?_
          clear fx0 fx1 fx2 fx3 fx4 fx5 fx6 fx7 fx8 fx9 hne h0 hT8 hT8' hT9 hB8 hA8 hA9 hB9 hT89 hc35 hc38
          go_wp2_with fail
          have q1 := HA9.out
          have q2 := HB9.out
          rw [HC35.out] at q1
          rw [HC38.out] at q2
          refine ret_bre rfl rfl rfl rfl q1 q2 rfl rfl rfl ?_
          rw [HFV2.out]
          obtain ⟨b1, b2⟩ := HN2.out.back HE.out HOK.out HKD.out HIM.out.1 HIM.out.2.1 HIM.out.2.2 HR9.out HT9.out
          exact ⟨b1, b2, fun vs rs er h => by cases h; rfl⟩
end Go.Proofs.YtfbhchpbflaphaaGreatDoor
