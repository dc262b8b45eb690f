/- The texts Lf Lg Sm Ll Lm Lo Lh of the seat, joined. -/
import Derived.Test.YtfbhchpbflaphaaGreatDoorS15
import Derived.Laws.StructEq
import Derived.Lib.AppendStr
import Derived.Lib.OwnKind
namespace Go.Proofs.YtfbhchpbflaphaaGreatDoor
open Go.RowKit Go.Maps Go.ChangeMaps
structure CoAt (g : Nat) (E : L.Env) (A M D : Option Addr) (a m d : Nat) (w : World) (v : Value) (wr : World) (vj : Value) (sj : L.St) : Prop where
 link : RlAt g E A M D a m d wr vj sj
 ok : L.ListOk E sj.1
 bd : L.Bd E sj.2
 tch : Tch (fun k => k = g ∨ v.ownBlock = some k) w wr
 own : ∀ k, vj.ownBlock = some k -> v.ownBlock = some k ∨ w.heap.size <= k
 kept : KeptV spotR.size w wr v vj
 low : ∀ k, v.ownBlock = some k -> g < k /\ k < w.heap.size
theorem CoAt.step {g : Nat} {E : L.Env} {A M D : Option Addr} {a m d : Nat} {w : World} {v : Value} {wr w1 : World} {vj v1 : Value} {sj s1 : L.St} (h : CoAt g E A M D a m d w v wr vj sj) (hT : Tch (fun k => k = g ∨ vj.ownBlock = some k) wr w1) (hl : RlAt g E A M D a m d w1 v1 s1) (ho : L.ListOk E s1.1) (hb : L.Bd E s1.2)
 (hK : KeptV spotR.size wr w1 vj v1) (hv : ∀ k, v1.ownBlock = some k -> vj.ownBlock = some k ∨ wr.heap.size <= k) : CoAt g E A M D a m d w v w1 v1 s1 where
 link := hl
 ok := ho
 bd := hb
 tch := h.tch.trans' hT fun i hi e => by
  rcases e with rfl | e
  ·exact .inl rfl
  ·rcases h.own i e with h1 | h1
   ·exact .inr h1
   ·omega
 own := fun k hk => by
  rcases hv k hk with h1 | h1
  ·exact h.own k h1
  ·exact .inr (Nat.le_trans h.tch.size h1)
 kept := h.kept.trans hK hT (fun b hb hx => by
  rcases hx with e | e
  ·have := (h.low b hb).1; omega
  ·exact e) (fun b hb => Nat.lt_of_lt_of_le (h.low b hb).2 h.tch.size) hv
 low := h.low
theorem CoAt.ext {g : Nat} {E : L.Env} {A M D : Option Addr} {a m d : Nat} {w : World} {v : Value} {wr w1 : World} {vj : Value} {sj : L.St} (h : CoAt g E A M D a m d w v wr vj sj) (he : Ext wr w1) : CoAt g E A M D a m d w v w1 vj sj :=
 h.step (he.tch _) (h.link.ext he) h.ok h.bd (KeptV.ext he) fun _ hk => .inl hk
def RetCo (g : Nat) (E : L.Env) (A M D : Option Addr) (a m d : Nat) (w : World) (v : Value) (r : Except Int L.St) (e : Ending) (w' : World) : Prop :=
 Tch (fun k => k = g ∨ v.ownBlock = some k) w w' /\ match r with
 | .error n => n ≠ 0 /\ e = .returned (.int .i64 n)
 | .ok st' => e = .returned (.int .i64 0) /\ ∃ v', CoAt g E A M D a m d w v w' v' st'
theorem pre_get {l m : List L.Spot} (h : l <+: m) {k : Nat} (hk : k < l.length) : ∃ h2 : k < m.length, m[k] = l[k] := by
 obtain ⟨t, rfl⟩ := h
 exact ⟨by rw [List.length_append]; omega, List.getElem_append_left hk⟩
theorem aim_two {E : L.Env} {u : Nat} {x : ByteArray} {p : L.Spot} (h : L.aim E u x = .spot p) : p.2 = x := by
 unfold L.aim at h
 split at h
 ·cases h
 ·split at h
  ·split at h
   ·cases h
   ·cases h; rfl
  ·split at h <;> cases h
   rfl
theorem CoAt.meant {g : Nat} {E : L.Env} {A M D : Option Addr} {a m d : Nat} {w : World} {v : Value} {wr w1 : World} {vj : Value} {sj s1 : L.St} (h : CoAt g E A M D a m d w v wr vj sj) (hT : Tch (fun k => k = g) wr w1) (hl : RlAt g E A M D a m d w1 vj s1) (ho : L.ListOk E s1.1) (hb : L.Bd E s1.2) : CoAt g E A M D a m d w v w1 vj s1 :=
 h.step (hT.mono fun _ _ h => .inl h) hl ho hb (KeptV.tch hT fun b hb e => by have := (h.link.own hb).1; omega) fun _ hk => .inl hk
attribute [local irreducible] wpLex wpT
set_option maxRecDepth 8000 in
set_option maxHeartbeats 8000000 in
theorem collect_rf {g : Nat} {E : L.Env} {A M D : Option Addr} {a m d : Nat} {w : World} {v : Value} {st : L.St} (h : RlAt g E A M D a m d w v st) (hE : EnvOk E) (hl : L.ListOk E st.1) (hb : L.Bd E st.2) :
 Calls Tryz.prog 57 #[.pointer (some ⟨g, 0, none⟩)] w (RetCo g E A M D a m d w v (L.selF E 129 0 st)) := by
 obtain ⟨R, hR⟩ : ∃ R, R = L.selF E 129 0 st := ⟨_, rfl⟩
 rw [<- hR]
 have HE := Lib.hid hE
 have HRN : Hid (∀ n, R = .error n -> n ≠ 0) := fun n e => by rw [hR] at e; exact L.selF_ne e
 have H0 : Hid (R = L.selF E (129 - 0) 0 st /\ 0 <= st.1.length /\ CoAt g E A M D a m d w v w v st) := ⟨hR, Nat.zero_le _, h, hl, hb, Tch.refl _ _, fun _ hk => .inl hk, KeptV.refl, fun k hk => h.own hk⟩
 clear h hE hl hb hR
 go_enter Tryz.func57, Tryz.ntmps57
 go_wp2_with fail
 go_loopw [3] (fun i wr => ∃ (kk : Nat) (sj : L.St) (vj : Value), i = .int .i64 (kk : Int) /\ kk <= 128 /\ Hid (R = L.selF E (129 - kk) kk sj /\ kk <= sj.1.length /\ CoAt g E A M D a m d w v wr vj sj)) (fun i _ => 129 - (intOf i).toNat)
 case atStart => exact ⟨0, st, v, rfl, by omega, H0⟩
 case round =>
  obtain ⟨kk, sj, vj, rfl, hk128, HK⟩ := hrel
  obtain ⟨W0, hW0⟩ : ∃ W0, W0 = wr := ⟨_, rfl⟩
  subst hW0
  obtain ⟨hres, hkl, hco⟩ := HK.out
  obtain ⟨LA, lc, hvL, _, _⟩ := hco.link.list.form
  obtain ⟨n, hn⟩ : ∃ n, n = sj.1.length := ⟨_, rfl⟩
  have hn128 : n <= 128 := by rw [hn]; exact hco.ok.1
  have c3 : W0.cell? ⟨g, 3, none⟩ = _ := hco.link.cell 3
  rw [show (#[.slice A E.objs.length a, .slice M E.mems.length m, .slice D E.libs.length d, vj, .int .i64 (sj.2.1 : Int), .int .i64 (sj.2.2 : Int)] : Array Value)[3]? = some vj from rfl, hvL, <- hn] at c3
  by_cases hlt : kk < n
  ·have hks : kk < sj.1.length := by omega
   obtain ⟨c, hc⟩ := Option.isSome_iff_exists.1 (hco.ok.2.2 _ (List.getElem_mem hks)).2
   have hpu : sj.1[kk].1 < E.units.length := (hco.ok.2.2 _ (List.getElem_mem hks)).1
   have hrl : E.rels sj.1[kk] = c.2.2 := by unfold L.Env.rels; rw [L.sec_is hc]
   have hres2 : R = thenE (L.relsF E sj.1[kk].1 c.2.2 sj) fun s' => L.selF E (128 - kk) (kk + 1) s' := by
    rw [hres, show 129 - kk = (128 - kk) + 1 by omega, selF_step hks, hrl]
   have hso : kk < (spots E sj.1).length := by rw [spots_len]; exact hks
   obtain ⟨bl, ol, cap, SA, sc, SB, sd, hve, hbl, hz1, hz2, hSA, hSB, m0, m1, m2, m3⟩ := own_spot hco.link.list hso
   have hge : (spots E sj.1)[kk] = (unitAt E sj.1[kk].1, sj.1[kk].2) := spots_get E hks
   rw [hge] at hz1 hz2 hSA hSB m0 m1 m2 m3
   simp only at hz1 hz2 hSA hSB m0 m1 m2 m3
   obtain ⟨rfl, hcc⟩ : LA = some ⟨bl, ol, none⟩ /\ lc = cap := by
    have h9 := hvL.symm.trans hve
    injection h9 with h9 _ h8
    exact ⟨h9, h8⟩
   have hlow : ∀ k, k < g -> k < W0.heap.size := fun k hk => Nat.lt_trans hk hco.link.lt
   have HSEC := Lib.hid (section_rf E HE.out sj.1[kk] c hc W0 (fun k => k < g) hlow SA SB sc sd hSA hSB (unitAt E sj.1[kk].1).1 hz2)
   have HCO := Lib.hid hco
   have HRES := Lib.hid hres2
   have HN := Lib.hid hn
   have HSYM : Hid (∀ r ∈ c.2.2, (E.sym (sj.1[kk].1, r.2)).isSome = true) := fun r hr => (L.rel_ok HE.out.units (hco.ok.2.2 _ (List.getElem_mem hks)).2 (r := r) (by rw [hrl]; exact hr)).1
   have HPU := Lib.hid hpu
   have HFEW := Lib.hid (rels_few HE.out hc).1
   obtain ⟨pu, hpue⟩ : ∃ pu, pu = sj.1[kk].1 := ⟨_, rfl⟩
   obtain ⟨px, hpxe⟩ : ∃ px, px = sj.1[kk].2 := ⟨_, rfl⟩
   rw [<- hpue, <- hpxe] at HSEC
   rw [<- hpue] at HRES HSYM HPU
   rw [<- hpue] at m0 m1 m2
   rw [<- hpxe] at m3
   have HPE : Hid (pu = sj.1[kk].1 /\ px = sj.1[kk].2) := ⟨hpue, hpxe⟩
   generalize (unitAt E pu).2.1.length = tl at HSEC m1
   generalize (unitAt E pu).2.2.length = ul at HSEC m2
   generalize (unitAt E pu).1 = s0 at HSEC m0
   clear hres hres2 hco hvL hn hrl HK hpue hpxe hpu hve hbl hz1 hz2 hSA hSB hge hso hcc hlow hc hkl
   go_wp2_with fail
   refine HSEC.out.mono ?_
   rintro e w1 ⟨d1, RA, rc, hRA, rfl⟩
   obtain ⟨ck, cd, cr⟩ := c
   simp only at HRES HSYM HFEW hRA ⊢
   obtain ⟨rn, hrn⟩ : ∃ rn, rn = cr.length := ⟨_, rfl⟩
   rw [<- hrn]
   have hrn8 : rn <= 2048 := by rw [hrn]; exact HFEW.out
   have HRN2 := Lib.hid hrn
   have HI0 : Hid (R = thenE (L.relsF E pu (cr.drop 0) sj) (fun s' => L.selF E (128 - kk) (kk + 1) s') /\ sj.1 <+: sj.1 /\ CoAt g E A M D a m d w v w1 vj sj /\ SliceAt relR w1 (fun k => k < g) RA rc cr) :=
    ⟨HRES.out, List.prefix_refl _, HCO.out.ext d1, hRA.keep (fun _ h => h) fun k hk => d1.block k (Nat.lt_trans hk HCO.out.link.lt)⟩
   have hfd : ∀ W : World, (Instr.field 67 (.agg #[.int .i64 ck, .string cd, .slice RA rn rc]) 2).run Tryz.prog W = .ok (.slice RA rn rc) W := fun _ => by kernel_rfl
   clear hrn hRA d1 c3 m0 m1 m2 m3
   go_wp2_with fail
   clear hfd
   go_loopw [28] (fun i wx => ∃ (j : Nat) (sq : L.St) (vq : Value), i = .int .i64 (j : Int) /\ j <= rn /\ Hid (R = thenE (L.relsF E pu (cr.drop j) sq) (fun s' => L.selF E (128 - kk) (kk + 1) s') /\ sj.1 <+: sq.1 /\ CoAt g E A M D a m d w v wx vq sq /\ SliceAt relR wx (fun k => k < g) RA rc cr)) (fun i _ => rn - (intOf i).toNat)
   case atStart => exact ⟨0, sj, vj, rfl, Nat.zero_le _, HI0⟩
   case round =>
    obtain ⟨j, sq, vq, rfl, hj, HJ⟩ := hrel
    obtain ⟨V0, hV0⟩ : ∃ V0, V0 = wr := ⟨_, rfl⟩
    subst hV0
    obtain ⟨hres, hpre, hco, hrel⟩ := HJ.out
    by_cases hjl : j < rn
    ·have hjr : j < cr.length := by rw [<- HRN2.out]; exact hjl
     rw [relsF_step hjr] at hres
     obtain ⟨rb, ro, rfl, hrb, hwf, hxz, q0, q1⟩ := rel_getB hrel hjr
     obtain ⟨sy, hsy⟩ := Option.isSome_iff_exists.1 (HSYM.out cr[j] (List.getElem_mem hjr))
     obtain ⟨x, hx⟩ : ∃ x, x = cr[j].2 := ⟨_, rfl⟩
     generalize cr[j].1 = ra at q0 hwf
     rw [<- hx] at q1 hxz hsy hres
     have hks : kk < sj.1.length := by have := HN.out; omega
     obtain ⟨hkq, hqe⟩ := pre_get hpre hks
     have hso : kk < (spots E sq.1).length := by rw [spots_len]; exact hkq
     obtain ⟨bq, oq, cap, SA, sc, SB, sd, hve, hbl, hz1, hz2, hSA, hSB, m0, m1, m2, m3⟩ := own_spot hco.link.list hso
     have hge : (spots E sq.1)[kk] = (unitAt E pu, px) := by rw [spots_get E hkq, hqe, <- HPE.out.1, <- HPE.out.2]
     rw [hge] at hz1 hz2 hSA hSB m0 m1 m2 m3
     simp only at hz1 hz2 hSA hSB m0 m1 m2 m3
     obtain ⟨nq, hnq⟩ : ∃ nq, nq = sq.1.length := ⟨_, rfl⟩
     have hkn : kk < nq := by omega
     have c3 : V0.cell? ⟨g, 3, none⟩ = _ := hco.link.cell 3
     rw [show (#[.slice A E.objs.length a, .slice M E.mems.length m, .slice D E.libs.length d, vq, .int .i64 (sq.2.1 : Int), .int .i64 (sq.2.2 : Int)] : Array Value)[3]? = some vq from rfl] at c3
     rw [<- hnq] at hve
     have hvq : vq.ownBlock = some bq := by rw [hve]; rfl
     obtain ⟨W4, hW4⟩ : ∃ W4, W4 = V0.alloc (.cells #[.int .i64 ra, .string x] 151) := ⟨_, rfl⟩
     obtain ⟨eb, heb⟩ : ∃ eb, eb = V0.heap.size := ⟨_, rfl⟩
     have E4 : Ext V0 W4 := by rw [hW4]; exact (Ext.refl V0).alloc _
     have hb4 : W4.heap[eb]? = some (.cells #[.int .i64 ra, .string x] 151 (0, 0)) := by rw [hW4, heb]; exact heap_alloc_new V0 _
     have t1 : W4.cell? ⟨eb, 1, none⟩ = _ := cell_of_row W4 eb 1 _ _ _ hb4
     have hglt := hco.link.lt
     have hco4 := hco.ext E4
     have HMT := Lib.hid (fun W (hW : Ext W4 W) => meant_any (hco4.link.ext hW) HE.out hco4.bd pu HPU.out x hxz sy hsy SA SB sc sd (hSA.keep (fun _ h => h) fun k hk => (E4.trans hW).block k (Nat.lt_trans hk hglt)) (hSB.keep (fun _ h => h) fun k hk => (E4.trans hW).block k (Nat.lt_trans hk hglt)))
     have e0 := E4.keepc m0
     have e1 := E4.keepc m1
     have e2 := E4.keepc m2
     have d3 := E4.keepc c3
     have n1 : ¬ bq = g := by omega
     have n2 : ¬ eb = g := by omega
     generalize (unitAt E pu).2.1.length = tl at HMT e1
     generalize (unitAt E pu).2.2.length = ul at HMT e2
     generalize (unitAt E pu).1 = s0 at HMT e0
     obtain ⟨Φ, hΦ⟩ : ∃ Φ : World -> Prop, ∀ W, Φ W ↔ (Tch (fun i => i = g) W4 W /\ W.cell? ⟨g, 3, none⟩ = some vq) := ⟨_, fun _ => Iff.rfl⟩
     have h0 : Φ W4.drew := (hΦ _).2 ⟨((Ext.refl W4).drew).tch _, d3⟩
     rw [hve] at hΦ d3
     have fx0 : ∀ z : Lat Φ, z.w'.cell? ⟨g, 3, none⟩ = some (.slice (some ⟨bq, oq, none⟩) nq cap) := fun z => ((hΦ _).1 z.h).2
     have fx1 : ∀ z : Lat Φ, z.w'.cell? ⟨bq, oq + kk * 4, none⟩ = _ := fun z => ((hΦ _).1 z.h).1.keepc e0 n1
     have fx2 : ∀ z : Lat Φ, z.w'.cell? ⟨bq, oq + kk * 4 + 1, none⟩ = _ := fun z => ((hΦ _).1 z.h).1.keepc e1 n1
     have fx3 : ∀ z : Lat Φ, z.w'.cell? ⟨bq, oq + kk * 4 + 1 + 1, none⟩ = _ := fun z => ((hΦ _).1 z.h).1.keepc e2 n1
     have fx4 : ∀ z : Lat Φ, z.w'.cell? ⟨eb, 1, none⟩ = _ := fun z => ((hΦ _).1 z.h).1.keepc t1 n2
     have hne := Lat.some h0
     have HVE := Lib.hid hve
     have HVQ := Lib.hid hvq
     have HCO4 := Lib.hid hco4
     have HRES2 := Lib.hid hres
     have HPRE := Lib.hid hpre
     have HREL : Hid (SliceAt relR W4 (fun k => k < g) (some ⟨rb, ro, none⟩) rc cr) := hrel.keep (fun _ h => h) fun k hk => E4.block k (Nat.lt_trans hk hglt)
     have HEB := Lib.hid heb
     have HPHI := Lib.hid hΦ
     have HXZ := Lib.hid hxz
     have HG4 := Lib.hid hco4.link.lt
     clear hres hpre hco hrel hve hvq hbl hz1 hz2 hSA hSB hge hso hqe hkq hks hnq hsy hx heb hb4 E4 hglt hco4 m0 m1 m2 m3 c3 HJ hrb hwf hΦ e0 e1 e2 d3 t1 hxz hjr
     go_upto_region 7 with (fail)
     rw [<- hW4, <- HEB.out]
     clear hW4 q0 q1
     refine wp_region_tree (FT.path [0,1,2,3,4,5,6,7,8,9,10] (.fork (FT.path [11,12,13,14,15,16,17,18,19] .leaf) (FT.path [16,11,12,13,14,15,17,18,19] .leaf))) [11, 16, 17] Φ h0 (by kernel_rfl) (by kernel_rfl) ?_
     iterate 11 (refine ftl_pure rfl rfl rfl rfl ?_; intro K hK; go_big_quiet_op; go_big_quiet_on)
     refine ft_fork ?_ ?_
     ·refine ftl_eff rfl rfl ?_
      go_wp2_with fail
      refine (HMT.out _ ((Ext.refl W4).drew)).mono ?_
      intro e w6 hq
      obtain ⟨hT6, hc6, s, TA, tn, tc, TB, un, td, y, li, er, rfl, hMG⟩ := mt_form hq
      have hT46 : Tch (fun i => i = g) W4 w6 := (((Ext.refl W4).drew).tch _).trans hT6
      have hc6' : w6.cell? ⟨g, 3, none⟩ = some (.slice (some ⟨bq, oq, none⟩) nq cap) := by rw [<- HVE.out]; exact hc6
      go_wp2_with fail
      refine ⟨⟨⟨w6, (HPHI.out _).2 ⟨hT46, hc6'⟩⟩, rfl⟩, ?_⟩
      iterate 4 (refine ftl_pure rfl rfl rfl rfl ?_; intro K hK; go_big_quiet_op; go_big_quiet_on)
      refine ftl_eff rfl rfl ?_
      go_wp2_with fail
      obtain ⟨W7, hW7⟩ : ∃ W7, W7 = w6.alloc (.cells zspot 123) := ⟨_, rfl⟩
      obtain ⟨mb, hmb⟩ : ∃ mb, mb = w6.heap.size := ⟨_, rfl⟩
      have E7 : Ext w6 W7 := by rw [hW7]; exact (Ext.refl w6).alloc _
      have hb7 : W7.heap[mb]? = some (.cells zspot 123 (0, 0)) := by rw [hW7, hmb]; exact heap_alloc_new w6 _
      have hc7 := E7.keepc hc6'
      rw [<- hW7, <- hmb]
      have HMB := Lib.hid hmb
      clear hW7 hmb
      refine ⟨⟨⟨W7, (HPHI.out _).2 ⟨hT46.trans (E7.tch _), hc7⟩⟩, rfl⟩, ?_⟩
      have b0 : W7.cell? ⟨mb, 0, none⟩ = _ := cell_of_row W7 mb 0 _ _ _ hb7
      have b1 : W7.cell? ⟨mb, 1, none⟩ = _ := cell_of_row W7 mb 1 _ _ _ hb7
      have b2 : W7.cell? ⟨mb, 2, none⟩ = _ := cell_of_row W7 mb 2 _ _ _ hb7
      have b3 : W7.cell? ⟨mb, 3, none⟩ = _ := cell_of_row W7 mb 3 _ _ _ hb7
      have f0 := Lib.frozen_of_heap hb7 0
      have f1 := Lib.frozen_of_heap hb7 1
      have f2 := Lib.frozen_of_heap hb7 2
      have f3 := Lib.frozen_of_heap hb7 3
      refine ftl_eff rfl rfl ?_
      go_wp2_with fail
      obtain ⟨Y, hY⟩ : ∃ Y, Y = sput W7 mb (.string s) (.slice TA tn tc) (.slice TB un td) (.string y) := ⟨_, rfl⟩
      have hsp : Tch (fun i => i = mb) W7 Y := by rw [hY]; exact sput_tch W7 mb _ _ _ _
      have hbY : Y.heap[mb]? = some (.cells (spotV s TA tn tc TB un td y) 123 (0, 0)) := by rw [hY]; exact sput_row hb7 _ _ _ _
      have hmb := HMB.out
      have hl4 := HG4.out
      have hl6 : W4.heap.size <= w6.heap.size := hT46.size
      have hmg : g < mb := by omega
      have hbq := HCO4.out.link.own HVQ.out
      have hvm : vq.ownBlock ≠ some mb := fun e => by have e2 := HVQ.out.symm.trans e; injection e2 with e2; omega
      have hT4Y : Tch (fun i => i = g) W4 Y := (hT46.trans (E7.tch _)).trans' hsp fun i hi e => absurd hi (by omega)
      have hcY : Y.cell? ⟨g, 3, none⟩ = some (.slice (some ⟨bq, oq, none⟩) nq cap) := hsp.keepc hc7 (fun e => by have e2 : g = mb := e; omega)
      have HMGY := Lib.hid ((hMG.tch (E7.tch fun _ => False) (fun k hk => hk.elim) (by omega)).tch hsp (fun k hk => by rw [hk]; exact ⟨hmg, hvm⟩) (by have := E7.size; omega))
      have hY' : (((W7.setCell ⟨mb, 0, none⟩ (.string s)).setCell ⟨mb, 1, none⟩ (.slice TA tn tc)).setCell ⟨mb, 2, none⟩ (.slice TB un td)).setCell ⟨mb, 3, none⟩ (.string y) = Y := hY.symm
      rw [hY']
      refine ⟨⟨⟨Y, (HPHI.out _).2 ⟨hT4Y, hcY⟩⟩, rfl⟩, ?_⟩
      iterate 2 (refine ftl_pure rfl rfl rfl rfl ?_; intro K hK; go_big_quiet_op; go_big_quiet_on)
      refine ft_leaf ?_
      have HTY := Lib.hid hT4Y
      have HROW := Lib.hid hbY
      clear fx0 fx1 fx2 fx3 fx4 hne h0 n1 n2 b0 b1 b2 b3 f0 f1 f2 f3 hsp hbY hY hY' hl4 hl6 hmg hbq hvm hT4Y hcY hMG hT6 hT46 hc6 hc6' hc7 E7 hb7 hmb hq
      cases haim : L.aim E pu x with
      | bad n =>
       have hmg := HMGY.out
       rw [haim] at hmg
       obtain rfl : er = n := hmg
       have hne0 := L.aim_ne haim
       have hr : R = .error er := by rw [HRES2.out]; unfold L.stepR; rw [haim]; rfl
       have HR := Lib.hid hr
       have HNE := Lib.hid hne0
       have he0 : (er == 0) = false := by simpa using hne0
       clear haim hne0 hr HMGY
       go_wp2_with fail
       go_ret
       rw [HR.out]
       exact ⟨HCO4.out.tch.trans' HTY.out fun i _ h => .inl h, HNE.out, rfl⟩
      | lib j2 =>
       have hmg := HMGY.out
       rw [haim] at hmg
       obtain ⟨rfl, rfl, hRl⟩ := hmg
       have hr : R = thenE (L.relsF E pu (cr.drop (j + 1)) (L.note sq (L.aimN E pu x))) (fun s' => L.selF E (128 - kk) (kk + 1) s') := by rw [HRES2.out]; unfold L.stepR; rw [haim]; rfl
       have HNX : Hid (R = thenE (L.relsF E pu (cr.drop (j + 1)) (L.note sq (L.aimN E pu x))) (fun s' => L.selF E (128 - kk) (kk + 1) s') /\ sj.1 <+: (L.note sq (L.aimN E pu x)).1 /\ CoAt g E A M D a m d w v Y vq (L.note sq (L.aimN E pu x)) /\ SliceAt relR Y (fun k => k < g) (some ⟨rb, ro, none⟩) rc cr) :=
        ⟨hr, HPRE.out, HCO4.out.meant HTY.out hRl HCO4.out.ok (L.note_bd HCO4.out.bd (L.aimN_bd E pu x)), low_tch HREL.out HTY.out HG4.out fun k hk => by rw [hk]; exact Nat.le_refl _⟩
       clear haim hRl hr HMGY
       go_wp2_with fail
       go_roundw
       case rel => exact ⟨j + 1, _, vq, by go_num, by omega, HNX⟩
       case measure => simp [intOf]; omega
      | spot p =>
       have hmg := HMGY.out
       rw [haim] at hmg
       obtain ⟨rfl, rfl, hRl, hs, htn, hun, hy, hTA, hTB⟩ := hmg
       have hpu := L.aim_ok HE.out.units HPU.out (x := x)
       rw [haim] at hpu
       have hpx := aim_two haim
       have HADD : Hid (Calls Tryz.prog 63 #[.pointer (some ⟨g, 0, none⟩), .agg (spotV s TA tn tc TB un td y)] Y (RetAd g E A M D a m d Y vq (L.addS (L.note sq (L.aimN E pu x)) p))) := by
        subst hs htn hun hy
        exact add_rf hRl HE.out HCO4.out.ok p hpu.1 (by rw [hpx]; exact HXZ.out) TA TB tc td hTA hTB
       have hr : R = thenE (thenE (L.addS (L.note sq (L.aimN E pu x)) p) fun st' => L.relsF E pu (cr.drop (j + 1)) st') (fun s' => L.selF E (128 - kk) (kk + 1) s') := by rw [HRES2.out]; unfold L.stepR; rw [haim]
       have hrow := HROW.out
       have y0 : Y.cell? ⟨mb, 0, none⟩ = _ := cell_of_row Y mb 0 _ _ _ hrow
       have y1 : Y.cell? ⟨mb, 1, none⟩ = _ := cell_of_row Y mb 1 _ _ _ hrow
       have y2 : Y.cell? ⟨mb, 2, none⟩ = _ := cell_of_row Y mb 2 _ _ _ hrow
       have y3 : Y.cell? ⟨mb, 3, none⟩ = _ := cell_of_row Y mb 3 _ _ _ hrow
       have HPP := Lib.hid hpu
       have HCON := Lib.hid (HCO4.out.meant HTY.out hRl HCO4.out.ok (L.note_bd HCO4.out.bd (L.aimN_bd E pu x)))
       have HRELY : Hid (SliceAt relR Y (fun k => k < g) (some ⟨rb, ro, none⟩) rc cr) := low_tch HREL.out HTY.out HG4.out fun k hk => by rw [hk]; exact Nat.le_refl _
       cases hadd : L.addS (L.note sq (L.aimN E pu x)) p with
       | error n =>
        rw [hadd] at hr HADD
        have hne0 := L.addS_ne hadd
        have HR : Hid (R = .error n) := hr
        have HNE := Lib.hid hne0
        have he0 : (n == 0) = false := by simpa using hne0
        clear haim hRl hs htn hun hy hTA hTB hpu hpx hr hrow hadd hne0 HMGY
        go_wp2_with fail
        refine HADD.out.mono ?_
        rintro e wz ⟨hTz, rfl⟩
        have HTZ := Lib.hid hTz
        clear hTz
        go_wp2_with fail
        go_ret
        rw [HR.out]
        refine ⟨HCON.out.tch.trans' HTZ.out fun i hi h => ?_, HNE.out, rfl⟩
        rcases h with h | h
        ·exact .inl h
        ·rcases HCON.out.own i h with h1 | h1
         ·exact .inr h1
         ·omega
       | ok s' =>
        rw [hadd] at hr HADD
        have hok := L.addS_ok hadd (E := E) HCO4.out.ok HPP.out
        have HR : Hid (R = thenE (L.relsF E pu (cr.drop (j + 1)) s') (fun s' => L.selF E (128 - kk) (kk + 1) s')) := hr
        have HOK := Lib.hid hok
        have HBD := Lib.hid (L.addS_bd hadd HCON.out.bd)
        clear haim hRl hs htn hun hy hTA hTB hpu hpx hr hrow hadd hok HMGY
        go_wp2_with fail
        refine HADD.out.mono ?_
        rintro e wz ⟨hTz, rfl, v', hRz, hvz, hkz⟩
        have HNX : Hid (R = thenE (L.relsF E pu (cr.drop (j + 1)) s') (fun s' => L.selF E (128 - kk) (kk + 1) s') /\ sj.1 <+: s'.1 /\ CoAt g E A M D a m d w v wz v' s' /\ SliceAt relR wz (fun k => k < g) (some ⟨rb, ro, none⟩) rc cr) := by
         refine ⟨HR.out, HPRE.out.trans HOK.out.2.1, HCON.out.step hTz hRz HOK.out.1 HBD.out hkz fun k hk => ?_, low_tch HRELY.out hTz HCON.out.link.lt fun k hk => ?_⟩
         ·rcases hvz with h1 | ⟨i, h1, h2, _⟩
          ·rw [h1] at hk; exact .inl hk
          ·rw [h1] at hk; cases hk; exact .inr h2
         ·rcases hk with rfl | hk
          ·exact Nat.le_refl _
          ·have := (HCON.out.link.own hk).1; omega
        clear hTz hRz hvz hkz y0 y1 y2 y3
        go_wp2_with fail
        go_roundw
        case rel => exact ⟨j + 1, s', v', by go_num, by omega, HNX⟩
        case measure => simp [intOf]; omega
     ·refine ftl_eff rfl rfl ?_
      go_wp2_with fail
      obtain ⟨W5, hW5⟩ : ∃ W5, W5 = (W4.alloc (.cells zspot 123)).drew := ⟨_, rfl⟩
      obtain ⟨mb, hmb⟩ : ∃ mb, mb = W4.heap.size := ⟨_, rfl⟩
      have E5 : Ext W4 W5 := by rw [hW5]; exact ((Ext.refl W4).alloc _).drew
      have hb5 : W5.heap[mb]? = some (.cells zspot 123 (0, 0)) := by rw [hW5, hmb]; exact heap_alloc_new W4 _
      have hc5 : W5.cell? ⟨g, 3, none⟩ = some (.slice (some ⟨bq, oq, none⟩) nq cap) := E5.keepc (fx0 ⟨W4.drew, h0⟩)
      rw [<- hW5, <- hmb]
      have HMB := Lib.hid hmb
      clear hW5 hmb
      refine ⟨⟨⟨W5, (HPHI.out _).2 ⟨E5.tch _, hc5⟩⟩, rfl⟩, ?_⟩
      refine ftl_eff rfl rfl ?_
      go_wp2_with fail
      refine (HMT.out _ E5).mono ?_
      intro e w6 hq
      obtain ⟨hT6, hc6, s, TA, tn, tc, TB, un, td, y, li, er, rfl, hMG⟩ := mt_form hq
      have hT46 : Tch (fun i => i = g) W4 w6 := (E5.tch _).trans hT6
      have hc6' : w6.cell? ⟨g, 3, none⟩ = some (.slice (some ⟨bq, oq, none⟩) nq cap) := by rw [<- HVE.out]; exact hc6
      have hl4 := HG4.out
      have hmg : g < mb := by have := HMB.out; omega
      have hb7 := (hT6.block mb (hltA hb5) (by omega)).trans hb5
      go_wp2_with fail
      refine ⟨⟨⟨w6, (HPHI.out _).2 ⟨hT46, hc6'⟩⟩, rfl⟩, ?_⟩
      iterate 4 (refine ftl_pure rfl rfl rfl rfl ?_; intro K hK; go_big_quiet_op; go_big_quiet_on)
      have b0 : w6.cell? ⟨mb, 0, none⟩ = _ := cell_of_row w6 mb 0 _ _ _ hb7
      have b1 : w6.cell? ⟨mb, 1, none⟩ = _ := cell_of_row w6 mb 1 _ _ _ hb7
      have b2 : w6.cell? ⟨mb, 2, none⟩ = _ := cell_of_row w6 mb 2 _ _ _ hb7
      have b3 : w6.cell? ⟨mb, 3, none⟩ = _ := cell_of_row w6 mb 3 _ _ _ hb7
      have f0 := Lib.frozen_of_heap hb7 0
      have f1 := Lib.frozen_of_heap hb7 1
      have f2 := Lib.frozen_of_heap hb7 2
      have f3 := Lib.frozen_of_heap hb7 3
      refine ftl_eff rfl rfl ?_
      go_wp2_with fail
      obtain ⟨Y, hY⟩ : ∃ Y, Y = sput w6 mb (.string s) (.slice TA tn tc) (.slice TB un td) (.string y) := ⟨_, rfl⟩
      have hsp : Tch (fun i => i = mb) w6 Y := by rw [hY]; exact sput_tch w6 mb _ _ _ _
      have hbY : Y.heap[mb]? = some (.cells (spotV s TA tn tc TB un td y) 123 (0, 0)) := by rw [hY]; exact sput_row hb7 _ _ _ _
      have hmb := HMB.out
      have hbq := HCO4.out.link.own HVQ.out
      have hvm : vq.ownBlock ≠ some mb := fun e => by have e2 := HVQ.out.symm.trans e; injection e2 with e2; omega
      have hT4Y : Tch (fun i => i = g) W4 Y := hT46.trans' hsp fun i hi e => absurd hi (by omega)
      have hcY : Y.cell? ⟨g, 3, none⟩ = some (.slice (some ⟨bq, oq, none⟩) nq cap) := hsp.keepc hc6' (fun e => by have e2 : g = mb := e; omega)
      have HMGY := Lib.hid (hMG.tch hsp (fun k hk => by rw [hk]; exact ⟨hmg, hvm⟩) (by have := hT46.size; omega))
      have hY' : (((w6.setCell ⟨mb, 0, none⟩ (.string s)).setCell ⟨mb, 1, none⟩ (.slice TA tn tc)).setCell ⟨mb, 2, none⟩ (.slice TB un td)).setCell ⟨mb, 3, none⟩ (.string y) = Y := hY.symm
      rw [hY']
      refine ⟨⟨⟨Y, (HPHI.out _).2 ⟨hT4Y, hcY⟩⟩, rfl⟩, ?_⟩
      iterate 2 (refine ftl_pure rfl rfl rfl rfl ?_; intro K hK; go_big_quiet_op; go_big_quiet_on)
      refine ft_leaf ?_
      have HTY := Lib.hid hT4Y
      have HROW := Lib.hid hbY
      clear fx0 fx1 fx2 fx3 fx4 hne h0 n1 n2 b0 b1 b2 b3 f0 f1 f2 f3 hsp hbY hY hY' hl4 hmg hbq hvm hT4Y hcY hMG hT6 hT46 hc6 hc6' hb7 hmb hq hc5 hb5 E5
      cases haim : L.aim E pu x with
      | bad n =>
       have hmg := HMGY.out
       rw [haim] at hmg
       obtain rfl : er = n := hmg
       have hne0 := L.aim_ne haim
       have hr : R = .error er := by rw [HRES2.out]; unfold L.stepR; rw [haim]; rfl
       have HR := Lib.hid hr
       have HNE := Lib.hid hne0
       have he0 : (er == 0) = false := by simpa using hne0
       clear haim hne0 hr HMGY
       go_wp2_with fail
       go_ret
       rw [HR.out]
       exact ⟨HCO4.out.tch.trans' HTY.out fun i _ h => .inl h, HNE.out, rfl⟩
      | lib j2 =>
       have hmg := HMGY.out
       rw [haim] at hmg
       obtain ⟨rfl, rfl, hRl⟩ := hmg
       have hr : R = thenE (L.relsF E pu (cr.drop (j + 1)) (L.note sq (L.aimN E pu x))) (fun s' => L.selF E (128 - kk) (kk + 1) s') := by rw [HRES2.out]; unfold L.stepR; rw [haim]; rfl
       have HNX : Hid (R = thenE (L.relsF E pu (cr.drop (j + 1)) (L.note sq (L.aimN E pu x))) (fun s' => L.selF E (128 - kk) (kk + 1) s') /\ sj.1 <+: (L.note sq (L.aimN E pu x)).1 /\ CoAt g E A M D a m d w v Y vq (L.note sq (L.aimN E pu x)) /\ SliceAt relR Y (fun k => k < g) (some ⟨rb, ro, none⟩) rc cr) :=
        ⟨hr, HPRE.out, HCO4.out.meant HTY.out hRl HCO4.out.ok (L.note_bd HCO4.out.bd (L.aimN_bd E pu x)), low_tch HREL.out HTY.out HG4.out fun k hk => by rw [hk]; exact Nat.le_refl _⟩
       clear haim hRl hr HMGY
       go_wp2_with fail
       go_roundw
       case rel => exact ⟨j + 1, _, vq, by go_num, by omega, HNX⟩
       case measure => simp [intOf]; omega
      | spot p =>
       have hmg := HMGY.out
       rw [haim] at hmg
       obtain ⟨rfl, rfl, hRl, hs, htn, hun, hy, hTA, hTB⟩ := hmg
       have hpu := L.aim_ok HE.out.units HPU.out (x := x)
       rw [haim] at hpu
       have hpx := aim_two haim
       have HADD : Hid (Calls Tryz.prog 63 #[.pointer (some ⟨g, 0, none⟩), .agg (spotV s TA tn tc TB un td y)] Y (RetAd g E A M D a m d Y vq (L.addS (L.note sq (L.aimN E pu x)) p))) := by
        subst hs htn hun hy
        exact add_rf hRl HE.out HCO4.out.ok p hpu.1 (by rw [hpx]; exact HXZ.out) TA TB tc td hTA hTB
       have hr : R = thenE (thenE (L.addS (L.note sq (L.aimN E pu x)) p) fun st' => L.relsF E pu (cr.drop (j + 1)) st') (fun s' => L.selF E (128 - kk) (kk + 1) s') := by rw [HRES2.out]; unfold L.stepR; rw [haim]
       have hrow := HROW.out
       have y0 : Y.cell? ⟨mb, 0, none⟩ = _ := cell_of_row Y mb 0 _ _ _ hrow
       have y1 : Y.cell? ⟨mb, 1, none⟩ = _ := cell_of_row Y mb 1 _ _ _ hrow
       have y2 : Y.cell? ⟨mb, 2, none⟩ = _ := cell_of_row Y mb 2 _ _ _ hrow
       have y3 : Y.cell? ⟨mb, 3, none⟩ = _ := cell_of_row Y mb 3 _ _ _ hrow
       have HPP := Lib.hid hpu
       have HCON := Lib.hid (HCO4.out.meant HTY.out hRl HCO4.out.ok (L.note_bd HCO4.out.bd (L.aimN_bd E pu x)))
       have HRELY : Hid (SliceAt relR Y (fun k => k < g) (some ⟨rb, ro, none⟩) rc cr) := low_tch HREL.out HTY.out HG4.out fun k hk => by rw [hk]; exact Nat.le_refl _
       cases hadd : L.addS (L.note sq (L.aimN E pu x)) p with
       | error n =>
        rw [hadd] at hr HADD
        have hne0 := L.addS_ne hadd
        have HR : Hid (R = .error n) := hr
        have HNE := Lib.hid hne0
        have he0 : (n == 0) = false := by simpa using hne0
        clear haim hRl hs htn hun hy hTA hTB hpu hpx hr hrow hadd hne0 HMGY
        go_wp2_with fail
        refine HADD.out.mono ?_
        rintro e wz ⟨hTz, rfl⟩
        have HTZ := Lib.hid hTz
        clear hTz
        go_wp2_with fail
        go_ret
        rw [HR.out]
        refine ⟨HCON.out.tch.trans' HTZ.out fun i hi h => ?_, HNE.out, rfl⟩
        rcases h with h | h
        ·exact .inl h
        ·rcases HCON.out.own i h with h1 | h1
         ·exact .inr h1
         ·omega
       | ok s' =>
        rw [hadd] at hr HADD
        have hok := L.addS_ok hadd (E := E) HCO4.out.ok HPP.out
        have HR : Hid (R = thenE (L.relsF E pu (cr.drop (j + 1)) s') (fun s' => L.selF E (128 - kk) (kk + 1) s')) := hr
        have HOK := Lib.hid hok
        have HBD := Lib.hid (L.addS_bd hadd HCON.out.bd)
        clear haim hRl hs htn hun hy hTA hTB hpu hpx hr hrow hadd hok HMGY
        go_wp2_with fail
        refine HADD.out.mono ?_
        rintro e wz ⟨hTz, rfl, v', hRz, hvz, hkz⟩
        have HNX : Hid (R = thenE (L.relsF E pu (cr.drop (j + 1)) s') (fun s' => L.selF E (128 - kk) (kk + 1) s') /\ sj.1 <+: s'.1 /\ CoAt g E A M D a m d w v wz v' s' /\ SliceAt relR wz (fun k => k < g) (some ⟨rb, ro, none⟩) rc cr) := by
         refine ⟨HR.out, HPRE.out.trans HOK.out.2.1, HCON.out.step hTz hRz HOK.out.1 HBD.out hkz fun k hk => ?_, low_tch HRELY.out hTz HCON.out.link.lt fun k hk => ?_⟩
         ·rcases hvz with h1 | ⟨i, h1, h2, _⟩
          ·rw [h1] at hk; exact .inl hk
          ·rw [h1] at hk; cases hk; exact .inr h2
         ·rcases hk with rfl | hk
          ·exact Nat.le_refl _
          ·have := (HCON.out.link.own hk).1; omega
        clear hTz hRz hvz hkz y0 y1 y2 y3
        go_wp2_with fail
        go_roundw
        case rel => exact ⟨j + 1, s', v', by go_num, by omega, HNX⟩
        case measure => simp [intOf]; omega
    ·obtain rfl : j = rn := by omega
     rw [HRN2.out, List.drop_length] at hres
     have HN' : Hid (R = L.selF E (129 - (kk + 1)) (kk + 1) sq /\ kk + 1 <= sq.1.length /\ CoAt g E A M D a m d w v V0 vq sq) := by
      refine ⟨?_, ?_, hco⟩
      ·rw [hres, show 129 - (kk + 1) = 128 - kk by omega]; rfl
      ·have := hpre.length_le
       have := HN.out
       omega
     clear hres hpre hco hrel HJ
     go_wp2_with fail
     exact ⟨⟨kk + 1, sq, vq, by go_num, by omega, HN'⟩, by simp [intOf]; omega⟩
  ·have hres3 : R = .ok sj := by rw [hres, selF_end (by omega)]
   have HRES := Lib.hid hres3
   have HCO := Lib.hid hco
   clear hres hres3 hco hvL hn HK hkl
   go_wp2_with fail
   go_ret
   rw [HRES.out]
   exact ⟨HCO.out.tch, rfl, vj, HCO.out⟩
end Go.Proofs.YtfbhchpbflaphaaGreatDoor

namespace Go.Proofs.YtfbhchpbflaphaaGreatDoor
open Go.RowKit Go.Maps Go.ChangeMaps
theorem byV_word {n : Nat} (hn : n < 4294967296) : byV (L.word n) = [.int .u8 ((n : Int) % 256), .int .u8 ((n : Int) / 256 % 256), .int .u8 ((n : Int) / 65536 % 256), .int .u8 ((n : Int) / 16777216)] := by
 have h1 : ∀ m : Nat, ((UInt8.ofNat m).toNat : Int) = ((m % 256 : Nat) : Int) := fun m => by rw [UInt8.toNat_ofNat']
 show [Value.int .u8 ((UInt8.ofNat n).toNat : Int), .int .u8 ((UInt8.ofNat (n / 256)).toNat : Int), .int .u8 ((UInt8.ofNat (n / 65536)).toNat : Int), .int .u8 ((UInt8.ofNat (n / 16777216)).toNat : Int)] = _
 rw [h1, h1, h1, h1]
 have h4 : n / 16777216 % 256 = n / 16777216 := by omega
 rw [h4]
 have a1 : ((n % 256 : Nat) : Int) = (n : Int) % 256 := by omega
 have a2 : ((n / 256 % 256 : Nat) : Int) = (n : Int) / 256 % 256 := by omega
 have a3 : ((n / 65536 % 256 : Nat) : Int) = (n : Int) / 65536 % 256 := by omega
 have a4 : ((n / 16777216 : Nat) : Int) = (n : Int) / 16777216 := by omega
 rw [a1, a2, a3, a4]
def RetWd (w : World) (n : Nat) (e : Ending) (w' : World) : Prop := Ext w w' /\ ∃ b, w.heap.size <= b /\ b < w'.heap.size /\ e = .returned (.slice (some ⟨b, 0, none⟩) 4 4) /\ ∀ j u, (byV (L.word n))[j]? = some u -> w'.cell? ⟨b, j, none⟩ = some u
set_option maxRecDepth 8000 in
theorem Word_any (n : Nat) (hn : n < 4294967296) (w : World) : Calls Tryz.prog 94 #[.int .u32 (n : Int)] w (RetWd w n) := by
 go_enter Tryz.func94, Tryz.ntmps94
 go_wp2_with fail
 go_ret
 refine ⟨(Ext.refl w).alloc _, w.heap.size, Nat.le_refl _, by simp, rfl, fun j u hj => ?_⟩
 rw [byV_word hn] at hj
 exact new_cells w _ 5 _ rfl j u hj
theorem plc_get {w : World} {B : Nat -> Prop} {A : Option Addr} {c k : Nat} {l : List L.Plc} (h : SliceAt plcR w B A c l) (hk : k < l.length) : ∃ b off, A = some ⟨b, off, none⟩ /\ B b /\ l[k].1.size <= 9223372036854775807 /\ l[k].2.1.size <= 9223372036854775807 /\
 (w.cell? ⟨b, off + k * 5, none⟩ = some (.string l[k].1) /\ w.cell? ⟨b, off + k * 5 + 1, none⟩ = some (.string l[k].2.1) /\ w.cell? ⟨b, off + k * 5 + 2, none⟩ = some (.int .i64 l[k].2.2.1) /\ w.cell? ⟨b, off + k * 5 + 3, none⟩ = some (.int .i64 l[k].2.2.2.1) /\ w.cell? ⟨b, off + k * 5 + 4, none⟩ = some (.int .i64 l[k].2.2.2.2)) := by
 obtain ⟨b, off, rfl, hb, hr⟩ := h.2.2 (by intro h; rw [h] at hk; simp at hk)
 obtain ⟨us, ⟨x1, y1, rfl, ⟨rfl, h1⟩, x2, y2, rfl, ⟨rfl, h2⟩, x3, y3, rfl, ⟨rfl, _⟩, x4, y4, rfl, ⟨rfl, _⟩, rfl, _⟩, hc⟩ := hr k hk
 exact ⟨b, off, rfl, hb, h1, h2, hc 0 _ rfl, hc 1 _ rfl, hc 2 _ rfl, hc 3 _ rfl, hc 4 _ rfl⟩
def PlcIs (s y : ByteArray) (p : L.Plc) : Prop := p.1.data.toList = s.data.toList /\ p.2.1.data.toList = y.data.toList
set_option maxRecDepth 8000 in
set_option maxHeartbeats 4000000 in
theorem address_any (pls : List L.Plc) (PA : Option Addr) (pc n : Nat) (hn : n = pls.length) (k0 : Nat) (hk0 : k0 < pls.length) (s y : ByteArray) (hat : PlcIs s y pls[k0]) (hno : ∀ j (_ : j < pls.length), j < k0 -> ¬ PlcIs s y pls[j]) (w : World) (hA : SliceAt plcR w (Old w) PA pc pls)
 (kd en : Int) (im : ByteArray) (FA IA XA NA : Option Addr) (fn fc il ic xn xc nn nc : Nat) (TA : Option Addr) (tn tc : Nat) (TB : Option Addr) (un td : Nat) :
 Calls Tryz.prog 64 #[.agg #[.int .i64 kd, .int .i64 en, .string im, .slice PA n pc, .slice FA fn fc, .slice IA il ic, .slice XA xn xc, .slice NA nn nc], .agg (spotV s TA tn tc TB un td y)] w (Al (.int .i64 pls[k0].2.2.2.1) w) := by
 obtain ⟨R, hR⟩ : ∃ R, R = pls[k0].2.2.2.1 := ⟨_, rfl⟩
 rw [<- hR]
 have hn2 : n <= 9223372036854775807 := by have := hA.1; have := hA.2.1; omega
 have HR := Lib.hid hR
 have HN := Lib.hid hn
 have HA := Lib.hid hA
 have HAT := Lib.hid hat
 have HNO := Lib.hid hno
 have hk0n : k0 < n := by rw [hn]; exact hk0
 obtain ⟨W1, hW1⟩ : ∃ W1, W1 = (w.alloc (.cells #[.int .i64 kd, .int .i64 en, .string im, .slice PA n pc, .slice FA fn fc, .slice IA il ic, .slice XA xn xc, .slice NA nn nc] 35)).alloc (.cells (spotV s TA tn tc TB un td y) 123) := ⟨_, rfl⟩
 have hsz : (w.alloc (.cells #[.int .i64 kd, .int .i64 en, .string im, .slice PA n pc, .slice FA fn fc, .slice IA il ic, .slice XA xn xc, .slice NA nn nc] 35)).heap.size = w.heap.size + 1 := by simp
 have E1 : Ext w W1 := by rw [hW1]; exact ((Ext.refl w).alloc _).alloc _
 have hb1 : W1.heap[w.heap.size]? = some (.cells #[.int .i64 kd, .int .i64 en, .string im, .slice PA n pc, .slice FA fn fc, .slice IA il ic, .slice XA xn xc, .slice NA nn nc] 35 (0, 0)) := by rw [hW1]; exact (((Ext.refl (w.alloc _)).alloc _).block _ (by simp)).trans (heap_alloc_new w _)
 have hb2 : W1.heap[w.heap.size + 1]? = some (.cells (spotV s TA tn tc TB un td y) 123 (0, 0)) := by rw [hW1, <- hsz]; exact heap_alloc_new _ _
 have c3 : W1.cell? ⟨w.heap.size, 3, none⟩ = _ := cell_of_row W1 _ 3 _ _ _ hb1
 have HW1 := Lib.hid hW1
 have HE1 := Lib.hid E1
 have HB2 := Lib.hid hb2
 clear hR hn hA hat hno hW1 hsz E1 hb1 hb2
 go_enter Tryz.func64, Tryz.ntmps64
 go_upto_region 1 with (fail)
 rw [<- HW1.out]
 go_wp2_with fail
 clear c3
 go_loopw [10] (fun i wr => ∃ k : Nat, k <= k0 /\ i = .int .i64 (k : Int) /\ Hid (Ext W1 wr)) (fun i _ => n - (intOf i).toNat)
 case atStart => exact ⟨0, Nat.zero_le _, rfl, Ext.refl _⟩
 case round =>
  obtain ⟨k, hk, rfl, HK⟩ := hrel
  obtain ⟨W0, hW0⟩ : ∃ W0, W0 = wr := ⟨_, rfl⟩
  subst hW0
  have hlt : k < n := by omega
  have hkl : k < pls.length := by rw [<- HN.out]; exact hlt
  obtain ⟨pb, po, rfl, hpb, hz1, hz2, q0, q1, q2, q3, q4⟩ := plc_get HA.out hkl
  have hxe := HE1.out.trans HK.out
  replace q0 := hxe.keepc q0
  replace q1 := hxe.keepc q1
  replace q2 := hxe.keepc q2
  replace q3 := hxe.keepc q3
  replace q4 := hxe.keepc q4
  have hiff : PlcIs s y pls[k] ↔ k = k0 := by
   constructor
   ·intro h
    by_cases e : k = k0
    ·exact e
    ·exact absurd h (HNO.out k hkl (by omega))
   ·rintro rfl; exact HAT.out
  have hval : k = k0 -> pls[k].2.2.2.1 = R := by rintro rfl; exact HR.out.symm
  unfold PlcIs at hiff
  have hc1 := beq_bytes (a := pls[k].1) (b := s)
  have hc2 := beq_bytes (a := pls[k].2.1) (b := y)
  generalize pls[k].1 = z1 at *
  generalize pls[k].2.1 = z2 at *
  generalize pls[k].2.2.1 = z3 at *
  generalize pls[k].2.2.2.1 = z4 at *
  generalize pls[k].2.2.2.2 = z5 at *
  obtain ⟨W4, hW4⟩ : ∃ W4, W4 = W0.alloc (.cells #[.string z1, .string z2, .int .i64 z3, .int .i64 z4, .int .i64 z5] 49) := ⟨_, rfl⟩
  obtain ⟨eb, heb⟩ : ∃ eb, eb = W0.heap.size := ⟨_, rfl⟩
  have E4 : Ext W0 W4 := by rw [hW4]; exact (Ext.refl W0).alloc _
  have hb4 : W4.heap[eb]? = some (.cells #[.string z1, .string z2, .int .i64 z3, .int .i64 z4, .int .i64 z5] 49 (0, 0)) := by rw [hW4, heb]; exact heap_alloc_new W0 _
  have t0 : W4.cell? ⟨eb, 0, none⟩ = _ := cell_of_row W4 eb 0 _ _ _ hb4
  have t1 : W4.cell? ⟨eb, 1, none⟩ = _ := cell_of_row W4 eb 1 _ _ _ hb4
  have t3 : W4.cell? ⟨eb, 3, none⟩ = _ := cell_of_row W4 eb 3 _ _ _ hb4
  have ha := ((HK.out.trans E4).block _ (hltA HB2.out)).trans HB2.out
  have a0 : W4.cell? ⟨w.heap.size + 1, 0, none⟩ = _ := cell_of_row W4 _ 0 _ _ _ ha
  have a3 : W4.cell? ⟨w.heap.size + 1, 3, none⟩ = _ := cell_of_row W4 _ 3 _ _ _ ha
  have HEB := Lib.hid heb
  have HX4 := Lib.hid (HK.out.trans E4)
  have HIFF := Lib.hid hiff
  have HVAL := Lib.hid hval
  clear hpb hxe hiff hval heb hb4 E4 ha HK hkl
  go_upto_region 4 with (fail)
  rw [<- hW4, <- HEB.out]
  clear hW4 q0 q1 q2 q3 q4
  by_cases hq1 : z1.data.toList = s.data.toList
  ·rw [decide_eq_true hq1] at hc1
   by_cases hq2 : z2.data.toList = y.data.toList
   ·rw [decide_eq_true hq2] at hc2
    have HRES := Lib.hid (HVAL.out (HIFF.out.1 ⟨hq1, hq2⟩))
    clear hq1 hq2
    go_wp2_with fail
    go_ret
    exact ⟨by rw [<- HRES.out]; rfl, HE1.out.trans HX4.out⟩
   ·rw [decide_eq_false hq2] at hc2
    have hkk : k ≠ k0 := fun e => hq2 (HIFF.out.2 e).2
    clear hq1 hq2
    go_wp2_with fail
    go_roundw
    case rel => exact ⟨k + 1, by omega, by go_num, HX4.out⟩
    case measure => simp [intOf]; omega
  ·rw [decide_eq_false hq1] at hc1
   have hkk : k ≠ k0 := fun e => hq1 (HIFF.out.2 e).1
   clear hq1 hc2
   go_wp2_with fail
   go_roundw
   case rel => exact ⟨k + 1, by omega, by go_num, HX4.out⟩
   case measure => simp [intOf]; omega
end Go.Proofs.YtfbhchpbflaphaaGreatDoor

namespace Go.Proofs.YtfbhchpbflaphaaGreatDoor
open Go.RowKit Go.Maps Go.ChangeMaps Go.Sort
def StrL (w : World) (v : Value) (l : List C.Bs) : Prop := ∃ A n c, v = .slice A n c /\ n = l.length /\ n <= 9223372036854775807 /\ ∀ j (_ : j < l.length), ∃ g off x, A = some ⟨g, off, none⟩ /\ l[j]? = some x.data.toList /\ ∀ w', Ext w w' -> w'.cell? ⟨g, off + j, none⟩ = some (.string x)
theorem StrL.of_own {w : World} {base n : Nat} {v : Value} {l : List C.Bs} (h : OwnS w base v n l) (hn : n <= 9223372036854775807) : StrL w v l := by
 obtain ⟨A, c, rfl, _, hc⟩ := h.form
 exact ⟨A, n, c, rfl, h.1, hn, hc⟩
theorem StrL.ext {w w1 : World} {v : Value} {l : List C.Bs} (h : StrL w v l) (he : Ext w w1) : StrL w1 v l := by
 obtain ⟨A, n, c, rfl, h1, h2, h3⟩ := h
 refine ⟨A, n, c, rfl, h1, h2, fun j hj => ?_⟩
 obtain ⟨g, off, x, h4, h5, h6⟩ := h3 j hj
 exact ⟨g, off, x, h4, h5, fun w' h' => h6 w' (he.trans h')⟩
set_option maxRecDepth 8000 in
set_option maxHeartbeats 2000000 in
theorem EqualS_refl (l : List C.Bs) (v v' : Value) (w : World) (h : StrL w v l) (h' : StrL w v' l) : Calls Tryz.prog 40 #[v, v'] w (Al (.bool true) w) := by
 obtain ⟨A, n, c, rfl, hn, hn2, hc⟩ := h
 obtain ⟨A', n', c', rfl, hn', hn2', hc'⟩ := h'
 obtain rfl : n = n' := hn.trans hn'.symm
 have HN := Lib.hid hn
 have HC := Lib.hid hc
 have HC' := Lib.hid hc'
 clear hn hn' hc hc'
 go_enter Tryz.func40, Tryz.ntmps40
 go_wp2_with fail
 go_loopw [13] (fun i wr => ∃ k : Nat, k <= n /\ i = .int .i64 k /\ Hid (Ext w wr)) (fun i _ => n - (intOf i).toNat)
 case atStart => exact ⟨0, Nat.zero_le _, rfl, Ext.refl _⟩
 case round =>
  obtain ⟨k, hk, rfl, HK⟩ := hrel
  by_cases hlt : k < n
  ·have hkz : k < l.length := by rw [<- HN.out]; exact hlt
   obtain ⟨g, off, x, rfl, hg, hx⟩ := HC.out k hkz
   obtain ⟨g', off', x', rfl, hg', hx'⟩ := HC'.out k hkz
   rw [hg] at hg'
   obtain rfl : x = x' := ByteArray.ext (Array.toList_inj.1 (Option.some.inj hg'))
   have c1 := hx wr HK.out
   have e1 := hx' wr HK.out
   clear hx hx' hg hg'
   go_wp2_with fail
   go_quiet (fail)
   go_wp2_with fail
   go_roundw
   case rel => exact ⟨k + 1, by omega, by go_num, HK.out.drewN _⟩
   case measure => simp [intOf]; omega
  ·go_wp2_with fail
   go_ret
   exact ⟨rfl, HK.out⟩
end Go.Proofs.YtfbhchpbflaphaaGreatDoor

namespace Go.Proofs.YtfbhchpbflaphaaGreatDoor
open Go.RowKit Go.Maps Go.ChangeMaps
theorem neq_self49 (w : World) (x0 : ByteArray) (x1 : ByteArray) (x2 : Int) (x3 : Int) (x4 : Int) : (Go.binOp .neq 49 (.agg #[.string x0, .string x1, .int .i64 x2, .int .i64 x3, .int .i64 x4]) (.agg #[.string x0, .string x1, .int .i64 x2, .int .i64 x3, .int .i64 x4])).run Tryz.prog w = .ok (.bool false) w := by
 have h1 : Tryz.prog.underlying 49 = some (.struct (Tryz.prog.fieldsOf 49)) := by kernel_rfl
 have h2 : Tryz.prog.stoodInHeld 49 = false := by kernel_rfl
 have h9 : Tryz.prog.underlying 9 = some .string := by kernel_rfl
 have h3 : Tryz.prog.underlying 3 = some (.int .i64) := by kernel_rfl
 rw [run_neq_struct, run_equalIn_agg _ _ _ _ _ h1 h2]
 have hm : (Tryz.prog.fieldsOf 49).toList.map (fun f => (decide (f.name ≠ "_"), f.type, f.offset)) = [(true, 9, 0), (true, 9, 1), (true, 3, 2), (true, 3, 3), (true, 3, 4)] := by kernel_rfl
 generalize (Tryz.prog.fieldsOf 49).toList = l at hm
 obtain ⟨f0, l0, rfl, e0, m0⟩ := List.map_eq_cons_iff.1 hm
 obtain ⟨f1, l1, rfl, e1, m1⟩ := List.map_eq_cons_iff.1 m0
 obtain ⟨f2, l2, rfl, e2, m2⟩ := List.map_eq_cons_iff.1 m1
 obtain ⟨f3, l3, rfl, e3, m3⟩ := List.map_eq_cons_iff.1 m2
 obtain ⟨f4, l4, rfl, e4, m4⟩ := List.map_eq_cons_iff.1 m3
 have hl := List.map_eq_nil_iff.1 m4
 subst hl
 clear hm m0 m1 m2 m3 m4
 simp only [Prod.mk.injEq] at e0 e1 e2 e3 e4
 obtain ⟨a0, b0, c0⟩ := e0
 have a0' := of_decide_eq_true a0
 obtain ⟨a1, b1, c1⟩ := e1
 have a1' := of_decide_eq_true a1
 obtain ⟨a2, b2, c2⟩ := e2
 have a2' := of_decide_eq_true a2
 obtain ⟨a3, b3, c3⟩ := e3
 have a3' := of_decide_eq_true a3
 obtain ⟨a4, b4, c4⟩ := e4
 have a4' := of_decide_eq_true a4
 have hp : (part 9 #[.string x0, .string x1, .int .i64 x2, .int .i64 x3, .int .i64 x4] 0).run Tryz.prog w = .ok (.string x0) w /\ (part 9 #[.string x0, .string x1, .int .i64 x2, .int .i64 x3, .int .i64 x4] 1).run Tryz.prog w = .ok (.string x1) w /\ (part 3 #[.string x0, .string x1, .int .i64 x2, .int .i64 x3, .int .i64 x4] 2).run Tryz.prog w = .ok (.int .i64 x2) w /\ (part 3 #[.string x0, .string x1, .int .i64 x2, .int .i64 x3, .int .i64 x4] 3).run Tryz.prog w = .ok (.int .i64 x3) w /\ (part 3 #[.string x0, .string x1, .int .i64 x2, .int .i64 x3, .int .i64 x4] 4).run Tryz.prog w = .ok (.int .i64 x4) w := ⟨by simp [part], by simp [part], by simp [part], by simp [part], by simp [part]⟩
 have hs := fun (d : Nat) (x y : ByteArray) => run_equalIn_string (P := Tryz.prog) w d 9 x y h9
 have hi := fun (d : Nat) (x y : Int) => run_equalIn_int (P := Tryz.prog) w d 3 .i64 .i64 x y h3
 obtain ⟨p0, p1, p2, p3, p4⟩ := hp
 simp [Op.eqFields, a0', b0, c0, p0, a1', b1, c1, p1, a2', b2, c2, p2, a3', b3, c3, p3, a4', b4, c4, p4, hs, hi]
theorem neq_self128 (w : World) (x0 : ByteArray) (x1 : ByteArray) (x2 : Int) : (Go.binOp .neq 128 (.agg #[.string x0, .string x1, .int .i64 x2]) (.agg #[.string x0, .string x1, .int .i64 x2])).run Tryz.prog w = .ok (.bool false) w := by
 have h1 : Tryz.prog.underlying 128 = some (.struct (Tryz.prog.fieldsOf 128)) := by kernel_rfl
 have h2 : Tryz.prog.stoodInHeld 128 = false := by kernel_rfl
 have h9 : Tryz.prog.underlying 9 = some .string := by kernel_rfl
 have h3 : Tryz.prog.underlying 3 = some (.int .i64) := by kernel_rfl
 rw [run_neq_struct, run_equalIn_agg _ _ _ _ _ h1 h2]
 have hm : (Tryz.prog.fieldsOf 128).toList.map (fun f => (decide (f.name ≠ "_"), f.type, f.offset)) = [(true, 9, 0), (true, 9, 1), (true, 3, 2)] := by kernel_rfl
 generalize (Tryz.prog.fieldsOf 128).toList = l at hm
 obtain ⟨f0, l0, rfl, e0, m0⟩ := List.map_eq_cons_iff.1 hm
 obtain ⟨f1, l1, rfl, e1, m1⟩ := List.map_eq_cons_iff.1 m0
 obtain ⟨f2, l2, rfl, e2, m2⟩ := List.map_eq_cons_iff.1 m1
 have hl := List.map_eq_nil_iff.1 m2
 subst hl
 clear hm m0 m1 m2
 simp only [Prod.mk.injEq] at e0 e1 e2
 obtain ⟨a0, b0, c0⟩ := e0
 have a0' := of_decide_eq_true a0
 obtain ⟨a1, b1, c1⟩ := e1
 have a1' := of_decide_eq_true a1
 obtain ⟨a2, b2, c2⟩ := e2
 have a2' := of_decide_eq_true a2
 have hp : (part 9 #[.string x0, .string x1, .int .i64 x2] 0).run Tryz.prog w = .ok (.string x0) w /\ (part 9 #[.string x0, .string x1, .int .i64 x2] 1).run Tryz.prog w = .ok (.string x1) w /\ (part 3 #[.string x0, .string x1, .int .i64 x2] 2).run Tryz.prog w = .ok (.int .i64 x2) w := ⟨by simp [part], by simp [part], by simp [part]⟩
 have hs := fun (d : Nat) (x y : ByteArray) => run_equalIn_string (P := Tryz.prog) w d 9 x y h9
 have hi := fun (d : Nat) (x y : Int) => run_equalIn_int (P := Tryz.prog) w d 3 .i64 .i64 x y h3
 obtain ⟨p0, p1, p2⟩ := hp
 simp [Op.eqFields, a0', b0, c0, p0, a1', b1, c1, p1, a2', b2, c2, p2, hs, hi]
theorem neq_self74 (w : World) (x0 : ByteArray) (x1 : Int) : (Go.binOp .neq 74 (.agg #[.string x0, .int .i64 x1]) (.agg #[.string x0, .int .i64 x1])).run Tryz.prog w = .ok (.bool false) w := by
 have h1 : Tryz.prog.underlying 74 = some (.struct (Tryz.prog.fieldsOf 74)) := by kernel_rfl
 have h2 : Tryz.prog.stoodInHeld 74 = false := by kernel_rfl
 have h9 : Tryz.prog.underlying 9 = some .string := by kernel_rfl
 have h3 : Tryz.prog.underlying 3 = some (.int .i64) := by kernel_rfl
 rw [run_neq_struct, run_equalIn_agg _ _ _ _ _ h1 h2]
 have hm : (Tryz.prog.fieldsOf 74).toList.map (fun f => (decide (f.name ≠ "_"), f.type, f.offset)) = [(true, 9, 0), (true, 3, 1)] := by kernel_rfl
 generalize (Tryz.prog.fieldsOf 74).toList = l at hm
 obtain ⟨f0, l0, rfl, e0, m0⟩ := List.map_eq_cons_iff.1 hm
 obtain ⟨f1, l1, rfl, e1, m1⟩ := List.map_eq_cons_iff.1 m0
 have hl := List.map_eq_nil_iff.1 m1
 subst hl
 clear hm m0 m1
 simp only [Prod.mk.injEq] at e0 e1
 obtain ⟨a0, b0, c0⟩ := e0
 have a0' := of_decide_eq_true a0
 obtain ⟨a1, b1, c1⟩ := e1
 have a1' := of_decide_eq_true a1
 have hp : (part 9 #[.string x0, .int .i64 x1] 0).run Tryz.prog w = .ok (.string x0) w /\ (part 3 #[.string x0, .int .i64 x1] 1).run Tryz.prog w = .ok (.int .i64 x1) w := ⟨by simp [part], by simp [part]⟩
 have hs := fun (d : Nat) (x y : ByteArray) => run_equalIn_string (P := Tryz.prog) w d 9 x y h9
 have hi := fun (d : Nat) (x y : Int) => run_equalIn_int (P := Tryz.prog) w d 3 .i64 .i64 x y h3
 obtain ⟨p0, p1⟩ := hp
 simp [Op.eqFields, a0', b0, c0, p0, a1', b1, c1, p1, hs, hi]
theorem neq_self130 (w : World) (x0 : ByteArray) (x1 : ByteArray) : (Go.binOp .neq 130 (.agg #[.string x0, .string x1]) (.agg #[.string x0, .string x1])).run Tryz.prog w = .ok (.bool false) w := by
 have h1 : Tryz.prog.underlying 130 = some (.struct (Tryz.prog.fieldsOf 130)) := by kernel_rfl
 have h2 : Tryz.prog.stoodInHeld 130 = false := by kernel_rfl
 have h9 : Tryz.prog.underlying 9 = some .string := by kernel_rfl
 have h3 : Tryz.prog.underlying 3 = some (.int .i64) := by kernel_rfl
 rw [run_neq_struct, run_equalIn_agg _ _ _ _ _ h1 h2]
 have hm : (Tryz.prog.fieldsOf 130).toList.map (fun f => (decide (f.name ≠ "_"), f.type, f.offset)) = [(true, 9, 0), (true, 9, 1)] := by kernel_rfl
 generalize (Tryz.prog.fieldsOf 130).toList = l at hm
 obtain ⟨f0, l0, rfl, e0, m0⟩ := List.map_eq_cons_iff.1 hm
 obtain ⟨f1, l1, rfl, e1, m1⟩ := List.map_eq_cons_iff.1 m0
 have hl := List.map_eq_nil_iff.1 m1
 subst hl
 clear hm m0 m1
 simp only [Prod.mk.injEq] at e0 e1
 obtain ⟨a0, b0, c0⟩ := e0
 have a0' := of_decide_eq_true a0
 obtain ⟨a1, b1, c1⟩ := e1
 have a1' := of_decide_eq_true a1
 have hp : (part 9 #[.string x0, .string x1] 0).run Tryz.prog w = .ok (.string x0) w /\ (part 9 #[.string x0, .string x1] 1).run Tryz.prog w = .ok (.string x1) w := ⟨by simp [part], by simp [part]⟩
 have hs := fun (d : Nat) (x y : ByteArray) => run_equalIn_string (P := Tryz.prog) w d 9 x y h9
 have hi := fun (d : Nat) (x y : Int) => run_equalIn_int (P := Tryz.prog) w d 3 .i64 .i64 x y h3
 obtain ⟨p0, p1⟩ := hp
 simp [Op.eqFields, a0', b0, c0, p0, a1', b1, c1, p1, hs, hi]
end Go.Proofs.YtfbhchpbflaphaaGreatDoor

namespace Go.Proofs.YtfbhchpbflaphaaGreatDoor
open Go.RowKit Go.Maps Go.ChangeMaps
theorem int_get {w : World} {B : Nat -> Prop} {A : Option Addr} {c k : Nat} {l : List Int} (h : SliceAt (intR .i64) w B A c l) (hk : k < l.length) : ∃ b off, A = some ⟨b, off, none⟩ /\ w.cell? ⟨b, off + k, none⟩ = some (.int .i64 l[k]) := by
 obtain ⟨b, off, rfl, _, hr⟩ := h.2.2 (by intro h; rw [h] at hk; simp at hk)
 obtain ⟨us, ⟨rfl, _⟩, hc⟩ := hr k hk
 have := hc 0 _ rfl
 rw [show off + (k * (intR .i64).size + 0) = off + k by show off + (k * 1 + 0) = off + k; omega] at this
 exact ⟨b, off, rfl, this⟩
theorem imp_get {w : World} {B : Nat -> Prop} {A : Option Addr} {c k : Nat} {l : List L.Impt} (h : SliceAt impR w B A c l) (hk : k < l.length) : ∃ b off, A = some ⟨b, off, none⟩ /\ w.cell? ⟨b, off + k * 3, none⟩ = some (.string l[k].1) /\ w.cell? ⟨b, off + k * 3 + 1, none⟩ = some (.string l[k].2.1) /\ w.cell? ⟨b, off + k * 3 + 2, none⟩ = some (.int .i64 l[k].2.2) := by
 obtain ⟨b, off, rfl, _, hr⟩ := h.2.2 (by intro h; rw [h] at hk; simp at hk)
 obtain ⟨us, ⟨x1, y1, rfl, ⟨rfl, _⟩, x2, y2, rfl, ⟨rfl, _⟩, rfl, _⟩, hc⟩ := hr k hk
 exact ⟨b, off, rfl, hc 0 _ rfl, hc 1 _ rfl, hc 2 _ rfl⟩
theorem expd_get {w : World} {B : Nat -> Prop} {A : Option Addr} {c k : Nat} {l : List L.Expd} (h : SliceAt expR w B A c l) (hk : k < l.length) : ∃ b off, A = some ⟨b, off, none⟩ /\ w.cell? ⟨b, off + k * 2, none⟩ = some (.string l[k].1) /\ w.cell? ⟨b, off + k * 2 + 1, none⟩ = some (.int .i64 l[k].2) := by
 obtain ⟨b, off, rfl, _, hr⟩ := h.2.2 (by intro h; rw [h] at hk; simp at hk)
 obtain ⟨us, ⟨x1, y1, rfl, ⟨rfl, _⟩, rfl, _⟩, hc⟩ := hr k hk
 exact ⟨b, off, rfl, hc 0 _ rfl, hc 1 _ rfl⟩
theorem note_get {w : World} {B : Nat -> Prop} {A : Option Addr} {c k : Nat} {l : List L.Note} (h : SliceAt noteR w B A c l) (hk : k < l.length) : ∃ b off, A = some ⟨b, off, none⟩ /\ w.cell? ⟨b, off + k * 2, none⟩ = some (.string l[k].1) /\ w.cell? ⟨b, off + k * 2 + 1, none⟩ = some (.string l[k].2) := by
 obtain ⟨b, off, rfl, _, hr⟩ := h.2.2 (by intro h; rw [h] at hk; simp at hk)
 obtain ⟨us, ⟨x1, y1, rfl, ⟨rfl, _⟩, rfl, _⟩, hc⟩ := hr k hk
 exact ⟨b, off, rfl, hc 0 _ rfl, hc 1 _ rfl⟩
theorem plc5_get {w : World} {B : Nat -> Prop} {A : Option Addr} {c k : Nat} {l : List L.Plc} (h : SliceAt plcR w B A c l) (hk : k < l.length) : ∃ b off, A = some ⟨b, off, none⟩ /\ w.cell? ⟨b, off + k * 5, none⟩ = some (.string l[k].1) /\ w.cell? ⟨b, off + k * 5 + 1, none⟩ = some (.string l[k].2.1) /\ w.cell? ⟨b, off + k * 5 + 2, none⟩ = some (.int .i64 l[k].2.2.1) /\ w.cell? ⟨b, off + k * 5 + 3, none⟩ = some (.int .i64 l[k].2.2.2.1) /\ w.cell? ⟨b, off + k * 5 + 4, none⟩ = some (.int .i64 l[k].2.2.2.2) := by
 obtain ⟨b, off, rfl, _, _, _, h0, h1, h2, h3, h4⟩ := plc_get h hk
 exact ⟨b, off, rfl, h0, h1, h2, h3, h4⟩
set_option maxRecDepth 100000 in
set_option maxHeartbeats 4000000 in
theorem Same_same (b : L.Bin) (vs us : List Value) (w : World) (h : BinV w (Old w) b vs) (h2 : BinV w (Old w) b us) : Calls Tryz.prog 14 #[.agg (Array.mk vs), .agg (Array.mk us)] w (Al (.bool true) w) := by
 obtain ⟨A1, c1, A2, c2, A3, c3, A4, c4, A5, c5, rfl, hA1, hA2, hA3, hA4, hA5, _, _, _⟩ := h.form
 obtain ⟨B1, d1, B2, d2, B3, d3, B4, d4, B5, d5, rfl, hB1, hB2, hB3, hB4, hB5, _, _, _⟩ := h2.form
 obtain ⟨kd, en, im, l1, l2, l3, l4, l5⟩ := b
 simp only at hA1 hA2 hA3 hA4 hA5 hB1 hB2 hB3 hB4 hB5 ⊢
 have z1 : l1.length <= 9223372036854775807 := by have := hA1.1; have := hA1.2.1; omega
 obtain ⟨n1, hn1⟩ : ∃ n, n = l1.length := ⟨_, rfl⟩
 rw [<- hn1] at z1 ⊢
 have HN1 := Lib.hid hn1
 have HA1 := Lib.hid hA1
 have HB1 := Lib.hid hB1
 have z2 : l2.length <= 9223372036854775807 := by have := hA2.1; have := hA2.2.1; omega
 obtain ⟨n2, hn2⟩ : ∃ n, n = l2.length := ⟨_, rfl⟩
 rw [<- hn2] at z2 ⊢
 have HN2 := Lib.hid hn2
 have HA2 := Lib.hid hA2
 have HB2 := Lib.hid hB2
 have z3 : l3.length <= 9223372036854775807 := by have := hA3.1; have := hA3.2.1; omega
 obtain ⟨n3, hn3⟩ : ∃ n, n = l3.length := ⟨_, rfl⟩
 rw [<- hn3] at z3 ⊢
 have HN3 := Lib.hid hn3
 have HA3 := Lib.hid hA3
 have HB3 := Lib.hid hB3
 have z4 : l4.length <= 9223372036854775807 := by have := hA4.1; have := hA4.2.1; omega
 obtain ⟨n4, hn4⟩ : ∃ n, n = l4.length := ⟨_, rfl⟩
 rw [<- hn4] at z4 ⊢
 have HN4 := Lib.hid hn4
 have HA4 := Lib.hid hA4
 have HB4 := Lib.hid hB4
 have z5 : l5.length <= 9223372036854775807 := by have := hA5.1; have := hA5.2.1; omega
 obtain ⟨n5, hn5⟩ : ∃ n, n = l5.length := ⟨_, rfl⟩
 rw [<- hn5] at z5 ⊢
 have HN5 := Lib.hid hn5
 have HA5 := Lib.hid hA5
 have HB5 := Lib.hid hB5
 obtain ⟨W1, hW1⟩ : ∃ W1, W1 = (w.alloc (.cells #[.int .i64 kd, .int .i64 en, .string im, .slice A1 n1 c1, .slice A2 n2 c2, .slice A3 n3 c3, .slice A4 n4 c4, .slice A5 n5 c5] 35)).alloc (.cells #[.int .i64 kd, .int .i64 en, .string im, .slice B1 n1 d1, .slice B2 n2 d2, .slice B3 n3 d3, .slice B4 n4 d4, .slice B5 n5 d5] 35) := ⟨_, rfl⟩
 have hsz : (w.alloc (.cells #[.int .i64 kd, .int .i64 en, .string im, .slice A1 n1 c1, .slice A2 n2 c2, .slice A3 n3 c3, .slice A4 n4 c4, .slice A5 n5 c5] 35)).heap.size = w.heap.size + 1 := by simp
 have E1 : Ext w W1 := by rw [hW1]; exact ((Ext.refl w).alloc _).alloc _
 have hba : W1.heap[w.heap.size]? = some (.cells #[.int .i64 kd, .int .i64 en, .string im, .slice A1 n1 c1, .slice A2 n2 c2, .slice A3 n3 c3, .slice A4 n4 c4, .slice A5 n5 c5] 35 (0, 0)) := by rw [hW1]; exact (((Ext.refl (w.alloc _)).alloc _).block _ (by simp)).trans (heap_alloc_new w _)
 have hbb : W1.heap[w.heap.size + 1]? = some (.cells #[.int .i64 kd, .int .i64 en, .string im, .slice B1 n1 d1, .slice B2 n2 d2, .slice B3 n3 d3, .slice B4 n4 d4, .slice B5 n5 d5] 35 (0, 0)) := by rw [hW1, <- hsz]; exact heap_alloc_new _ _
 have p0 : W1.cell? ⟨w.heap.size, 0, none⟩ = _ := cell_of_row W1 _ 0 _ _ _ hba
 have q0 : W1.cell? ⟨w.heap.size + 1, 0, none⟩ = _ := cell_of_row W1 _ 0 _ _ _ hbb
 have p1 : W1.cell? ⟨w.heap.size, 1, none⟩ = _ := cell_of_row W1 _ 1 _ _ _ hba
 have q1 : W1.cell? ⟨w.heap.size + 1, 1, none⟩ = _ := cell_of_row W1 _ 1 _ _ _ hbb
 have p2 : W1.cell? ⟨w.heap.size, 2, none⟩ = _ := cell_of_row W1 _ 2 _ _ _ hba
 have q2 : W1.cell? ⟨w.heap.size + 1, 2, none⟩ = _ := cell_of_row W1 _ 2 _ _ _ hbb
 have p3 : W1.cell? ⟨w.heap.size, 3, none⟩ = _ := cell_of_row W1 _ 3 _ _ _ hba
 have q3 : W1.cell? ⟨w.heap.size + 1, 3, none⟩ = _ := cell_of_row W1 _ 3 _ _ _ hbb
 have p4 : W1.cell? ⟨w.heap.size, 4, none⟩ = _ := cell_of_row W1 _ 4 _ _ _ hba
 have q4 : W1.cell? ⟨w.heap.size + 1, 4, none⟩ = _ := cell_of_row W1 _ 4 _ _ _ hbb
 have p5 : W1.cell? ⟨w.heap.size, 5, none⟩ = _ := cell_of_row W1 _ 5 _ _ _ hba
 have q5 : W1.cell? ⟨w.heap.size + 1, 5, none⟩ = _ := cell_of_row W1 _ 5 _ _ _ hbb
 have p6 : W1.cell? ⟨w.heap.size, 6, none⟩ = _ := cell_of_row W1 _ 6 _ _ _ hba
 have q6 : W1.cell? ⟨w.heap.size + 1, 6, none⟩ = _ := cell_of_row W1 _ 6 _ _ _ hbb
 have p7 : W1.cell? ⟨w.heap.size, 7, none⟩ = _ := cell_of_row W1 _ 7 _ _ _ hba
 have q7 : W1.cell? ⟨w.heap.size + 1, 7, none⟩ = _ := cell_of_row W1 _ 7 _ _ _ hbb
 have HW1 := Lib.hid hW1
 have HE1 := Lib.hid E1
 have HBA := Lib.hid hba
 have HBB := Lib.hid hbb
 clear h h2 hA1 hB1 hn1 hA2 hB2 hn2 hA3 hB3 hn3 hA4 hB4 hn4 hA5 hB5 hn5 hW1 hsz E1 hba hbb
 go_enter Tryz.func14, Tryz.ntmps14
 go_upto_region 1 with (fail)
 rw [<- HW1.out]
 go_wp2_with fail
 clear p0 q0 p1 q1 p2 q2 p3 q3 p4 q4 p5 q5 p6 q6 p7 q7
 go_loopw [77] (fun i wr => ∃ k : Nat, k <= n1 /\ i = .int .i64 (k : Int) /\ Hid (Ext W1 wr)) (fun i _ => n1 - (intOf i).toNat)
 case atStart => exact ⟨0, Nat.zero_le _, rfl, Ext.refl _⟩
 case round =>
  obtain ⟨k1, hk1, rfl, HK1⟩ := hrel
  obtain ⟨V1, hV1⟩ : ∃ V, V = wr := ⟨_, rfl⟩
  subst hV1
  by_cases hlt1 : k1 < n1
  ·have hkl : k1 < l1.length := by rw [<- HN1.out]; exact hlt1
   obtain ⟨ga, oa, rfl, x0, x1, x2, x3, x4⟩ := plc5_get HA1.out hkl
   obtain ⟨gb, ob, rfl, y0, y1, y2, y3, y4⟩ := plc5_get HB1.out hkl
   have hx := HE1.out.trans HK1.out
   replace x0 := hx.keepc x0
   replace y0 := hx.keepc y0
   replace x1 := hx.keepc x1
   replace y1 := hx.keepc y1
   replace x2 := hx.keepc x2
   replace y2 := hx.keepc y2
   replace x3 := hx.keepc x3
   replace y3 := hx.keepc y3
   replace x4 := hx.keepc x4
   replace y4 := hx.keepc y4
   have pa : V1.cell? ⟨w.heap.size, 3, none⟩ = _ := cell_of_row V1 _ 3 _ _ _ ((HK1.out.block _ (hltA HBA.out)).trans HBA.out)
   have pb : V1.cell? ⟨w.heap.size + 1, 3, none⟩ = _ := cell_of_row V1 _ 3 _ _ _ ((HK1.out.block _ (hltA HBB.out)).trans HBB.out)
   generalize l1[k1] = el at *
   have hne := fun W => neq_self49 W el.1 el.2.1 el.2.2.1 el.2.2.2.1 el.2.2.2.2
   generalize el.1 = e0 at *
   generalize el.2.1 = e1 at *
   generalize el.2.2.1 = e2 at *
   generalize el.2.2.2.1 = e3 at *
   generalize el.2.2.2.2 = e4 at *
   clear hx hkl
   go_wp2_with fail
   go_quiet (fail)
   go_wp2_with fail
   go_roundw
   case rel => exact ⟨k1 + 1, by omega, by go_num, HK1.out.drewN _⟩
   case measure => simp [intOf]; omega
  ·obtain rfl : k1 = n1 := by omega
   have HX1 := Lib.hid HK1.out
   have pa : V1.cell? ⟨w.heap.size, 4, none⟩ = _ := cell_of_row V1 _ 4 _ _ _ ((HX1.out.block _ (hltA HBA.out)).trans HBA.out)
   clear HK1
   go_wp2_with fail
   clear pa
   go_loopw [95] (fun i wr => ∃ k : Nat, k <= n2 /\ i = .int .i64 (k : Int) /\ Hid (Ext W1 wr)) (fun i _ => n2 - (intOf i).toNat)
   case atStart => exact ⟨0, Nat.zero_le _, rfl, HX1.out⟩
   case round =>
    obtain ⟨k2, hk2, rfl, HK2⟩ := hrel
    obtain ⟨V2, hV2⟩ : ∃ V, V = wr := ⟨_, rfl⟩
    subst hV2
    by_cases hlt2 : k2 < n2
    ·have hkl : k2 < l2.length := by rw [<- HN2.out]; exact hlt2
     obtain ⟨ga, oa, rfl, x0⟩ := int_get HA2.out hkl
     obtain ⟨gb, ob, rfl, y0⟩ := int_get HB2.out hkl
     have hx := HE1.out.trans HK2.out
     replace x0 := hx.keepc x0
     replace y0 := hx.keepc y0
     have pa : V2.cell? ⟨w.heap.size, 4, none⟩ = _ := cell_of_row V2 _ 4 _ _ _ ((HK2.out.block _ (hltA HBA.out)).trans HBA.out)
     have pb : V2.cell? ⟨w.heap.size + 1, 4, none⟩ = _ := cell_of_row V2 _ 4 _ _ _ ((HK2.out.block _ (hltA HBB.out)).trans HBB.out)
     generalize l2[k2] = el at *
     clear hx hkl
     go_wp2_with fail
     go_quiet (fail)
     go_wp2_with fail
     go_roundw
     case rel => exact ⟨k2 + 1, by omega, by go_num, HK2.out.drewN _⟩
     case measure => simp [intOf]; omega
    ·obtain rfl : k2 = n2 := by omega
     have HX2 := Lib.hid HK2.out
     have pa : V2.cell? ⟨w.heap.size, 5, none⟩ = _ := cell_of_row V2 _ 5 _ _ _ ((HX2.out.block _ (hltA HBA.out)).trans HBA.out)
     clear HK2
     go_wp2_with fail
     clear pa
     go_loopw [113] (fun i wr => ∃ k : Nat, k <= n3 /\ i = .int .i64 (k : Int) /\ Hid (Ext W1 wr)) (fun i _ => n3 - (intOf i).toNat)
     case atStart => exact ⟨0, Nat.zero_le _, rfl, HX2.out⟩
     case round =>
      obtain ⟨k3, hk3, rfl, HK3⟩ := hrel
      obtain ⟨V3, hV3⟩ : ∃ V, V = wr := ⟨_, rfl⟩
      subst hV3
      by_cases hlt3 : k3 < n3
      ·have hkl : k3 < l3.length := by rw [<- HN3.out]; exact hlt3
       obtain ⟨ga, oa, rfl, x0, x1, x2⟩ := imp_get HA3.out hkl
       obtain ⟨gb, ob, rfl, y0, y1, y2⟩ := imp_get HB3.out hkl
       have hx := HE1.out.trans HK3.out
       replace x0 := hx.keepc x0
       replace y0 := hx.keepc y0
       replace x1 := hx.keepc x1
       replace y1 := hx.keepc y1
       replace x2 := hx.keepc x2
       replace y2 := hx.keepc y2
       have pa : V3.cell? ⟨w.heap.size, 5, none⟩ = _ := cell_of_row V3 _ 5 _ _ _ ((HK3.out.block _ (hltA HBA.out)).trans HBA.out)
       have pb : V3.cell? ⟨w.heap.size + 1, 5, none⟩ = _ := cell_of_row V3 _ 5 _ _ _ ((HK3.out.block _ (hltA HBB.out)).trans HBB.out)
       generalize l3[k3] = el at *
       have hne := fun W => neq_self128 W el.1 el.2.1 el.2.2
       generalize el.1 = e0 at *
       generalize el.2.1 = e1 at *
       generalize el.2.2 = e2 at *
       clear hx hkl
       go_wp2_with fail
       go_quiet (fail)
       go_wp2_with fail
       go_roundw
       case rel => exact ⟨k3 + 1, by omega, by go_num, HK3.out.drewN _⟩
       case measure => simp [intOf]; omega
      ·obtain rfl : k3 = n3 := by omega
       have HX3 := Lib.hid HK3.out
       have pa : V3.cell? ⟨w.heap.size, 6, none⟩ = _ := cell_of_row V3 _ 6 _ _ _ ((HX3.out.block _ (hltA HBA.out)).trans HBA.out)
       clear HK3
       go_wp2_with fail
       clear pa
       go_loopw [131] (fun i wr => ∃ k : Nat, k <= n4 /\ i = .int .i64 (k : Int) /\ Hid (Ext W1 wr)) (fun i _ => n4 - (intOf i).toNat)
       case atStart => exact ⟨0, Nat.zero_le _, rfl, HX3.out⟩
       case round =>
        obtain ⟨k4, hk4, rfl, HK4⟩ := hrel
        obtain ⟨V4, hV4⟩ : ∃ V, V = wr := ⟨_, rfl⟩
        subst hV4
        by_cases hlt4 : k4 < n4
        ·have hkl : k4 < l4.length := by rw [<- HN4.out]; exact hlt4
         obtain ⟨ga, oa, rfl, x0, x1⟩ := expd_get HA4.out hkl
         obtain ⟨gb, ob, rfl, y0, y1⟩ := expd_get HB4.out hkl
         have hx := HE1.out.trans HK4.out
         replace x0 := hx.keepc x0
         replace y0 := hx.keepc y0
         replace x1 := hx.keepc x1
         replace y1 := hx.keepc y1
         have pa : V4.cell? ⟨w.heap.size, 6, none⟩ = _ := cell_of_row V4 _ 6 _ _ _ ((HK4.out.block _ (hltA HBA.out)).trans HBA.out)
         have pb : V4.cell? ⟨w.heap.size + 1, 6, none⟩ = _ := cell_of_row V4 _ 6 _ _ _ ((HK4.out.block _ (hltA HBB.out)).trans HBB.out)
         generalize l4[k4] = el at *
         have hne := fun W => neq_self74 W el.1 el.2
         generalize el.1 = e0 at *
         generalize el.2 = e1 at *
         clear hx hkl
         go_wp2_with fail
         go_quiet (fail)
         go_wp2_with fail
         go_roundw
         case rel => exact ⟨k4 + 1, by omega, by go_num, HK4.out.drewN _⟩
         case measure => simp [intOf]; omega
        ·obtain rfl : k4 = n4 := by omega
         have HX4 := Lib.hid HK4.out
         have pa : V4.cell? ⟨w.heap.size, 7, none⟩ = _ := cell_of_row V4 _ 7 _ _ _ ((HX4.out.block _ (hltA HBA.out)).trans HBA.out)
         clear HK4
         go_wp2_with fail
         clear pa
         go_loopw [149] (fun i wr => ∃ k : Nat, k <= n5 /\ i = .int .i64 (k : Int) /\ Hid (Ext W1 wr)) (fun i _ => n5 - (intOf i).toNat)
         case atStart => exact ⟨0, Nat.zero_le _, rfl, HX4.out⟩
         case round =>
          obtain ⟨k5, hk5, rfl, HK5⟩ := hrel
          obtain ⟨V5, hV5⟩ : ∃ V, V = wr := ⟨_, rfl⟩
          subst hV5
          by_cases hlt5 : k5 < n5
          ·have hkl : k5 < l5.length := by rw [<- HN5.out]; exact hlt5
           obtain ⟨ga, oa, rfl, x0, x1⟩ := note_get HA5.out hkl
           obtain ⟨gb, ob, rfl, y0, y1⟩ := note_get HB5.out hkl
           have hx := HE1.out.trans HK5.out
           replace x0 := hx.keepc x0
           replace y0 := hx.keepc y0
           replace x1 := hx.keepc x1
           replace y1 := hx.keepc y1
           have pa : V5.cell? ⟨w.heap.size, 7, none⟩ = _ := cell_of_row V5 _ 7 _ _ _ ((HK5.out.block _ (hltA HBA.out)).trans HBA.out)
           have pb : V5.cell? ⟨w.heap.size + 1, 7, none⟩ = _ := cell_of_row V5 _ 7 _ _ _ ((HK5.out.block _ (hltA HBB.out)).trans HBB.out)
           generalize l5[k5] = el at *
           have hne := fun W => neq_self130 W el.1 el.2
           generalize el.1 = e0 at *
           generalize el.2 = e1 at *
           clear hx hkl
           go_wp2_with fail
           go_quiet (fail)
           go_wp2_with fail
           go_roundw
           case rel => exact ⟨k5 + 1, by omega, by go_num, HK5.out.drewN _⟩
           case measure => simp [intOf]; omega
          ·obtain rfl : k5 = n5 := by omega
           have HX5 := Lib.hid HK5.out
           clear HK5
           go_wp2_with fail
           go_ret
           exact ⟨rfl, HE1.out.trans HX5.out⟩
end Go.Proofs.YtfbhchpbflaphaaGreatDoor

namespace Go.Proofs.YtfbhchpbflaphaaGreatDoor
open Go.RowKit Go.Maps Go.ChangeMaps
theorem StrL.of_slice {w : World} {A : Option Addr} {c n : Nat} {l : List ByteArray} (h : SliceAt strR w (Old w) A c l) (hn : n = l.length) : StrL w (.slice A n c) (l.map fun s => s.data.toList) := by
 have h1 := h.1
 have h2 := h.2.1
 refine ⟨A, n, c, rfl, by rw [List.length_map, hn], by omega, fun j hj => ?_⟩
 have hj' : j < l.length := by simpa using hj
 obtain ⟨b, off, rfl, _, hr⟩ := h.2.2 (by intro h; rw [h] at hj'; simp at hj')
 obtain ⟨us, ⟨rfl, _⟩, hc⟩ := hr j hj'
 have h9 := hc 0 _ rfl
 rw [show off + (j * strR.size + 0) = off + j by show off + (j * 1 + 0) = off + j; omega] at h9
 refine ⟨b, off, l[j], rfl, by rw [List.getElem?_map, List.getElem?_eq_getElem hj']; rfl, fun w' hw => hw.keepc h9⟩
set_option maxRecDepth 8000 in
set_option maxHeartbeats 1000000 in
theorem sameReading_any (r : L.Rd) (vs us : List Value) (w : World) (h : RdV w (Old w) r vs) (h2 : RdV w (Old w) r us) : Calls Tryz.prog 15 #[.agg (Array.mk vs), .agg (Array.mk us)] w (Al (.bool true) w) := by
 obtain ⟨A1, c1, A2, c2, rfl, hA1, hA2⟩ := h
 obtain ⟨B1, d1, B2, d2, rfl, hB1, hB2⟩ := h2
 obtain ⟨l1, l2⟩ := r
 simp only at hA1 hA2 hB1 hB2 ⊢
 obtain ⟨n1, hn1⟩ : ∃ n, n = l1.length := ⟨_, rfl⟩
 obtain ⟨n2, hn2⟩ : ∃ n, n = l2.length := ⟨_, rfl⟩
 have HE1 := Lib.hid (fun W (hW : Ext w W) => EqualS_refl _ _ _ W ((StrL.of_slice hA1 hn1).ext hW) ((StrL.of_slice hB1 hn1).ext hW))
 have HE2 := Lib.hid (fun W (hW : Ext w W) => EqualS_refl _ _ _ W ((StrL.of_slice hA2 hn2).ext hW) ((StrL.of_slice hB2 hn2).ext hW))
 rw [<- hn1, <- hn2]
 obtain ⟨W1, hW1⟩ : ∃ W1, W1 = (w.alloc (.cells #[.slice A1 n1 c1, .slice A2 n2 c2] 38)).alloc (.cells #[.slice B1 n1 d1, .slice B2 n2 d2] 38) := ⟨_, rfl⟩
 have hsz : (w.alloc (.cells #[.slice A1 n1 c1, .slice A2 n2 c2] 38)).heap.size = w.heap.size + 1 := by simp
 have E1 : Ext w W1 := by rw [hW1]; exact ((Ext.refl w).alloc _).alloc _
 have hba : W1.heap[w.heap.size]? = some (.cells #[.slice A1 n1 c1, .slice A2 n2 c2] 38 (0, 0)) := by rw [hW1]; exact (((Ext.refl (w.alloc _)).alloc _).block _ (by simp)).trans (heap_alloc_new w _)
 have hbb : W1.heap[w.heap.size + 1]? = some (.cells #[.slice B1 n1 d1, .slice B2 n2 d2] 38 (0, 0)) := by rw [hW1, <- hsz]; exact heap_alloc_new _ _
 have p0 : W1.cell? ⟨w.heap.size, 0, none⟩ = _ := cell_of_row W1 _ 0 _ _ _ hba
 have p1 : W1.cell? ⟨w.heap.size, 1, none⟩ = _ := cell_of_row W1 _ 1 _ _ _ hba
 have q0 : W1.cell? ⟨w.heap.size + 1, 0, none⟩ = _ := cell_of_row W1 _ 0 _ _ _ hbb
 have q1 : W1.cell? ⟨w.heap.size + 1, 1, none⟩ = _ := cell_of_row W1 _ 1 _ _ _ hbb
 have HW1 := Lib.hid hW1
 have HX1 := Lib.hid E1
 clear hA1 hA2 hB1 hB2 hn1 hn2 hW1 hsz E1 hba hbb
 go_enter Tryz.func15, Tryz.ntmps15
 go_upto_region 1 with (fail)
 rw [<- HW1.out]
 go_wp2_with fail
 refine (HE1.out _ HX1.out).mono ?_
 rintro e w2 ⟨rfl, d2⟩
 have p1' := d2.keepc p1
 have q1' := d2.keepc q1
 have HX2 := Lib.hid (HX1.out.trans d2)
 clear d2 p0 p1 q0 q1
 go_wp2_with fail
 refine (HE2.out _ HX2.out).mono ?_
 rintro e w3 ⟨rfl, d3⟩
 have HX3 := Lib.hid (HX2.out.trans d3)
 clear d3 p1' q1'
 go_wp2_with fail
 go_ret
 exact ⟨rfl, HX3.out⟩
end Go.Proofs.YtfbhchpbflaphaaGreatDoor

namespace Go.Proofs.YtfbhchpbflaphaaGreatDoor
open Go.RowKit Go.Maps Go.ChangeMaps
def imgD (E : L.Env) (l : List L.Spot) (k : Nat) : C.Bs := L.imgF (fun p => E.data p) (l.take k) 0
theorem data_sizes (E : L.Env) (l : List L.Spot) : (l.map fun p => (E.data p).length) = E.sizes l := by
 unfold L.Env.sizes L.Env.data
 refine List.map_congr_left fun p _ => ?_
 exact (Array.length_toList ..)
theorem imgD_succ (E : L.Env) {l : List L.Spot} {k : Nat} (hk : k < l.length) : imgD E l (k + 1) = imgD E l k ++ (List.replicate (L.up (L.fin ((E.sizes l).take k) 0) - L.fin ((E.sizes l).take k) 0) 0 ++ E.data l[k]) := by
 unfold imgD
 rw [List.take_succ_eq_append_getElem hk, L.imgF_snoc, data_sizes, sizes_take]
theorem info5 : (Tryz.prog.info? 5).map (fun i => (i.zero, i.size, i.bytes)) = some (some (.int .u8 0), 1, 1) := by kernel_rfl
theorem ownsRow_tch {X : Nat -> Prop} {w w' : World} {base : Nat} {e : TypeId} {size : Nat} {v : Value} {n : Nat} {xs : List Value} (h : w.ownsRow base e size v n xs) (hT : Tch X w w') (hv : ∀ k, v.ownBlock = some k -> ¬ X k) : w'.ownsRow base e size v n xs := by
 obtain ⟨h1, h2 | ⟨g, cap, cur, rfl, hb, hg, h3⟩⟩ := h
 ·exact ⟨h1, .inl h2⟩
 ·exact ⟨h1, .inr ⟨g, cap, cur, rfl, hb, (hT.block g (hltA hg) (hv g rfl)).trans hg, h3⟩⟩
theorem ownsRow_form {w : World} {base : Nat} {e : TypeId} {size : Nat} {v : Value} {n : Nat} {xs : List Value} (h : w.ownsRow base e size v n xs) : ∃ A c, v = .slice A n c := by
 obtain ⟨_, ⟨rfl, rfl⟩ | ⟨g, cap, cur, rfl, _⟩⟩ := h
 ·exact ⟨_, _, rfl⟩
 ·exact ⟨_, _, rfl⟩
theorem ownAt_kind {w : World} {base : Nat} {e : TypeId} {size : Nat} {v : Value} {n : Nat} {xs : List Value} (h : OwnAt w base e size v n xs) {k : Nat} (hk : v.ownBlock = some k) : ∃ c, w.heap[k]? = some (.cells c e (0, 0)) := by
 obtain ⟨_, ⟨rfl, _⟩ | ⟨g, off, cap, cur, rfl, _, hg, _⟩⟩ := h
 ·cases hk
 ·cases hk; exact ⟨cur, hg⟩
theorem rows_apart {w : World} {base base' : Nat} {e e' : TypeId} {size size' : Nat} {v v' : Value} {n n' : Nat} {xs xs' : List Value} (h : OwnAt w base e size v n xs) (h' : w.ownsRow base' e' size' v' n' xs') (he : e ≠ e') {k : Nat} (hk : v.ownBlock = some k) : v'.ownBlock ≠ some k := by
 intro hk'
 obtain ⟨c, h1⟩ := ownAt_kind h hk
 obtain ⟨c', fz, h2⟩ := Lib.ownsRow_kind h' k hk'
 rw [h1] at h2
 injection h2 with h2
 injection h2 with _ h3 _
 exact he h3
abbrev kdRow (kd : Int) (vP : Value) : Array Value := #[.int .i64 kd, .int .i64 0, .string ⟨#[]⟩, vP, .slice none 0 0, .slice none 0 0, .slice none 0 0, .slice none 0 0]
structure PlR (w : World) (kd : Int) (E : L.Env) (l : List L.Spot) (k : Nat) (vP vB : Value) (n : Nat) (bs : C.Bs) (wr : World) : Prop where
 ext : Ext w wr
 res : wr.heap[w.heap.size]? = some (.cells zrow35 35 (0, 0))
 blk : wr.heap[w.heap.size + 1]? = some (.cells (kdRow kd vP) 35 (0, 0))
 plc : OwnL plcC 49 5 wr (w.heap.size + 2) vP k ((E.places l).take k)
 img : wr.ownsRow (w.heap.size + 2) 5 1 vB n (byV bs)
section
variable {w wr W : World} {kd : Int} {E : L.Env} {l : List L.Spot} {k n : Nat} {vP vB : Value} {bs : C.Bs}
theorem PlR.apart (h : PlR w kd E l k vP vB n bs wr) {b : Nat} (hb : vP.ownBlock = some b) : vB.ownBlock ≠ some b := rows_apart h.plc.2 h.img (by decide) hb
theorem PlR.ext' (h : PlR w kd E l k vP vB n bs wr) (he : Ext wr W) : PlR w kd E l k vP vB n bs W where
 ext := h.ext.trans he
 res := (he.block _ (hltA h.res)).trans h.res
 blk := (he.block _ (hltA h.blk)).trans h.blk
 plc := h.plc.ext he
 img := ownsRow_tch h.img (he.tch fun _ => False) fun _ _ h => h
theorem PlR.more (h : PlR w kd E l k vP vB n bs wr) {vB' : Value} {n' : Nat} {bs' : C.Bs} (ho : W.ownsRow (w.heap.size + 2) 5 1 vB' n' (byV bs')) (hg : wr.grownBy W vB.ownBlock) : PlR w kd E l k vP vB' n' bs' W := by
 have hT : Tch (fun i => vB.ownBlock = some i) wr W := ⟨hg.os, hg.tape, hg.output, hg.size, fun i hi hx => hg.block i hi fun e => hx e.symm⟩
 have hlow := fun i (hi : vB.ownBlock = some i) => h.img.lt i hi
 exact {
  ext := ((h.ext.tch fun _ => False).trans' hT fun i hi e => absurd hi (by have := (hlow i e).1; omega)).ext fun _ _ h => h
  res := (hT.block _ (hltA h.res) fun e => by have := (hlow _ e).1; omega).trans h.res
  blk := (hT.block _ (hltA h.blk) fun e => by have := (hlow _ e).1; omega).trans h.blk
  plc := h.plc.tch hT fun b hb e => h.apart hb e
  img := ho }
theorem PlR.placed (h : PlR w kd E l k vP vB n bs wr) {vP' : Value} {k' : Nat} (ho : OwnL plcC 49 5 W (w.heap.size + 2) vP' k' ((E.places l).take k')) (hg : wr.grownBy W vP.ownBlock) :
 PlR w kd E l k' vP' vB n bs (W.setCell ⟨w.heap.size + 1, 3, none⟩ vP') /\ W.cell? ⟨w.heap.size + 1, 3, none⟩ = some vP /\ W.frozen? ⟨w.heap.size + 1, 3, none⟩ = false := by
 have hT : Tch (fun i => vP.ownBlock = some i) wr W := ⟨hg.os, hg.tape, hg.output, hg.size, fun i hi hx => hg.block i hi fun e => hx e.symm⟩
 have hS : Tch (fun i => i = w.heap.size + 1) W (W.setCell ⟨w.heap.size + 1, 3, none⟩ vP') := grown_tch (grownBy_setCell W ⟨w.heap.size + 1, 3, none⟩ vP')
 have hlow := fun i (hi : vP.ownBlock = some i) => h.plc.lt hi
 have hb := (hT.block _ (hltA h.blk) fun e => by have := (hlow _ e).1; omega).trans h.blk
 have hr := (hT.block _ (hltA h.res) fun e => by have := (hlow _ e).1; omega).trans h.res
 refine ⟨?_, cell_of_row W _ 3 _ _ _ hb, Lib.frozen_of_heap hb 3⟩
 exact {
  ext := (((h.ext.tch fun _ => False).trans' hT fun i hi e => absurd hi (by have := (hlow i e).1; omega)).trans' hS fun i hi e => absurd hi (by omega)).ext fun _ _ h => h
  res := (hS.block _ (hltA hr) (by omega)).trans hr
  blk := heap_setCell_cells hb 3 vP'
  plc := ho.tch hS fun b hb e => by have := (ho.lt hb).1; omega
  img := ownsRow_tch (ownsRow_tch h.img hT fun b hb e => h.apart e hb) hS fun b hb e => by have := (h.img.lt b hb).1; omega }
end
end Go.Proofs.YtfbhchpbflaphaaGreatDoor
