/- The texts Gq Byr Gr Gt Gu Gv Gx of the seat, joined. -/
import Derived.Test.YtfbhchpbflaphaaGreatDoorS9
import Derived.Deep.CutRange
import Derived.Lib.ConvBytes
import Derived.Lib.LazyBuf
namespace Go.Proofs.YtfbhchpbflaphaaGreatDoor
open Go.RowKit Go.Maps Go.ChangeMaps
def RetSel (w : World) (X : Nat -> Prop) (base g : Nat) (E : L.Env) (r : Except Int L.St) (e : Ending) (w' : World) : Prop :=
 Tch X w w' /\ match r with
 | .error n => n ≠ 0 /\ e = .returned (.int .i64 n)
 | .ok st' => e = .returned (.int .i64 0) /\ ∃ S' X' k', (∀ b, X' b -> X b ∨ w.heap.size <= b) /\ LinkAt w' S' X' base g E st' (meansTo E st'.1 st'.1.length) k' /\ L.ListOk E st'.1
def SelAt (w : World) (X : Nat -> Prop) (base g : Nat) (E : L.Env) (R : Except Int L.St) (kk : Nat) (sj : L.St) (Sj Xj : Nat -> Prop) (kj : LC) (wr : World) : Prop :=
 R = L.selF E (129 - kk) kk sj /\ LinkAt wr Sj Xj base g E sj (meansTo E sj.1 kk) kj /\ L.ListOk E sj.1 /\ L.Closed E sj.1 kk /\ kk <= sj.1.length /\ Tch X w wr /\ ∀ b, Xj b -> X b ∨ w.heap.size <= b
structure RelAt (w : World) (X : Nat -> Prop) (base g : Nat) (E : L.Env) (R : Except Int L.St) (kk pu : Nat) (px : ByteArray) (rs : List C.Rel) (RA : Option Addr) (rc : Nat) (M : List (List (Int × Int))) (Sj : Nat -> Prop) (l0 : List L.Spot) (b0 : Nat)
 (j : Nat) (v : Value) (sq : L.St) (Xq : Nat -> Prop) (kq : LC) (wx : World) : Prop where
 res : R = thenE (L.relsF E pu (rs.drop j) sq) fun s' => L.selF E (128 - kk) (kk + 1) s'
 link : LinkAt wx Sj Xq base g E sq M kq
 ok : L.ListOk E sq.1
 pre : l0 <+: sq.1
 spots : ∀ r ∈ rs.take j, ∀ q, L.aim E pu r.2 = .spot q -> q ∈ sq.1
 own : OwnL meanC 195 2 wx b0 v j (relMeans E sq.1 pu (rs.take j))
 off : ∀ b, v.ownBlock = some b -> ¬ Xq b
 tch : Tch X w wx
 new : ∀ b, Xq b -> X b ∨ w.heap.size <= b
 rels : SliceAt relR wx Sj RA rc rs
 size : b0 <= wx.heap.size
 low : ∀ b, Sj b -> b < b0
theorem OwnAt.form {w : World} {base : Nat} {e : TypeId} {size : Nat} {v : Value} {n : Nat} {xs : List Value} (h : OwnAt w base e size v n xs) : ∃ A c, v = .slice A n c := by
 obtain ⟨_, ⟨rfl, rfl⟩ | ⟨g, off, cap, cur, rfl, _⟩⟩ := h
 ·exact ⟨none, 0, rfl⟩
 ·exact ⟨_, cap, rfl⟩
def MeanG (W : World) (S X : Nat -> Prop) (base g : Nat) (E : L.Env) (M : List (List (Int × Int))) (u : Nat) (x : ByteArray) (r : Except Int L.St) (a b em : Int) (w' : World) : Prop := match r with
 | .error n => em = n /\ n ≠ 0
 | .ok st' => em = 0 /\ a = (meanI E st'.1 u x).1 /\ b = (meanI E st'.1 u x).2 /\ ∃ X' k', (∀ i, X' i -> X i ∨ W.heap.size <= i) /\ LinkAt w' S X' base g E st' M k'
theorem mean_form {W : World} {S X : Nat -> Prop} {base g : Nat} {E : L.Env} {M : List (List (Int × Int))} {u : Nat} {x : ByteArray} {r : Except Int L.St} {e : Ending} {w' : World} (h : RetMean W S X base g E M u x r e w') :
 Tch X W w' /\ ∃ a b em, e = .returned (.tuple #[.agg #[.int .i64 a, .int .i64 b], .int .i64 em]) /\ MeanG W S X base g E M u x r a b em w' := by
 obtain ⟨h1, h2⟩ := h
 refine ⟨h1, ?_⟩
 cases r with
 | error n =>
  obtain ⟨h3, a, b, h4⟩ := h2
  exact ⟨a, b, n, h4, rfl, h3⟩
 | ok st' =>
  obtain ⟨h3, h4⟩ := h2
  exact ⟨_, _, 0, h3, rfl, rfl, rfl, h4⟩
theorem MeanG.turn {W : World} {S X : Nat -> Prop} {base g : Nat} {E : L.Env} {M : List (List (Int × Int))} {u : Nat} {x : ByteArray} {r : Except Int L.St} {a b em : Int} {w' w'' : World} (h : MeanG W S X base g E M u x r a b em w') {W2 : World} (hW : W2.heap.size <= W.heap.size) {mb : Nat}
 (ht : Tch (fun i => i = mb) w' w'') (hX : ¬ X mb) (hS : ¬ S mb) (hm : mb < W.heap.size ∨ w'.heap.size <= mb) : MeanG W2 S X base g E M u x r a b em w'' := by
 unfold MeanG at h ⊢
 cases r with
 | error n => exact h
 | ok st' =>
  obtain ⟨h1, h2, h3, X', k', h4, h5⟩ := h
  refine ⟨h1, h2, h3, X', k', fun i hi => ?_, h5.tch ht fun i e => ?_⟩
  ·rcases h4 i hi with h | h
   ·exact Or.inl h
   ·exact Or.inr (Nat.le_trans hW h)
  ·subst e
   refine ⟨fun hx => ?_, hS⟩
   rcases h4 i hx with h | h
   ·exact hX h
   ·rcases hm with hm | hm
    ·omega
    ·exact absurd (h5.lt i hx).2 (by omega)
attribute [local irreducible] wpLex wpT
set_option maxRecDepth 8000 in
set_option maxHeartbeats 4000000 in
theorem selection_any (w : World) (S X : Nat -> Prop) (base g : Nat) (E : L.Env) (st : L.St) (k : LC) (h : LinkAt w S X base g E st [] k) (hE : EnvOk E) (hl : L.ListOk E st.1) :
 Calls Tryz.prog 84 #[.pointer (some ⟨g, 0, none⟩)] w (RetSel w X base g E (L.selF E 129 0 st)) := by
 obtain ⟨R, hR⟩ : ∃ R, R = L.selF E 129 0 st := ⟨_, rfl⟩
 rw [<- hR]
 have HE := Lib.hid hE
 have H0 : Hid (SelAt w X base g E R 0 st S X k w) := ⟨hR, by unfold meansTo; exact h, hl, fun i _ hi => absurd hi (Nat.not_lt_zero _), Nat.zero_le _, (Ext.refl w).tch X, fun b hb => Or.inl hb⟩
 clear h hE hl hR
 go_enter Tryz.func84, Tryz.ntmps84
 go_wp2_with fail
 go_loopw [3] (fun kv wr => ∃ (kk : Nat) (sj : L.St) (Sj Xj : Nat -> Prop) (kj : LC), kv = .int .i64 (kk : Int) /\ kk <= 128 /\ Hid (SelAt w X base g E R kk sj Sj Xj kj wr)) (fun kv _ => 129 - (intOf kv).toNat)
 case atStart => exact ⟨0, st, S, X, k, rfl, by omega, H0⟩
 case round =>
  obtain ⟨kk, sj, Sj, Xj, kj, rfl, hk128, HK⟩ := hrel
  obtain ⟨hres, hlk, hok, hcl, hkl, htc, hnew⟩ := HK.out
  obtain ⟨vA, vc, hvL⟩ := hlk.list.form
  obtain ⟨n, hn⟩ : ∃ n, n = sj.1.length := ⟨_, rfl⟩
  have c6 := hlk.row.c6
  rw [hvL, <- hn] at c6
  have hn128 : n <= 128 := by rw [hn]; exact hok.1
  by_cases hlt : kk < n
  ·have hks : kk < sj.1.length := by omega
   obtain ⟨c, hc⟩ := Option.isSome_iff_exists.1 (hok.2.2 _ (List.getElem_mem hks)).2
   have hrl : E.rels sj.1[kk] = c.2.2 := by unfold L.Env.rels; rw [L.sec_is hc]
   have hres2 : R = thenE (L.relsF E sj.1[kk].1 c.2.2 sj) fun s' => L.selF E (128 - kk) (kk + 1) s' := by
    rw [hres, show 129 - kk = (128 - kk) + 1 by omega, selF_step hks, hrl]
   have HDATA := Lib.hid (data_any wr Sj Xj base g E sj _ kj hlk HE.out hks hok.1 hc)
   have HLK := Lib.hid hlk
   have HOK := Lib.hid hok
   have HCL := Lib.hid hcl
   have HRES := Lib.hid hres2
   have HTC := Lib.hid htc
   have HNEW := Lib.hid hnew
   have HN := Lib.hid hn
   have HRL := Lib.hid hrl
   have HSYM := Lib.hid (fun r hr => L.rel_ok HE.out.units (hok.2.2 _ (List.getElem_mem hks)).2 (r := r) hr)
   have hpu : sj.1[kk].1 < E.units.length := (hok.2.2 _ (List.getElem_mem hks)).1
   obtain ⟨pu, hpue⟩ : ∃ pu, pu = sj.1[kk].1 := ⟨_, rfl⟩
   obtain ⟨px, hpxe⟩ : ∃ px, px = sj.1[kk].2 := ⟨_, rfl⟩
   have HPU := Lib.hid hpue
   have HPX := Lib.hid hpxe
   rw [<- hpue] at hpu
   clear hres hres2 hlk hok hcl htc hnew hvL hn hrl HK hpue hpxe
   go_wp2_with fail
   refine HDATA.out.mono ?_
   rintro e w1 ⟨d1, RA, rc, hRA, rfl⟩
   obtain ⟨ck, cd, cr⟩ := c
   obtain ⟨rn, hrn⟩ : ∃ rn, rn = cr.length := ⟨_, rfl⟩
   simp only
   rw [<- hrn]
   have HRN := Lib.hid hrn
   have HI0 : Hid (RelAt w X base g E R kk pu px cr RA rc (meansTo E sj.1 kk) Sj sj.1 w1.heap.size 0 (.slice none 0 0) sj Xj kj w1) := {
    res := by rw [HRES.out, HPU.out]; rfl
    link := HLK.out.ext d1
    ok := HOK.out
    pre := List.prefix_refl _
    spots := fun r hr => absurd hr (by simp)
    own := OwnL.nil _ _
    off := fun b hb => by cases hb
    tch := HTC.out.trans (d1.tch X)
    new := HNEW.out
    rels := hRA.tch (d1.tch fun _ => False) fun b hb => ⟨(HLK.out.out b hb).1, fun h => h⟩
    size := Nat.le_refl _
    low := fun b hb => Nat.lt_of_lt_of_le (HLK.out.out b hb).1 d1.size }
   have hrn8 : rn <= 2048 := by rw [hrn]; exact (rels_few HE.out hc).1
   have hfd : ∀ W : World, (Instr.field 67 (.agg #[.int .i64 ck, .string cd, .slice RA rn rc]) 2).run Tryz.prog W = .ok (.slice RA rn rc) W := fun _ => by kernel_rfl
   clear hrn hRA d1 c6
   go_wp2_with fail
   clear hfd
   go_loopw [4, 23] (fun v i wr => ∃ (j : Nat) (sq : L.St) (Xq : Nat -> Prop) (kq : LC), i = .int .i64 (j : Int) /\ j <= rn /\ Hid (RelAt w X base g E R kk pu px cr RA rc (meansTo E sj.1 kk) Sj sj.1 w1.heap.size j v sq Xq kq wr)) (fun _ i _ => rn - (intOf i).toNat)
   case atStart => exact ⟨0, sj, Xj, kj, rfl, Nat.zero_le _, HI0⟩
   case round =>
    obtain ⟨j, sq, Xq, kq, rfl, hjr, HK⟩ := hrel
    obtain ⟨W0, hW0⟩ : ∃ W0, W0 = wr := ⟨_, rfl⟩
    subst hW0
    by_cases hjl : j < rn
    ·have hjc : j < cr.length := by rw [<- HRN.out]; exact hjl
     obtain ⟨rb0, ro0, rfl, hrb0, _, hrs, z0, z1⟩ := rel_getB HK.out.rels hjc
     have hstep := relsF_step (E := E) (u := pu) hjc sq
     have hsym := HSYM.out cr[j] (by rw [HRL.out]; exact List.getElem_mem hjc)
     rw [<- HPU.out] at hsym
     have hsn := relMeans_snoc E sq.1 pu cr hjc
     have hres := HK.out.res
     rw [hstep] at hres
     obtain ⟨rx, hrx⟩ : ∃ rx, rx = cr[j].2 := ⟨_, rfl⟩
     obtain ⟨ra, hra⟩ : ∃ ra, ra = cr[j].1 := ⟨_, rfl⟩
     rw [<- hrx] at z1 hrs hres hsym
     rw [<- hra] at z0
     -- the section's unit, in the list as it is now
     have hkq : kk < sq.1.length := Nat.lt_of_lt_of_le (by rw [HN.out] at hlt; exact hlt) HK.out.pre.length_le
     have hsk : sq.1[kk] = sj.1[kk]'(by rw [HN.out] at hlt; exact hlt) := by
      obtain ⟨t, ht⟩ := HK.out.pre
      simp only [<- ht]
      exact List.getElem_append_left _
     obtain ⟨bl, ol, cl, hvq, v0, v1⟩ := HK.out.link.spot hkq
     rw [hsk, <- HPU.out] at v0
     have b6 := HK.out.link.row.c6
     rw [hvq] at b6
     obtain ⟨qn, hqn⟩ : ∃ qn, qn = sq.1.length := ⟨_, rfl⟩
     rw [<- hqn] at b6
     have hkqn : kk < qn := by rw [hqn]; exact hkq
     have hq128 : qn <= 128 := by rw [hqn]; exact HK.out.ok.1
     obtain ⟨W2, hW2⟩ : ∃ W2, W2 = W0.alloc (.cells #[.int .i64 ra, .string rx] 151) := ⟨_, rfl⟩
     have E2 : Ext W0 W2 := by rw [hW2]; exact (Ext.refl W0).alloc _
     obtain ⟨rb, hrb⟩ : ∃ rb, rb = W0.heap.size := ⟨_, rfl⟩
     have hb2 : W2.heap[rb]? = some (.cells #[.int .i64 ra, .string rx] 151 (0, 0)) := by rw [hW2, hrb]; exact heap_alloc_new W0 _
     have a6 := E2.keepc b6
     have a0 := E2.keepc v0
     have hrbX : ¬ Xq rb := by rw [hrb]; exact (off_new (w' := W0) HK.out.link (Nat.le_refl _)).1
     have HL2 := Lib.hid (HK.out.link.ext E2)
     have HOKQ := Lib.hid HK.out.ok
     have HM2 := Lib.hid (fun W (hW : Ext W2 W) => mean_any W Sj Xq base g E sq _ kq (HL2.out.ext hW) HE.out pu hpu rx hrs hsym.1 (list_dom HE.out HOKQ.out) HOKQ.out.1)
     have HRES2 := Lib.hid hres
     have HB2 := Lib.hid hb2
     have HE2 := Lib.hid E2
     have HRBX := Lib.hid hrbX
     have HRB := Lib.hid hrb
     have HRX := Lib.hid hrx
     have HSN := Lib.hid hsn
     clear hstep hsym hsn hres hrx hra hkq hsk hvq v0 v1 b6 hqn E2 hb2 hrb hrbX
     go_upto_region 8 with (fail)
     rw [<- hW2, <- HRB.out]
     clear hW2 z0 z1
     go_cut [7, 8, 23] from 23 to 49 (fun p7 p8 p23 wy => ∃ (mb : Nat) (a b : Int) (em : Int), p23 = .int .i64 (j : Int) /\ p7 = .pointer (some ⟨mb, 0, none⟩) /\ p8 = .int .i64 em /\ Hid (wy.heap[mb]? = some (.cells #[.int .i64 a, .int .i64 b] 195 (0, 0)) /\ ¬ Xq mb /\ Tch Xq W2 wy /\ MeanG W2 Sj Xq base g E (meansTo E sj.1 kk) pu rx (L.stepR E pu sq rx) a b em wy))
     case first =>
      obtain ⟨Φ, hΦ⟩ : ∃ Φ : World -> Prop, ∀ w', Φ w' ↔ w'.cell? ⟨rb, 1, none⟩ = some (.string rx) := ⟨_, fun _ => Iff.rfl⟩
      obtain ⟨WC, hWC⟩ : ∃ WC, WC = W2.drew := ⟨_, rfl⟩
      have HEC := Lib.hid (show Ext W2 WC by rw [hWC]; exact (Ext.refl W2).drew)
      have HBC : Hid (WC.heap[rb]? = some (.cells #[.int .i64 ra, .string rx] 151 (0, 0))) := Lib.hid (by rw [hWC]; exact HB2.out)
      have hPC : Φ WC := (hΦ _).2 (cell_of_row WC rb 1 _ _ _ HBC.out)
      have a6' := HEC.out.keepc a6
      have a0' := HEC.out.keepc a0
      clear a6 a0
      have a6 := a6'
      have a0 := a0'
      clear a6' a0'
      have fx0 : ∀ z : Lat Φ, z.w'.cell? ⟨rb, 1, none⟩ = some (.string rx) := fun z => (hΦ _).1 z.h
      have hne := Lat.some (Φ := Φ) hPC
      refine wp_region_tree (FT.path [0,1,2,3,5,9,10] (.fork (.step 4 (FT.path [6,7] (.fork (.step 8 (.fork (FT.path [11,12,13,14,15,16,17] .leaf) (FT.path [15,11,12,13,14,16,17] .leaf))) (FT.path [15,8,11,12,13,14,16,17] .leaf)))) (FT.path [15,4,6,7,8,11,12,13,14,16,17] .leaf))) [4, 8, 11, 15, 16] Φ (by rw [<- hWC]; exact hPC) (by kernel_rfl) (by kernel_rfl) ?_
      rw [<- hWC]
      clear hWC
      refine ftl_pure rfl rfl rfl rfl ?_; intro K hK; go_big_quiet_op; go_big_quiet_on
      refine ftl_pure rfl rfl rfl rfl ?_; intro K hK; go_big_quiet_op; go_big_quiet_on
      refine ftl_pure rfl rfl rfl rfl ?_; intro K hK; go_big_quiet_op; go_big_quiet_on
      refine ftl_pure rfl rfl rfl rfl ?_; intro K hK; go_big_quiet_op; go_big_quiet_on
      refine ftl_pure rfl rfl rfl rfl ?_; intro K hK; go_big_quiet_op; go_big_quiet_on
      refine ftl_pure rfl rfl rfl rfl ?_; intro K hK; go_big_quiet_op; go_big_quiet_on
      refine ftl_pure rfl rfl rfl rfl ?_; intro K hK; go_big_quiet_op; go_big_quiet_on
      refine ft_fork ?_ ?_
      ·refine ftl_eff rfl rfl ?_
       go_wp2_with fail
       refine ⟨⟨⟨WC, hPC⟩, rfl⟩, ?_⟩
       refine ftl_pure rfl rfl rfl rfl ?_; intro K hK; go_big_quiet_op; go_big_quiet_on
       refine ftl_pure rfl rfl rfl rfl ?_; intro K hK; go_big_quiet_op; go_big_quiet_on
       refine ft_fork ?_ ?_
       ·refine ftl_eff rfl rfl ?_
        go_wp2_with fail
        refine ⟨⟨⟨WC, hPC⟩, rfl⟩, ?_⟩
        refine ft_fork ?_ ?_
        ·refine ftl_eff rfl rfl ?_
         go_wp2_with fail
         refine (HM2.out WC HEC.out).mono ?_
         intro e w8 hr8
         obtain ⟨ht8, qa, qb, em, rfl, hg8⟩ := mean_form hr8
         have HT8 := Lib.hid ht8
         have HG8 := Lib.hid hg8
         have hrx8 : Φ w8 := (hΦ _).2 ((ht8.cells (HBC.out) HRBX.out).1 1)
         clear hr8 ht8 hg8
         go_wp2_with fail
         refine ⟨⟨⟨w8, hrx8⟩, rfl⟩, ?_⟩
         refine ftl_pure rfl rfl rfl rfl ?_; intro K hK; go_big_quiet_op; go_big_quiet_on
         refine ftl_pure rfl rfl rfl rfl ?_; intro K hK; go_big_quiet_op; go_big_quiet_on
         refine ftl_pure rfl rfl rfl rfl ?_; intro K hK; go_big_quiet_op; go_big_quiet_on
         refine ftl_eff rfl rfl ?_
         go_wp2_with fail
         obtain ⟨WS, hWS⟩ : ∃ WS, WS = w8.alloc (.cells #[.int .i64 0, .int .i64 0] 195) := ⟨_, rfl⟩
         obtain ⟨mb, hmb⟩ : ∃ mb, mb = w8.heap.size := ⟨_, rfl⟩
         have hES : Ext w8 WS := by rw [hWS]; exact (Ext.refl w8).alloc _
         have hbs : WS.heap[mb]? = some (.cells #[.int .i64 0, .int .i64 0] 195 (0, 0)) := by rw [hWS, hmb]; exact heap_alloc_new w8 _
         have hbr8 := (HT8.out.block _ (hltA HBC.out) HRBX.out).trans HBC.out
         have hbrs := (hES.block _ (hltA hbr8)).trans hbr8
         have hmbrb : ¬ rb = mb := by have := (hltA hbr8); omega
         have hPS : Φ WS := (hΦ _).2 (cell_of_row WS rb 1 _ _ _ hbrs)
         rw [<- hWS, <- hmb]
         refine ⟨⟨⟨WS, hPS⟩, rfl⟩, ?_⟩
         have HM := Lib.hid hmb
         have hw2 : W2.heap.size <= w8.heap.size := Nat.le_trans HEC.out.size HT8.out.size
         have hTS : Tch (fun i => i = mb) w8 WS := hES.tch _
         clear hWS hmb hPS
         have s0 : WS.cell? ⟨mb, 0, none⟩ = _ := cell_of_row WS mb 0 _ _ _ hbs
         have s1 : WS.cell? ⟨mb, 1, none⟩ = _ := cell_of_row WS mb 1 _ _ _ hbs
         have t0 := Lib.frozen_of_heap hbs 0
         have t1 := Lib.frozen_of_heap hbs 1
         refine ftl_eff rfl rfl ?_
         go_wp2_with fail
         obtain ⟨WF, hWF⟩ : ∃ WF, WF = (WS.setCell ⟨mb, 0, none⟩ (.int .i64 qa)).setCell ⟨mb, 1, none⟩ (.int .i64 qb) := ⟨_, rfl⟩
         have hTF : Tch (fun i => i = mb) WS WF := by rw [hWF]; exact (((Ext.refl WS).tch (fun i => i = mb)).setCell (p := ⟨mb, 0, none⟩) (fun _ => rfl) _).setCell (p := ⟨mb, 1, none⟩) (fun _ => rfl) _
         have hbF : WF.heap[mb]? = some (.cells #[.int .i64 qa, .int .i64 qb] 195 (0, 0)) := by rw [hWF]; exact heap_setCell_cells (heap_setCell_cells hbs 0 _) 1 _
         rw [<- hWF]
         clear hWF s0 s1 t0 t1
         have hPF : Φ WF := (hΦ _).2 ((hTF.cells hbrs hmbrb).1 1)
         refine ⟨⟨⟨WF, hPF⟩, rfl⟩, ?_⟩
         refine ftl_pure rfl rfl rfl rfl ?_; intro K hK; go_big_quiet_op; go_big_quiet_on
         refine ft_leaf ?_
         clear fx0 hne
         have HX8 := Lib.hid (off_new (w' := W2) HL2.out (b := mb) (by rw [HM.out]; exact hw2))
         have hGF := HG8.out.turn (W2 := W2) HEC.out.size (hTS.trans hTF) HX8.out.1 HX8.out.2 (Or.inr (by rw [HM.out]; exact Nat.le_refl _))
         have hTT : Tch Xq W2 WF := ((HEC.out.tch Xq).trans HT8.out).trans' (hTS.trans hTF) fun i hi e => absurd hi (by rw [e, HM.out]; omega)
         clear hTS hTF hES hbs hbrs hbr8 hmbrb hPF
         go_wp2_with fail
         go_meet
         exact ⟨mb, qa, qb, em, rfl, rfl, rfl, hbF, HX8.out.1, hTT, hGF⟩
        ·refine ftl_eff rfl rfl ?_
         go_wp2_with fail
         obtain ⟨WD, hWD⟩ : ∃ WD, WD = (WC.alloc (.cells #[.int .i64 0, .int .i64 0] 195)) := ⟨_, rfl⟩
         obtain ⟨mb, hmb⟩ : ∃ mb, mb = WC.heap.size := ⟨_, rfl⟩
         have ED : Ext WC WD := by rw [hWD]; exact (Ext.refl WC).alloc _
         have hbm : WD.heap[mb]? = some (.cells #[.int .i64 0, .int .i64 0] 195 (0, 0)) := by rw [hWD, hmb]; exact heap_alloc_new _ _
         have HMBL : Hid (mb < WD.heap.size) := Lib.hid (hltA hbm)
         have HMBN : Hid (¬ mb < W2.heap.size) := Lib.hid (by rw [hmb]; have := HEC.out.size; omega)
         have HMBX : Hid (¬ Xq mb /\ ¬ Sj mb) := Lib.hid (by rw [hmb]; exact off_new (w' := WC) (HL2.out.ext HEC.out) (Nat.le_refl _))
         have a6' := ED.keepc a6
         have a0' := ED.keepc a0
         have HEC' := Lib.hid (HEC.out.trans ED)
         have HBC' := Lib.hid ((ED.block _ (hltA HBC.out)).trans HBC.out)
         have HBM := Lib.hid hbm
         rw [<- hWD, <- hmb]
         clear hWD hmb ED hbm a6 a0 HEC HBC hPC
         have a6 := a6'
         have a0 := a0'
         have HEC := HEC'
         have HBC := HBC'
         clear a6' a0' HEC' HBC'
         obtain ⟨WC, hWC⟩ : ∃ WC, WC = WD := ⟨_, rfl⟩
         subst hWC
         have hPC : Φ WC := (hΦ _).2 (cell_of_row WC rb 1 _ _ _ HBC.out)
         refine ⟨⟨⟨WC, hPC⟩, rfl⟩, ?_⟩
         refine ftl_eff rfl rfl ?_
         go_wp2_with fail
         refine (HM2.out WC HEC.out).mono ?_
         intro e w8 hr8
         obtain ⟨ht8, qa, qb, em, rfl, hg8⟩ := mean_form hr8
         have HT8 := Lib.hid ht8
         have HG8 := Lib.hid hg8
         have hrx8 : Φ w8 := (hΦ _).2 ((ht8.cells (HBC.out) HRBX.out).1 1)
         clear hr8 ht8 hg8
         go_wp2_with fail
         refine ⟨⟨⟨w8, hrx8⟩, rfl⟩, ?_⟩
         refine ftl_pure rfl rfl rfl rfl ?_; intro K hK; go_big_quiet_op; go_big_quiet_on
         refine ftl_pure rfl rfl rfl rfl ?_; intro K hK; go_big_quiet_op; go_big_quiet_on
         refine ftl_pure rfl rfl rfl rfl ?_; intro K hK; go_big_quiet_op; go_big_quiet_on
         obtain ⟨WS, hWS⟩ : ∃ WS, WS = w8 := ⟨_, rfl⟩
         subst hWS
         have hbs := (HT8.out.block _ (hltA HBM.out) HMBX.out.1).trans HBM.out
         have hbrs := (HT8.out.block _ (hltA HBC.out) HRBX.out).trans HBC.out
         have hmbrb : ¬ rb = mb := by
          intro e
          have h1 := hbs
          rw [<- e, hbrs] at h1
          cases h1
         have s0 : WS.cell? ⟨mb, 0, none⟩ = _ := cell_of_row WS mb 0 _ _ _ hbs
         have s1 : WS.cell? ⟨mb, 1, none⟩ = _ := cell_of_row WS mb 1 _ _ _ hbs
         have t0 := Lib.frozen_of_heap hbs 0
         have t1 := Lib.frozen_of_heap hbs 1
         refine ftl_eff rfl rfl ?_
         go_wp2_with fail
         obtain ⟨WF, hWF⟩ : ∃ WF, WF = (WS.setCell ⟨mb, 0, none⟩ (.int .i64 qa)).setCell ⟨mb, 1, none⟩ (.int .i64 qb) := ⟨_, rfl⟩
         have hTF : Tch (fun i => i = mb) WS WF := by rw [hWF]; exact (((Ext.refl WS).tch (fun i => i = mb)).setCell (p := ⟨mb, 0, none⟩) (fun _ => rfl) _).setCell (p := ⟨mb, 1, none⟩) (fun _ => rfl) _
         have hbF : WF.heap[mb]? = some (.cells #[.int .i64 qa, .int .i64 qb] 195 (0, 0)) := by rw [hWF]; exact heap_setCell_cells (heap_setCell_cells hbs 0 _) 1 _
         rw [<- hWF]
         clear hWF s0 s1 t0 t1
         have hPF : Φ WF := (hΦ _).2 ((hTF.cells hbrs hmbrb).1 1)
         refine ⟨⟨⟨WF, hPF⟩, rfl⟩, ?_⟩
         refine ftl_pure rfl rfl rfl rfl ?_; intro K hK; go_big_quiet_op; go_big_quiet_on
         refine ft_leaf ?_
         clear fx0 hne
         have hGF := HG8.out.turn (W2 := W2) HEC.out.size hTF HMBX.out.1 HMBX.out.2 (Or.inl HMBL.out)
         have hTT : Tch Xq W2 WF := ((HEC.out.tch Xq).trans HT8.out).trans' hTF fun i hi e => absurd hi (by rw [e]; exact HMBN.out)
         clear hTF hbs hbrs hmbrb hPF
         go_wp2_with fail
         go_meet
         exact ⟨mb, qa, qb, em, rfl, rfl, rfl, hbF, HMBX.out.1, hTT, hGF⟩
       ·refine ftl_eff rfl rfl ?_
        go_wp2_with fail
        obtain ⟨WD, hWD⟩ : ∃ WD, WD = (WC.alloc (.cells #[.int .i64 0, .int .i64 0] 195)) := ⟨_, rfl⟩
        obtain ⟨mb, hmb⟩ : ∃ mb, mb = WC.heap.size := ⟨_, rfl⟩
        have ED : Ext WC WD := by rw [hWD]; exact (Ext.refl WC).alloc _
        have hbm : WD.heap[mb]? = some (.cells #[.int .i64 0, .int .i64 0] 195 (0, 0)) := by rw [hWD, hmb]; exact heap_alloc_new _ _
        have HMBL : Hid (mb < WD.heap.size) := Lib.hid (hltA hbm)
        have HMBN : Hid (¬ mb < W2.heap.size) := Lib.hid (by rw [hmb]; have := HEC.out.size; omega)
        have HMBX : Hid (¬ Xq mb /\ ¬ Sj mb) := Lib.hid (by rw [hmb]; exact off_new (w' := WC) (HL2.out.ext HEC.out) (Nat.le_refl _))
        have a6' := ED.keepc a6
        have a0' := ED.keepc a0
        have HEC' := Lib.hid (HEC.out.trans ED)
        have HBC' := Lib.hid ((ED.block _ (hltA HBC.out)).trans HBC.out)
        have HBM := Lib.hid hbm
        rw [<- hWD, <- hmb]
        clear hWD hmb ED hbm a6 a0 HEC HBC hPC
        have a6 := a6'
        have a0 := a0'
        have HEC := HEC'
        have HBC := HBC'
        clear a6' a0' HEC' HBC'
        obtain ⟨WC, hWC⟩ : ∃ WC, WC = WD := ⟨_, rfl⟩
        subst hWC
        have hPC : Φ WC := (hΦ _).2 (cell_of_row WC rb 1 _ _ _ HBC.out)
        refine ⟨⟨⟨WC, hPC⟩, rfl⟩, ?_⟩
        refine ftl_eff rfl rfl ?_
        go_wp2_with fail
        refine ⟨⟨⟨WC, hPC⟩, rfl⟩, ?_⟩
        refine ftl_eff rfl rfl ?_
        go_wp2_with fail
        refine (HM2.out WC HEC.out).mono ?_
        intro e w8 hr8
        obtain ⟨ht8, qa, qb, em, rfl, hg8⟩ := mean_form hr8
        have HT8 := Lib.hid ht8
        have HG8 := Lib.hid hg8
        have hrx8 : Φ w8 := (hΦ _).2 ((ht8.cells (HBC.out) HRBX.out).1 1)
        clear hr8 ht8 hg8
        go_wp2_with fail
        refine ⟨⟨⟨w8, hrx8⟩, rfl⟩, ?_⟩
        refine ftl_pure rfl rfl rfl rfl ?_; intro K hK; go_big_quiet_op; go_big_quiet_on
        refine ftl_pure rfl rfl rfl rfl ?_; intro K hK; go_big_quiet_op; go_big_quiet_on
        refine ftl_pure rfl rfl rfl rfl ?_; intro K hK; go_big_quiet_op; go_big_quiet_on
        obtain ⟨WS, hWS⟩ : ∃ WS, WS = w8 := ⟨_, rfl⟩
        subst hWS
        have hbs := (HT8.out.block _ (hltA HBM.out) HMBX.out.1).trans HBM.out
        have hbrs := (HT8.out.block _ (hltA HBC.out) HRBX.out).trans HBC.out
        have hmbrb : ¬ rb = mb := by
         intro e
         have h1 := hbs
         rw [<- e, hbrs] at h1
         cases h1
        have s0 : WS.cell? ⟨mb, 0, none⟩ = _ := cell_of_row WS mb 0 _ _ _ hbs
        have s1 : WS.cell? ⟨mb, 1, none⟩ = _ := cell_of_row WS mb 1 _ _ _ hbs
        have t0 := Lib.frozen_of_heap hbs 0
        have t1 := Lib.frozen_of_heap hbs 1
        refine ftl_eff rfl rfl ?_
        go_wp2_with fail
        obtain ⟨WF, hWF⟩ : ∃ WF, WF = (WS.setCell ⟨mb, 0, none⟩ (.int .i64 qa)).setCell ⟨mb, 1, none⟩ (.int .i64 qb) := ⟨_, rfl⟩
        have hTF : Tch (fun i => i = mb) WS WF := by rw [hWF]; exact (((Ext.refl WS).tch (fun i => i = mb)).setCell (p := ⟨mb, 0, none⟩) (fun _ => rfl) _).setCell (p := ⟨mb, 1, none⟩) (fun _ => rfl) _
        have hbF : WF.heap[mb]? = some (.cells #[.int .i64 qa, .int .i64 qb] 195 (0, 0)) := by rw [hWF]; exact heap_setCell_cells (heap_setCell_cells hbs 0 _) 1 _
        rw [<- hWF]
        clear hWF s0 s1 t0 t1
        have hPF : Φ WF := (hΦ _).2 ((hTF.cells hbrs hmbrb).1 1)
        refine ⟨⟨⟨WF, hPF⟩, rfl⟩, ?_⟩
        refine ftl_pure rfl rfl rfl rfl ?_; intro K hK; go_big_quiet_op; go_big_quiet_on
        refine ft_leaf ?_
        clear fx0 hne
        have hGF := HG8.out.turn (W2 := W2) HEC.out.size hTF HMBX.out.1 HMBX.out.2 (Or.inl HMBL.out)
        have hTT : Tch Xq W2 WF := ((HEC.out.tch Xq).trans HT8.out).trans' hTF fun i hi e => absurd hi (by rw [e]; exact HMBN.out)
        clear hTF hbs hbrs hmbrb hPF
        go_wp2_with fail
        go_meet
        exact ⟨mb, qa, qb, em, rfl, rfl, rfl, hbF, HMBX.out.1, hTT, hGF⟩
      ·refine ftl_eff rfl rfl ?_
       go_wp2_with fail
       obtain ⟨WD, hWD⟩ : ∃ WD, WD = (WC.alloc (.cells #[.int .i64 0, .int .i64 0] 195)) := ⟨_, rfl⟩
       obtain ⟨mb, hmb⟩ : ∃ mb, mb = WC.heap.size := ⟨_, rfl⟩
       have ED : Ext WC WD := by rw [hWD]; exact (Ext.refl WC).alloc _
       have hbm : WD.heap[mb]? = some (.cells #[.int .i64 0, .int .i64 0] 195 (0, 0)) := by rw [hWD, hmb]; exact heap_alloc_new _ _
       have HMBL : Hid (mb < WD.heap.size) := Lib.hid (hltA hbm)
       have HMBN : Hid (¬ mb < W2.heap.size) := Lib.hid (by rw [hmb]; have := HEC.out.size; omega)
       have HMBX : Hid (¬ Xq mb /\ ¬ Sj mb) := Lib.hid (by rw [hmb]; exact off_new (w' := WC) (HL2.out.ext HEC.out) (Nat.le_refl _))
       have a6' := ED.keepc a6
       have a0' := ED.keepc a0
       have HEC' := Lib.hid (HEC.out.trans ED)
       have HBC' := Lib.hid ((ED.block _ (hltA HBC.out)).trans HBC.out)
       have HBM := Lib.hid hbm
       rw [<- hWD, <- hmb]
       clear hWD hmb ED hbm a6 a0 HEC HBC hPC
       have a6 := a6'
       have a0 := a0'
       have HEC := HEC'
       have HBC := HBC'
       clear a6' a0' HEC' HBC'
       obtain ⟨WC, hWC⟩ : ∃ WC, WC = WD := ⟨_, rfl⟩
       subst hWC
       have hPC : Φ WC := (hΦ _).2 (cell_of_row WC rb 1 _ _ _ HBC.out)
       refine ⟨⟨⟨WC, hPC⟩, rfl⟩, ?_⟩
       refine ftl_eff rfl rfl ?_
       go_wp2_with fail
       refine ⟨⟨⟨WC, hPC⟩, rfl⟩, ?_⟩
       refine ftl_pure rfl rfl rfl rfl ?_; intro K hK; go_big_quiet_op; go_big_quiet_on
       refine ftl_pure rfl rfl rfl rfl ?_; intro K hK; go_big_quiet_op; go_big_quiet_on
       refine ftl_eff rfl rfl ?_
       go_wp2_with fail
       refine ⟨⟨⟨WC, hPC⟩, rfl⟩, ?_⟩
       refine ftl_eff rfl rfl ?_
       go_wp2_with fail
       refine (HM2.out WC HEC.out).mono ?_
       intro e w8 hr8
       obtain ⟨ht8, qa, qb, em, rfl, hg8⟩ := mean_form hr8
       have HT8 := Lib.hid ht8
       have HG8 := Lib.hid hg8
       have hrx8 : Φ w8 := (hΦ _).2 ((ht8.cells (HBC.out) HRBX.out).1 1)
       clear hr8 ht8 hg8
       go_wp2_with fail
       refine ⟨⟨⟨w8, hrx8⟩, rfl⟩, ?_⟩
       refine ftl_pure rfl rfl rfl rfl ?_; intro K hK; go_big_quiet_op; go_big_quiet_on
       refine ftl_pure rfl rfl rfl rfl ?_; intro K hK; go_big_quiet_op; go_big_quiet_on
       refine ftl_pure rfl rfl rfl rfl ?_; intro K hK; go_big_quiet_op; go_big_quiet_on
       obtain ⟨WS, hWS⟩ : ∃ WS, WS = w8 := ⟨_, rfl⟩
       subst hWS
       have hbs := (HT8.out.block _ (hltA HBM.out) HMBX.out.1).trans HBM.out
       have hbrs := (HT8.out.block _ (hltA HBC.out) HRBX.out).trans HBC.out
       have hmbrb : ¬ rb = mb := by
        intro e
        have h1 := hbs
        rw [<- e, hbrs] at h1
        cases h1
       have s0 : WS.cell? ⟨mb, 0, none⟩ = _ := cell_of_row WS mb 0 _ _ _ hbs
       have s1 : WS.cell? ⟨mb, 1, none⟩ = _ := cell_of_row WS mb 1 _ _ _ hbs
       have t0 := Lib.frozen_of_heap hbs 0
       have t1 := Lib.frozen_of_heap hbs 1
       refine ftl_eff rfl rfl ?_
       go_wp2_with fail
       obtain ⟨WF, hWF⟩ : ∃ WF, WF = (WS.setCell ⟨mb, 0, none⟩ (.int .i64 qa)).setCell ⟨mb, 1, none⟩ (.int .i64 qb) := ⟨_, rfl⟩
       have hTF : Tch (fun i => i = mb) WS WF := by rw [hWF]; exact (((Ext.refl WS).tch (fun i => i = mb)).setCell (p := ⟨mb, 0, none⟩) (fun _ => rfl) _).setCell (p := ⟨mb, 1, none⟩) (fun _ => rfl) _
       have hbF : WF.heap[mb]? = some (.cells #[.int .i64 qa, .int .i64 qb] 195 (0, 0)) := by rw [hWF]; exact heap_setCell_cells (heap_setCell_cells hbs 0 _) 1 _
       rw [<- hWF]
       clear hWF s0 s1 t0 t1
       have hPF : Φ WF := (hΦ _).2 ((hTF.cells hbrs hmbrb).1 1)
       refine ⟨⟨⟨WF, hPF⟩, rfl⟩, ?_⟩
       refine ftl_pure rfl rfl rfl rfl ?_; intro K hK; go_big_quiet_op; go_big_quiet_on
       refine ft_leaf ?_
       clear fx0 hne
       have hGF := HG8.out.turn (W2 := W2) HEC.out.size hTF HMBX.out.1 HMBX.out.2 (Or.inl HMBL.out)
       have hTT : Tch Xq W2 WF := ((HEC.out.tch Xq).trans HT8.out).trans' hTF fun i hi e => absurd hi (by rw [e]; exact HMBN.out)
       clear hTF hbs hbrs hmbrb hPF
       go_wp2_with fail
       go_meet
       exact ⟨mb, qa, qb, em, rfl, rfl, rfl, hbF, HMBX.out.1, hTT, hGF⟩
     case rest =>
      obtain ⟨mb, qa, qb, em, rfl, rfl, rfl, HG⟩ := hcut
      obtain ⟨hbm, hmbX, htq, hgm⟩ := HG.out
      have y0 : wc.cell? ⟨mb, 0, none⟩ = _ := cell_of_row wc mb 0 _ _ _ hbm
      have y1 : wc.cell? ⟨mb, 1, none⟩ = _ := cell_of_row wc mb 1 _ _ _ hbm
      have hTX : Tch X w wc := (HK.out.tch.trans (HE2.out.tch X)).trans' htq fun i hi hx => by
       rcases HK.out.new i hx with h | h
       ·exact h
       ·omega
      have HTX := Lib.hid hTX
      have HTQ := Lib.hid htq
      clear a6 a0
      cases hst : L.stepR E pu sq rx with
      | error n =>
       rw [hst] at hgm
       obtain ⟨rfl, hn0⟩ := hgm
       have hres := HRES2.out
       rw [hst] at hres
       replace hres : R = .error em := hres
       have HR := Lib.hid hres
       have hed : (em == 0) = false := beq_eq_false_iff_ne.2 hn0
       clear hbm hmbX htq hTX hst hres HG HRES2
       go_wp2_with fail
       go_ret
       refine ⟨HTX.out, ?_⟩
       rw [HR.out]
       exact ⟨hn0, rfl⟩
      | ok st' =>
       rw [hst] at hgm
       obtain ⟨rfl, hqa, hqb, X', k', hX', hL'⟩ := hgm
       have hres := HRES2.out
       rw [hst] at hres
       replace hres : R = thenE (L.relsF E pu (cr.drop (j + 1)) st') fun s' => L.selF E (128 - kk) (kk + 1) s' := hres
       have HR := Lib.hid hres
       obtain ⟨o1, o2, o3⟩ := L.stepR_ok HE.out.units hst HOKQ.out hpu
       have hown := ((HK.out.own.ext HE2.out).tch htq HK.out.off).ext ((Ext.refl wc).alloc (.cells #[.int .i64 qa, .int .i64 qb] 195))
       have HO := Lib.hid (show L.ListOk E st'.1 /\ sq.1 <+: st'.1 /\ ∀ p, L.aim E pu rx = .spot p -> p ∈ st'.1 from ⟨o1, o2, o3⟩)
       have HQ := Lib.hid (show (qa, qb) = meanI E st'.1 pu rx from Prod.ext hqa hqb)
       have HX' := Lib.hid hX'
       have HL' := Lib.hid hL'
       have hb0 : w1.heap.size <= (wc.alloc (.cells #[.int .i64 qa, .int .i64 qb] 195)).heap.size := by
        have h1 := HK.out.size
        have h2 := HE2.out.size
        have h3 := htq.size
        simp
        omega
       obtain ⟨i0, hi0, hz0, hz1, hz2⟩ := info_parts info195
       clear hbm hmbX htq hTX hst hres HG HRES2 o1 o2 o3 hqa hqb hX' hL'
       go_wp2_with (at_builtin; refine wpList_append_one rfl (.tmp 45) (.tmp 47) 193 rfl Tryz.underlying193 hi0 hz0 hz1 hz2 rfl (by decide) (by decide) rfl hown (qa, qb) rfl rfl (mean_cells _ qa qb 195 _ rfl) (meanC_one _) (by omega) hb0 ?_; intro v3 w3 hown3 hg3 hv3)
       have hgr : Tch (fun i => u4.ownBlock = some i) (wc.alloc (.cells #[.int .i64 qa, .int .i64 qb] 195)) w3 := ⟨hg3.os, hg3.tape, hg3.output, hg3.size, fun i hi hx => hg3.block i hi fun e => hx e.symm⟩
       have hlt4 : ∀ i, u4.ownBlock = some i -> w1.heap.size <= i /\ i < W0.heap.size := fun i hi => HK.out.own.lt hi
       have hw01 := HE2.out.size
       have hw2c := HTQ.out.size
       have hnot : ∀ i, u4.ownBlock = some i -> ¬ X' i := fun i hi hx => by
        rcases HX'.out i hx with h | h
        ·exact HK.out.off i hi h
        ·have := (hlt4 i hi).2; omega
       have hww1 : w.heap.size <= w1.heap.size := by
        have h1 := HI0.out.tch.size
        exact h1
       have HF : Hid (RelAt w X base g E R kk pu px cr (some ⟨rb0, ro0, none⟩) rc (meansTo E sj.1 kk) Sj sj.1 w1.heap.size (j + 1) v3 st' X' k' w3) := {
        res := HR.out
        link := (HL'.out.ext ((Ext.refl wc).alloc _)).tch hgr fun i hi => ⟨hnot i hi, fun hs => absurd (HK.out.low i hs) (by have := (hlt4 i hi).1; omega)⟩
        ok := HO.out.1
        pre := HK.out.pre.trans HO.out.2.1
        spots := fun r hr q hq => by
         rw [List.take_succ_eq_append_getElem hjc] at hr
         rcases List.mem_append.1 hr with hr | hr
         ·exact HO.out.2.1.subset (HK.out.spots r hr q hq)
         ·rw [List.mem_singleton] at hr
          subst hr
          rw [<- HRX.out] at hq
          exact HO.out.2.2 q hq
        own := by
         have e1 : relMeans E st'.1 pu (cr.take j) = relMeans E sq.1 pu (cr.take j) := relMeans_keep HO.out.2.1 HK.out.spots
         have e2 := relMeans_snoc E st'.1 pu cr hjc
         rw [e2, e1, <- HRX.out, <- HQ.out]
         exact hown3
        off := fun i hi hx => by
         rcases hv3 with e | ⟨b, e, h1, h2⟩
         ·exact hnot i ((show v3.ownBlock = u4.ownBlock from e).symm.trans hi) hx
         ·rw [e] at hi
          cases hi
          have := (HL'.out.lt i hx).2
          simp at h1
          omega
        tch := (HTX.out.trans (((Ext.refl wc).alloc _).tch X)).trans' hgr fun i hi hx => absurd hi (by have := (hlt4 i hx).1; omega)
        new := fun i hi => by
         rcases HX'.out i hi with h | h
         ·exact HK.out.new i h
         ·have := HK.out.tch.size; exact Or.inr (by omega)
        rels := (((HK.out.rels.tch (HE2.out.tch fun _ => False) fun b hb => ⟨(HK.out.link.out b hb).1, fun h => h⟩).tch HTQ.out fun b hb => ⟨(HL2.out.out b hb).1, (HL2.out.out b hb).2⟩).tch (((Ext.refl wc).alloc _).tch fun _ => False) fun b hb => ⟨(HL'.out.out b hb).1, fun h => h⟩).tch hgr fun b hb => ⟨by have := (HL'.out.out b hb).1; simp; omega, fun e => absurd (HK.out.low b hb) (by have := (hlt4 b e).1; omega)⟩
        size := Nat.le_trans hb0 hg3.size
        low := HK.out.low }
       clear hgr hlt4 hnot hown3 hg3 hv3
       go_roundw
       case rel => exact ⟨j + 1, st', X', k', by go_num, by omega, HF⟩
       case measure => simp [intOf]; omega
    ·obtain rfl : j = rn := by omega
     have hjr0 : j = cr.length := HRN.out
     have hres := HK.out.res
     rw [List.drop_of_length_le (by omega)] at hres
     replace hres : R = L.selF E (128 - kk) (kk + 1) sq := hres
     have htk : cr.take j = cr := List.take_of_length_le (by omega)
     have hown := HK.out.own
     have hsp := HK.out.spots
     rw [htk] at hown hsp
     obtain ⟨A, c, rfl, hsl⟩ := hown.slice (r := meanR) fun _ _ _ => rfl
     have hks : kk < sj.1.length := by rw [HN.out] at hlt; exact hlt
     have hkq : kk < sq.1.length := Nat.lt_of_lt_of_le hks HK.out.pre.length_le
     have hsk : sq.1[kk] = sj.1[kk] := by
      obtain ⟨t, ht⟩ := HK.out.pre
      simp only [<- ht]
      exact List.getElem_append_left _
     have hM : meansTo E sq.1 (kk + 1) = meansTo E sj.1 kk ++ [relMeans E sq.1 pu cr] := by
      have hrl : E.rels sq.1[kk] = cr := by rw [hsk, HRL.out]
      have h1 : sq.1[kk].1 = pu := by rw [hsk, HPU.out]
      rw [meansTo_succ hkq, hrl, h1, meansTo_keep HK.out.pre (Nat.le_of_lt hks) HCL.out]
     have hclo : L.Closed E sq.1 (kk + 1) := by
      intro i hi hik r hr p ha
      by_cases e : i = kk
      ·subst e
       rw [hsk, HRL.out] at hr
       rw [hsk, <- HPU.out] at ha
       exact hsp r hr p ha
      ·exact HCL.out.mono HK.out.pre (Nat.le_of_lt hks) i hi (by omega) r hr p ha
     obtain ⟨Wa, hWa⟩ : ∃ Wa, Wa = W0.alloc (.cells #[.slice A j c] 193) := ⟨_, rfl⟩
     have Ea : Ext W0 Wa := by rw [hWa]; exact (Ext.refl W0).alloc _
     have hla := HK.out.link.ext Ea
     obtain ⟨xs, hxs, hfl⟩ := hla.means
     have hcell : ∀ i u, [Value.slice A j c][i]? = some u -> Wa.cell? ((⟨W0.heap.size, 0, none⟩ : Addr).add i) = some u := fun i u hi => by
      rw [Addr.add_lit, Nat.zero_add, hWa, cell_new]
      cases i with
      | zero => simpa using hi
      | succ i => simp at hi
     have c8 := HK.out.link.row.c8
     have hbase : base <= Wa.heap.size := by
      have h1 := hla.lt g hla.inX.1
      omega
     have hml : (meansTo E sj.1 kk).length <= 128 := by unfold meansTo; rw [List.length_map, List.length_take]; omega
     have hmk : (meansTo E sj.1 kk).length = kk := by unfold meansTo; rw [List.length_map, List.length_take]; omega
     have HRES2 := Lib.hid hres
     have HMM := Lib.hid hM
     have HCLO := Lib.hid hclo
     have HLA := Lib.hid hla
     have HFL := Lib.hid hfl
     have HSL := Lib.hid (hsl.tch (Ea.tch fun _ => False) fun b hb => ⟨hb.2.2, fun h => h⟩)
     have HTA := Lib.hid (HK.out.tch.trans (Ea.tch X))
     have HOFF := Lib.hid HK.out.off
     have HJ := Lib.hid hjr0
     obtain ⟨i0, hi0, hz0, hz1, hz2⟩ := info_parts info193
     obtain ⟨ml, hmle⟩ : ∃ ml, ml = (meansTo E sj.1 kk).length := ⟨_, rfl⟩
     rw [<- hmle] at hxs hml
     have HML := Lib.hid hmle
     have c8a := Ea.keepc c8
     have HWA := Lib.hid hWa
     clear hjr0 hres htk hown hsp hsl hks hkq hsk hM hclo hla hfl hmk hmle Ea hWa hjl
     have hcell' : ∀ i u, [Value.slice A j c][i]? = some u -> (W0.alloc (.cells #[.slice A j c] 193)).cell? ((⟨W0.heap.size, 0, none⟩ : Addr).add i) = some u := by rw [<- HWA.out]; exact hcell
     have hxs' : OwnAt (W0.alloc (.cells #[.slice A j c] 193)) base 193 1 kq.vM ml xs := by rw [<- HWA.out]; exact hxs
     have hbase' : base <= (W0.alloc (.cells #[.slice A j c] 193)).heap.size := by rw [<- HWA.out]; exact hbase
     have hvMg : kq.vM.ownBlock ≠ some g := fun e => (HLA.out.apart.2.2 g e).1 rfl
     clear hcell hxs hbase
     have hjd : decide (j < j) = false := decide_eq_false (Nat.lt_irrefl j)
     have hcW : (W0.alloc (.cells #[.slice A j c] 193)).cell? ⟨g, 8, none⟩ = some kq.vM := by rw [<- HWA.out]; exact c8a
     have HNOTE := Lib.hid (fun (v : Value) (d : World) (ho : OwnAt d base 193 1 v (ml + 1) (xs ++ [.slice A j c])) (hg : (W0.alloc (.cells #[.slice A j c] 193)).grownBy d kq.vM.ownBlock) (hv : v.ownBlock = kq.vM.ownBlock ∨ ∃ i, v.ownBlock = some i /\ (W0.alloc (.cells #[.slice A j c] 193)).heap.size <= i /\ i < d.heap.size) => by
      rw [<- HWA.out] at hg hv
      have hj : j = (relMeans E sq.1 pu cr).length := by unfold relMeans; rw [List.length_map]; exact HJ.out
      exact HLA.out.noted (l := relMeans E sq.1 pu cr) HSL.out (fun b hb => ⟨by have h1 := HWA.out; rw [h1]; simp; omega, HOFF.out b hb.1⟩) HFL.out (by rw [<- HML.out, <- hj]; exact ho) hg hv)
     go_wp2_with (at_builtin; refine wpList_append_ownAt _ rfl (.tmp 54) (.tmp 56) 138 rfl base 193 i0 (.slice none 0 0) 1 24 Tryz.underlying138 hi0 hz0 hz1 hz2 rfl (by decide) kq.vM ml xs rfl hxs' ⟨W0.heap.size, 0, none⟩ 1 1 [.slice A j c] rfl rfl hcell' (by intro u hu; rw [List.mem_singleton] at hu; subst hu; rfl) (by unfold maxLen; omega) (by omega) hbase' (by decide) ?_; intro v3 w3 hown3 hg3 _ hv3; obtain ⟨A3, c3, rfl⟩ := hown3.form; have e8 := grown_keepc hg3 hcW hvMg; obtain ⟨hLF, hTF, hNF, f8⟩ := HNOTE.out _ _ hown3 hg3 hv3; have HLF := Lib.hid hLF; have HTF := Lib.hid hTF; have HNF := Lib.hid hNF; clear hLF hTF hNF hown3 hg3 hv3)
     have HS : Hid (SelAt w X base g E R (kk + 1) sq (fun i => Sj i ∨ (Value.slice A j c).ownBlock = some i /\ w1.heap.size <= i /\ i < W0.heap.size) (fun i => Xq i ∨ (Value.slice A3 (ml + 1) c3).ownBlock = some i) { kq with vM := .slice A3 (ml + 1) c3 } (w3.setCell ⟨g, 8, none⟩ (.slice A3 (ml + 1) c3))) := by
      refine ⟨by rw [HRES2.out, show 129 - (kk + 1) = 128 - kk by omega], ?_, HK.out.ok, HCLO.out, ?_, ?_, ?_⟩
      ·rw [HMM.out]; exact HLF.out
      ·have h1 := HK.out.pre.length_le; have h2 := HN.out; omega
      ·exact HTA.out.trans' HTF.out fun i hi hx => by
        rcases HK.out.new i hx with h | h
        ·exact h
        ·omega
      ·intro i hi
       rcases hi with hi | hi
       ·exact HK.out.new i hi
       ·rcases HNF.out i hi with h | h
        ·exact HK.out.new i h
        ·exact Or.inr (Nat.le_trans HTA.out.size h)
     go_roundw
     case rel => exact ⟨kk + 1, sq, _, _, _, by go_num, by omega, HS⟩
     case measure => simp [intOf]; omega
  ·have hkn : kk = sj.1.length := by omega
   rw [selF_end (by omega)] at hres
   have HR := Lib.hid hres
   have HT := Lib.hid htc
   have HF := Lib.hid (show ∃ S' X' k', (∀ b, X' b -> X b ∨ w.heap.size <= b) /\ LinkAt wr S' X' base g E sj (meansTo E sj.1 sj.1.length) k' /\ L.ListOk E sj.1 from ⟨Sj, Xj, kj, hnew, by rw [<- hkn]; exact hlk, hok⟩)
   have hkd : decide (kk < n) = false := decide_eq_false hlt
   clear hkn hres htc hlk hok hcl hnew hn hvL HK
   go_wp2_with fail
   go_ret
   refine ⟨HT.out, ?_⟩
   rw [HR.out]
   exact ⟨rfl, HF.out⟩
end Go.Proofs.YtfbhchpbflaphaaGreatDoor

namespace Go.Proofs.YtfbhchpbflaphaaGreatDoor
open Go.RowKit
def byV (l : List UInt8) : List Value := l.map fun b => Value.int .u8 (b.toNat : Int)
theorem byV_length (l : List UInt8) : (byV l).length = l.length := by simp [byV]
theorem byV_append (a b : List UInt8) : byV (a ++ b) = byV a ++ byV b := by simp [byV]
theorem byV_get {l : List UInt8} {i : Nat} (h : i < l.length) : (byV l)[i]? = some (.int .u8 ((l.getD i 0).toNat : Int)) := by simp [byV, h]
def ByRow (w : World) (g : Nat) (e : TypeId) (cap : Nat) (l : List UInt8) : Prop :=
 ∃ cur fr, w.heap[g]? = some (.cells cur e fr) /\ (cur.size <= fr.1 ∨ fr = (0, 0)) /\ l.length <= cap /\ cap <= cur.size /\ cap <= 9223372036854775807 /\ ∀ j, j < l.length -> cur[j]? = (byV l)[j]?
section
variable {w w' : World} {g : Nat} {e : TypeId} {cap : Nat} {l : List UInt8}
theorem ByRow.lt (h : ByRow w g e cap l) : g < w.heap.size := by
 obtain ⟨_, _, hh, _⟩ := h
 exact (hltA hh)
theorem ByRow.ext (h : ByRow w g e cap l) (he : Ext w w') : ByRow w' g e cap l := by
 have hl := h.lt
 obtain ⟨cur, fr, hh, r⟩ := h
 exact ⟨cur, fr, (he.block g hl).trans hh, r⟩
theorem ByRow.grown (h : ByRow w g e cap l) {k : Option Nat} (hg : w.grownBy w' k) (hk : k ≠ some g) : ByRow w' g e cap l := by
 have hl := h.lt
 obtain ⟨cur, fr, hh, r⟩ := h
 exact ⟨cur, fr, (hg.block g hl fun e => hk e.symm).trans hh, r⟩
theorem ByRow.cell (h : ByRow w g e cap l) {i : Nat} (hi : i < l.length) : w.cell? ⟨g, i, none⟩ = some (.int .u8 ((l.getD i 0).toNat : Int)) := by
 obtain ⟨cur, fr, hh, _, _, _, _, hc⟩ := h
 rw [cell_of_row w g i cur e fr hh, hc i hi, byV_get hi]
theorem ByRow.isSome (h : ByRow w g e cap l) {i : Nat} (hi : i < cap) : (w.cell? ⟨g, i, none⟩).isSome = true := by
 obtain ⟨cur, fr, hh, _, _, hs, _, _⟩ := h
 rw [cell_of_row w g i cur e fr hh]
 simp; omega
theorem ByRow.frozen (h : ByRow w g e cap l) {i : Nat} (hi : i < cap) : w.frozen? ⟨g, i, none⟩ = false := by
 obtain ⟨cur, ⟨a, b⟩, hh, hf, _, hs, _, _⟩ := h
 unfold World.frozen?
 rw [hh]
 rcases hf with hf | hf
 ·have : ¬ a <= i := by simp only at hf; omega
  simp [this]
 ·cases hf
  simp
theorem ByRow.le (h : ByRow w g e cap l) : l.length <= cap := by obtain ⟨_, _, _, _, h, _⟩ := h; exact h
theorem heap_setCell_any {cur : Array Value} {fr : Nat × Nat} (h : w.heap[g]? = some (.cells cur e fr)) (i : Nat) (v : Value) : (w.setCell ⟨g, i, none⟩ v).heap[g]? = some (.cells (cur.setIfInBounds i v) e fr) := by
 simp [World.setCell, Array.getElem?_modify, h]
theorem ByRow.set (h : ByRow w g e cap l) (i : Nat) (b : UInt8) : ByRow (w.setCell ⟨g, i, none⟩ (.int .u8 (b.toNat : Int))) g e cap (l.set i b) := by
 obtain ⟨cur, fr, hh, hf, h1, hs, h2, hc⟩ := h
 refine ⟨_, fr, heap_setCell_any hh i _, by simpa using hf, by simpa using h1, by simpa using hs, h2, fun j hj => ?_⟩
 rw [List.length_set] at hj
 unfold byV
 rw [List.map_set]
 by_cases e : i = j
 ·subst e
  rw [Array.getElem?_setIfInBounds_self_of_lt (by omega), List.getElem?_set_self (by simpa using hj)]
 ·rw [Array.getElem?_setIfInBounds_ne e, List.getElem?_set_ne e]
  exact hc j hj
theorem ByRow.other (h : ByRow w g e cap l) {k : Nat} (hk : g ≠ k) (i : Nat) (v : Value) : ByRow (w.setCell ⟨k, i, none⟩ v) g e cap l := by
 obtain ⟨cur, fr, hh, r⟩ := h
 exact ⟨cur, fr, (heap_setCell_other w _ g v hk).trans hh, r⟩
theorem ByRow.of_row {base : Nat} {v : Value} {n : Nat} (h : w.ownsRow base e 1 v n (byV l)) (hn : 0 < n) (hl : l.length = n) :
 ∃ g cap, v = .slice (some ⟨g, 0, none⟩) l.length cap /\ base <= g /\ ByRow w g e cap l := by
 obtain ⟨h1, h2 | ⟨g, cap, cur, rfl, hb, hh, hnc, hc, hs, ht⟩⟩ := h
 ·omega
 ·refine ⟨g, cap, by rw [hl], hb, cur, (0, 0), hh, .inr rfl, by omega, by omega, by unfold maxLen at hc; omega, fun j hj => ?_⟩
  rw [<- ht, List.getElem?_take_of_lt (by omega)]
  simp
end
theorem ByRow.fresh (w : World) (e : TypeId) (s : ByteArray) (hs : s.size <= maxLen) : ByRow (Lib.bytesWorld w e s) w.heap.size e (grownCap w s.size 0 e) s.data.toList := by
 have hge := grownCap_ge w s.size 0 e
 have hle := grownCap_le_maxLen w s.size 0 e hs
 have hsz : (Lib.bytesCells w e s).size = grownCap w s.size 0 e := by
  simp only [Lib.bytesCells, Array.size_append, Array.size_map, Array.size_replicate]
  have : s.data.size = s.size := rfl
  omega
 refine ⟨_, _, Lib.bytesWorld_at_new w e s, .inl (Nat.le_refl _), by simpa using hge, by rw [hsz]; exact Nat.le_refl _, by unfold maxLen at hle; omega, fun j hj => ?_⟩
 have hj' : j < s.data.size := by simpa using hj
 unfold Lib.bytesCells
 rw [Array.getElem?_append_left (by simpa using hj')]
 simp [byV]
section
variable {P : Program} (w : World)
end
end Go.Proofs.YtfbhchpbflaphaaGreatDoor

namespace Go.Proofs.YtfbhchpbflaphaaGreatDoor
open Go.RowKit Go.Maps Go.ChangeMaps
theorem putAt_cons (l : C.Bs) (i : Nat) (b : UInt8) (d : C.Bs) (h : i + (d.length + 1) <= l.length) : L.putAt l i (b :: d) = L.putAt (l.set i b) (i + 1) d := by
 unfold L.putAt
 have h1 : (l.set i b).take (i + 1) = l.take i ++ [b] := by
  rw [List.set_eq_take_append_cons_drop, if_pos (by omega), List.take_append, List.take_take]
  simp
  rw [Nat.min_eq_left (by omega), show i + 1 - i = 1 by omega]
  simp
 have h2 : (l.set i b).drop (i + 1 + d.length) = l.drop (i + (b :: d).length) := by
  rw [List.drop_set_of_lt (by omega), List.length_cons, show i + 1 + d.length = i + (d.length + 1) by omega]
 rw [h1, h2]
 simp
theorem ByRow.cells {w : World} {g : Nat} {e : TypeId} {cap : Nat} : ∀ {d l : C.Bs} {i : Nat}, ByRow w g e cap l -> i + d.length <= l.length -> ByRow (w.setCells g i (byV d)) g e cap (L.putAt l i d)
 | [], l, i, h, _ => by
  have : L.putAt l i [] = l := by unfold L.putAt; simp
  rw [this]
  exact h
 | b :: d, l, i, h, hl => by
  rw [List.length_cons] at hl
  rw [putAt_cons l i b d hl]
  have := (h.set i b).cells (d := d) (i := i + 1) (by rw [List.length_set]; omega)
  exact this
theorem fin_bound : ∀ (l : List Nat) (e : Nat), (∀ s ∈ l, s <= 8192) -> L.fin l e <= e + l.length * 8195
 | [], e, _ => by simp [L.fin]
 | s :: l, e, h => by
  have h1 := h s List.mem_cons_self
  have h2 := fin_bound l (L.up e + s) fun x hx => h x (List.mem_cons_of_mem _ hx)
  rw [L.fin, List.length_cons]
  have : L.up e <= e + 3 := by unfold L.up; omega
  omega
theorem fin_take_succ {l : List Nat} {i : Nat} (hi : i < l.length) : L.fin (l.take (i + 1)) 0 = L.up (L.fin (l.take i) 0) + l[i] := by
 rw [List.take_succ_eq_append_getElem hi, L.fin_snoc]
def plcC (p : L.Plc) : List Value := [.string p.1, .string p.2.1, .int .i64 p.2.2.1, .int .i64 p.2.2.2.1, .int .i64 p.2.2.2.2]
theorem plcC_one (p : L.Plc) : ∀ u ∈ plcC p, u.oneCell' = true := by
 intro u hu
 simp only [plcC, List.mem_cons, List.not_mem_nil, or_false] at hu
 rcases hu with rfl | rfl | rfl | rfl | rfl <;> rfl
def impC (p : L.Impt) : List Value := [.string p.1, .string p.2.1, .int .i64 p.2.2]
theorem impC_one (p : L.Impt) : ∀ u ∈ impC p, u.oneCell' = true := by
 intro u hu
 simp only [impC, List.mem_cons, List.not_mem_nil, or_false] at hu
 rcases hu with rfl | rfl | rfl <;> rfl
def intC (n : Int) : List Value := [.int .i64 n]
theorem intC_one (n : Int) : ∀ u ∈ intC n, u.oneCell' = true := by
 intro u hu
 simp only [intC, List.mem_cons, List.not_mem_nil, or_false] at hu
 rcases hu with rfl; rfl
theorem info49 : (Tryz.prog.info? 49).map (fun i => (i.zero, i.size, i.bytes)) = some (some (.agg #[.string ⟨#[]⟩, .string ⟨#[]⟩, .int .i64 0, .int .i64 0, .int .i64 0]), 5, 56) := by kernel_rfl
theorem info128 : (Tryz.prog.info? 128).map (fun i => (i.zero, i.size, i.bytes)) = some (some (.agg #[.string ⟨#[]⟩, .string ⟨#[]⟩, .int .i64 0]), 3, 40) := by kernel_rfl
theorem info3 : (Tryz.prog.info? 3).map (fun i => (i.zero, i.size, i.bytes)) = some (some (.int .i64 0), 1, 8) := by kernel_rfl
theorem new_cells (W : World) (cs : List Value) (t : TypeId) (b : Nat) (hb : b = W.heap.size) : ∀ j u, cs[j]? = some u -> (W.alloc (.cells cs.toArray t)).cell? ⟨b, j, none⟩ = some u := by
 subst hb
 intro j u hj
 rw [cell_new]
 simpa using hj
section
variable {E : L.Env}
theorem sizes_get {l : List L.Spot} {i : Nat} (hi : i < l.length) (h : i < (E.sizes l).length) : (E.sizes l)[i] = (E.sec l[i]).2.1.size := by
 have e : (E.sizes l)[i]? = some (E.sec l[i]).2.1.size := by
  unfold L.Env.sizes
  rw [List.getElem?_map, List.getElem?_eq_getElem hi]
  rfl
 rw [List.getElem?_eq_getElem h] at e
 exact Option.some.inj e
theorem sizes_small (hE : EnvOk E) {l : List L.Spot} (h : L.ListOk E l) : ∀ s ∈ E.sizes l, s <= 8192 := by
 intro s hs
 obtain ⟨p, hp, rfl⟩ := List.mem_map.1 hs
 obtain ⟨c, hc⟩ := Option.isSome_iff_exists.1 (h.2.2 p hp).2
 rw [L.sec_is hc]
 exact (rels_few hE hc).2
theorem sizes_take (l : List L.Spot) (i : Nat) : E.sizes (l.take i) = (E.sizes l).take i := by unfold L.Env.sizes; rw [List.map_take]
theorem at_get {l : List L.Spot} {i : Nat} (hi : i < l.length) : (E.atL l)[i]? = some (L.up (L.fin ((E.sizes l).take i) 0)) := L.ats_get (by unfold L.Env.sizes; simpa using hi)
theorem atL_len (l : List L.Spot) : (E.atL l).length = l.length := by unfold L.Env.atL; rw [L.ats_len]; unfold L.Env.sizes; simp
theorem places_len (l : List L.Spot) : (E.places l).length = l.length := by unfold L.Env.places; rw [List.length_map, List.length_zip, atL_len, Nat.min_self]
theorem places_get {l : List L.Spot} {i : Nat} (hi : i < l.length) (h : i < (E.places l).length) : (E.places l)[i] = (E.name l[i].1, l[i].2, (E.sec l[i]).1, ((L.up (L.fin ((E.sizes l).take i) 0) : Nat) : Int), ((E.sec l[i]).2.1.size : Int)) := by
 have hz : (l.zip (E.atL l))[i]? = some (l[i], L.up (L.fin ((E.sizes l).take i) 0)) := by
  rw [List.getElem?_zip_eq_some]
  exact ⟨List.getElem?_eq_getElem hi, at_get hi⟩
 have e : (E.places l)[i]? = some (E.name l[i].1, l[i].2, (E.sec l[i]).1, ((L.up (L.fin ((E.sizes l).take i) 0) : Nat) : Int), ((E.sec l[i]).2.1.size : Int)) := by
  unfold L.Env.places
  rw [List.getElem?_map, hz]
  rfl
 rw [List.getElem?_eq_getElem h] at e
 exact Option.some.inj e
end
end Go.Proofs.YtfbhchpbflaphaaGreatDoor

namespace Go.Proofs.YtfbhchpbflaphaaGreatDoor
open Go.RowKit Go.Maps Go.ChangeMaps
def GoodTo (E : L.Env) (l : List L.Spot) (k : Nat) : Prop := ∀ i (_ : i < l.length), i < k -> ∀ r ∈ E.rels l[i], (∃ q, L.aim E l[i].1 r.2 = .spot q /\ q ∈ l) ∨ ∃ j, L.aim E l[i].1 r.2 = .lib j /\ j < E.libs.length
theorem GoodTo.mono {E : L.Env} {l m : List L.Spot} {k : Nat} (h : GoodTo E l k) (hp : l <+: m) (hk : k <= l.length) : GoodTo E m k := by
 obtain ⟨t, rfl⟩ := hp
 intro i hi hik r hr
 have e : (l ++ t)[i] = l[i]'(by omega) := List.getElem_append_left (by omega)
 rw [e] at hr ⊢
 rcases h i (by omega) hik r hr with ⟨q, h1, h2⟩ | h1
 ·exact Or.inl ⟨q, h1, List.mem_append_left _ h2⟩
 ·exact Or.inr h1
theorem stepR_good {E : L.Env} (hU : L.UnitsOk okN E) {u : Nat} {st st' : L.St} {x : ByteArray} (h : L.stepR E u st x = .ok st') (hL : L.ListOk E st.1) (hu : u < E.units.length) : (∃ q, L.aim E u x = .spot q /\ q ∈ st'.1) ∨ ∃ j, L.aim E u x = .lib j /\ j < E.libs.length := by
 have ha := L.aim_ok hU hu (x := x)
 have hs := (L.stepR_ok hU h hL hu).2.2
 cases hx : L.aim E u x with
 | bad e => unfold L.stepR at h; rw [hx] at h; cases h
 | spot p => exact Or.inl ⟨p, rfl, hs p hx⟩
 | lib j => rw [hx] at ha; exact Or.inr ⟨j, rfl, ha⟩
theorem relsF_good {E : L.Env} (hU : L.UnitsOk okN E) {u : Nat} (hu : u < E.units.length) : ∀ {l : List C.Rel} {st st' : L.St}, L.relsF E u l st = .ok st' -> L.ListOk E st.1 -> ∀ r ∈ l, (∃ q, L.aim E u r.2 = .spot q /\ q ∈ st'.1) ∨ ∃ j, L.aim E u r.2 = .lib j /\ j < E.libs.length
 | [], st, st', h, hL => fun r hr => absurd hr List.not_mem_nil
 | r :: l, st, st', h, hL => by
  rw [L.relsF] at h
  cases hs : L.stepR E u st r.2 with
  | error e => rw [hs] at h; cases h
  | ok s1 =>
   rw [hs] at h
   obtain ⟨a1, a2, _⟩ := L.stepR_ok hU hs hL hu
   obtain ⟨_, b2, _⟩ := L.relsF_ok hU hu h a1
   intro q hq
   rcases List.mem_cons.1 hq with rfl | hq
   ·rcases stepR_good hU hs hL hu with ⟨p, h1, h2⟩ | h1
    ·exact Or.inl ⟨p, h1, b2.subset h2⟩
    ·exact Or.inr h1
   ·exact relsF_good hU hu h a1 q hq
theorem selF_good {E : L.Env} (hU : L.UnitsOk okN E) : ∀ {f k : Nat} {st st' : L.St}, L.selF E f k st = .ok st' -> 128 < f + k -> k <= st.1.length -> L.ListOk E st.1 -> GoodTo E st.1 k -> GoodTo E st'.1 st'.1.length
 | 0, k, st, st', h, hf, hk, hL, hC => by have := hL.1; omega
 | f + 1, k, st, st', h, hf, hk, hL, hC => by
  by_cases hlt : k < st.1.length
  ·rw [selF_step hlt] at h
   cases hs : L.relsF E st.1[k].1 (E.rels st.1[k]) st with
   | error e => rw [hs] at h; cases h
   | ok s1 =>
    rw [hs] at h
    have h : L.selF E f (k + 1) s1 = .ok st' := h
    have hu := (hL.2.2 _ (List.getElem_mem hlt)).1
    obtain ⟨a1, a2, _⟩ := L.relsF_ok hU hu hs hL
    have hg := relsF_good hU hu hs hL
    have hle := a2.length_le
    refine selF_good hU h (by omega) (by omega) a1 fun i hi hik r hr => ?_
    by_cases e : i = k
    ·subst e
     have e2 : s1.1[i] = st.1[i] := by
      obtain ⟨t, ht⟩ := a2
      simp only [<- ht]
      exact List.getElem_append_left hlt
     rw [e2] at hr ⊢
     exact hg r hr
    ·exact hC.mono a2 hk i hi (by omega) r hr
  ·rw [selF_end hlt] at h
   cases h
   have e : k = st.1.length := by omega
   exact e ▸ hC
section
variable {E : L.Env}
def fixesTo (E : L.Env) (l : List L.Spot) (k : Nat) : List Int := ((l.zip (E.atL l)).take k).flatMap fun q => L.fixF E q.1.1 q.2 (E.rels q.1)
def impsTo (E : L.Env) (l : List L.Spot) (k : Nat) : List L.Impt := ((l.zip (E.atL l)).take k).flatMap fun q => L.impF E q.1.1 q.2 (E.rels q.1)
theorem zip_get {l : List L.Spot} {i : Nat} (hi : i < l.length) : (l.zip (E.atL l))[i]? = some (l[i], L.up (L.fin ((E.sizes l).take i) 0)) := by
 rw [List.getElem?_zip_eq_some]
 exact ⟨List.getElem?_eq_getElem hi, at_get hi⟩
theorem zip_take {l : List L.Spot} {i : Nat} (hi : i < l.length) : (l.zip (E.atL l)).take (i + 1) = (l.zip (E.atL l)).take i ++ [(l[i], L.up (L.fin ((E.sizes l).take i) 0))] := by
 have h := zip_get (E := E) hi
 obtain ⟨h1, h2⟩ := List.getElem?_eq_some_iff.1 h
 rw [List.take_succ_eq_append_getElem h1, h2]
theorem fixes_succ {l : List L.Spot} {i : Nat} (hi : i < l.length) : fixesTo E l (i + 1) = fixesTo E l i ++ L.fixF E l[i].1 (L.up (L.fin ((E.sizes l).take i) 0)) (E.rels l[i]) := by
 unfold fixesTo
 rw [zip_take hi, List.flatMap_append]
 simp
theorem imps_succ {l : List L.Spot} {i : Nat} (hi : i < l.length) : impsTo E l (i + 1) = impsTo E l i ++ L.impF E l[i].1 (L.up (L.fin ((E.sizes l).take i) 0)) (E.rels l[i]) := by
 unfold impsTo
 rw [zip_take hi, List.flatMap_append]
 simp
theorem zip_len (l : List L.Spot) : (l.zip (E.atL l)).length = l.length := by rw [List.length_zip, atL_len, Nat.min_self]
theorem fixes_all (l : List L.Spot) : fixesTo E l l.length = E.fixes l := by
 unfold fixesTo L.Env.fixes
 rw [List.take_of_length_le (by rw [zip_len]; exact Nat.le_refl _)]
theorem imps_all (l : List L.Spot) : impsTo E l l.length = E.imps l := by
 unfold impsTo L.Env.imps
 rw [List.take_of_length_le (by rw [zip_len]; exact Nat.le_refl _)]
theorem fixF_spot {u a : Nat} {l : List C.Rel} {r : C.Rel} {q : L.Spot} (h : L.aim E u r.2 = .spot q) : L.fixF E u a (l ++ [r]) = L.fixF E u a l ++ [(a : Int) + r.1] := by
 unfold L.fixF
 rw [List.filterMap_append]
 simp [h]
theorem fixF_lib {u a : Nat} {l : List C.Rel} {r : C.Rel} {j : Nat} (h : L.aim E u r.2 = .lib j) : L.fixF E u a (l ++ [r]) = L.fixF E u a l := by
 unfold L.fixF
 rw [List.filterMap_append]
 simp [h]
theorem impF_spot {u a : Nat} {l : List C.Rel} {r : C.Rel} {q : L.Spot} (h : L.aim E u r.2 = .spot q) : L.impF E u a (l ++ [r]) = L.impF E u a l := by
 unfold L.impF
 rw [List.filterMap_append]
 simp [h]
theorem impF_lib {u a : Nat} {l : List C.Rel} {r : C.Rel} {j : Nat} (h : L.aim E u r.2 = .lib j) (hj : j < E.libs.length) : L.impF E u a (l ++ [r]) = L.impF E u a l ++ [(E.libs[j].1, r.2, (a : Int) + r.1)] := by
 unfold L.impF
 rw [List.filterMap_append]
 simp [h, hj]
def imgTo (E : L.Env) (l : List L.Spot) (k : Nat) : C.Bs := L.imgF (E.chunk l) (l.take k) 0 ++ List.replicate (L.fin (E.sizes l) 0 - L.fin ((E.sizes l).take k) 0) 0
theorem img_front_len (hE : EnvOk E) {l : List L.Spot} (h : L.ListOk E l) (k : Nat) : (L.imgF (E.chunk l) (l.take k) 0).length = L.fin ((E.sizes l).take k) 0 := by
 have h1 := L.imgF_len (E.chunk l) (l.take k) 0
 rw [L.chunk_sizes hE.units l fun p hp => (h.2.2 p (List.mem_of_mem_take hp)).2, sizes_take] at h1
 omega
theorem fin_take_le (l : List Nat) (k : Nat) : L.fin (l.take k) 0 <= L.fin l 0 := by
 have h1 := L.fin_append (l.take k) (l.drop k) 0
 rw [List.take_append_drop] at h1
 rw [h1]
 exact L.fin_le _ _
theorem imgTo_len (hE : EnvOk E) {l : List L.Spot} (h : L.ListOk E l) (k : Nat) : (imgTo E l k).length = L.fin (E.sizes l) 0 := by
 unfold imgTo
 rw [List.length_append, img_front_len hE h, List.length_replicate]
 have := fin_take_le (E.sizes l) k
 omega
theorem imgTo_all (l : List L.Spot) : imgTo E l l.length = E.img l := by
 unfold imgTo L.Env.img
 have : (E.sizes l).length = l.length := by unfold L.Env.sizes; simp
 rw [List.take_length, List.take_of_length_le (by omega), Nat.sub_self]
 simp
def imgX (E : L.Env) (l : List L.Spot) (k : Nat) : C.Bs := L.imgF (E.chunk l) (l.take k) 0 ++ List.replicate (L.up (L.fin ((E.sizes l).take k) 0) - L.fin ((E.sizes l).take k) 0) 0
theorem imgX_len (hE : EnvOk E) {l : List L.Spot} (h : L.ListOk E l) (k : Nat) : (imgX E l k).length = L.up (L.fin ((E.sizes l).take k) 0) := by
 unfold imgX
 rw [List.length_append, img_front_len hE h, List.length_replicate]
 have := L.up_le (L.fin ((E.sizes l).take k) 0)
 omega
theorem up_fit {l : List L.Spot} {k : Nat} (hk : k < l.length) : L.up (L.fin ((E.sizes l).take k) 0) + (E.sec l[k]).2.1.size <= L.fin (E.sizes l) 0 := by
 have hsl : (E.sizes l).length = l.length := by unfold L.Env.sizes; simp
 have h1 := fin_take_succ (l := E.sizes l) (i := k) (by omega)
 rw [sizes_get hk (by omega)] at h1
 rw [<- h1]
 exact fin_take_le _ _
theorem img_copy (hE : EnvOk E) {l : List L.Spot} (h : L.ListOk E l) {k : Nat} (hk : k < l.length) : L.putAt (imgTo E l k) (L.up (L.fin ((E.sizes l).take k) 0)) (E.data l[k]) = imgX E l k ++ (E.data l[k] ++ List.replicate (L.fin (E.sizes l) 0 - L.fin ((E.sizes l).take (k + 1)) 0) 0) := by
 have hsl : (E.sizes l).length = l.length := by unfold L.Env.sizes; simp
 have h1 := fin_take_succ (l := E.sizes l) (i := k) (by omega)
 rw [sizes_get hk (by omega)] at h1
 have hd : (E.data l[k]).length = (E.sec l[k]).2.1.size := by unfold L.Env.data; simp
 have h2 := up_fit (E := E) hk
 unfold imgTo imgX
 rw [L.img_lay (img_front_len hE h k) (by rw [hd]; exact h2), h1, hd]
theorem img_next {l : List L.Spot} {k : Nat} (hk : k < l.length) (hE : EnvOk E) (h : L.ListOk E l) : imgX E l k ++ (E.chunk l l[k] ++ List.replicate (L.fin (E.sizes l) 0 - L.fin ((E.sizes l).take (k + 1)) 0) 0) = imgTo E l (k + 1) := by
 unfold imgTo imgX
 rw [List.take_succ_eq_append_getElem hk, L.imgF_snoc, L.chunk_sizes hE.units l fun p hp => (h.2.2 p (List.mem_of_mem_take hp)).2, sizes_take]
 simp only [List.append_assoc]
end
end Go.Proofs.YtfbhchpbflaphaaGreatDoor

namespace Go.Proofs.YtfbhchpbflaphaaGreatDoor
open Go.RowKit Go.Maps Go.ChangeMaps
def binCells (im : ByteArray) (vP vF vI : Value) : Array Value := #[.int .i64 0, .int .i64 0, .string im, vP, vF, vI, .slice none 0 0, .slice none 0 0]
structure ImgAt (w : World) (tb ib : Nat) (E : L.Env) (l : List L.Spot) (N : Nat) (nf ni : Nat) (fx : List Int) (im : List L.Impt) (bs : C.Bs) (vP vF vI : Value) (wr : World) : Prop where
 ext : Ext w wr
 blk : wr.heap[tb]? = some (.cells (binCells ⟨#[]⟩ vP vF vI) 35 (0, 0))
 plc : OwnL plcC 49 5 wr (w.heap.size + 2) vP l.length (E.places l)
 fix : OwnL intC 3 1 wr (w.heap.size + 2) vF nf fx
 imp : OwnL impC 128 3 wr (w.heap.size + 2) vI ni im
 row : ByRow wr ib 5 N bs
 low : w.heap.size + 2 <= ib /\ ib ≠ tb
 res : wr.heap[w.heap.size]? = some (.cells (binCells ⟨#[]⟩ (.slice none 0 0) (.slice none 0 0) (.slice none 0 0)) 35 (0, 0))
 offT : vP.ownBlock ≠ some tb /\ vF.ownBlock ≠ some tb /\ vI.ownBlock ≠ some tb
 offI : vP.ownBlock ≠ some ib /\ vF.ownBlock ≠ some ib /\ vI.ownBlock ≠ some ib
 apart : ∀ b, vF.ownBlock = some b -> vP.ownBlock ≠ some b /\ vI.ownBlock ≠ some b
 apart2 : ∀ b, vI.ownBlock = some b -> vP.ownBlock ≠ some b
theorem ImgAt.ext' {w wr W : World} {tb ib : Nat} {E : L.Env} {l : List L.Spot} {N nf ni : Nat} {fx : List Int} {im : List L.Impt} {bs : C.Bs} {vP vF vI : Value} (h : ImgAt w tb ib E l N nf ni fx im bs vP vF vI wr) (he : Ext wr W) : ImgAt w tb ib E l N nf ni fx im bs vP vF vI W where
 ext := h.ext.trans he
 blk := (he.block _ (hltA h.blk)).trans h.blk
 plc := h.plc.ext he
 fix := h.fix.ext he
 imp := h.imp.ext he
 row := h.row.ext he
 low := h.low
 res := (he.block _ (hltA h.res)).trans h.res
 offT := h.offT
 offI := h.offI
 apart := h.apart
 apart2 := h.apart2
theorem row_of_made {w : World} {base g n : Nat} {e : TypeId} {l : C.Bs} (h : w.ownsRow base e 1 (.slice (some ⟨g, 0, none⟩) n n) n (byV l)) (hl : l.length = n) (hn : n <= 9223372036854775807) : ByRow w g e n l /\ base <= g := by
 obtain ⟨h1, ⟨h2, _⟩ | ⟨g', cap, cur, hv, hb, hh, hnc, hc, hs, ht⟩⟩ := h
 ·cases h2
 ·cases hv
  refine ⟨⟨cur, (0, 0), hh, .inr rfl, by omega, by omega, hn, fun j hj => ?_⟩, hb⟩
  rw [<- ht, List.getElem?_take_of_lt (by omega)]
  simp
theorem byV_zeros (n : Nat) : (madeCells (Value.int IntKind.u8 0).cells (n * 1)).toList = byV (List.replicate n 0) := by
 rw [Nat.mul_one]
 refine (toList_madeCells_one _ _).trans ?_
 unfold byV
 rw [List.map_replicate]
 rfl
theorem ImgAt.bytes {w wr W : World} {tb ib : Nat} {E : L.Env} {l : List L.Spot} {N nf ni : Nat} {fx : List Int} {im : List L.Impt} {bs bs' : C.Bs} {vP vF vI : Value} (h : ImgAt w tb ib E l N nf ni fx im bs vP vF vI wr) (ht : Tch (fun i => i = ib) wr W) (hr : ByRow W ib 5 N bs') : ImgAt w tb ib E l N nf ni fx im bs' vP vF vI W where
 ext := by
  have h1 : Tch (fun _ => False) w wr := h.ext.tch _
  exact (h1.trans' ht fun i hi e => absurd hi (by have := h.low.1; omega)).ext fun _ _ h => h
 blk := (ht.block _ (hltA h.blk) (fun e => h.low.2 e.symm)).trans h.blk
 plc := h.plc.tch ht fun b hb e => h.offI.1 (by rw [hb, e])
 fix := h.fix.tch ht fun b hb e => h.offI.2.1 (by rw [hb, e])
 imp := h.imp.tch ht fun b hb e => h.offI.2.2 (by rw [hb, e])
 row := hr
 low := h.low
 res := (ht.block _ (hltA h.res) (by have := h.low.1; omega)).trans h.res
 offT := h.offT
 offI := h.offI
 apart := h.apart
 apart2 := h.apart2
theorem ImgAt.fixed {w a d : World} {ib : Nat} {E : L.Env} {l : List L.Spot} {N nf ni : Nat} {fx fx' : List Int} {im : List L.Impt} {bs : C.Bs} {vP vF vI : Value} (h : ImgAt w (w.heap.size + 1) ib E l N nf ni fx im bs vP vF vI a) {v : Value} {m : Nat} (ho : OwnL intC 3 1 d (w.heap.size + 2) v m fx') (hg : a.grownBy d vF.ownBlock)
 (hv : v.ownBlock = vF.ownBlock ∨ ∃ i, v.ownBlock = some i /\ a.heap.size <= i /\ i < d.heap.size) :
 ImgAt w (w.heap.size + 1) ib E l N m ni fx' im bs vP v vI (d.setCell ⟨w.heap.size + 1, 4, none⟩ v) /\ d.cell? ⟨w.heap.size + 1, 4, none⟩ = some vF /\ d.frozen? ⟨w.heap.size + 1, 4, none⟩ = false := by
 have hT : Tch (fun i => vF.ownBlock = some i) a d := ⟨hg.os, hg.tape, hg.output, hg.size, fun i hi hx => hg.block i hi fun e => hx e.symm⟩
 have hb := (hT.block _ (hltA h.blk) h.offT.2.1).trans h.blk
 have hS : Tch (fun i => i = w.heap.size + 1) d (d.setCell ⟨w.heap.size + 1, 4, none⟩ v) := grown_tch (grownBy_setCell d ⟨w.heap.size + 1, 4, none⟩ v)
 have hne : ∀ b, v.ownBlock = some b -> b ≠ w.heap.size + 1 /\ b ≠ ib /\ vP.ownBlock ≠ some b /\ vI.ownBlock ≠ some b := by
  intro b hb'
  rcases hv with e | ⟨i, e, h1, _⟩
  ·have e' : vF.ownBlock = some b := e.symm.trans hb'
   exact ⟨fun x => h.offT.2.1 (by rw [e', x]), fun x => h.offI.2.1 (by rw [e', x]), (h.apart b e').1, (h.apart b e').2⟩
  ·rw [e] at hb'
   cases hb'
   have k1 := (hltA h.blk)
   have k2 := h.row.lt
   exact ⟨by omega, by omega, fun x => absurd (h.plc.lt x).2 (by omega), fun x => absurd (h.imp.lt x).2 (by omega)⟩
 refine ⟨?_, cell_of_row d _ 4 _ _ _ hb, Lib.frozen_of_heap hb 4⟩
 exact {
  ext := by
   have h1 : Tch (fun _ => False) w a := h.ext.tch _
   have h2 := h1.trans' hT fun i hi e => absurd hi (by have := (h.fix.lt e).1; omega)
   exact (h2.trans' hS fun i hi e => absurd hi (by omega)).ext fun _ _ h => h
  blk := heap_setCell_cells hb 4 v
  plc := (h.plc.tch hT fun b hb' e => (h.apart b e).1 hb').tch hS fun b hb' e => h.offT.1 (by rw [hb', e])
  fix := ho.tch hS fun b hb' e => (hne b hb').1 e
  imp := (h.imp.tch hT fun b hb' e => (h.apart b e).2 hb').tch hS fun b hb' e => h.offT.2.2 (by rw [hb', e])
  row := (h.row.grown hg h.offI.2.1).other (fun e => h.low.2 e) 4 v
  low := h.low
  res := by
   have l1 := (hT.block _ (hltA h.res) (fun e => by have := (h.fix.lt e).1; omega)).trans h.res
   exact (hS.block _ (hltA l1) (by omega)).trans l1
  offT := ⟨h.offT.1, fun e => (hne _ e).1 rfl, h.offT.2.2⟩
  offI := ⟨h.offI.1, fun e => (hne _ e).2.1 rfl, h.offI.2.2⟩
  apart := fun b hb' => (hne b hb').2.2
  apart2 := h.apart2 }
theorem ImgAt.imported {w a d : World} {ib : Nat} {E : L.Env} {l : List L.Spot} {N nf ni : Nat} {fx : List Int} {im im' : List L.Impt} {bs : C.Bs} {vP vF vI : Value} (h : ImgAt w (w.heap.size + 1) ib E l N nf ni fx im bs vP vF vI a) {v : Value} {m : Nat} (ho : OwnL impC 128 3 d (w.heap.size + 2) v m im') (hg : a.grownBy d vI.ownBlock)
 (hv : v.ownBlock = vI.ownBlock ∨ ∃ i, v.ownBlock = some i /\ a.heap.size <= i /\ i < d.heap.size) :
 ImgAt w (w.heap.size + 1) ib E l N nf m fx im' bs vP vF v (d.setCell ⟨w.heap.size + 1, 5, none⟩ v) /\ d.cell? ⟨w.heap.size + 1, 5, none⟩ = some vI /\ d.frozen? ⟨w.heap.size + 1, 5, none⟩ = false := by
 have hT : Tch (fun i => vI.ownBlock = some i) a d := ⟨hg.os, hg.tape, hg.output, hg.size, fun i hi hx => hg.block i hi fun e => hx e.symm⟩
 have hb := (hT.block _ (hltA h.blk) h.offT.2.2).trans h.blk
 have hS : Tch (fun i => i = w.heap.size + 1) d (d.setCell ⟨w.heap.size + 1, 5, none⟩ v) := grown_tch (grownBy_setCell d ⟨w.heap.size + 1, 5, none⟩ v)
 have hne : ∀ b, v.ownBlock = some b -> b ≠ w.heap.size + 1 /\ b ≠ ib /\ vP.ownBlock ≠ some b /\ vF.ownBlock ≠ some b := by
  intro b hb'
  rcases hv with e | ⟨i, e, h1, _⟩
  ·have e' : vI.ownBlock = some b := e.symm.trans hb'
   exact ⟨fun x => h.offT.2.2 (by rw [e', x]), fun x => h.offI.2.2 (by rw [e', x]), h.apart2 b e', fun x => (h.apart b x).2 e'⟩
  ·rw [e] at hb'
   cases hb'
   have k1 := (hltA h.blk)
   have k2 := h.row.lt
   exact ⟨by omega, by omega, fun x => absurd (h.plc.lt x).2 (by omega), fun x => absurd (h.fix.lt x).2 (by omega)⟩
 refine ⟨?_, cell_of_row d _ 5 _ _ _ hb, Lib.frozen_of_heap hb 5⟩
 exact {
  ext := by
   have h1 : Tch (fun _ => False) w a := h.ext.tch _
   have h2 := h1.trans' hT fun i hi e => absurd hi (by have := (h.imp.lt e).1; omega)
   exact (h2.trans' hS fun i hi e => absurd hi (by omega)).ext fun _ _ h => h
  blk := heap_setCell_cells hb 5 v
  plc := (h.plc.tch hT fun b hb' e => h.apart2 b e hb').tch hS fun b hb' e => h.offT.1 (by rw [hb', e])
  fix := (h.fix.tch hT fun b hb' e => (h.apart b hb').2 e).tch hS fun b hb' e => h.offT.2.1 (by rw [hb', e])
  imp := ho.tch hS fun b hb' e => (hne b hb').1 e
  row := (h.row.grown hg h.offI.2.2).other (fun e => h.low.2 e) 5 v
  low := h.low
  res := by
   have l1 := (hT.block _ (hltA h.res) (fun e => by have := (h.imp.lt e).1; omega)).trans h.res
   exact (hS.block _ (hltA l1) (by omega)).trans l1
  offT := ⟨h.offT.1, h.offT.2.1, fun e => (hne _ e).1 rfl⟩
  offI := ⟨h.offI.1, h.offI.2.1, fun e => (hne _ e).2.1 rfl⟩
  apart := fun b hb' => ⟨(h.apart b hb').1, fun e => (hne b e).2.2.2 hb'⟩
  apart2 := fun b hb' => (hne b hb').2.2.1 }
theorem wpList_copy_at {P : Program} (w : World) {ops : Array Oper} {rest : List Oper} {o : Oper} {a : Act} {Q : Exit -> Act -> World -> Prop} (hgd : o.guard = none) (d s : Operand) (t t' : TypeId)
 (ho : o.op = .call { callee := .builtin .copy, args := #[d, s], argTypes := #[t, t'] }) (v u : Value) (hd : a.eval d = v) (hs : a.eval s = u) {v' : Value} {w' : World}
 (hr : (Builtin.copy_ #[t, t'] o.type #[v, u]).run P w = .ok v' w') (h : wpList P ops Q rest (a.put o.dst v') w') : wpList P ops Q (o :: rest) a w :=
 wpList_plain hgd fun K hK => by
  unfold Oper.wp execOp
  simp only [ho, resolve, invoke, builtin, Sem.run_bind, Sem.run_pure, Result.andThen_ok, List.map_toArray, List.map_cons, List.map_nil, hd, hs, hr]
  exact hK _ _ h
theorem LinkAt.meant {w : World} {S X : Nat -> Prop} {base g : Nat} {E : L.Env} {st : L.St} {M : List (List (Int × Int))} {k : LC} (h : LinkAt w S X base g E st M k) {i : Nat} (hi : i < M.length) {j : Nat} (hj : j < M[i].length) :
 ∃ mb mo mc b off c, k.vM = .slice (some ⟨mb, mo, none⟩) M.length mc /\ w.cell? ⟨mb, mo + i, none⟩ = some (.slice (some ⟨b, off, none⟩) M[i].length c) /\ w.cell? ⟨b, off + j * 2, none⟩ = some (.int .i64 M[i][j].1) /\ w.cell? ⟨b, off + j * 2 + 1, none⟩ = some (.int .i64 M[i][j].2) := by
 obtain ⟨xs, h1, h2⟩ := h.means
 obtain ⟨mb, mo, mc, hv, _, _, _, _, hx⟩ := h1.cells (by omega)
 have hr := h2.row (b := mb) (off := mo) hx
 obtain ⟨us, ⟨A, c, rfl, hA⟩, hc⟩ := hr i hi
 obtain ⟨b, off, rfl, _, hr2⟩ := hA.2.2 (by intro e; rw [e] at hj; simp at hj)
 obtain ⟨us, rfl, hc2⟩ := hr2 j hj
 refine ⟨mb, mo, mc, b, off, c, hv, ?_, hc2 0 _ rfl, hc2 1 _ rfl⟩
 have := hc 0 _ rfl
 simpa [sliceR] using this
end Go.Proofs.YtfbhchpbflaphaaGreatDoor

namespace Go.Proofs.YtfbhchpbflaphaaGreatDoor
open Go.RowKit Go.Maps Go.ChangeMaps
section
variable {E : L.Env}
theorem sym_small (hE : EnvOk E) {p : L.Spot} (h : (E.sym p).isSome = true) : p.2.size <= 9000000 := by
 obtain ⟨s, hs⟩ := Option.isSome_iff_exists.1 h
 unfold L.Env.sym at hs
 cases hm : E.units[p.1]? with
 | none => rw [hm] at hs; cases hs
 | some m =>
  rw [hm] at hs
  replace hs : L.symP m.2 p.2 = some s := hs
  obtain ⟨h1, h2⟩ := L.symP_mem hs
  have h3 := (hE.sizes m (List.mem_of_getElem? hm)).2 s h1
  have h4 : (C.nm s).length = s.1.size := by unfold C.nm; simp
  have h5 : p.2.data.toList.length = p.2.size := by simp
  rw [h2, h5] at h4
  omega
theorem sec_sym {p : L.Spot} (h : (E.sec? p).isSome = true) : (E.sym p).isSome = true := by
 obtain ⟨c, hc⟩ := Option.isSome_iff_exists.1 h
 obtain ⟨m, s, h1, h2, _⟩ := L.sec_parts hc
 unfold L.Env.sym
 rw [h1]
 show (L.symP m.2 p.2).isSome = true
 rw [h2]
 rfl
theorem name_small (hE : EnvOk E) (u : Nat) : (E.name u).size <= 3000000 := by
 unfold L.Env.name
 cases h : E.units[u]? with
 | none => exact Nat.zero_le _
 | some m => exact (hE.sizes m (List.mem_of_getElem? h)).1
theorem wf_nat {n : Nat} (h : n <= 9223372036854775807) : (Lit.int .i64 (n : Int)).wf = true := by
 have h1 : IntKind.i64.min = -9223372036854775808 := rfl
 have h2 : IntKind.i64.max = 9223372036854775807 := rfl
 simp only [Lit.wf, decide_eq_true_eq, Bool.and_eq_true, h1, h2]
 omega
theorem wf_int {n : Int} (h : -9223372036854775808 <= n) (h' : n <= 9223372036854775807) : (Lit.int .i64 n).wf = true := by
 have h1 : IntKind.i64.min = -9223372036854775808 := rfl
 have h2 : IntKind.i64.max = 9223372036854775807 := rfl
 simp only [Lit.wf, decide_eq_true_eq, Bool.and_eq_true, h1, h2]
 omega
theorem at_small (hE : EnvOk E) {l : List L.Spot} (h : L.ListOk E l) {q : L.Spot × Nat} (hq : q ∈ l.zip (E.atL l)) : q.1 ∈ l /\ q.2 <= 2000000 := by
 obtain ⟨i, hi, rfl⟩ := List.mem_iff_getElem.1 hq
 rw [zip_len] at hi
 have h1 := zip_get (E := E) hi
 rw [List.getElem?_eq_getElem (by rw [zip_len]; exact hi)] at h1
 replace h1 := Option.some.inj h1
 rw [h1]
 have h2 := fin_bound ((E.sizes l).take i) 0 fun s hs => sizes_small hE h s (List.mem_of_mem_take hs)
 have h3 : ((E.sizes l).take i).length <= 128 := by
  rw [List.length_take]
  have : (E.sizes l).length = l.length := by unfold L.Env.sizes; simp
  have := h.1
  omega
 refine ⟨List.getElem_mem hi, ?_⟩
 have h4 : ∀ n, L.up n <= n + 3 := fun n => by unfold L.up; omega
 have := h4 (L.fin ((E.sizes l).take i) 0)
 simp only
 omega
theorem plc_is (hE : EnvOk E) {l : List L.Spot} (h : L.ListOk E l) {w : World} {B : Nat -> Prop} : ∀ a ∈ E.places l, plcR.is w B a (plcC a) := by
 intro a ha
 unfold L.Env.places at ha
 obtain ⟨q, hq, rfl⟩ := List.mem_map.1 ha
 obtain ⟨h1, h2⟩ := at_small hE h hq
 obtain ⟨c, hc⟩ := Option.isSome_iff_exists.1 (h.2.2 _ h1).2
 obtain ⟨m, _, h4⟩ := L.sec_ok hE.units hc
 unfold C.secB C.kindB at h4
 simp only [Bool.and_eq_true, Bool.or_eq_true, decide_eq_true_eq] at h4
 have h5 := sym_small hE (sec_sym (h.2.2 _ h1).2)
 have h6 := name_small hE q.1.1
 have h7 := (rels_few hE hc).2
 refine ⟨_, _, rfl, ⟨rfl, by simp only; omega⟩, _, _, rfl, ⟨rfl, by simp only; omega⟩, _, _, rfl, ⟨rfl, ?_⟩, _, _, rfl, ⟨rfl, wf_nat (by omega)⟩, rfl, wf_nat ?_⟩
 ·rw [L.sec_is hc]
  rcases h4.1.1 with h | h
  ·simp only [h.1]; decide
  ·simp only [h.1]; decide
 ·rw [L.sec_is hc]
  omega
theorem rel_small (hE : EnvOk E) {p : L.Spot} (h : (E.sec? p).isSome = true) {r : C.Rel} (hr : r ∈ E.rels p) : 0 <= r.1 /\ r.1 <= 8192 /\ r.2.size <= 9000000 := by
 obtain ⟨c, hc⟩ := Option.isSome_iff_exists.1 h
 have h1 := L.rel_ok hE.units h hr
 have h2 := (rels_few hE hc).2
 have h3 : (E.data p).length = c.2.1.size := by unfold L.Env.data; rw [L.sec_is hc]; simp
 rw [h3] at h1
 have h4 := sym_small hE h1.1
 exact ⟨h1.2.1, by omega, h4⟩
theorem fix_is (hE : EnvOk E) {l : List L.Spot} (h : L.ListOk E l) {w : World} {B : Nat -> Prop} : ∀ a ∈ E.fixes l, (intR .i64).is w B a (intC a) := by
 intro a ha
 unfold L.Env.fixes at ha
 obtain ⟨q, hq, hx⟩ := List.mem_flatMap.1 ha
 obtain ⟨h1, h2⟩ := at_small hE h hq
 unfold L.fixF at hx
 obtain ⟨r, hr, he⟩ := List.mem_filterMap.1 hx
 have h3 := rel_small hE (h.2.2 _ h1).2 hr
 refine ⟨rfl, ?_⟩
 split at he
 ·cases he
  exact wf_int (by omega) (by omega)
 ·cases he
theorem imp_is (hE : EnvOk E) {l : List L.Spot} (h : L.ListOk E l) (hL : ∀ m ∈ E.libs, m.1.size <= 9223372036854775807) {w : World} {B : Nat -> Prop} : ∀ a ∈ E.imps l, impR.is w B a (impC a) := by
 intro a ha
 unfold L.Env.imps at ha
 obtain ⟨q, hq, hx⟩ := List.mem_flatMap.1 ha
 obtain ⟨h1, h2⟩ := at_small hE h hq
 unfold L.impF at hx
 obtain ⟨r, hr, he⟩ := List.mem_filterMap.1 hx
 have h3 := rel_small hE (h.2.2 _ h1).2 hr
 split at he
 ·rename_i j _
  cases he
  refine ⟨_, _, rfl, ⟨rfl, ?_⟩, _, _, rfl, ⟨rfl, by simp only; omega⟩, rfl, wf_int (by simp only; omega) (by simp only; omega)⟩
  cases hj : E.libs[j]? with
  | none => exact Nat.zero_le _
  | some m => exact hL m (List.mem_of_getElem? hj)
 ·cases he
end
theorem word_byte (v t : Nat) (ht : t < 4) : ((L.word v).getD t 0).toNat = v / 2 ^ (8 * t) % 256 := by
 match t, ht with
 | 0, _ => simp [L.word]
 | 1, _ => simp [L.word]
 | 2, _ => simp [L.word]
 | 3, _ => simp [L.word]
theorem putAt_succ (l : C.Bs) (a v t : Nat) (ht : t < 4) (hl : a + 4 <= l.length) : (L.putAt l a ((L.word v).take t)).set (a + t) ((L.word v).getD t 0) = L.putAt l a ((L.word v).take (t + 1)) := by
 have hw : (L.word v).length = 4 := rfl
 have h1 : (L.word v).take (t + 1) = (L.word v).take t ++ [(L.word v).getD t 0] := by
  rw [List.take_succ_eq_append_getElem (by omega)]
  simp [List.getD, List.getElem?_eq_getElem (show t < (L.word v).length by omega)]
 have h2 : ((L.word v).take t).length = t := by rw [List.length_take]; omega
 rw [h1]
 generalize (L.word v).take t = d at h2
 generalize (L.word v).getD t 0 = b
 subst h2
 unfold L.putAt
 rw [List.set_append, if_neg (by rw [List.length_take]; omega), List.length_take, show a + d.length - min a l.length = d.length by omega, List.set_append, if_neg (by omega), Nat.sub_self]
 have h3 : l.drop (a + d.length) = l[a + d.length]'(by omega) :: l.drop (a + d.length + 1) := (List.drop_eq_getElem_cons (by omega))
 rw [h3, List.set_cons_zero]
 simp [Nat.add_assoc]
theorem putAt_none (l : C.Bs) (a : Nat) : L.putAt l a [] = l := by unfold L.putAt; simp
theorem putAt_len (l : C.Bs) (a : Nat) (d : C.Bs) (h : a + d.length <= l.length) : (L.putAt l a d).length = l.length := by
 unfold L.putAt
 simp
 omega
def Fresh (w w' : World) (b : Nat) : Prop := w.heap.size <= b /\ b < w'.heap.size
end Go.Proofs.YtfbhchpbflaphaaGreatDoor

namespace Go.Proofs.YtfbhchpbflaphaaGreatDoor
open Go.RowKit Go.Maps Go.ChangeMaps
theorem info69 : (Tryz.prog.info? 69).map (fun i => (i.zero, i.size, i.bytes)) = some (some (.agg #[.string ⟨#[]⟩, .slice none 0 0, .slice none 0 0]), 3, 64) := by kernel_rfl
theorem mem_one : ∀ (w : World) (S : Nat -> Prop) (a : C.Mem) (us : List Value), memR.is w S a us -> ∀ u ∈ us, u.oneCell' = true := by
 rintro w S a us ⟨x, y, rfl, ⟨rfl, _⟩, x2, y2, rfl, ⟨SA, sc, rfl, _⟩, SB, sd, rfl, _⟩ u hu
 simp only [List.cons_append, List.nil_append, List.mem_cons, List.not_mem_nil, or_false] at hu
 rcases hu with rfl | rfl | rfl <;> rfl
structure NlAt (w : World) (g bk bi : Nat) (vl : Value) (no : Int) (n : Nat) (l : List C.Mem) (v : Value) (wr : World) : Prop where
 ext : Ext w wr
 row : LRow wr g v vl (.slice none 0 0) (.slice none 0 0) no 0 0 bk bi
 own : OwnP memR (Old w) 69 wr w.heap.size v n l
 mkn : MapF Tryz.prog wr bk fun _ => none
 mi : MapG Tryz.prog 162 litP DomP wr bi 0 fun _ => none
 off : ∀ b, v.ownBlock = some b -> b ≠ g /\ b ≠ bk /\ b ≠ bi
 low : w.heap.size <= g /\ w.heap.size <= bk /\ w.heap.size <= bi /\ g ≠ bk /\ g ≠ bi /\ bk ≠ bi
theorem NlAt.ext' {w wr W : World} {g bk bi : Nat} {vl : Value} {no : Int} {n : Nat} {l : List C.Mem} {v : Value} (h : NlAt w g bk bi vl no n l v wr) (he : Ext wr W) : NlAt w g bk bi vl no n l v W where
 ext := h.ext.trans he
 row := h.row.tch (he.tch fun _ => False) fun h => h
 own := h.own.ext he fun _ hb => Nat.lt_of_lt_of_le hb h.ext.size
 mkn := h.mkn.ext he
 mi := h.mi.ext he
 off := h.off
 low := h.low
theorem NlAt.pushed {w a d : World} {g bk bi : Nat} {vl : Value} {no : Int} {n : Nat} {l : List C.Mem} {v : Value} (h : NlAt w g bk bi vl no n l v a) {v' : Value} {m : Nat} {l' : List C.Mem} (ho : OwnP memR (Old w) 69 d w.heap.size v' m l') (hg : a.grownBy d v.ownBlock)
 (hv : v'.ownBlock = v.ownBlock ∨ ∃ i, v'.ownBlock = some i /\ a.heap.size <= i /\ i < d.heap.size) :
 NlAt w g bk bi vl no m l' v' (d.setCell ⟨g, 0, none⟩ v') /\ d.cell? ⟨g, 0, none⟩ = some v /\ d.frozen? ⟨g, 0, none⟩ = false := by
 have hT : Tch (fun i => v.ownBlock = some i) a d := ⟨hg.os, hg.tape, hg.output, hg.size, fun i hi hx => hg.block i hi fun e => hx e.symm⟩
 have hr := h.row.tch hT fun e => (h.off g e).1 rfl
 have hS : Tch (fun i => i = g) d (d.setCell ⟨g, 0, none⟩ v') := grown_tch (grownBy_setCell d ⟨g, 0, none⟩ v')
 have hne : ∀ b, v'.ownBlock = some b -> b ≠ g /\ b ≠ bk /\ b ≠ bi := by
  intro b hb
  rcases hv with e | ⟨i, e, h1, _⟩
  ·exact h.off b (e.symm.trans hb)
  ·rw [e] at hb
   cases hb
   have k1 := h.row.lt
   have k2 := h.mkn.lt
   have k3 := h.mi.lt
   exact ⟨by omega, by omega, by omega⟩
 refine ⟨?_, hr.c0, hr.frozen 0⟩
 exact {
  ext := by
   have h1 : Tch (fun _ => False) w a := h.ext.tch _
   have h2 := h1.trans' hT fun i hi e => absurd hi (by have := (h.own.lt e).1; omega)
   exact (h2.trans' hS fun i hi e => absurd hi (by have := h.low.1; omega)).ext fun _ _ h => h
  row := hr.set0 v'
  own := ho.tch hS (fun b hb e => (hne b hb).1 e) fun b hb => ⟨Nat.lt_of_lt_of_le (Nat.lt_of_lt_of_le hb h.ext.size) hg.size, fun e => absurd h.low.1 (by have : b < w.heap.size := hb; omega)⟩
  mkn := (h.mkn.tch hT fun e => (h.off bk e).2.1 rfl).tch hS fun e => h.low.2.2.2.1 e.symm
  mi := (h.mi.tch hT fun e => (h.off bi e).2.2 rfl).tch hS fun e => h.low.2.2.2.2.1 e.symm
  off := hne
  low := h.low }
def RetOwnM (w : World) (n : Nat) (l : List C.Mem) (e : Ending) (w' : World) : Prop := ∃ v, e = .returned v /\ OwnP memR (Old w) 69 w' w.heap.size v n l /\ Ext w w'
set_option maxRecDepth 8000 in
set_option maxHeartbeats 2000000 in
theorem cloneM_any (t : List C.Mem) (A : Option Addr) (c n : Nat) (w : World) (hn : n = t.length) (hA : SliceAt memR w (Old w) A c t) (hl : n <= 100000) : Calls Tryz.prog 30 #[.slice A n c] w (RetOwnM w n t) := by
 obtain ⟨i9, hi9, hz9, hz91, hz92⟩ := info_parts info69
 have HN := Lib.hid hn
 have HA := Lib.hid hA
 have HL := Lib.hid hl
 cases A with
 | none =>
  have ht : t = [] := by
   by_cases h : t = []
   ·exact h
   ·obtain ⟨b, off, e, _⟩ := hA.2.2 h; cases e
  subst ht
  obtain rfl : n = 0 := hn
  clear hA
  have q22 : ∀ W : World, (binOp .eql 22 (.slice none 0 c) (.slice none 0 0)).run Tryz.prog W = .ok (.bool true) W := fun W => Lib.run_eql_slice_nil W _ _ none 0 c 0 0 Tryz.underlying22
  go_enter Tryz.func30, Tryz.ntmps30
  go_wp2_with fail
  go_ret
  exact ⟨_, rfl, OwnP.nil _ _ _ _ _, Ext.refl _⟩
 | some ad =>
  obtain ⟨b, off, sp⟩ := ad
  clear hA hn
  have q22 : ∀ W : World, (binOp .eql 22 (.slice (some ⟨b, off, sp⟩) n c) (.slice none 0 0)).run Tryz.prog W = .ok (.bool false) W := fun W => Lib.run_eql_slice_nil W _ _ (some ⟨b, off, sp⟩) n c 0 0 Tryz.underlying22
  have hS : ∀ k, Old w k -> k < (w.alloc (.cells #[] 69)).heap.size /\ (Value.slice (some ⟨w.heap.size, 0, none⟩) 0 0).ownBlock ≠ some k := fun k hk => ⟨Nat.lt_of_lt_of_le hk ((Ext.refl w).alloc _).size, fun e => by have := Option.some.inj e; have h2 : k < w.heap.size := hk; simp only at this; omega⟩
  go_enter Tryz.func30, Tryz.ntmps30
  go_wp2_with (at_builtin; refine wpList_append_share rfl (.tmp 5) (.tmp 6) 22 rfl Tryz.underlying22 hi9 hz9 hz91 hz92 rfl (by decide) mem_one rfl (OwnP.empty w _ rfl) t (some ⟨b, off, sp⟩) n c rfl HN.out (HA.out.tch (((Ext.refl w).alloc _).tch fun _ => False) fun k hk => ⟨hk, fun h => h⟩) (by unfold maxLen; omega) (by omega) ((Ext.refl w).alloc _).size hS ?_; intro v' w' hown hg hv)
  go_ret
  rw [Nat.zero_add, List.nil_append] at hown
  have hT : Tch (fun i => i = w.heap.size) (w.alloc (.cells #[] 69)) w' := grown_tch hg
  exact ⟨_, rfl, hown, ((((Ext.refl w).alloc _).tch fun _ => False).trans' hT fun i hi e => absurd hi (by omega)).ext fun _ _ h => h⟩
theorem full_is (p n : ByteArray) : p ++ (⟨#[33]⟩ : ByteArray) ++ n = L.full p n := by
 apply bytes_inj
 unfold L.full
 simp
theorem memsOf_succ {sh : List L.Shelf} {i : Nat} (hi : i < sh.length) : L.memsOf (sh.take (i + 1)) = L.memsOf (sh.take i) ++ sh[i].2.map fun m => (L.full sh[i].1 m.1, m.2) := by
 rw [List.take_succ_eq_append_getElem hi]
 unfold L.memsOf
 rw [List.flatMap_append]
 simp
theorem memsOf_le {sh : List L.Shelf} {i : Nat} (hi : i < sh.length) : (L.memsOf (sh.take i)).length + sh[i].2.length <= (L.memsOf sh).length := by
 have h1 := congrArg List.length (memsOf_succ hi)
 rw [List.length_append, List.length_map] at h1
 have h2 : L.memsOf sh = L.memsOf (sh.take (i + 1)) ++ L.memsOf (sh.drop (i + 1)) := by
  unfold L.memsOf
  rw [<- List.flatMap_append, List.take_append_drop]
 have h3 := congrArg List.length h2
 rw [List.length_append] at h3
 omega
def RetNew (w : World) (E : L.Env) (e : Ending) (w' : World) : Prop :=
 Ext w w' /\ ∃ (g : Nat) (S X : Nat -> Prop) (k : LC), e = .returned (.pointer (some ⟨g, 0, none⟩)) /\ LinkAt w' S X w.heap.size g E ([], 0, 0) [] k /\ ∀ b, Old w b -> S b
end Go.Proofs.YtfbhchpbflaphaaGreatDoor
