/- The texts Ic Id Ie If La of the seat, joined. -/
import Derived.Test.YtfbhchpbflaphaaGreatDoorS13
import Derived.BigRegion
namespace Go.Proofs.YtfbhchpbflaphaaGreatDoor
open Go.RowKit Go.Maps Go.ChangeMaps
set_option maxRecDepth 8000 in
set_option maxHeartbeats 8000000 in
theorem Make_any (objs : List C.Mem) (sh : List L.Shelf) (libs : List L.Libr) (A B D : Option Addr) (a b d n m q : Nat) (w : World) (hn : n = objs.length) (hA : SliceAt memR w (Old w) A a objs) (hm : m = sh.length) (hB : SliceAt shelfR w (Old w) B b sh) (hq : q = libs.length) (hD : SliceAt librR w (Old w) D d libs)
 (hC : CaseOk objs sh libs) : Calls Tryz.prog 51 #[.slice A n a, .slice B m b, .slice D q d] w (RetMk w (.slice A n a) (.slice D q d) (L.validB okN okP objs sh libs) (L.memsOf sh)) := by
 obtain ⟨i0, hi0, hz0, hz1, hz2⟩ := info_parts str_info
 obtain ⟨i9, hi9, hz9, hz91, hz92⟩ := info_parts info69
 have hm10 : m <= 10 := by have := hC.ns; omega
 have hq50 : q <= 50 := by have := hC.nl; omega
 have hml : (L.memsOf sh).length <= 550 := by
  have h1 := hC.few
  have h2 : (L.envOf objs sh libs).units.length = objs.length + (L.memsOf sh).length := by unfold L.Env.units L.envOf; simp
  omega
 have hv := valid_make (objs := objs) (sh := sh) (libs := libs)
 have HCM := Lib.hid (fun W (e : Ext w W) => CheckMembers_any objs A a n W hn (hA.ext e) hC.mems)
 obtain ⟨V, hV⟩ : ∃ V, V = L.validB okN okP objs sh libs := ⟨_, rfl⟩
 rw [<- hV] at hv ⊢
 obtain ⟨R0, hR0⟩ : ∃ R0, R0 = C.memsB okN okP objs := ⟨_, rfl⟩
 rw [<- hR0] at hv HCM
 have FO : Hid (R0 = false -> V = false) := fun h => by
  rw [Bool.eq_false_iff]
  intro h'
  have := (hv.1 h').1.2.2
  rw [h] at this
  cases this
 have FS : Hid (∀ i (hi : i < sh.length), ¬ shGood sh i hi -> V = false) := fun i hi h => by
  rw [Bool.eq_false_iff]
  intro h'
  exact h ((hv.1 h').2.1 i hi)
 have FL : Hid (∀ i (hi : i < libs.length), ¬ lbGood libs i hi -> V = false) := fun i hi h => by
  rw [Bool.eq_false_iff]
  intro h'
  exact h ((hv.1 h').2.2 i hi)
 have FE : Hid (R0 = true -> (∀ i (h : i < sh.length), shGood sh i h) -> (∀ i (h : i < libs.length), lbGood libs i h) -> V = true) := fun h1 h2 h3 => hv.2 ⟨⟨by omega, by omega, h1⟩, h2, h3⟩
 have HM := Lib.hid hm
 have HB := Lib.hid hB
 have HQ := Lib.hid hq
 have HD := Lib.hid hD
 have HSZ := Lib.hid hC.shelves
 have HLZ := Lib.hid hC.lbs
 have HML := Lib.hid hml
 obtain ⟨W1, hW1⟩ : ∃ W1, W1 = (w.alloc (.cells #[.slice none 0 0, .slice none 0 0, .slice none 0 0] 109)).alloc (.cells #[.slice A n a, .slice none 0 0, .slice D q d] 109) := ⟨_, rfl⟩
 have hsz : (w.alloc (.cells #[.slice none 0 0, .slice none 0 0, .slice none 0 0] 109)).heap.size = w.heap.size + 1 := by simp
 have H0 : Hid (MkAt w (.slice A n a) (.slice D q d) (.slice none 0 0) 0 [] (.slice none 0 0) 0 [] W1) := {
  ext := by rw [hW1]; exact ((Ext.refl w).alloc _).alloc _
  res := by rw [hW1]; exact (((Ext.refl (w.alloc _)).alloc _).block _ (by simp)).trans (heap_alloc_new w _)
  row := by rw [hW1, <- hsz]; exact heap_alloc_new _ _
  own := OwnP.nil _ _ _ _ _
  pth := OwnS.nil _ _
  off := fun b hb => by simp [Value.ownBlock] at hb }
 have HW1 := Lib.hid hW1
 clear hn hA hm hB hq hD hC hv hV hR0 hml hW1 hsz
 go_enter Tryz.func51, Tryz.ntmps51
 go_upto_region 2 with (fail)
 rw [<- HW1.out]
 go_wp2_with fail
 refine (HCM.out _ H0.out.ext).mono ?_
 rintro e w2 ⟨rfl, e2⟩
 have HK0 := Lib.hid (H0.out.ext' e2)
 clear e2
 cases R0 with
 | false =>
  have HVB := Lib.hid (FO.out rfl)
  obtain ⟨⟨r0, r1, r2⟩, ⟨f0, f1, f2⟩, m0, m1, m2⟩ := mk_cells HK0.out
  obtain ⟨MA, mc, hMA, _, _⟩ := HK0.out.own.form
  first | subst hMA | clear hMA
  go_wp2_with fail
  rw [HVB.out]
  exact ret_mk rfl HK0.out rfl rfl rfl (fun h => by cases h)
 | true =>
  go_wp2_with fail
  go_loopw [9, 35] (fun pv i wr => ∃ (k nk : Nat) (mv : Value), k <= m /\ i = .int .i64 (k : Int) /\ Hid ((∀ i (h : i < sh.length), i < k -> shGood sh i h) /\ nk = (L.memsOf (sh.take k)).length /\ MkAt w (.slice A n a) (.slice D q d) pv k ((sh.take k).map fun s => nmB s.1) mv nk (L.memsOf (sh.take k)) wr)) (fun _ i _ => m - (intOf i).toNat)
  case atStart => exact ⟨0, 0, _, Nat.zero_le _, rfl, fun _ _ h => absurd h (Nat.not_lt_zero _), rfl, HK0.out⟩
  case round =>
   obtain ⟨k, nk, mv, hk, rfl, HK⟩ := hrel
   obtain ⟨W0, hW0⟩ : ∃ W0, W0 = wr := ⟨_, rfl⟩
   subst hW0
   by_cases hlt : k < m
   ·have hkl : k < sh.length := by rw [<- HM.out]; exact hlt
    obtain ⟨ub, uo, SA, sc, rfl, hbo, hps, hSA, u0, u1⟩ := shelf_get (HB.out.ext HK.out.2.2.ext) hkl
    obtain ⟨⟨hz1', hz2', hz3'⟩, hz4'⟩ := HSZ.out _ (List.getElem_mem hkl)
    have hfs := FS.out k hkl
    have hgd : shGood sh k hkl ↔ (¬ nmB sh[k].1 ∈ (sh.take k).map fun s => nmB s.1) /\ okP sh[k].1 = true /\ C.memsB okN okP sh[k].2 = true := Iff.rfl
    have hon : shGood sh k hkl -> ∀ i (h : i < sh.length), i < k + 1 -> shGood sh i h := fun h i hi hik => by
     by_cases e : i = k
     ·cases e; exact h
     ·exact HK.out.1 i hi (by omega)
    have hpt : ((sh.take (k + 1)).map fun s => nmB s.1) = ((sh.take k).map fun s => nmB s.1) ++ [nmB sh[k].1] := by rw [List.take_succ_eq_append_getElem hkl, List.map_append]; rfl
    have hle := memsOf_le hkl
    have hsu := memsOf_succ hkl
    rw [hgd] at hfs hon
    obtain ⟨p, hp⟩ : ∃ p, p = sh[k].1 := ⟨_, rfl⟩
    obtain ⟨ms, hms⟩ : ∃ ms, ms = sh[k].2 := ⟨_, rfl⟩
    obtain ⟨sm, hsm⟩ : ∃ sm, sm = ms.length := ⟨_, rfl⟩
    obtain ⟨ns, hns⟩ : ∃ ns, ns = (sh.take k).map fun s => nmB s.1 := ⟨_, rfl⟩
    rw [<- hp] at hfs hon hpt hsu u0 hz1'
    rw [<- hms] at hfs hon hsu hle u1 hSA hz2'
    rw [<- hsm] at hle u1
    rw [<- hns] at hfs hon hpt
    have HPT := Lib.hid hpt
    have HSU := Lib.hid hsu
    have HSM := Lib.hid hsm
    have HFS := Lib.hid hfs
    have HON := Lib.hid hon
    have HLE := Lib.hid hle
    have HNK := Lib.hid HK.out.2.1
    have HA0 : Hid (MkAt w (.slice A n a) (.slice D q d) u9 k ns mv nk (L.memsOf (sh.take k)) W0) := by rw [hns]; exact HK.out.2.2
    have HZ2 := Lib.hid hz2'
    have HPS := Lib.hid hz1'
    have HSW : Hid (SliceAt memR w (Old w) SA sc ms) := by
     obtain ⟨ub2, uo2, SA2, sc2, h1, _, _, h2, _, h3⟩ := shelf_get HB.out hkl
     cases h1
     have h4 := HA0.out.ext.keepc h3
     rw [<- hms, <- hsm] at h4
     rw [u1] at h4
     cases h4
     rw [hms]
     exact h2
    obtain ⟨W4, hW4⟩ : ∃ W4, W4 = W0.alloc (.cells #[.string p, .slice SA sm sc] 83) := ⟨_, rfl⟩
    obtain ⟨eb, heb⟩ : ∃ eb, eb = W0.heap.size := ⟨_, rfl⟩
    have E4 : Ext W0 W4 := by rw [hW4]; exact (Ext.refl W0).alloc _
    have hb4 : W4.heap[eb]? = some (.cells #[.string p, .slice SA sm sc] 83 (0, 0)) := by rw [hW4, heb]; exact heap_alloc_new W0 _
    have t0 : W4.cell? ⟨eb, 0, none⟩ = _ := cell_of_row W4 eb 0 _ _ _ hb4
    have HA4 := Lib.hid (HA0.out.ext' E4)
    have HB4 := Lib.hid hb4
    have HEB := Lib.hid heb
    have HSA := Lib.hid (hSA.ext E4)
    have HPA := Lib.hid (fun W => refPath_any p W (by omega))
    have hpe : pathL p.data.toList = okP p := rfl
    rw [hpe] at HPA
    have hebm : Hid (mv.ownBlock ≠ some eb /\ eb ≠ w.heap.size + 1) := ⟨fun e => by have := (HA0.out.own.lt e).2; rw [heb] at this; omega, by have := (hltA HA0.out.row); omega⟩
    clear hbo hps hSA hz1' hz2' hz3' hz4' hfs hgd hon hpt hle hsu hp hms hsm hns HK E4 hb4 heb hpe hkl
    go_upto_region 8 with (fail)
    rw [<- hW4, <- HEB.out]
    clear hW4 u0 u1
    go_wp2_with fail
    refine (HPA.out _).mono ?_
    rintro e w5 ⟨rfl, e5⟩
    have HA5 := Lib.hid (HA4.out.ext' e5)
    have hb5 := (e5.block _ (hltA HB4.out)).trans HB4.out
    have HB5 := Lib.hid hb5
    have HE5 := Lib.hid e5
    have t0' : w5.cell? ⟨eb, 0, none⟩ = _ := cell_of_row w5 eb 0 _ _ _ hb5
    have t1' : w5.cell? ⟨eb, 1, none⟩ = _ := cell_of_row w5 eb 1 _ _ _ hb5
    clear e5 hb5 t0
    rcases Bool.eq_false_or_eq_true (okP p) with hp | hp
    ·rw [hp, show pathErr true = 0 from rfl]
     have HHS := Lib.hid (Has_own ns u9 k _ p w5 HA5.out.pth (by omega))
     by_cases hin : p.data.toList ∈ ns
     ·have HVB := Lib.hid (HFS.out (fun h => h.1 hin))
      rw [decide_eq_true hin] at HHS
      clear hin hp
      go_wp2_with fail
      refine HHS.out.mono ?_
      rintro e w6 ⟨rfl, rfl⟩
      obtain ⟨⟨r0, r1, r2⟩, ⟨f0, f1, f2⟩, m0, m1, m2⟩ := mk_cells HA5.out
      obtain ⟨MA, mc, hMA, _, _⟩ := HA5.out.own.form
      first | subst hMA | clear hMA
      go_wp2_with fail
      rw [HVB.out]
      exact ret_mk rfl HA5.out rfl rfl rfl (fun h => by cases h)
     ·rw [decide_eq_false hin] at HHS
      have HIN := Lib.hid hin
      have HP := Lib.hid hp
      clear hin hp
      go_wp2_with fail
      refine HHS.out.mono ?_
      rintro e w6 ⟨rfl, rfl⟩
      have HCK := Lib.hid (CheckMembers_any ms SA sc sm w5 HSM.out (HSA.out.ext HE5.out) HZ2.out)
      go_wp2_with fail
      refine HCK.out.mono ?_
      rintro e w6 ⟨rfl, e6⟩
      have HA6 := Lib.hid (HA5.out.ext' e6)
      have hb6 := (e6.block _ (hltA HB5.out)).trans HB5.out
      have HSA6 := Lib.hid (HSA.out.ext (HE5.out.trans e6))
      have z0 : w6.cell? ⟨eb, 0, none⟩ = _ := cell_of_row w6 eb 0 _ _ _ hb6
      have HB6 := Lib.hid hb6
      clear e6 hb6 t0' t1'
      rcases Bool.eq_false_or_eq_true (C.memsB okN okP ms) with hc | hc
      ·rw [hc]
       have H9 := Lib.hid (HON.out ⟨HIN.out, HP.out, hc⟩)
       clear hc
       have hown := HA6.out.pth.2
       have hbs : w.heap.size + 2 <= w6.heap.size := (hltA HA6.out.row)
       have hk10 : k <= 10 := by omega
       go_upto_region 11 with (at_builtin; refine wpList_append_ownAt _ rfl (.tmp 56) (.tmp 59) 36 rfl (w.heap.size + 2) 9 i0 (.string ⟨#[]⟩) 1 16 Tryz.underlying36 hi0 hz0 hz1 hz2 rfl (by decide) _ _ _ rfl (hown.alloc _) ⟨w6.heap.size, 0, none⟩ 1 1 ([p.data.toList].map encStr) rfl rfl (cells_new_str _ _ _ rfl) (enc_one _) (by unfold maxLen; omega) (by omega) (by simp; omega) (by decide) ?_; intro v7 w7 hown7 hg7 _ hv7)
       have hO7 : OwnS w7 (w.heap.size + 2) v7 (k + 1) (ns ++ [p.data.toList]) := ⟨by have := HA6.out.pth.1; simp; omega, by rw [List.map_append]; exact hown7⟩
       have HA6' := HA6.out.ext' ((Ext.refl w6).alloc (.cells #[.string p] 9))
       have hA7 := HA6'.path hO7 hg7 hv7
       have hT7 : Tch (fun i => u9.ownBlock = some i) w6 w7 := (((Ext.refl w6).alloc (.cells #[.string p] 9)).tch _).trans ⟨hg7.os, hg7.tape, hg7.output, hg7.size, fun i hi hx => hg7.block i hi fun e => hx e.symm⟩
       have hu9 : ∀ b, u9.ownBlock = some b -> w.heap.size + 2 <= b /\ b < eb := fun b hb => by
        have h1 := HA0.out.pth.2.lt hb
        have h2 := HEB.out
        exact ⟨h1.1, by omega⟩
       have hb7 := (hT7.block _ (hltA HB6.out) (fun e => by have := (hu9 _ e).2; omega)).trans HB6.out
       have z0' : w7.cell? ⟨eb, 0, none⟩ = _ := cell_of_row w7 eb 0 _ _ _ hb7
       have z1' : w7.cell? ⟨eb, 1, none⟩ = _ := cell_of_row w7 eb 1 _ _ _ hb7
       have HSA7 : Hid (SliceAt memR w (Old w) SA sc ms) := HSW.out
       have HJ0 : Hid (nk + 0 = (L.memsOf (sh.take k)).length + 0 /\ MkAt w (.slice A n a) (.slice D q d) v7 (k + 1) (ns ++ [p.data.toList]) mv (nk + 0) (L.memsOf (sh.take k) ++ (ms.take 0).map fun m => (L.full p m.1, m.2)) w7 /\ w7.cell? ⟨eb, 0, none⟩ = some (.string p) /\ mv.ownBlock ≠ some eb) := by
        refine ⟨by rw [HNK.out], ?_, z0', hebm.out.1⟩
        rw [List.take_zero, List.map_nil, List.append_nil]
        exact hA7
       clear hown hbs hown7 hg7 hv7 hO7 HA6' hA7 hT7 hu9 hb7 z0 z0'
       go_wp2_with fail
       clear z1'
       go_loopw [64] (fun i wr => ∃ (j : Nat) (mv' : Value), j <= sm /\ i = .int .i64 (j : Int) /\ Hid (nk + j = (L.memsOf (sh.take k)).length + j /\ MkAt w (.slice A n a) (.slice D q d) v7 (k + 1) (ns ++ [p.data.toList]) mv' (nk + j) (L.memsOf (sh.take k) ++ (ms.take j).map fun m => (L.full p m.1, m.2)) wr /\ wr.cell? ⟨eb, 0, none⟩ = some (.string p) /\ mv'.ownBlock ≠ some eb)) (fun i _ => sm - (intOf i).toNat)
       case atStart => exact ⟨0, mv, Nat.zero_le _, rfl, HJ0⟩
       case round =>
        obtain ⟨j, v', hj, rfl, HJ⟩ := hrel
        obtain ⟨V1, hV1⟩ : ∃ V1, V1 = wr := ⟨_, rfl⟩
        subst hV1
        by_cases hjl : j < sm
        ·have hjm : j < ms.length := by rw [<- HSM.out]; exact hjl
         obtain ⟨mb, mo, s, TA, tc, TB, td, rfl, hbo, hms, hss, hTA, hTB, m0, m1, m2⟩ := mem_getB HSA7.out hjm
         obtain ⟨tn, htn⟩ : ∃ tn, tn = ms[j].2.1.length := ⟨_, rfl⟩
         obtain ⟨un, hun⟩ : ∃ un, un = ms[j].2.2.length := ⟨_, rfl⟩
         rw [<- htn] at m1
         rw [<- hun] at m2
         have hszs := (HZ2.out _ (List.getElem_mem hjm)).1
         rw [hms] at hszs
         have htk : (ms.take (j + 1)).map (fun m => (L.full p m.1, m.2)) = (ms.take j).map (fun m => (L.full p m.1, m.2)) ++ [(L.full p s, ms[j].2)] := by
          rw [List.take_succ_eq_append_getElem hjm, List.map_append, List.map_singleton, hms]
         have HTK := Lib.hid htk
         have hps := HPS.out
         have hJ := HJ.out.2.1.ext
         have m0' := hJ.keepc m0
         have m1' := hJ.keepc m1
         have m2' := hJ.keepc m2
         obtain ⟨mx, hmx⟩ : ∃ mx : C.Mem, mx = (L.full p s, ms[j].2) := ⟨_, rfl⟩
         rw [<- hmx] at HTK
         have hmem : memR.is w (Old w) mx [.string (L.full p s), .slice TA tn tc, .slice TB un td] := by
          rw [hmx]
          refine ⟨[.string (L.full p s)], _, rfl, ⟨rfl, ?_⟩, [.slice TA tn tc], _, rfl, ⟨TA, tc, by rw [htn], hTA⟩, TB, td, by rw [hun], hTB⟩
          unfold L.full
          have h1 : p.data.toList.length = p.size := by simp
          have h2 : s.data.toList.length = s.size := by simp
          show (ByteArray.mk _).data.size <= _
          simp only [List.size_toArray, List.length_append, List.length_cons, h1, h2]
          omega
         have HMEM := Lib.hid hmem
         obtain ⟨X4, hX4⟩ : ∃ X4, X4 = V1.alloc (.cells #[.string s, .slice TA tn tc, .slice TB un td] 69) := ⟨_, rfl⟩
         obtain ⟨cb, hcb⟩ : ∃ cb, cb = V1.heap.size := ⟨_, rfl⟩
         have F4 : Ext V1 X4 := by rw [hX4]; exact (Ext.refl V1).alloc _
         have hc4 : X4.heap[cb]? = some (.cells #[.string s, .slice TA tn tc, .slice TB un td] 69 (0, 0)) := by rw [hX4, hcb]; exact heap_alloc_new V1 _
         have HCB := Lib.hid hcb
         clear htk hmx hbo hms hTA hTB m0 m1 m2 hJ hcb htn hun hmem hjm
         go_upto_region 14 with (fail)
         rw [<- hX4, <- HCB.out]
         clear hX4 m0' m1' m2'
         have HI4 := Lib.hid (HJ.out.2.1.ext' F4)
         have z0 : X4.cell? ⟨w.heap.size + 1, 1, none⟩ = some v' := cell_of_row X4 _ 1 _ _ _ HI4.out.row
         have s0 := F4.keepc HJ.out.2.2.1
         have y0 : X4.cell? ⟨cb, 0, none⟩ = _ := cell_of_row X4 cb 0 _ _ _ hc4
         have y1 : X4.cell? ⟨cb, 1, none⟩ = _ := cell_of_row X4 cb 1 _ _ _ hc4
         have y2 : X4.cell? ⟨cb, 2, none⟩ = _ := cell_of_row X4 cb 2 _ _ _ hc4
         have E5 : Ext X4 (X4.alloc (.cells #[.string (p ++ (⟨#[33]⟩ : ByteArray) ++ s), .slice TA tn tc, .slice TB un td] 69)) := (Ext.refl X4).alloc _
         have HI5 := Lib.hid (HI4.out.ext' E5)
         have hs5 : ∀ j v, ([.string (L.full p s), .slice TA tn tc, .slice TB un td] : List Value)[j]? = some v -> (X4.alloc (.cells #[.string (p ++ (⟨#[33]⟩ : ByteArray) ++ s), .slice TA tn tc, .slice TB un td] 69)).cell? ((⟨X4.heap.size, 0, none⟩ : Addr).add j) = some v := by
          rw [full_is]
          intro j v hj
          rw [Addr.add_lit, Nat.zero_add]
          exact new_cells X4 [.string (L.full p s), .slice TA tn tc, .slice TB un td] 69 _ rfl j v hj
         have hbase5 : w.heap.size + 2 <= (X4.alloc (.cells #[.string (p ++ (⟨#[33]⟩ : ByteArray) ++ s), .slice TA tn tc, .slice TB un td] 69)).heap.size := Nat.le_trans (hltA HI5.out.row) (Nat.le_refl _)
         have hS5 : ∀ b, Old w b -> b < (X4.alloc (.cells #[.string (p ++ (⟨#[33]⟩ : ByteArray) ++ s), .slice TA tn tc, .slice TB un td] 69)).heap.size /\ v'.ownBlock ≠ some b := fun b hb => ⟨Nat.lt_of_lt_of_le hb (by omega), fun e => by have h1 := (HI5.out.own.lt e).1; have h2 : b < w.heap.size := hb; omega⟩
         have hF5 : Flat memR (X4.alloc (.cells #[.string (p ++ (⟨#[33]⟩ : ByteArray) ++ s), .slice TA tn tc, .slice TB un td] 69)) (Old w) [mx] [.string (L.full p s), .slice TA tn tc, .slice TB un td] := Flat.one (memR.keep HMEM.out (fun _ h => h) fun b hb => HI5.out.ext.block b hb)
         have hbd : nk + j + 1 <= 550 := by
          have h1 := HJ.out.1
          have h2 := HLE.out
          have h3 := HML.out
          omega
         go_wp2_with (at_builtin; refine wpList_append_cells rfl (.tmp 69) (.tmp 79) 22 rfl Tryz.underlying22 hi9 hz9 hz91 hz92 rfl (by decide) mem_one rfl HI5.out.own [mx] ⟨X4.heap.size, 0, none⟩ 1 1 rfl rfl (by decide) hF5 hs5 (by unfold maxLen; omega) (by omega) hbase5 hS5 ?_; intro v8 w8 hown8 hg8 hv8; obtain ⟨A8, c8, rfl, _⟩ := hown8.form; obtain ⟨hI8, x8, xf⟩ := HI5.out.memb hown8 hg8 hv8)
         have hT8 : Tch (fun i => v'.ownBlock = some i) V1 w8 := ((F4.trans E5).tch _).trans ⟨hg8.os, hg8.tape, hg8.output, hg8.size, fun i hi hx => hg8.block i hi fun e => hx e.symm⟩
         have k0 : (w8.setCell ⟨w.heap.size + 1, 1, none⟩ (.slice A8 (nk + j + 1) c8)).cell? ⟨eb, 0, none⟩ = some (.string p) := by
          have h1 := hT8.keepc HJ.out.2.2.1 HJ.out.2.2.2
          exact (grown_tch (grownBy_setCell w8 ⟨w.heap.size + 1, 1, none⟩ (.slice A8 (nk + j + 1) c8))).keepc h1 (by show ¬ eb = w.heap.size + 1; exact hebm.out.2)
         have k1 : (Value.slice A8 (nk + j + 1) c8).ownBlock ≠ some eb := fun e => by
          rcases hv8 with h | ⟨i, h, h1, _⟩
          ·exact HJ.out.2.2.2 (h.symm.trans e)
          ·rw [h] at e
           cases e
           have h2 := World.block_lt_of_cell? V1 _ HJ.out.2.2.1
           have h3 := (F4.trans E5).size
           exact absurd h2 (by show ¬ eb < V1.heap.size; omega)
         have HI6 : Hid (nk + (j + 1) = (L.memsOf (sh.take k)).length + (j + 1) /\ MkAt w (.slice A n a) (.slice D q d) v7 (k + 1) (ns ++ [p.data.toList]) (.slice A8 (nk + j + 1) c8) (nk + (j + 1)) (L.memsOf (sh.take k) ++ (ms.take (j + 1)).map fun m => (L.full p m.1, m.2)) (w8.setCell ⟨w.heap.size + 1, 1, none⟩ (.slice A8 (nk + j + 1) c8)) /\ (w8.setCell ⟨w.heap.size + 1, 1, none⟩ (.slice A8 (nk + j + 1) c8)).cell? ⟨eb, 0, none⟩ = some (.string p) /\ (Value.slice A8 (nk + j + 1) c8).ownBlock ≠ some eb) := by
          refine ⟨by have := HJ.out.1; omega, ?_, k0, k1⟩
          rw [HTK.out]
          rw [List.append_assoc] at hI8
          exact hI8
         clear z0 s0 y0 y1 y2 E5 hs5 hbase5 hS5 hF5 hown8 hg8 hv8 hI8 x8 xf hT8 k0 k1 F4 hc4
         go_roundw
         case rel => exact ⟨j + 1, _, by omega, by go_num, HI6⟩
         case measure => simp [intOf]; omega
        ·obtain rfl : j = sm := by omega
         have htk : ms.take j = ms := List.take_of_length_le (by rw [HSM.out]; exact Nat.le_refl _)
         have HN' : Hid ((∀ i (h : i < sh.length), i < k + 1 -> shGood sh i h) /\ nk + j = (L.memsOf (sh.take (k + 1))).length /\ MkAt w (.slice A n a) (.slice D q d) v7 (k + 1) ((sh.take (k + 1)).map fun s => nmB s.1) v' (nk + j) (L.memsOf (sh.take (k + 1))) V1) := by
          have h := HJ.out.2.1
          rw [htk] at h
          refine ⟨H9.out, ?_, ?_⟩
          ·rw [HSU.out, List.length_append, List.length_map, HJ.out.1, HSM.out]
          ·rw [HSU.out, HPT.out]
           exact h
         clear htk HJ
         go_wp2_with fail
         exact ⟨⟨k + 1, nk + j, v', by omega, by go_num, HN'⟩, by simp [intOf]; omega⟩
      ·rw [hc]
       have HVB := Lib.hid (HFS.out (fun h => by rw [hc] at h; cases h.2.2))
       clear hc
       obtain ⟨⟨r0, r1, r2⟩, ⟨f0, f1, f2⟩, m0, m1, m2⟩ := mk_cells HA6.out
       obtain ⟨MA, mc, hMA, _, _⟩ := HA6.out.own.form
       first | subst hMA | clear hMA
       go_wp2_with fail
       rw [HVB.out]
       exact ret_mk rfl HA6.out rfl rfl rfl (fun h => by cases h)
    ·rw [hp, show pathErr false = 2 from rfl]
     have HVB := Lib.hid (HFS.out (fun h => by rw [hp] at h; cases h.2.1))
     clear hp
     obtain ⟨⟨r0, r1, r2⟩, ⟨f0, f1, f2⟩, m0, m1, m2⟩ := mk_cells HA5.out
     obtain ⟨MA, mc, hMA, _, _⟩ := HA5.out.own.form
     first | subst hMA | clear hMA
     go_wp2_with fail
     rw [HVB.out]
     exact ret_mk rfl HA5.out rfl rfl rfl (fun h => by cases h)
   ·obtain rfl : k = m := by omega
    have htk : sh.take k = sh := List.take_of_length_le (by rw [HM.out]; exact Nat.le_refl _)
    have hgs : ∀ i (h : i < sh.length), shGood sh i h := fun i hi => HK.out.1 i hi (by rw [HM.out]; exact hi)
    have HGS := Lib.hid hgs
    have HKK : Hid (MkAt w (.slice A n a) (.slice D q d) (.slice none 0 0) 0 ((libs.take 0).map fun s => nmB s.1) mv nk (L.memsOf sh) W0) := by
     have h := HK.out.2.2.fresh
     rw [htk] at h
     exact h
    clear htk hgs HK
    go_wp2_with fail
    go_loopw [9, 86] (fun pv i wr => ∃ (j : Nat), j <= q /\ i = .int .i64 (j : Int) /\ Hid ((∀ i (h : i < libs.length), i < j -> lbGood libs i h) /\ MkAt w (.slice A n a) (.slice D q d) pv j ((libs.take j).map fun s => nmB s.1) mv nk (L.memsOf sh) wr)) (fun _ i _ => q - (intOf i).toNat)
    case atStart => exact ⟨0, Nat.zero_le _, rfl, fun _ _ h => absurd h (Nat.not_lt_zero _), HKK.out⟩
    case round =>
     obtain ⟨j, hj, rfl, HJ⟩ := hrel
     obtain ⟨V0, hV0⟩ : ∃ V0, V0 = wr := ⟨_, rfl⟩
     subst hV0
     by_cases hjl : j < q
     ·have hql : j < libs.length := by rw [<- HQ.out]; exact hjl
      obtain ⟨lb, lo, rfl, hbo, hs, m0, vs, hbv, hc⟩ := lib_get (HD.out.ext HJ.out.2.ext) hql
      have hlz := (HLZ.out _ (List.getElem_mem hql)).1
      have hfs := FL.out j hql
      have hgd : lbGood libs j hql ↔ (¬ nmB libs[j].1 ∈ (libs.take j).map fun s => nmB s.1) /\ okP libs[j].1 = true /\ L.libB okN libs[j] = true := Iff.rfl
      have hon : lbGood libs j hql -> ∀ i (h : i < libs.length), i < j + 1 -> lbGood libs i h := fun h i hi hik => by
       by_cases e : i = j
       ·cases e; exact h
       ·exact HJ.out.1 i hi (by omega)
      have hpt : ((libs.take (j + 1)).map fun s => nmB s.1) = ((libs.take j).map fun s => nmB s.1) ++ [nmB libs[j].1] := by rw [List.take_succ_eq_append_getElem hql, List.map_append]; rfl
      rw [hgd] at hfs hon
      obtain ⟨l0, hl0⟩ : ∃ l0, l0 = libs[j] := ⟨_, rfl⟩
      obtain ⟨ns, hns⟩ : ∃ ns, ns = (libs.take j).map fun s => nmB s.1 := ⟨_, rfl⟩
      rw [<- hl0] at hfs hon hpt m0 hlz hbv hs
      rw [<- hns] at hfs hon hpt
      have HA0 : Hid (MkAt w (.slice A n a) (.slice (some ⟨lb, lo, none⟩) q d) u9 j ns mv nk (L.memsOf sh) V0) := by rw [hns]; exact HJ.out.2
      have HLB := Lib.hid (fun W (e : Ext V0 W) => rLibrary_any l0 vs W (hbv.keep (B' := Old W) (fun b hb => Nat.lt_of_lt_of_le hb e.size) fun b hb => e.block b hb) hlz)
      obtain ⟨LB, hLB⟩ : ∃ LB, LB = L.libB okN l0 := ⟨_, rfl⟩
      rw [<- hLB] at HLB hfs hon
      have hz1' := hlz.1
      obtain ⟨A1, c1, A2, c2, A3, c3, A4, c4, A5, c5, hvs, _⟩ := hbv.form
      obtain ⟨PL, hPL⟩ : ∃ PL, PL = l0.2.2.2.2.1.length := ⟨_, rfl⟩
      obtain ⟨FL0, hFL⟩ : ∃ FL0, FL0 = l0.2.2.2.2.2.1.length := ⟨_, rfl⟩
      obtain ⟨IL, hIL⟩ : ∃ IL, IL = l0.2.2.2.2.2.2.1.length := ⟨_, rfl⟩
      obtain ⟨XL, hXL⟩ : ∃ XL, XL = l0.2.2.2.2.2.2.2.1.length := ⟨_, rfl⟩
      obtain ⟨NL, hNL⟩ : ∃ NL, NL = l0.2.2.2.2.2.2.2.2.length := ⟨_, rfl⟩
      rw [<- hPL, <- hFL, <- hIL, <- hXL, <- hNL] at hvs
      obtain ⟨kd, hkd⟩ : ∃ kd, kd = l0.2.1 := ⟨_, rfl⟩
      obtain ⟨en, hen⟩ : ∃ en, en = l0.2.2.1 := ⟨_, rfl⟩
      obtain ⟨im, him⟩ : ∃ im, im = l0.2.2.2.1 := ⟨_, rfl⟩
      obtain ⟨p, hp0⟩ : ∃ p, p = l0.1 := ⟨_, rfl⟩
      rw [<- hkd, <- hen, <- him] at hvs
      rw [<- hp0] at hfs hon hpt m0 hz1' hs
      subst hvs
      have m1 : V0.cell? ⟨lb, lo + j * 9 + 1, none⟩ = some (.int .i64 kd) := hc 0 _ rfl
      have m2 : V0.cell? ⟨lb, lo + j * 9 + 1 + 1, none⟩ = some (.int .i64 en) := hc 1 _ rfl
      have m3 : V0.cell? ⟨lb, lo + j * 9 + 1 + 1 + 1, none⟩ = some (.string im) := hc 2 _ rfl
      have m4 : V0.cell? ⟨lb, lo + j * 9 + 1 + 1 + 1 + 1, none⟩ = some (.slice A1 PL c1) := hc 3 _ rfl
      have m5 : V0.cell? ⟨lb, lo + j * 9 + 1 + 1 + 1 + 1 + 1, none⟩ = some (.slice A2 FL0 c2) := hc 4 _ rfl
      have m6 : V0.cell? ⟨lb, lo + j * 9 + 1 + 1 + 1 + 1 + 1 + 1, none⟩ = some (.slice A3 IL c3) := hc 5 _ rfl
      have m7 : V0.cell? ⟨lb, lo + j * 9 + 1 + 1 + 1 + 1 + 1 + 1 + 1, none⟩ = some (.slice A4 XL c4) := hc 6 _ rfl
      have m8 : V0.cell? ⟨lb, lo + j * 9 + 1 + 1 + 1 + 1 + 1 + 1 + 1 + 1, none⟩ = some (.slice A5 NL c5) := hc 7 _ rfl
      have HFS := Lib.hid hfs
      have HON := Lib.hid hon
      have HPT := Lib.hid hpt
      obtain ⟨X4, hX4⟩ : ∃ X4, X4 = V0.alloc (.cells #[.string p, .int .i64 kd, .int .i64 en, .string im, .slice A1 PL c1, .slice A2 FL0 c2, .slice A3 IL c3, .slice A4 XL c4, .slice A5 NL c5] 86) := ⟨_, rfl⟩
      obtain ⟨eb, heb⟩ : ∃ eb, eb = V0.heap.size := ⟨_, rfl⟩
      have E4 : Ext V0 X4 := by rw [hX4]; exact (Ext.refl V0).alloc _
      have hb4 : X4.heap[eb]? = some (.cells #[.string p, .int .i64 kd, .int .i64 en, .string im, .slice A1 PL c1, .slice A2 FL0 c2, .slice A3 IL c3, .slice A4 XL c4, .slice A5 NL c5] 86 (0, 0)) := by rw [hX4, heb]; exact heap_alloc_new V0 _
      have t0 : X4.cell? ⟨eb, 0, none⟩ = _ := cell_of_row X4 eb 0 _ _ _ hb4
      have HA4 := Lib.hid (HA0.out.ext' E4)
      have HB4 := Lib.hid hb4
      have HEB := Lib.hid heb
      have HE4 := Lib.hid E4
      have HPA := Lib.hid (fun W => refPath_any p W (by omega))
      have hpe : pathL p.data.toList = okP p := rfl
      rw [hpe] at HPA
      clear hbo hs hlz hbv hc hfs hgd hon hpt hl0 hns hLB hz1' hPL hFL hIL hXL hNL hkd hen him hp0 E4 hb4 heb hpe HJ
      go_upto_region 21 with (fail)
      rw [<- hX4, <- HEB.out]
      clear hX4 m0 m1 m2 m3 m4 m5 m6 m7 m8
      go_wp2_with fail
      refine (HPA.out _).mono ?_
      rintro e w5 ⟨rfl, e5⟩
      have HA5 := Lib.hid (HA4.out.ext' e5)
      have hb5 := (e5.block _ (hltA HB4.out)).trans HB4.out
      have HB5 := Lib.hid hb5
      have HE5 := Lib.hid (HE4.out.trans e5)
      have t0' : w5.cell? ⟨eb, 0, none⟩ = _ := cell_of_row w5 eb 0 _ _ _ hb5
      clear e5 hb5 t0
      rcases Bool.eq_false_or_eq_true (okP p) with hp | hp
      ·rw [hp, show pathErr true = 0 from rfl]
       have HHS := Lib.hid (Has_own ns u9 j _ p w5 HA5.out.pth (by omega))
       by_cases hin : p.data.toList ∈ ns
       ·have HVB := Lib.hid (HFS.out (fun h => h.1 hin))
        rw [decide_eq_true hin] at HHS
        clear hin hp
        go_wp2_with fail
        refine HHS.out.mono ?_
        rintro e w6 ⟨rfl, rfl⟩
        obtain ⟨⟨r0, r1, r2⟩, ⟨f0, f1, f2⟩, m0, m1, m2⟩ := mk_cells HA5.out
        obtain ⟨MA, mc, hMA, _, _⟩ := HA5.out.own.form
        first | subst hMA | clear hMA
        go_wp2_with fail
        rw [HVB.out]
        exact ret_mk rfl HA5.out rfl rfl rfl (fun h => by cases h)
       ·rw [decide_eq_false hin] at HHS
        have HIN := Lib.hid hin
        have HP := Lib.hid hp
        clear hin hp
        go_wp2_with fail
        refine HHS.out.mono ?_
        rintro e w6 ⟨rfl, rfl⟩
        have t1 : w5.cell? ⟨eb, 1, none⟩ = _ := cell_of_row w5 eb 1 _ _ _ HB5.out
        have t2 : w5.cell? ⟨eb, 2, none⟩ = _ := cell_of_row w5 eb 2 _ _ _ HB5.out
        have t3 : w5.cell? ⟨eb, 3, none⟩ = _ := cell_of_row w5 eb 3 _ _ _ HB5.out
        have t4 : w5.cell? ⟨eb, 4, none⟩ = _ := cell_of_row w5 eb 4 _ _ _ HB5.out
        have t5 : w5.cell? ⟨eb, 5, none⟩ = _ := cell_of_row w5 eb 5 _ _ _ HB5.out
        have t6 : w5.cell? ⟨eb, 6, none⟩ = _ := cell_of_row w5 eb 6 _ _ _ HB5.out
        have t7 : w5.cell? ⟨eb, 7, none⟩ = _ := cell_of_row w5 eb 7 _ _ _ HB5.out
        have t8 : w5.cell? ⟨eb, 8, none⟩ = _ := cell_of_row w5 eb 8 _ _ _ HB5.out
        go_wp2_with fail
        refine (HLB.out _ HE5.out).mono ?_
        rintro e w6 ⟨rfl, e6⟩
        have HA6 := Lib.hid (HA5.out.ext' e6)
        have hb6 := (e6.block _ (hltA HB5.out)).trans HB5.out
        have z0 : w6.cell? ⟨eb, 0, none⟩ = _ := cell_of_row w6 eb 0 _ _ _ hb6
        clear e6 hb6 t0' t1 t2 t3 t4 t5 t6 t7 t8
        cases LB with
        | true =>
         have H9 := Lib.hid (HON.out ⟨HIN.out, HP.out, by trivial⟩)
         have hown := HA6.out.pth.2
         have hbs : w.heap.size + 2 <= w6.heap.size := (hltA HA6.out.row)
         go_wp2_with (at_builtin; refine wpList_append_ownAt _ rfl (.tmp 107) (.tmp 110) 36 rfl (w.heap.size + 2) 9 i0 (.string ⟨#[]⟩) 1 16 Tryz.underlying36 hi0 hz0 hz1 hz2 rfl (by decide) _ _ _ rfl (hown.alloc _) ⟨w6.heap.size, 0, none⟩ 1 1 ([p.data.toList].map encStr) rfl rfl (cells_new_str _ _ _ rfl) (enc_one _) (by unfold maxLen; omega) (by omega) (by simp; omega) (by decide) ?_; intro v7 w7 hown7 hg7 _ hv7)
         have hO7 : OwnS w7 (w.heap.size + 2) v7 (j + 1) (ns ++ [p.data.toList]) := ⟨by have := HA6.out.pth.1; simp; omega, by rw [List.map_append]; exact hown7⟩
         have HA6' := HA6.out.ext' ((Ext.refl w6).alloc (.cells #[.string p] 9))
         have HA7 := Lib.hid (HA6'.path hO7 hg7 hv7)
         have HJ7 : Hid ((∀ i (h : i < libs.length), i < j + 1 -> lbGood libs i h) /\ MkAt w (.slice A n a) (.slice (some ⟨lb, lo, none⟩) q d) v7 (j + 1) ((libs.take (j + 1)).map fun s => nmB s.1) mv nk (L.memsOf sh) w7) := ⟨H9.out, by rw [HPT.out]; exact HA7.out⟩
         clear hown hbs hown7 hg7 hv7 hO7 HA6' z0
         go_roundw
         case rel => exact ⟨j + 1, by omega, by go_num, HJ7⟩
         case measure => simp [intOf]; omega
        | false =>
         have HVB := Lib.hid (HFS.out (fun h => by cases h.2.2))
         obtain ⟨⟨r0, r1, r2⟩, ⟨f0, f1, f2⟩, m0, m1, m2⟩ := mk_cells HA6.out
         obtain ⟨MA, mc, hMA, _, _⟩ := HA6.out.own.form
         first | subst hMA | clear hMA
         go_wp2_with fail
         rw [HVB.out]
         exact ret_mk rfl HA6.out rfl rfl rfl (fun h => by cases h)
      ·rw [hp, show pathErr false = 2 from rfl]
       have HVB := Lib.hid (HFS.out (fun h => by rw [hp] at h; cases h.2.1))
       clear hp
       obtain ⟨⟨r0, r1, r2⟩, ⟨f0, f1, f2⟩, m0, m1, m2⟩ := mk_cells HA5.out
       obtain ⟨MA, mc, hMA, _, _⟩ := HA5.out.own.form
       first | subst hMA | clear hMA
       go_wp2_with fail
       rw [HVB.out]
       exact ret_mk rfl HA5.out rfl rfl rfl (fun h => by cases h)
     ·obtain rfl : j = q := by omega
      have hV : V = true := FE.out (by trivial) HGS.out fun i hi => HJ.out.1 i hi (by rw [HQ.out]; exact hi)
      have HVB := Lib.hid hV
      have HJ2 := Lib.hid HJ.out.2
      clear hV HJ
      obtain ⟨⟨r0, r1, r2⟩, ⟨f0, f1, f2⟩, m0, m1, m2⟩ := mk_cells HJ2.out
      obtain ⟨MA, mc, rfl, _, _⟩ := HJ2.out.own.form
      go_wp2_with fail
      rw [HVB.out]
      exact ret_mk rfl HJ2.out rfl rfl rfl (fun _ => rfl)
end Go.Proofs.YtfbhchpbflaphaaGreatDoor

namespace Go.Proofs.YtfbhchpbflaphaaGreatDoor
open Go.RowKit Go.Maps Go.ChangeMaps
abbrev Fnd := Int × Int × Int × Int × Int
def foundH (E : L.Env) : L.Hit -> Fnd × Int
 | .twice => ((0, 0, 0, 0, 0), 6)
 | .unknown => ((-1, -1, -1, (E.mems.length : Int), (E.libs.length : Int)), 8)
 | .unit u m => if m = 0 then (((u : Int), -1, -1, 0, 0), 0) else ((-1, ((m - 1 : Nat) : Int), -1, (m : Int), 0), 0)
 | .lib j => ((-1, -1, (j : Int), (E.mems.length : Int), ((j + 1 : Nat) : Int)), 0)
def hitO (E : L.Env) (x : ByteArray) : Option (Int × Int) -> L.Hit
 | none => .twice
 | some (e, w) => if 0 <= L.pick e w then .unit (L.pick e w).toNat 0 else L.later x E.objs.length E.mems E.libs
theorem hit_hitO (E : L.Env) (x : ByteArray) : L.hit E x = hitO E x (L.scanO x E.objs 0 (-1) (-1)) := by
 unfold L.hit hitO
 cases L.scanO x E.objs 0 (-1) (-1) <;> rfl
def fndV (f : Fnd) : Value := .agg #[.int .i64 f.1, .int .i64 f.2.1, .int .i64 f.2.2.1, .int .i64 f.2.2.2.1, .int .i64 f.2.2.2.2]
def RetFnd (w : World) (v : Fnd × Int) (e : Ending) (w' : World) : Prop := Ext w w' /\ e = .returned (.tuple #[fndV v.1, .int .i64 v.2])
theorem find_form (o : C.Obj) (x : ByteArray) : ∃ nm md sc bb, findV o.1 x.data.toList = .tuple #[.agg #[.string nm, .int .i64 md, .int .i64 sc], .bool bb] /\ (md = 1 ↔ L.modeP o x = 1) /\ (md = 2 ↔ L.modeP o x = 2) /\ (∀ s, L.symP o x = some s -> md = s.2.1 /\ sc = s.2.2) /\ (L.symP o x = none -> md = 0 /\ sc = 0) := by
 have h := findV_symP o.1 o.2 x
 have e : (o.1, o.2) = o := rfl
 rw [e] at h
 unfold L.modeP
 cases hs : L.symP o x with
 | none =>
  rw [hs] at h
  exact ⟨_, _, _, _, h, by simp, by simp, fun s h => (by cases h), fun _ => ⟨rfl, rfl⟩⟩
 | some s =>
  rw [hs] at h
  obtain ⟨a, b, c⟩ := s
  exact ⟨a, b, c, true, h, Iff.rfl, Iff.rfl, fun s h => (by cases h; exact ⟨rfl, rfl⟩), fun h => (by cases h)⟩
structure FAt (w : World) (va vm vl : Value) (f0 f1 f2 f3 f4 : Int) (wr : World) : Prop where
 ext : Ext w wr
 arg : wr.heap[w.heap.size]? = some (.cells #[va, vm, vl] 109 (0, 0))
 res : wr.heap[w.heap.size + 1]? = some (.cells #[.int .i64 0, .int .i64 0, .int .i64 0, .int .i64 0, .int .i64 0] 117 (0, 0))
 row : wr.heap[w.heap.size + 2]? = some (.cells #[.int .i64 f0, .int .i64 f1, .int .i64 f2, .int .i64 f3, .int .i64 f4] 117 (0, 0))
section
variable {w wr W : World} {va vm vl : Value} {f0 f1 f2 f3 f4 : Int}
theorem FAt.ext' (h : FAt w va vm vl f0 f1 f2 f3 f4 wr) (he : Ext wr W) : FAt w va vm vl f0 f1 f2 f3 f4 W :=
 ⟨h.ext.trans he, (he.block _ (hltA h.arg)).trans h.arg, (he.block _ (hltA h.res)).trans h.res, (he.block _ (hltA h.row)).trans h.row⟩
theorem FAt.set (h : FAt w va vm vl f0 f1 f2 f3 f4 wr) (i : Nat) (v : Value) : Tch (fun k => k = w.heap.size + 2) wr (wr.setCell ⟨w.heap.size + 2, i, none⟩ v) /\ Ext w (wr.setCell ⟨w.heap.size + 2, i, none⟩ v) := by
 have hT : Tch (fun k => k = w.heap.size + 2) wr (wr.setCell ⟨w.heap.size + 2, i, none⟩ v) := grown_tch (grownBy_setCell wr ⟨w.heap.size + 2, i, none⟩ v)
 exact ⟨hT, ((h.ext.tch fun _ => False).trans' hT fun i hi e => absurd hi (by omega)).ext fun _ _ h => h⟩
theorem FAt.set0 (h : FAt w va vm vl f0 f1 f2 f3 f4 wr) (v : Int) : FAt w va vm vl v f1 f2 f3 f4 (wr.setCell ⟨w.heap.size + 2, 0, none⟩ (.int .i64 v)) := by
 obtain ⟨hT, hE⟩ := h.set 0 (.int .i64 v)
 exact ⟨hE, (hT.block _ (hltA h.arg) (by omega)).trans h.arg, (hT.block _ (hltA h.res) (by omega)).trans h.res, heap_setCell_cells h.row 0 _⟩
theorem FAt.set1 (h : FAt w va vm vl f0 f1 f2 f3 f4 wr) (v : Int) : FAt w va vm vl f0 v f2 f3 f4 (wr.setCell ⟨w.heap.size + 2, 1, none⟩ (.int .i64 v)) := by
 obtain ⟨hT, hE⟩ := h.set 1 (.int .i64 v)
 exact ⟨hE, (hT.block _ (hltA h.arg) (by omega)).trans h.arg, (hT.block _ (hltA h.res) (by omega)).trans h.res, heap_setCell_cells h.row 1 _⟩
theorem FAt.set2 (h : FAt w va vm vl f0 f1 f2 f3 f4 wr) (v : Int) : FAt w va vm vl f0 f1 v f3 f4 (wr.setCell ⟨w.heap.size + 2, 2, none⟩ (.int .i64 v)) := by
 obtain ⟨hT, hE⟩ := h.set 2 (.int .i64 v)
 exact ⟨hE, (hT.block _ (hltA h.arg) (by omega)).trans h.arg, (hT.block _ (hltA h.res) (by omega)).trans h.res, heap_setCell_cells h.row 2 _⟩
theorem FAt.set3 (h : FAt w va vm vl f0 f1 f2 f3 f4 wr) (v : Int) : FAt w va vm vl f0 f1 f2 v f4 (wr.setCell ⟨w.heap.size + 2, 3, none⟩ (.int .i64 v)) := by
 obtain ⟨hT, hE⟩ := h.set 3 (.int .i64 v)
 exact ⟨hE, (hT.block _ (hltA h.arg) (by omega)).trans h.arg, (hT.block _ (hltA h.res) (by omega)).trans h.res, heap_setCell_cells h.row 3 _⟩
theorem FAt.set4 (h : FAt w va vm vl f0 f1 f2 f3 f4 wr) (v : Int) : FAt w va vm vl f0 f1 f2 f3 v (wr.setCell ⟨w.heap.size + 2, 4, none⟩ (.int .i64 v)) := by
 obtain ⟨hT, hE⟩ := h.set 4 (.int .i64 v)
 exact ⟨hE, (hT.block _ (hltA h.arg) (by omega)).trans h.arg, (hT.block _ (hltA h.res) (by omega)).trans h.res, heap_setCell_cells h.row 4 _⟩
theorem FAt.args (h : FAt w va vm vl f0 f1 f2 f3 f4 wr) : wr.cell? ⟨w.heap.size, 0, none⟩ = some va /\ wr.cell? ⟨w.heap.size, 1, none⟩ = some vm /\ wr.cell? ⟨w.heap.size, 2, none⟩ = some vl :=
 ⟨cell_of_row wr _ 0 _ _ _ h.arg, cell_of_row wr _ 1 _ _ _ h.arg, cell_of_row wr _ 2 _ _ _ h.arg⟩
theorem FAt.cells (h : FAt w va vm vl f0 f1 f2 f3 f4 wr) : (wr.cell? ⟨w.heap.size + 2, 0, none⟩ = some (.int .i64 f0) /\ wr.cell? ⟨w.heap.size + 2, 1, none⟩ = some (.int .i64 f1) /\ wr.cell? ⟨w.heap.size + 2, 2, none⟩ = some (.int .i64 f2) /\ wr.cell? ⟨w.heap.size + 2, 3, none⟩ = some (.int .i64 f3) /\ wr.cell? ⟨w.heap.size + 2, 4, none⟩ = some (.int .i64 f4)) /\
 wr.frozen? ⟨w.heap.size + 2, 0, none⟩ = false /\ wr.frozen? ⟨w.heap.size + 2, 1, none⟩ = false /\ wr.frozen? ⟨w.heap.size + 2, 2, none⟩ = false /\ wr.frozen? ⟨w.heap.size + 2, 3, none⟩ = false /\ wr.frozen? ⟨w.heap.size + 2, 4, none⟩ = false :=
 ⟨⟨cell_of_row wr _ 0 _ _ _ h.row, cell_of_row wr _ 1 _ _ _ h.row, cell_of_row wr _ 2 _ _ _ h.row, cell_of_row wr _ 3 _ _ _ h.row, cell_of_row wr _ 4 _ _ _ h.row⟩, Lib.frozen_of_heap h.row 0, Lib.frozen_of_heap h.row 1, Lib.frozen_of_heap h.row 2, Lib.frozen_of_heap h.row 3, Lib.frozen_of_heap h.row 4⟩
theorem FAt.resc (h : FAt w va vm vl f0 f1 f2 f3 f4 wr) : (wr.cell? ⟨w.heap.size + 1, 0, none⟩ = some (.int .i64 0) /\ wr.cell? ⟨w.heap.size + 1, 1, none⟩ = some (.int .i64 0) /\ wr.cell? ⟨w.heap.size + 1, 2, none⟩ = some (.int .i64 0) /\ wr.cell? ⟨w.heap.size + 1, 3, none⟩ = some (.int .i64 0) /\ wr.cell? ⟨w.heap.size + 1, 4, none⟩ = some (.int .i64 0)) /\
 wr.frozen? ⟨w.heap.size + 1, 0, none⟩ = false /\ wr.frozen? ⟨w.heap.size + 1, 1, none⟩ = false /\ wr.frozen? ⟨w.heap.size + 1, 2, none⟩ = false /\ wr.frozen? ⟨w.heap.size + 1, 3, none⟩ = false /\ wr.frozen? ⟨w.heap.size + 1, 4, none⟩ = false :=
 ⟨⟨cell_of_row wr _ 0 _ _ _ h.res, cell_of_row wr _ 1 _ _ _ h.res, cell_of_row wr _ 2 _ _ _ h.res, cell_of_row wr _ 3 _ _ _ h.res, cell_of_row wr _ 4 _ _ _ h.res⟩, Lib.frozen_of_heap h.res 0, Lib.frozen_of_heap h.res 1, Lib.frozen_of_heap h.res 2, Lib.frozen_of_heap h.res 3, Lib.frozen_of_heap h.res 4⟩
theorem size117 : (Tryz.prog.info? 117).map (·.size) = some 5 := by kernel_rfl
abbrev fput (wr : World) (g : Nat) (g0 g1 g2 g3 g4 : Int) : World := ((((wr.setCell ⟨g, 0, none⟩ (.int .i64 g0)).setCell ⟨g, 1, none⟩ (.int .i64 g1)).setCell ⟨g, 2, none⟩ (.int .i64 g2)).setCell ⟨g, 3, none⟩ (.int .i64 g3)).setCell ⟨g, 4, none⟩ (.int .i64 g4)
theorem ret_fnd {fn : Func} {p u : Tmp} (h : fn.results = #[.cell p 117, .tmp u]) {a : Act} {g0 g1 g2 g3 g4 er : Int} {R : Fnd × Int} (hm : FAt w va vm vl f0 f1 f2 f3 f4 wr) (hp : a.tmps.getD p undef = .pointer (some ⟨w.heap.size + 1, 0, none⟩)) (hu : a.tmps.getD u undef = .int .i64 er) (hd : a.defers = []) (hR : R = ((g0, g1, g2, g3, g4), er)) :
 bodyPost Tryz.prog fn (RetFnd w R) .ret a (fput wr (w.heap.size + 1) g0 g1 g2 g3 g4) := by
 have hr : (fput wr (w.heap.size + 1) g0 g1 g2 g3 g4).heap[w.heap.size + 1]? = some (.cells #[.int .i64 g0, .int .i64 g1, .int .i64 g2, .int .i64 g3, .int .i64 g4] 117 (0, 0)) := heap_setCell_cells (heap_setCell_cells (heap_setCell_cells (heap_setCell_cells (heap_setCell_cells hm.res 0 _) 1 _) 2 _) 3 _) 4 _
 have hT : Tch (fun i => i = w.heap.size + 1) wr (fput wr (w.heap.size + 1) g0 g1 g2 g3 g4) := ((((grown_tch (grownBy_setCell wr ⟨w.heap.size + 1, 0, none⟩ _)).trans (grown_tch (grownBy_setCell _ ⟨w.heap.size + 1, 1, none⟩ _))).trans (grown_tch (grownBy_setCell _ ⟨w.heap.size + 1, 2, none⟩ _))).trans (grown_tch (grownBy_setCell _ ⟨w.heap.size + 1, 3, none⟩ _))).trans (grown_tch (grownBy_setCell _ ⟨w.heap.size + 1, 4, none⟩ _))
 refine bodyPost_ret (results_one h a.tmps _ (w.heap.size + 1) 117 #[.int .i64 g0, .int .i64 g1, .int .i64 g2, .int .i64 g3, .int .i64 g4] (0, 0) _ hp hr Tryz.underlying117 rfl size117) hd ?_
 rw [hu, hR]
 exact ⟨((hm.ext.tch fun _ => False).trans' hT fun i hi e => absurd hi (by omega)).ext fun _ _ h => h, rfl⟩
end
end Go.Proofs.YtfbhchpbflaphaaGreatDoor

namespace Go.Proofs.YtfbhchpbflaphaaGreatDoor
open Go.RowKit Go.Maps Go.ChangeMaps
theorem isIn_iff {x : ByteArray} {l : L.Libr} : L.isIn x l = true ↔ ∃ i, ∃ h : i < (L.exps l).length, (L.exps l)[i].1.data.toList = x.data.toList := by
 unfold L.isIn
 rw [List.any_eq_true]
 constructor
 ·rintro ⟨y, hy, e⟩
  obtain ⟨i, hi, rfl⟩ := List.getElem_of_mem hy
  exact ⟨i, hi, by simpa using e⟩
 ·rintro ⟨i, hi, e⟩
  exact ⟨_, List.getElem_mem hi, by simpa using e⟩
set_option maxRecDepth 8000 in
set_option maxHeartbeats 8000000 in
theorem rResolve_any (E : L.Env) (A M D : Option Addr) (a mc d n mm q : Nat) (x : ByteArray) (w : World) (hn : n = E.objs.length) (hA : SliceAt memR w (Old w) A a E.objs) (hm : mm = E.mems.length) (hM : SliceAt memR w (Old w) M mc E.mems) (hq : q = E.libs.length) (hD : SliceAt librR w (Old w) D d E.libs)
 (hU : ∀ m ∈ E.units, m.2.1.length <= 128) (hn2 : n <= 100000) (hm2 : mm <= 100000) (hq2 : q <= 100000) (hx : x.size <= 9223372036854775807) :
 Calls Tryz.prog 53 #[.agg #[.slice A n a, .slice M mm mc, .slice D q d], .string x] w (RetFnd w (foundH E (L.hit E x))) := by
 have hh := hit_hitO E x
 obtain ⟨R, hR⟩ : ∃ R, R = foundH E (L.hit E x) := ⟨_, rfl⟩
 rw [<- hR]
 rw [hh] at hR
 have HR0 : Hid (R = foundH E (hitO E x (L.scanO x (E.objs.drop 0) (0 : Nat) (-1) (-1)))) := hR
 have HN := Lib.hid hn
 have HA := Lib.hid hA
 have HMM := Lib.hid hm
 have HM := Lib.hid hM
 have HQ := Lib.hid hq
 have HD := Lib.hid hD
 have HU := Lib.hid hU
 obtain ⟨W1, hW1⟩ : ∃ W1, W1 = ((w.alloc (.cells #[.slice A n a, .slice M mm mc, .slice D q d] 109)).alloc (.cells #[.int .i64 0, .int .i64 0, .int .i64 0, .int .i64 0, .int .i64 0] 117)).alloc (.cells #[.int .i64 (-1), .int .i64 (-1), .int .i64 (-1), .int .i64 0, .int .i64 0] 117) := ⟨_, rfl⟩
 have hsz1 : (w.alloc (.cells #[.slice A n a, .slice M mm mc, .slice D q d] 109)).heap.size = w.heap.size + 1 := by simp
 have hsz2 : ((w.alloc (.cells #[.slice A n a, .slice M mm mc, .slice D q d] 109)).alloc (.cells #[.int .i64 0, .int .i64 0, .int .i64 0, .int .i64 0, .int .i64 0] 117)).heap.size = w.heap.size + 2 := by simp
 have H0 : Hid (FAt w (.slice A n a) (.slice M mm mc) (.slice D q d) (-1) (-1) (-1) 0 0 W1) := {
  ext := by rw [hW1]; exact (((Ext.refl w).alloc _).alloc _).alloc _
  arg := by rw [hW1]; exact ((((Ext.refl (w.alloc _)).alloc _).alloc _).block _ (by simp)).trans (heap_alloc_new w _)
  res := by rw [hW1]; exact (((Ext.refl ((w.alloc _).alloc _)).alloc _).block _ (by simp)).trans (by rw [<- hsz1]; exact heap_alloc_new _ _)
  row := by rw [hW1, <- hsz2]; exact heap_alloc_new _ _ }
 have HW1 := Lib.hid hW1
 obtain ⟨a0, a1, a2⟩ := H0.out.args
 clear hR hh hn hA hm hM hq hD hU hW1 hsz1 hsz2 a1 a2
 go_enter Tryz.func53, Tryz.ntmps53
 go_upto_region 3 with (fail)
 rw [<- HW1.out]
 go_wp2_with fail
 clear a0
 go_loopw [7, 24] (fun v i wr => ∃ (k : Nat) (ex wk : Int), k <= n /\ i = .int .i64 (k : Int) /\ v = .int .i64 wk /\ -1 <= ex /\ ex < k /\ -1 <= wk /\ wk < k /\ Hid (R = foundH E (hitO E x (L.scanO x (E.objs.drop k) k ex wk)) /\ FAt w (.slice A n a) (.slice M mm mc) (.slice D q d) ex (-1) (-1) 0 0 wr)) (fun _ i _ => n - (intOf i).toNat)
 case atStart => exact ⟨0, -1, -1, Nat.zero_le _, rfl, rfl, by omega, by omega, by omega, by omega, HR0.out, H0.out⟩
 case round =>
  obtain ⟨k, ex, wk, hk, rfl, rfl, he1, he2, hw1, hw2, HK⟩ := hrel
  obtain ⟨W0, hW0⟩ : ∃ W0, W0 = wr := ⟨_, rfl⟩
  subst hW0
  by_cases hlt : k < n
  ·have hkl : k < E.objs.length := by rw [<- HN.out]; exact hlt
   obtain ⟨mb, mo, s, TA, tc, TB, td, rfl, hbo, hms, hss, hTA, hTB, m0, m1, m2⟩ := mem_getB (HA.out.ext HK.out.2.ext) hkl
   have hu := HU.out E.objs[k] (List.mem_append_left _ (List.getElem_mem hkl))
   have hst := HK.out.1
   rw [L.scanO_step hkl] at hst
   obtain ⟨nm, md, sc, bb, hfv, hd1, hd2, hd3⟩ := find_form E.objs[k].2 x
   clear hd3
   generalize L.modeP E.objs[k].2 x = mp at hst hd1 hd2
   have HD1 := Lib.hid hd1
   have HD2 := Lib.hid hd2
   have HFK := Lib.hid HK.out.2
   obtain ⟨W4, hW4⟩ : ∃ W4, W4 = W0.alloc (.cells #[.string s, .slice TA E.objs[k].2.1.length tc, .slice TB E.objs[k].2.2.length td] 69) := ⟨_, rfl⟩
   obtain ⟨eb, heb⟩ : ∃ eb, eb = W0.heap.size := ⟨_, rfl⟩
   have E4 : Ext W0 W4 := by rw [hW4]; exact (Ext.refl W0).alloc _
   have HFD := Lib.hid (rFind_any E.objs[k].2.1 TA TB tc td _ E.objs[k].2.2.length x W4 rfl (hTA.ext E4) (by omega) hx)
   rw [hfv] at HFD
   generalize E.objs[k].2.1.length = tl at m1 hW4 HFD
   generalize E.objs[k].2.2.length = ul at m2 hW4 HFD
   have hb4 : W4.heap[eb]? = some (.cells #[.string s, .slice TA tl tc, .slice TB ul td] 69 (0, 0)) := by rw [hW4, heb]; exact heap_alloc_new W0 _
   have t1 : W4.cell? ⟨eb, 1, none⟩ = _ := cell_of_row W4 eb 1 _ _ _ hb4
   have t2 : W4.cell? ⟨eb, 2, none⟩ = _ := cell_of_row W4 eb 2 _ _ _ hb4
   have HEB := Lib.hid heb
   have HF4 := Lib.hid (HFK.out.ext' E4)
   have HST := Lib.hid hst
   clear hbo hms hss hTA hTB hu hst hfv hd1 hd2 heb hb4 E4 HK hkl
   go_upto_region 6 with (fail)
   rw [<- hW4, <- HEB.out]
   clear hW4 m0 m1 m2
   go_wp2_with fail
   refine HFD.out.mono ?_
   rintro e w5 ⟨rfl, e5⟩
   obtain ⟨W6, hW6⟩ : ∃ W6, W6 = w5.alloc (.cells #[.string nm, .int .i64 md, .int .i64 sc] 60) := ⟨_, rfl⟩
   obtain ⟨fb, hfb⟩ : ∃ fb, fb = w5.heap.size := ⟨_, rfl⟩
   have E6 : Ext w5 W6 := by rw [hW6]; exact (Ext.refl w5).alloc _
   have hb6 : W6.heap[fb]? = some (.cells #[.string nm, .int .i64 md, .int .i64 sc] 60 (0, 0)) := by rw [hW6, hfb]; exact heap_alloc_new w5 _
   have s1 : W6.cell? ⟨fb, 1, none⟩ = _ := cell_of_row W6 fb 1 _ _ _ hb6
   have HFB := Lib.hid hfb
   have HF6 := Lib.hid (HF4.out.ext' (e5.trans E6))
   have hfb2 : fb ≠ w.heap.size + 2 := by have h1 := (hltA HF4.out.row); have h2 := e5.size; omega
   have HNE := Lib.hid hfb2
   clear e5 E6 hb6 hfb t1 t2 hfb2
   go_upto_region 7 with (fail)
   rw [<- hW6, <- HFB.out]
   clear hW6
   obtain ⟨⟨c0, c1, c2, c3, c4⟩, f0, f1, f2, f3, f4⟩ := HF6.out.cells
   clear c1 c2 c3 c4 f1 f2 f3 f4
   have s1' : (W6.setCell ⟨w.heap.size + 2, 0, none⟩ (.int .i64 (k : Int))).cell? ⟨fb, 1, none⟩ = some (.int .i64 md) := (grown_tch (grownBy_setCell W6 ⟨w.heap.size + 2, 0, none⟩ (.int .i64 (k : Int)))).keepc s1 HNE.out
   rcases mode_ways md with ⟨rfl, g1⟩ | ⟨rfl, g1, g2⟩ | ⟨h1, h2, g1, g2⟩
   ·have hst := HST.out
    rw [if_pos (HD1.out.1 rfl)] at hst
    by_cases h0 : 0 <= ex
    ·rw [if_pos h0] at hst
     have HR2 := Lib.hid hst
     have g0 : decide (0 <= ex) = true := decide_eq_true h0
     obtain ⟨⟨r0, r1, r2, r3, r4⟩, k0, k1, k2, k3, k4⟩ := HF6.out.resc
     clear hst s1'
     go_wp2_with fail
     exact ret_fnd rfl HF6.out rfl rfl rfl HR2.out
    ·rw [if_neg h0] at hst
     have HR2 := Lib.hid hst
     have g0 : decide (0 <= ex) = false := decide_eq_false h0
     have HF7 := Lib.hid (HF6.out.set0 (k : Int))
     clear hst
     go_wp2_with fail
     go_roundw
     case rel => exact ⟨k + 1, (k : Int), wk, by omega, by go_num, rfl, by omega, by omega, by omega, by omega, HR2.out, HF7.out⟩
     case measure => simp [intOf]; omega
   ·have hst := HST.out
    rw [if_neg (fun h => absurd (HD1.out.2 h) (by decide))] at hst
    clear s1'
    by_cases h0 : wk < 0
    ·rw [if_pos ⟨HD2.out.1 rfl, h0⟩] at hst
     have HR2 := Lib.hid hst
     have g0 : decide (wk < 0) = true := decide_eq_true h0
     clear hst
     go_wp2_with fail
     go_roundw
     case rel => exact ⟨k + 1, ex, (k : Int), by omega, by go_num, rfl, by omega, by omega, by omega, by omega, HR2.out, HF6.out⟩
     case measure => simp [intOf]; omega
    ·rw [if_neg (fun h => h0 h.2)] at hst
     have HR2 := Lib.hid hst
     have g0 : decide (wk < 0) = false := decide_eq_false h0
     clear hst
     go_wp2_with fail
     go_roundw
     case rel => exact ⟨k + 1, ex, wk, by omega, by go_num, rfl, by omega, by omega, by omega, by omega, HR2.out, HF6.out⟩
     case measure => simp [intOf]; omega
   ·have hst := HST.out
    rw [if_neg (fun h => h1 (HD1.out.2 h)), if_neg (fun h => h2 (HD2.out.2 h.1))] at hst
    have HR2 := Lib.hid hst
    clear hst s1'
    go_wp2_with fail
    go_roundw
    case rel => exact ⟨k + 1, ex, wk, by omega, by go_num, rfl, by omega, by omega, by omega, by omega, HR2.out, HF6.out⟩
    case measure => simp [intOf]; omega
  ·obtain rfl : k = n := by omega
   have hst := HK.out.1
   rw [L.scanO_end (by rw [<- HN.out]; exact Nat.le_refl _)] at hst
   unfold hitO at hst
   simp only at hst
   have HFK := Lib.hid HK.out.2
   have HST := Lib.hid hst
   clear hst HK
   obtain ⟨⟨c0, c1, c2, c3, c4⟩, f0, f1, f2, f3, f4⟩ := HFK.out.cells
   by_cases h0 : 0 <= ex
   ·have hst := HST.out
    unfold L.pick at hst
    rw [if_pos h0, if_pos h0] at hst
    have hR2 : R = ((ex, -1, -1, 0, 0), 0) := by
     rw [hst]
     obtain ⟨e, he⟩ : ∃ e : Nat, ex = (e : Int) := ⟨ex.toNat, by omega⟩
     rw [he, Int.toNat_natCast]
     rfl
    have HR2 := Lib.hid hR2
    obtain ⟨⟨r0, r1, r2, r3, r4⟩, k0, k1, k2, k3, k4⟩ := HFK.out.resc
    have g0 : decide (ex < 0) = false := decide_eq_false (by omega)
    have g1 : decide (0 <= ex) = true := decide_eq_true h0
    clear hst hR2
    go_wp2_with fail
    exact ret_fnd rfl HFK.out rfl rfl rfl HR2.out
   ·have hst := HST.out
    unfold L.pick at hst
    rw [if_neg h0] at hst
    have HF7 := Lib.hid (HFK.out.set0 wk)
    have g0 : decide (ex < 0) = true := decide_eq_true (by omega)
    go_upto_region 16 with (fail)
    obtain ⟨W7, hW7⟩ : ∃ W7, W7 = W0.setCell ⟨w.heap.size + 2, 0, none⟩ (.int .i64 wk) := ⟨_, rfl⟩
    rw [<- hW7] at HF7 ⊢
    clear hW7 c0 c1 c2 c3 c4 f0 f1 f2 f3 f4
    obtain ⟨⟨c0, c1, c2, c3, c4⟩, _, _, _, _, _⟩ := HF7.out.cells
    by_cases hw0 : 0 <= wk
    ·rw [if_pos hw0] at hst
     have hR2 : R = ((wk, -1, -1, 0, 0), 0) := by
      rw [hst]
      obtain ⟨e, he⟩ : ∃ e : Nat, wk = (e : Int) := ⟨wk.toNat, by omega⟩
      rw [he, Int.toNat_natCast]
      rfl
     have HR2 := Lib.hid hR2
     obtain ⟨⟨r0, r1, r2, r3, r4⟩, k0, k1, k2, k3, k4⟩ := HF7.out.resc
     have g1 : decide (0 <= wk) = true := decide_eq_true hw0
     clear hst hR2
     go_wp2_with fail
     exact ret_fnd rfl HF7.out rfl rfl rfl HR2.out
    ·rw [if_neg hw0] at hst
     obtain rfl : wk = -1 := by omega
     have HL := Lib.hid hst
     obtain ⟨_, a1, _⟩ := HF7.out.args
     clear hst HST
     go_wp2_with fail
     clear a1
     have HZ := Lib.hid HF7.out
     have HL0 : Hid (R = foundH E (L.later x E.objs.length E.mems E.libs)) := HL.out
     clear c0 c1 c2 c3 c4 HL HF7 HFK h0 g0 hk he1 he2 hw1 hw2 hlt hw0
     go_loopw [66] (fun i wr => ∃ (j : Nat), j <= mm /\ i = .int .i64 (j : Int) /\ Hid ((∀ i (_ : i < E.mems.length), i < j -> L.isDef x E.mems[i] = false) /\ FAt w (.slice A k a) (.slice M mm mc) (.slice D q d) (-1) (-1) (-1) (j : Int) 0 wr)) (fun i _ => mm - (intOf i).toNat)
     case atStart => exact ⟨0, Nat.zero_le _, rfl, fun _ _ h => absurd h (Nat.not_lt_zero _), HZ.out⟩
     case round =>
      obtain ⟨j, hj, rfl, HJ⟩ := hrel
      obtain ⟨V0, hV0⟩ : ∃ V0, V0 = wr := ⟨_, rfl⟩
      subst hV0
      by_cases hjl : j < mm
      ·have hkl : j < E.mems.length := by rw [<- HMM.out]; exact hjl
       obtain ⟨mb, mo, s, TA, tc, TB, td, rfl, hbo, hms, hss, hTA, hTB, m0, m1, m2⟩ := mem_getB HM.out hkl
       replace m0 := HJ.out.2.ext.keepc m0
       replace m1 := HJ.out.2.ext.keepc m1
       replace m2 := HJ.out.2.ext.keepc m2
       have hu := HU.out E.mems[j] (List.mem_append_right _ (List.getElem_mem hkl))
       obtain ⟨nm, md, sc, bb, hfv, hd1, hd2, hd3⟩ := find_form E.mems[j].2 x
       have hno := HJ.out.1
       have hdf : L.isDef x E.mems[j] = (decide (L.modeP E.mems[j].2 x = 1) || decide (L.modeP E.mems[j].2 x = 2)) := rfl
       have hyes : md = 1 ∨ md = 2 -> R = ((-1, (j : Int), -1, ((j + 1 : Nat) : Int), 0), 0) := fun h => by
        have h1 : L.isDef x E.mems[j] = true := by
         rw [hdf]
         rcases h with h | h
         ·simp [hd1.1 h]
         ·simp [hd2.1 h]
        rw [HL0.out, later_unit hkl h1 hno]
        simp [foundH]
       have hnx : ¬ (md = 1 ∨ md = 2) -> ∀ i (_ : i < E.mems.length), i < j + 1 -> L.isDef x E.mems[i] = false := fun h i hi hij => by
        by_cases e : i = j
        ·cases e
         rw [hdf]
         have h1 : ¬ L.modeP E.mems[j].2 x = 1 := fun e => h (.inl (hd1.2 e))
         have h2 : ¬ L.modeP E.mems[j].2 x = 2 := fun e => h (.inr (hd2.2 e))
         simp [h1, h2]
        ·exact hno i hi (by omega)
       have HY := Lib.hid hyes
       have HNX := Lib.hid hnx
       have HFK := Lib.hid HJ.out.2
       obtain ⟨X4, hX4⟩ : ∃ X4, X4 = V0.alloc (.cells #[.string s, .slice TA E.mems[j].2.1.length tc, .slice TB E.mems[j].2.2.length td] 69) := ⟨_, rfl⟩
       obtain ⟨eb, heb⟩ : ∃ eb, eb = V0.heap.size := ⟨_, rfl⟩
       have E4 : Ext V0 X4 := by rw [hX4]; exact (Ext.refl V0).alloc _
       have hTA4 := hTA
       obtain ⟨sy, hsy⟩ : ∃ sy, sy = E.mems[j].2.1 := ⟨_, rfl⟩
       rw [<- hsy] at hTA4 hfv hu
       obtain ⟨tl, htl⟩ : ∃ tl, tl = sy.length := ⟨_, rfl⟩
       rw [<- hsy, <- htl] at m1 hX4
       rw [<- htl] at hu
       generalize E.mems[j].2.2.length = ul at m2 hX4
       have hb4 : X4.heap[eb]? = some (.cells #[.string s, .slice TA tl tc, .slice TB ul td] 69 (0, 0)) := by rw [hX4, heb]; exact heap_alloc_new V0 _
       have t1 : X4.cell? ⟨eb, 1, none⟩ = _ := cell_of_row X4 eb 1 _ _ _ hb4
       have t2 : X4.cell? ⟨eb, 2, none⟩ = _ := cell_of_row X4 eb 2 _ _ _ hb4
       have HEB := Lib.hid heb
       have HF4 := Lib.hid (HFK.out.ext' E4)
       have hnb : eb ≠ w.heap.size + 2 := by have h1 := (hltA HFK.out.row); omega
       have HTL := Lib.hid htl
       have HTA := Lib.hid hTA4
       have HFV := Lib.hid hfv
       clear hbo hms hss hTA hTB hTA4 hfv hd1 hd2 hd3 hno hdf hyes hnx hsy htl heb E4 HJ hkl
       go_upto_region 21 with (fail)
       rw [<- hX4, <- HEB.out]
       clear hX4 m0 m1 m2
       obtain ⟨⟨c0, c1, c2, c3, c4⟩, f0, f1, f2, f3, f4⟩ := HF4.out.cells
       clear c0 c1 c2 c4 f0 f1 f2 f4
       obtain ⟨X5, hX5⟩ : ∃ X5, X5 = X4.setCell ⟨w.heap.size + 2, 3, none⟩ (.int .i64 ((j : Int) + 1)) := ⟨_, rfl⟩
       have HF5 := Lib.hid (HF4.out.set3 ((j : Int) + 1))
       rw [<- hX5] at HF5
       have hT5 := (HF4.out.set 3 (.int .i64 ((j : Int) + 1))).1
       rw [<- hX5] at hT5
       have t1' := hT5.keepc t1 (by show ¬ eb = w.heap.size + 2; exact hnb)
       have t2' := hT5.keepc t2 (by show ¬ eb = w.heap.size + 2; exact hnb)
       have HFD := Lib.hid (rFind_any sy TA TB tc td tl ul x X5 HTL.out (HTA.out.ext HF5.out.ext) (by omega) hx)
       rw [HFV.out] at HFD
       clear t1 t2 hT5
       go_upto_region 22 with (fail)
       rw [<- hX5]
       clear hX5 c3 f3
       go_wp2_with fail
       refine HFD.out.mono ?_
       rintro e w5 ⟨rfl, e5⟩
       obtain ⟨W6, hW6⟩ : ∃ W6, W6 = w5.alloc (.cells #[.string nm, .int .i64 md, .int .i64 sc] 60) := ⟨_, rfl⟩
       obtain ⟨fb, hfb⟩ : ∃ fb, fb = w5.heap.size := ⟨_, rfl⟩
       have E6 : Ext w5 W6 := by rw [hW6]; exact (Ext.refl w5).alloc _
       have hb6 : W6.heap[fb]? = some (.cells #[.string nm, .int .i64 md, .int .i64 sc] 60 (0, 0)) := by rw [hW6, hfb]; exact heap_alloc_new w5 _
       have s1 : W6.cell? ⟨fb, 1, none⟩ = _ := cell_of_row W6 fb 1 _ _ _ hb6
       have HFB := Lib.hid hfb
       have HF6 := Lib.hid (HF5.out.ext' (e5.trans E6))
       clear e5 E6 hb6 hfb t1' t2'
       go_upto_region 23 with (fail)
       rw [<- hW6, <- HFB.out]
       clear hW6
       rcases mode_ways md with ⟨h1, g1⟩ | ⟨h1, g1, g2⟩ | ⟨h1, h2, g1, g2⟩
       ·have HR2 := Lib.hid (HY.out (.inl h1))
        obtain ⟨⟨c0, c1, c2, c3, c4⟩, f0, f1, f2, f3, f4⟩ := HF6.out.cells
        have HF7 := Lib.hid (HF6.out.set1 (j : Int))
        subst h1
        go_upto_region 25 with (fail)
        obtain ⟨W7, hW7⟩ : ∃ W7, W7 = W6.setCell ⟨w.heap.size + 2, 1, none⟩ (.int .i64 (j : Int)) := ⟨_, rfl⟩
        rw [<- hW7] at HF7 ⊢
        clear hW7 c0 c1 c2 c3 c4 f0 f1 f2 f3 f4 s1
        obtain ⟨⟨c0, c1, c2, c3, c4⟩, _, _, _, _, _⟩ := HF7.out.cells
        obtain ⟨⟨r0, r1, r2, r3, r4⟩, k0, k1, k2, k3, k4⟩ := HF7.out.resc
        go_wp2_with fail
        exact ret_fnd rfl HF7.out rfl rfl rfl HR2.out
       ·have HR2 := Lib.hid (HY.out (.inr h1))
        obtain ⟨⟨c0, c1, c2, c3, c4⟩, f0, f1, f2, f3, f4⟩ := HF6.out.cells
        have HF7 := Lib.hid (HF6.out.set1 (j : Int))
        subst h1
        go_upto_region 25 with (fail)
        obtain ⟨W7, hW7⟩ : ∃ W7, W7 = W6.setCell ⟨w.heap.size + 2, 1, none⟩ (.int .i64 (j : Int)) := ⟨_, rfl⟩
        rw [<- hW7] at HF7 ⊢
        clear hW7 c0 c1 c2 c3 c4 f0 f1 f2 f3 f4 s1
        obtain ⟨⟨c0, c1, c2, c3, c4⟩, _, _, _, _, _⟩ := HF7.out.cells
        obtain ⟨⟨r0, r1, r2, r3, r4⟩, k0, k1, k2, k3, k4⟩ := HF7.out.resc
        go_wp2_with fail
        exact ret_fnd rfl HF7.out rfl rfl rfl HR2.out
       ·have HN2 := Lib.hid (HNX.out (fun h => h.elim h1 h2))
        have HF7 : Hid (FAt w (.slice A k a) (.slice (some ⟨mb, mo, none⟩) mm mc) (.slice D q d) (-1) (-1) (-1) ((j + 1 : Nat) : Int) 0 W6) := HF6.out
        go_wp2_with fail
        go_roundw
        case rel => exact ⟨j + 1, by omega, by go_num, HN2.out, HF7.out⟩
        case measure => simp [intOf]; omega
      ·obtain rfl : j = mm := by omega
       have hno : ∀ i (_ : i < E.mems.length), L.isDef x E.mems[i] = false := fun i hi => HJ.out.1 i hi (by rw [HMM.out]; exact hi)
       have HNO := Lib.hid hno
       have HFK := Lib.hid HJ.out.2
       obtain ⟨_, _, a2⟩ := HFK.out.args
       clear hno HJ
       go_wp2_with fail
       clear a2
       go_loopw [96] (fun i wr => ∃ (l : Nat), l <= q /\ i = .int .i64 (l : Int) /\ Hid ((∀ i (_ : i < E.libs.length), i < l -> L.isIn x E.libs[i] = false) /\ FAt w (.slice A k a) (.slice M j mc) (.slice D q d) (-1) (-1) (-1) (j : Int) (l : Int) wr)) (fun i _ => q - (intOf i).toNat)
       case atStart => exact ⟨0, Nat.zero_le _, rfl, fun _ _ h => absurd h (Nat.not_lt_zero _), HFK.out⟩
       case round =>
        obtain ⟨l, hl, rfl, HL⟩ := hrel
        obtain ⟨U0, hU0⟩ : ∃ U0, U0 = wr := ⟨_, rfl⟩
        subst hU0
        by_cases hll : l < q
        ·have hkl : l < E.libs.length := by rw [<- HQ.out]; exact hll
         obtain ⟨lb, lo, kd, en, im, A1, n1, c1, A2, n2, c2, A3, n3, c3, A4, c4, A5, n5, c5, rfl, hbo, hs, hkd, hEX, m0, m1, m2, m3, m4, m5, m6, m7, m8⟩ := lib_cells HD.out hkl
         have hin := isIn_iff (x := x) (l := E.libs[l])
         have hnl := HL.out.1
         have hyes : L.isIn x E.libs[l] = true -> R = ((-1, -1, (l : Int), (j : Int), ((l + 1 : Nat) : Int)), 0) := fun h => by
          rw [HL0.out, later_lib HNO.out hkl h hnl, HMM.out]
          rfl
         have hnx : ¬ L.isIn x E.libs[l] = true -> ∀ i (_ : i < E.libs.length), i < l + 1 -> L.isIn x E.libs[i] = false := fun h i hi hij => by
          by_cases e : i = l
          ·cases e; exact Bool.eq_false_iff.2 h
          ·exact hnl i hi (by omega)
         obtain ⟨ex, hex⟩ : ∃ ex, ex = L.exps E.libs[l] := ⟨_, rfl⟩
         rw [<- hex] at hEX m7 hin
         obtain ⟨n4, hn4⟩ : ∃ n4, n4 = ex.length := ⟨_, rfl⟩
         rw [<- hn4] at m7
         have HIN := Lib.hid hin
         have HY := Lib.hid hyes
         have HNX := Lib.hid hnx
         have HN4 := Lib.hid hn4
         have HEX := Lib.hid hEX
         have hn4b : n4 <= 9223372036854775807 := by
          have h1 := HEX.out.1
          have h2 := HEX.out.2.1
          have h3 := HN4.out
          omega
         have hxe := HL.out.2.ext
         replace m0 := hxe.keepc m0
         replace m1 := hxe.keepc m1
         replace m2 := hxe.keepc m2
         replace m3 := hxe.keepc m3
         replace m4 := hxe.keepc m4
         replace m5 := hxe.keepc m5
         replace m6 := hxe.keepc m6
         replace m7 := hxe.keepc m7
         replace m8 := hxe.keepc m8
         generalize L.isIn x E.libs[l] = IB at HIN HY HNX
         generalize E.libs[l].1 = s at m0 hs
         have HFK2 := Lib.hid HL.out.2
         obtain ⟨X4, hX4⟩ : ∃ X4, X4 = U0.alloc (.cells #[.string s, .int .i64 kd, .int .i64 en, .string im, .slice A1 n1 c1, .slice A2 n2 c2, .slice A3 n3 c3, .slice A4 n4 c4, .slice A5 n5 c5] 86) := ⟨_, rfl⟩
         obtain ⟨eb, heb⟩ : ∃ eb, eb = U0.heap.size := ⟨_, rfl⟩
         have E4 : Ext U0 X4 := by rw [hX4]; exact (Ext.refl U0).alloc _
         have hb4 : X4.heap[eb]? = some (.cells #[.string s, .int .i64 kd, .int .i64 en, .string im, .slice A1 n1 c1, .slice A2 n2 c2, .slice A3 n3 c3, .slice A4 n4 c4, .slice A5 n5 c5] 86 (0, 0)) := by rw [hX4, heb]; exact heap_alloc_new U0 _
         have t7 : X4.cell? ⟨eb, 7, none⟩ = _ := cell_of_row X4 eb 7 _ _ _ hb4
         have HEB := Lib.hid heb
         have HF4 := Lib.hid (HFK2.out.ext' E4)
         have hnb : eb ≠ w.heap.size + 2 := by have h1 := (hltA HFK2.out.row); omega
         clear hbo hs hkd hEX hin hnl hyes hnx hex hn4 hxe heb hb4 E4 HL hkl
         go_upto_region 30 with (fail)
         rw [<- hX4, <- HEB.out]
         clear hX4 m0 m1 m2 m3 m4 m5 m6 m7 m8
         obtain ⟨⟨c0, c1, c2, c3, c4'⟩, f0, f1, f2, f3, f4⟩ := HF4.out.cells
         clear c0 c1 c2 c3 f0 f1 f2 f3
         obtain ⟨X5, hX5⟩ : ∃ X5, X5 = X4.setCell ⟨w.heap.size + 2, 4, none⟩ (.int .i64 ((l : Int) + 1)) := ⟨_, rfl⟩
         have HF5 := Lib.hid (HF4.out.set4 ((l : Int) + 1))
         rw [<- hX5] at HF5
         have hT5 := (HF4.out.set 4 (.int .i64 ((l : Int) + 1))).1
         rw [<- hX5] at hT5
         have t7' := hT5.keepc t7 (by show ¬ eb = w.heap.size + 2; exact hnb)
         clear t7 hT5
         go_upto_region 31 with (fail)
         rw [<- hX5]
         clear hX5 c4' f4
         go_wp2_with fail
         clear t7'
         go_loopw [108] (fun i wr => ∃ (e : Nat), e <= n4 /\ i = .int .i64 (e : Int) /\ Hid ((∀ i (h : i < ex.length), i < e -> ¬ ex[i].1.data.toList = x.data.toList) /\ FAt w (.slice A k a) (.slice M j mc) (.slice (some ⟨lb, lo, none⟩) q d) (-1) (-1) (-1) (j : Int) ((l + 1 : Nat) : Int) wr)) (fun i _ => n4 - (intOf i).toNat)
         case atStart => exact ⟨0, Nat.zero_le _, rfl, fun _ _ h => absurd h (Nat.not_lt_zero _), HF5.out⟩
         case round =>
          obtain ⟨e, he, rfl, HE⟩ := hrel
          by_cases hle : e < n4
          ·have hez : e < ex.length := by rw [<- HN4.out]; exact hle
           obtain ⟨b5, off5, rfl, hb5, hs5, hw5, z0, z1⟩ := exp_get (HEX.out.ext HE.out.2.ext) hez
           have hnn := HE.out.1
           have hyy : ex[e].1.data.toList = x.data.toList -> IB = true := fun h => HIN.out.2 ⟨e, hez, h⟩
           have hne2 : ¬ ex[e].1.data.toList = x.data.toList -> ∀ i (h : i < ex.length), i < e + 1 -> ¬ ex[i].1.data.toList = x.data.toList := fun h i hi hie => by
            by_cases e' : i = e
            ·cases e'; exact h
            ·exact hnn i hi (by omega)
           have heq : (ex[e].1.toList == x.toList) = decide (ex[e].1.data.toList = x.data.toList) := by rw [ByteArray.toList_eq, ByteArray.toList_eq, Bool.eq_iff_iff]; simp
           have HYY := Lib.hid hyy
           have HNE := Lib.hid hne2
           generalize ex[e].1 = y at z0 HYY HNE heq hs5
           generalize ex[e].2 = ya at z1 hw5
           have HFE := Lib.hid HE.out.2
           obtain ⟨Y4, hY4⟩ : ∃ Y4, Y4 = wr.alloc (.cells #[.string y, .int .i64 ya] 74) := ⟨_, rfl⟩
           have F4 : Ext wr Y4 := by rw [hY4]; exact (Ext.refl wr).alloc _
           have y0 : Y4.cell? ⟨wr.heap.size, 0, none⟩ = some (.string y) := by rw [hY4]; exact cell_new wr _ 74 0
           have HF6 := Lib.hid (HFE.out.ext' F4)
           clear hb5 hw5 hnn hyy hne2 F4 HE hez
           go_upto_region 34 with (fail)
           rw [<- hY4]
           clear hY4 z0 z1
           by_cases hq9 : y.data.toList = x.data.toList
           ·rw [decide_eq_true hq9] at heq
            have HR2 := Lib.hid (HY.out (HYY.out hq9))
            obtain ⟨⟨c0, c1, c2, c3, c4'⟩, f0, f1, f2, f3, f4⟩ := HF6.out.cells
            have HF7 := Lib.hid (HF6.out.set2 (l : Int))
            go_upto_region 36 with (fail)
            obtain ⟨W7, hW7⟩ : ∃ W7, W7 = Y4.setCell ⟨w.heap.size + 2, 2, none⟩ (.int .i64 (l : Int)) := ⟨_, rfl⟩
            rw [<- hW7] at HF7 ⊢
            clear hW7 c0 c1 c2 c3 c4' f0 f1 f2 f3 f4 y0 heq hq9
            obtain ⟨⟨c0, c1, c2, c3, c4'⟩, _, _, _, _, _⟩ := HF7.out.cells
            obtain ⟨⟨r0, r1, r2, r3, r4⟩, k0, k1, k2, k3, k4⟩ := HF7.out.resc
            go_wp2_with fail
            exact ret_fnd rfl HF7.out rfl rfl rfl HR2.out
           ·rw [decide_eq_false hq9] at heq
            have HN2 := Lib.hid (HNE.out hq9)
            go_wp2_with fail
            clear heq
            go_roundw
            case rel => exact ⟨e + 1, by omega, by go_num, HN2.out, HF6.out⟩
            case measure => simp [intOf]; omega
          ·obtain rfl : e = n4 := by omega
           have hno : ¬ IB = true := fun h => by
            obtain ⟨i, hi, e'⟩ := HIN.out.1 h
            exact HE.out.1 i hi (by rw [HN4.out]; exact hi) e'
           have HN2 := Lib.hid (HNX.out hno)
           have HFE := Lib.hid HE.out.2
           clear hno HE
           go_wp2_with fail
           exact ⟨⟨l + 1, by omega, by go_num, HN2.out, HFE.out⟩, by simp [intOf]; omega⟩
        ·obtain rfl : l = q := by omega
         have hnl : ∀ i (_ : i < E.libs.length), L.isIn x E.libs[i] = false := fun i hi => HL.out.1 i hi (by rw [HQ.out]; exact hi)
         have hR2 : R = ((-1, -1, -1, (j : Int), (l : Int)), 8) := by
          rw [HL0.out, later_none HNO.out hnl, HMM.out, HQ.out]
          rfl
         have HR2 := Lib.hid hR2
         have HF7 := Lib.hid HL.out.2
         clear hnl hR2 HL
         obtain ⟨⟨c0, c1, c2, c3, c4⟩, _, _, _, _, _⟩ := HF7.out.cells
         obtain ⟨⟨r0, r1, r2, r3, r4⟩, k0, k1, k2, k3, k4⟩ := HF7.out.resc
         go_wp2_with fail
         exact ret_fnd rfl HF7.out rfl rfl rfl HR2.out
end Go.Proofs.YtfbhchpbflaphaaGreatDoor

namespace Go.Proofs.YtfbhchpbflaphaaGreatDoor
open Go.RowKit Go.Maps Go.ChangeMaps
theorem hit_cases {E : L.Env} {x : ByteArray} {u m : Nat} (h : L.hit E x = .unit u m) : (m = 0 /\ u < E.objs.length) ∨ ∃ i, ∃ _ : i < E.mems.length, m = i + 1 /\ u = E.objs.length + i := by
 have hs := L.scan_all x E.objs
 unfold L.hit at h
 cases hsc : L.scanO x E.objs 0 (-1) (-1) with
 | none => rw [hsc] at h; cases h
 | some p =>
  obtain ⟨e, w⟩ := p
  rw [hsc] at h hs
  obtain ⟨he, hw⟩ := hs
  simp only at h
  by_cases hp : 0 <= L.pick e w
  ·rw [if_pos hp] at h
   cases h
   refine .inl ⟨rfl, ?_⟩
   unfold L.pick at hp ⊢
   by_cases h0 : 0 <= e
   ·rw [if_pos h0] at hp ⊢
    rcases he with ⟨rfl, _⟩ | ⟨n, hn, rfl, _⟩
    ·omega
    ·rw [Int.toNat_natCast]; exact hn
   ·rw [if_neg h0] at hp ⊢
    rcases hw with ⟨rfl, _⟩ | ⟨n, hn, rfl, _⟩
    ·omega
    ·rw [Int.toNat_natCast]; exact hn
  ·rw [if_neg hp] at h
   unfold L.later at h
   cases hm : E.mems.findIdx? (L.isDef x) with
   | some i =>
    rw [hm] at h
    cases h
    obtain ⟨hi, _⟩ := List.findIdx?_eq_some_iff_getElem.1 hm
    exact .inr ⟨i, hi, rfl, rfl⟩
   | none =>
    rw [hm] at h
    cases hl : E.libs.findIdx? (L.isIn x) with
    | some j => rw [hl] at h; cases h
    | none => rw [hl] at h; cases h
def RetMb (B : Nat -> Prop) (w : World) (m : C.Mem) (e : Ending) (w' : World) : Prop := Ext w w' /\ ∃ SA sc SB sd, e = .returned (.agg #[.string m.1, .slice SA m.2.1.length sc, .slice SB m.2.2.length sd]) /\ SliceAt symR w' B SA sc m.2.1 /\ SliceAt secR w' B SB sd m.2.2
theorem size69 : (Tryz.prog.info? 69).map (·.size) = some 3 := by kernel_rfl
theorem ret_mb {fn : Func} (h : fn.results = #[.cell 4 69]) {a : Act} {w wr : World} {g : Nat} {m : C.Mem} {SA SB : Option Addr} {tl ul sc sd : Nat} {o0 o1 o2 : Value} {B : Nat -> Prop} (hBw : ∀ k, B k -> k < w.heap.size) (hx : Ext w wr) (hg : w.heap.size <= g) (hr : wr.heap[g]? = some (.cells #[o0, o1, o2] 69 (0, 0))) (hp : a.tmps.getD 4 undef = .pointer (some ⟨g, 0, none⟩)) (hd : a.defers = [])
 (hA : SliceAt symR w B SA sc m.2.1) (hB : SliceAt secR w B SB sd m.2.2) (htl : tl = m.2.1.length) (hul : ul = m.2.2.length) {s : ByteArray} (hs : s = m.1) :
 bodyPost Tryz.prog fn (RetMb B w m) .ret a (((wr.setCell ⟨g, 0, none⟩ (.string s)).setCell ⟨g, 1, none⟩ (.slice SA tl sc)).setCell ⟨g, 2, none⟩ (.slice SB ul sd)) := by
 subst htl hul hs
 have hr2 := heap_setCell_cells (heap_setCell_cells (heap_setCell_cells hr 0 (.string m.1)) 1 (.slice SA m.2.1.length sc)) 2 (.slice SB m.2.2.length sd)
 have hT : Tch (fun i => i = g) wr (((wr.setCell ⟨g, 0, none⟩ (.string m.1)).setCell ⟨g, 1, none⟩ (.slice SA m.2.1.length sc)).setCell ⟨g, 2, none⟩ (.slice SB m.2.2.length sd)) := ((grown_tch (grownBy_setCell wr ⟨g, 0, none⟩ _)).trans (grown_tch (grownBy_setCell _ ⟨g, 1, none⟩ _))).trans (grown_tch (grownBy_setCell _ ⟨g, 2, none⟩ _))
 have hE := ((hx.tch fun _ => False).trans' hT fun i hi e => absurd hi (by omega)).ext fun _ _ h => h
 exact bodyPost_ret (results_cell_row h a.tmps _ g 69 _ (0, 0) _ hp hr2 Tryz.underlying69 rfl size69) hd ⟨hE, SA, sc, SB, sd, rfl, hA.keep (fun _ h => h) fun k hk => hE.block k (hBw k hk), hB.keep (fun _ h => h) fun k hk => hE.block k (hBw k hk)⟩
set_option maxRecDepth 8000 in
set_option maxHeartbeats 2000000 in
theorem member_obj (objs : List C.Mem) (A : Option Addr) (a n k : Nat) (vm vl : Value) (f1 f2 f3 f4 : Int) (w : World) (hn : n = objs.length) (B : Nat -> Prop) (hBw : ∀ k, B k -> k < w.heap.size) (hA : SliceAt memR w B A a objs) (hk : k < objs.length) (hn2 : n <= 100000) (hvm : ∃ B x c, vm = .slice B x c) (hvl : ∃ B x c, vl = .slice B x c) :
 Calls Tryz.prog 55 #[.agg #[.slice A n a, vm, vl], .agg #[.int .i64 (k : Int), .int .i64 f1, .int .i64 f2, .int .i64 f3, .int .i64 f4]] w (RetMb B w objs[k]) := by
 obtain ⟨mb, mo, s, TA, tc, TB, td, rfl, hbo, hms, hss, hTA, hTB, m0, m1, m2⟩ := mem_getB hA hk
 obtain ⟨B1, x1, c1, rfl⟩ := hvm
 obtain ⟨B2, x2, c2, rfl⟩ := hvl
 have HBW := Lib.hid hBw
 have hkn : k < n := by omega
 obtain ⟨tl, htl⟩ : ∃ tl, tl = objs[k].2.1.length := ⟨_, rfl⟩
 obtain ⟨ul, hul⟩ : ∃ ul, ul = objs[k].2.2.length := ⟨_, rfl⟩
 rw [<- htl] at m1
 rw [<- hul] at m2
 obtain ⟨W1, hW1⟩ : ∃ W1, W1 = ((w.alloc (.cells #[.slice (some ⟨mb, mo, none⟩) n a, .slice B1 x1 c1, .slice B2 x2 c2] 109)).alloc (.cells #[.int .i64 (k : Int), .int .i64 f1, .int .i64 f2, .int .i64 f3, .int .i64 f4] 117)).alloc (.cells #[.string ⟨#[]⟩, .slice none 0 0, .slice none 0 0] 69) := ⟨_, rfl⟩
 have E1 : Ext w W1 := by rw [hW1]; exact (((Ext.refl w).alloc _).alloc _).alloc _
 have hsz1 : (w.alloc (.cells #[.slice (some ⟨mb, mo, none⟩) n a, .slice B1 x1 c1, .slice B2 x2 c2] 109)).heap.size = w.heap.size + 1 := by simp
 have hsz2 : ((w.alloc (.cells #[.slice (some ⟨mb, mo, none⟩) n a, .slice B1 x1 c1, .slice B2 x2 c2] 109)).alloc (.cells #[.int .i64 (k : Int), .int .i64 f1, .int .i64 f2, .int .i64 f3, .int .i64 f4] 117)).heap.size = w.heap.size + 2 := by simp
 have hb0 : W1.heap[w.heap.size]? = some (.cells #[.slice (some ⟨mb, mo, none⟩) n a, .slice B1 x1 c1, .slice B2 x2 c2] 109 (0, 0)) := by rw [hW1]; exact ((((Ext.refl (w.alloc _)).alloc _).alloc _).block _ (by simp)).trans (heap_alloc_new w _)
 have hb1 : W1.heap[w.heap.size + 1]? = some (.cells #[.int .i64 (k : Int), .int .i64 f1, .int .i64 f2, .int .i64 f3, .int .i64 f4] 117 (0, 0)) := by rw [hW1]; exact (((Ext.refl ((w.alloc _).alloc _)).alloc _).block _ (by simp)).trans (by rw [<- hsz1]; exact heap_alloc_new _ _)
 have hb2 : W1.heap[w.heap.size + 2]? = some (.cells #[.string ⟨#[]⟩, .slice none 0 0, .slice none 0 0] 69 (0, 0)) := by rw [hW1, <- hsz2]; exact heap_alloc_new _ _
 have c0 : W1.cell? ⟨w.heap.size, 0, none⟩ = _ := cell_of_row W1 _ 0 _ _ _ hb0
 have d0 : W1.cell? ⟨w.heap.size + 1, 0, none⟩ = _ := cell_of_row W1 _ 0 _ _ _ hb1
 have r0 : W1.cell? ⟨w.heap.size + 2, 0, none⟩ = _ := cell_of_row W1 _ 0 _ _ _ hb2
 have r1 : W1.cell? ⟨w.heap.size + 2, 1, none⟩ = _ := cell_of_row W1 _ 1 _ _ _ hb2
 have r2 : W1.cell? ⟨w.heap.size + 2, 2, none⟩ = _ := cell_of_row W1 _ 2 _ _ _ hb2
 have k0 := Lib.frozen_of_heap hb2 0
 have k1 := Lib.frozen_of_heap hb2 1
 have k2 := Lib.frozen_of_heap hb2 2
 have m0' := E1.keepc m0
 have m1' := E1.keepc m1
 have m2' := E1.keepc m2
 have HW1 := Lib.hid hW1
 have HE1 := Lib.hid E1
 have HB2 := Lib.hid hb2
 have HTA := Lib.hid hTA
 have HTB := Lib.hid hTB
 have HTL := Lib.hid htl
 have HUL := Lib.hid hul
 have HMS := Lib.hid hms
 clear hn hA hBw hbo hms hss hTA hTB m0 m1 m2 htl hul hW1 E1 hsz1 hsz2 hb0 hb1 hb2
 go_enter Tryz.func55, Tryz.ntmps55
 go_upto_region 1 with (fail)
 rw [<- HW1.out]
 go_wp2_with fail
 exact ret_mb rfl HBW.out HE1.out (by omega) HB2.out rfl rfl HTA.out HTB.out HTL.out HUL.out HMS.out.symm
set_option maxRecDepth 8000 in
set_option maxHeartbeats 2000000 in
theorem member_mem (mems : List C.Mem) (M : Option Addr) (mc mm k : Nat) (vo vl : Value) (f2 f3 f4 : Int) (w : World) (hn : mm = mems.length) (B : Nat -> Prop) (hBw : ∀ k, B k -> k < w.heap.size) (hA : SliceAt memR w B M mc mems) (hk : k < mems.length) (hn2 : mm <= 100000) (hvo : ∃ B x c, vo = .slice B x c) (hvl : ∃ B x c, vl = .slice B x c) :
 Calls Tryz.prog 55 #[.agg #[vo, .slice M mm mc, vl], .agg #[.int .i64 (-1), .int .i64 (k : Int), .int .i64 f2, .int .i64 f3, .int .i64 f4]] w (RetMb B w mems[k]) := by
 obtain ⟨mb, mo, s, TA, tc, TB, td, rfl, hbo, hms, hss, hTA, hTB, m0, m1, m2⟩ := mem_getB hA hk
 obtain ⟨B1, x1, c1, rfl⟩ := hvo
 obtain ⟨B2, x2, c2, rfl⟩ := hvl
 have HBW := Lib.hid hBw
 have hkn : k < mm := by omega
 obtain ⟨tl, htl⟩ : ∃ tl, tl = mems[k].2.1.length := ⟨_, rfl⟩
 obtain ⟨ul, hul⟩ : ∃ ul, ul = mems[k].2.2.length := ⟨_, rfl⟩
 rw [<- htl] at m1
 rw [<- hul] at m2
 obtain ⟨W1, hW1⟩ : ∃ W1, W1 = ((w.alloc (.cells #[.slice B1 x1 c1, .slice (some ⟨mb, mo, none⟩) mm mc, .slice B2 x2 c2] 109)).alloc (.cells #[.int .i64 (-1), .int .i64 (k : Int), .int .i64 f2, .int .i64 f3, .int .i64 f4] 117)).alloc (.cells #[.string ⟨#[]⟩, .slice none 0 0, .slice none 0 0] 69) := ⟨_, rfl⟩
 have E1 : Ext w W1 := by rw [hW1]; exact (((Ext.refl w).alloc _).alloc _).alloc _
 have hsz1 : (w.alloc (.cells #[.slice B1 x1 c1, .slice (some ⟨mb, mo, none⟩) mm mc, .slice B2 x2 c2] 109)).heap.size = w.heap.size + 1 := by simp
 have hsz2 : ((w.alloc (.cells #[.slice B1 x1 c1, .slice (some ⟨mb, mo, none⟩) mm mc, .slice B2 x2 c2] 109)).alloc (.cells #[.int .i64 (-1), .int .i64 (k : Int), .int .i64 f2, .int .i64 f3, .int .i64 f4] 117)).heap.size = w.heap.size + 2 := by simp
 have hb0 : W1.heap[w.heap.size]? = some (.cells #[.slice B1 x1 c1, .slice (some ⟨mb, mo, none⟩) mm mc, .slice B2 x2 c2] 109 (0, 0)) := by rw [hW1]; exact ((((Ext.refl (w.alloc _)).alloc _).alloc _).block _ (by simp)).trans (heap_alloc_new w _)
 have hb1 : W1.heap[w.heap.size + 1]? = some (.cells #[.int .i64 (-1), .int .i64 (k : Int), .int .i64 f2, .int .i64 f3, .int .i64 f4] 117 (0, 0)) := by rw [hW1]; exact (((Ext.refl ((w.alloc _).alloc _)).alloc _).block _ (by simp)).trans (by rw [<- hsz1]; exact heap_alloc_new _ _)
 have hb2 : W1.heap[w.heap.size + 2]? = some (.cells #[.string ⟨#[]⟩, .slice none 0 0, .slice none 0 0] 69 (0, 0)) := by rw [hW1, <- hsz2]; exact heap_alloc_new _ _
 have c1' : W1.cell? ⟨w.heap.size, 1, none⟩ = _ := cell_of_row W1 _ 1 _ _ _ hb0
 have d0 : W1.cell? ⟨w.heap.size + 1, 0, none⟩ = _ := cell_of_row W1 _ 0 _ _ _ hb1
 have d1 : W1.cell? ⟨w.heap.size + 1, 1, none⟩ = _ := cell_of_row W1 _ 1 _ _ _ hb1
 have r0 : W1.cell? ⟨w.heap.size + 2, 0, none⟩ = _ := cell_of_row W1 _ 0 _ _ _ hb2
 have r1 : W1.cell? ⟨w.heap.size + 2, 1, none⟩ = _ := cell_of_row W1 _ 1 _ _ _ hb2
 have r2 : W1.cell? ⟨w.heap.size + 2, 2, none⟩ = _ := cell_of_row W1 _ 2 _ _ _ hb2
 have k0 := Lib.frozen_of_heap hb2 0
 have k1 := Lib.frozen_of_heap hb2 1
 have k2 := Lib.frozen_of_heap hb2 2
 have m0' := E1.keepc m0
 have m1' := E1.keepc m1
 have m2' := E1.keepc m2
 have HW1 := Lib.hid hW1
 have HE1 := Lib.hid E1
 have HB2 := Lib.hid hb2
 have HTA := Lib.hid hTA
 have HTB := Lib.hid hTB
 have HTL := Lib.hid htl
 have HUL := Lib.hid hul
 have HMS := Lib.hid hms
 clear hn hA hBw hbo hms hss hTA hTB m0 m1 m2 htl hul hW1 E1 hsz1 hsz2 hb0 hb1 hb2
 go_enter Tryz.func55, Tryz.ntmps55
 go_upto_region 1 with (fail)
 rw [<- HW1.out]
 go_wp2_with fail
 exact ret_mb rfl HBW.out HE1.out (by omega) HB2.out rfl rfl HTA.out HTB.out HTL.out HUL.out HMS.out.symm
end Go.Proofs.YtfbhchpbflaphaaGreatDoor

namespace Go.Proofs.YtfbhchpbflaphaaGreatDoor
open Go.RowKit Go.Maps Go.ChangeMaps
abbrev SpotM := C.Mem × ByteArray
def spotR : Rep SpotM := prodR memR strR
def unitAt (E : L.Env) (u : Nat) : C.Mem := (E.units[u]?).getD (⟨#[]⟩, [], [])
theorem unitAt_is {E : L.Env} {u : Nat} (hu : u < E.units.length) : unitAt E u = E.units[u] := by unfold unitAt; rw [List.getElem?_eq_getElem hu]; rfl
theorem unitAt_name (E : L.Env) (u : Nat) : E.name u = (unitAt E u).1 := by unfold L.Env.name unitAt; cases E.units[u]? <;> rfl
def spotM (E : L.Env) (p : L.Spot) : SpotM := (unitAt E p.1, p.2)
def spots (E : L.Env) (l : List L.Spot) : List SpotM := l.map (spotM E)
theorem spots_len (E : L.Env) (l : List L.Spot) : (spots E l).length = l.length := List.length_map _
theorem spots_get (E : L.Env) {l : List L.Spot} {k : Nat} (hk : k < l.length) : (spots E l)[k]'(by rw [spots_len]; exact hk) = (unitAt E l[k].1, l[k].2) := by unfold spots; rw [List.getElem_map]; rfl
theorem spot_get {w : World} {B : Nat -> Prop} {A : Option Addr} {c k : Nat} {l : List SpotM} (h : SliceAt spotR w B A c l) (hk : k < l.length) :
 ∃ b off SA sc SB sd, A = some ⟨b, off, none⟩ /\ B b /\ l[k].1.1.size <= 9223372036854775807 /\ l[k].2.size <= 9223372036854775807 /\ SliceAt symR w B SA sc l[k].1.2.1 /\ SliceAt secR w B SB sd l[k].1.2.2 /\
  (w.cell? ⟨b, off + k * 4, none⟩ = some (.string l[k].1.1) /\ w.cell? ⟨b, off + k * 4 + 1, none⟩ = some (.slice SA l[k].1.2.1.length sc) /\ w.cell? ⟨b, off + k * 4 + 1 + 1, none⟩ = some (.slice SB l[k].1.2.2.length sd) /\ w.cell? ⟨b, off + k * 4 + 3, none⟩ = some (.string l[k].2)) := by
 obtain ⟨b, off, rfl, hb, hr⟩ := h.2.2 (by intro h; rw [h] at hk; simp at hk)
 obtain ⟨us, ⟨x, y, rfl, ⟨x1, y1, rfl, ⟨rfl, hs⟩, x2, y2, rfl, ⟨SA, sc, rfl, hSA⟩, SB, sd, rfl, hSB⟩, rfl, hx⟩, hc⟩ := hr k hk
 exact ⟨b, off, SA, sc, SB, sd, rfl, hb, hs, hx, hSA, hSB, hc 0 _ rfl, hc 1 _ rfl, hc 2 _ rfl, hc 3 _ rfl⟩
theorem spot_one : ∀ (w : World) (S : Nat -> Prop) (a : SpotM) (us : List Value), spotR.is w S a us -> ∀ u ∈ us, u.oneCell' = true := by
 rintro w S a us ⟨x, y, rfl, h1, rfl, _⟩ u hu
 rcases List.mem_append.1 hu with h | h
 ·exact mem_one w S _ _ h1 u h
 ·rw [List.mem_singleton.1 h]; rfl
structure RlAt (g : Nat) (E : L.Env) (A M D : Option Addr) (a m d : Nat) (w : World) (v : Value) (st : L.St) : Prop where
 row : w.heap[g]? = some (.cells #[.slice A E.objs.length a, .slice M E.mems.length m, .slice D E.libs.length d, v, .int .i64 (st.2.1 : Int), .int .i64 (st.2.2 : Int)] 115 (0, 0))
 objs : SliceAt memR w (fun k => k < g) A a E.objs
 mems : SliceAt memR w (fun k => k < g) M m E.mems
 libs : SliceAt librR w (fun k => k < g) D d E.libs
 list : OwnP spotR (fun k => k < g) 123 w (g + 1) v st.1.length (spots E st.1)
section
variable {g : Nat} {E : L.Env} {A M D : Option Addr} {a m d : Nat} {w w' : World} {v : Value} {st : L.St}
theorem RlAt.lt (h : RlAt g E A M D a m d w v st) : g < w.heap.size := (hltA h.row)
theorem RlAt.tch {X : Nat -> Prop} (h : RlAt g E A M D a m d w v st) (hT : Tch X w w') (hX : ∀ k, X k -> g < k) (hv : ∀ k, v.ownBlock = some k -> ¬ X k) : RlAt g E A M D a m d w' v st := by
 have hlow : ∀ k, k < g -> k < w.heap.size /\ ¬ X k := fun k hk => ⟨Nat.lt_trans hk h.lt, fun hx => by have := hX _ hx; omega⟩
 exact ⟨(hT.block g h.lt fun hx => by have := hX _ hx; omega).trans h.row, h.objs.tch hT hlow, h.mems.tch hT hlow, h.libs.tch hT hlow, h.list.tch hT hv hlow⟩
theorem RlAt.ext (h : RlAt g E A M D a m d w v st) (he : Ext w w') : RlAt g E A M D a m d w' v st := h.tch (he.tch fun _ => False) (fun _ h => h.elim) fun _ _ h => h
theorem RlAt.cell (h : RlAt g E A M D a m d w v st) (i : Nat) : w.cell? ⟨g, i, none⟩ = (#[.slice A E.objs.length a, .slice M E.mems.length m, .slice D E.libs.length d, v, .int .i64 (st.2.1 : Int), .int .i64 (st.2.2 : Int)] : Array Value)[i]? := cell_of_row w g i _ _ _ h.row
theorem RlAt.frozen (h : RlAt g E A M D a m d w v st) (i : Nat) : w.frozen? ⟨g, i, none⟩ = false := Lib.frozen_of_heap h.row i
theorem RlAt.own (h : RlAt g E A M D a m d w v st) {k : Nat} (hk : v.ownBlock = some k) : g < k /\ k < w.heap.size := h.list.lt hk
theorem RlAt.set (h : RlAt g E A M D a m d w v st) (i : Nat) (x : Value) : Tch (fun k => k = g) w (w.setCell ⟨g, i, none⟩ x) /\ SliceAt memR (w.setCell ⟨g, i, none⟩ x) (fun k => k < g) A a E.objs /\ SliceAt memR (w.setCell ⟨g, i, none⟩ x) (fun k => k < g) M m E.mems /\ SliceAt librR (w.setCell ⟨g, i, none⟩ x) (fun k => k < g) D d E.libs /\ OwnP spotR (fun k => k < g) 123 (w.setCell ⟨g, i, none⟩ x) (g + 1) v st.1.length (spots E st.1) := by
 have hT : Tch (fun k => k = g) w (w.setCell ⟨g, i, none⟩ x) := grown_tch (grownBy_setCell w ⟨g, i, none⟩ x)
 have hlow : ∀ k, k < g -> k < w.heap.size /\ ¬ k = g := fun k hk => ⟨Nat.lt_trans hk h.lt, by omega⟩
 exact ⟨hT, h.objs.tch hT hlow, h.mems.tch hT hlow, h.libs.tch hT hlow, h.list.tch hT (fun k hk e => by have := (h.own hk).1; omega) hlow⟩
theorem RlAt.set4 (h : RlAt g E A M D a m d w v st) (x : Nat) : RlAt g E A M D a m d (w.setCell ⟨g, 4, none⟩ (.int .i64 (x : Int))) v (st.1, x, st.2.2) := by
 obtain ⟨_, h1, h2, h3, h4⟩ := h.set 4 (.int .i64 (x : Int))
 exact ⟨heap_setCell_cells h.row 4 _, h1, h2, h3, h4⟩
theorem RlAt.set5 (h : RlAt g E A M D a m d w v st) (x : Nat) : RlAt g E A M D a m d (w.setCell ⟨g, 5, none⟩ (.int .i64 (x : Int))) v (st.1, st.2.1, x) := by
 obtain ⟨_, h1, h2, h3, h4⟩ := h.set 5 (.int .i64 (x : Int))
 exact ⟨heap_setCell_cells h.row 5 _, h1, h2, h3, h4⟩
def RetNt (g : Nat) (E : L.Env) (A M D : Option Addr) (a m d : Nat) (w : World) (v : Value) (st : L.St) (e : Ending) (w' : World) : Prop := e = .returned (.tuple #[]) /\ Tch (fun k => k = g) w w' /\ RlAt g E A M D a m d w' v st
set_option maxRecDepth 8000 in
set_option maxHeartbeats 2000000 in
theorem note_any (h : RlAt g E A M D a m d w v st) (f0 f1 f2 : Int) (m1 m2 : Nat) (hb : L.Bd E st.2) (hm : L.Bd E (m1, m2)) (hN : E.mems.length <= 100000 /\ E.libs.length <= 100000) :
 Calls Tryz.prog 54 #[.pointer (some ⟨g, 0, none⟩), .agg #[.int .i64 f0, .int .i64 f1, .int .i64 f2, .int .i64 (m1 : Int), .int .i64 (m2 : Int)]] w (RetNt g E A M D a m d w v (L.note st (m1, m2))) := by
 obtain ⟨W1, hW1⟩ : ∃ W1, W1 = w.alloc (.cells #[.int .i64 f0, .int .i64 f1, .int .i64 f2, .int .i64 (m1 : Int), .int .i64 (m2 : Int)] 117) := ⟨_, rfl⟩
 obtain ⟨fb, hfb⟩ : ∃ fb, fb = w.heap.size := ⟨_, rfl⟩
 have E1 : Ext w W1 := by rw [hW1]; exact (Ext.refl w).alloc _
 have hb1 : W1.heap[fb]? = some (.cells #[.int .i64 f0, .int .i64 f1, .int .i64 f2, .int .i64 (m1 : Int), .int .i64 (m2 : Int)] 117 (0, 0)) := by rw [hW1, hfb]; exact heap_alloc_new w _
 have h1 := (h.ext E1).ext (Ext.refl W1).drew
 obtain ⟨x, hx⟩ : ∃ x, x = max st.2.1 m1 := ⟨_, rfl⟩
 obtain ⟨y, hy⟩ : ∃ y, y = max st.2.2 m2 := ⟨_, rfl⟩
 have hst : L.note st (m1, m2) = (st.1, x, y) := by rw [hx, hy]; rfl
 rw [hst]
 have hmx : max (st.2.1 : Int) (m1 : Int) = (x : Int) := by omega
 have hmy : max (st.2.2 : Int) (m2 : Int) = (y : Int) := by omega
 have hbx : x <= 100000 := by have := hb.1; have := hm.1; have := hN.1; simp only at *; omega
 have hby : y <= 100000 := by have := hb.2; have := hm.2; have := hN.2; simp only at *; omega
 have hb4 : st.2.1 <= 100000 := by have := hb.1; have := hN.1; omega
 have hb5 : st.2.2 <= 100000 := by have := hb.2; have := hN.2; omega
 have hc1 : m1 <= 100000 := by have := hm.1; have := hN.1; simp only at *; omega
 have hc2 : m2 <= 100000 := by have := hm.2; have := hN.2; simp only at *; omega
 have HR1 := Lib.hid ((h1.set4 x).set5 y)
 have HR2 := Lib.hid ((h1.set5 y).set4 x)
 have HT1 : Hid (Tch (fun k => k = g) w ((W1.drew.setCell ⟨g, 4, none⟩ (.int .i64 (x : Int))).setCell ⟨g, 5, none⟩ (.int .i64 (y : Int)))) := (((E1.trans (Ext.refl W1).drew).tch _).trans (h1.set 4 (.int .i64 (x : Int))).1).trans ((h1.set4 x).set 5 (.int .i64 (y : Int))).1
 have HT2 : Hid (Tch (fun k => k = g) w ((W1.drew.setCell ⟨g, 5, none⟩ (.int .i64 (y : Int))).setCell ⟨g, 4, none⟩ (.int .i64 (x : Int)))) := (((E1.trans (Ext.refl W1).drew).tch _).trans (h1.set 5 (.int .i64 (y : Int))).1).trans ((h1.set5 y).set 4 (.int .i64 (x : Int))).1
 have h2 := h.ext E1
 have c4 : W1.cell? ⟨g, 4, none⟩ = some (.int .i64 (st.2.1 : Int)) := h2.cell 4
 have c5 : W1.cell? ⟨g, 5, none⟩ = some (.int .i64 (st.2.2 : Int)) := h2.cell 5
 have k4 := h2.frozen 4
 have k5 := h2.frozen 5
 have t3 : W1.cell? ⟨fb, 3, none⟩ = _ := cell_of_row W1 fb 3 _ _ _ hb1
 have t4 : W1.cell? ⟨fb, 4, none⟩ = _ := cell_of_row W1 fb 4 _ _ _ hb1
 have hgf : g ≠ fb := by have := h.lt; omega
 have HW1 := Lib.hid hW1
 have HFB := Lib.hid hfb
 generalize st.2.1 = z1 at *
 generalize st.2.2 = z2 at *
 clear h h1 h2 hst hx hy hW1 hfb E1 hb1 hb hm hN
 go_enter Tryz.func54, Tryz.ntmps54
 go_upto_region 1 with (fail)
 rw [<- HW1.out, <- HFB.out]
 go_region
 all_goals (go_wp2_with fail; go_end0; first | exact ⟨rfl, HT1.out, HR1.out⟩ | exact ⟨rfl, HT2.out, HR2.out⟩)
end
end Go.Proofs.YtfbhchpbflaphaaGreatDoor
