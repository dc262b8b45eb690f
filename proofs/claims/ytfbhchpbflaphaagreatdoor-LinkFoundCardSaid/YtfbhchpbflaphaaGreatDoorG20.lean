/- The texts Hh Jc of the seat, joined. -/
import Derived.Test.YtfbhchpbflaphaaGreatDoorG19
import Derived.Laws.StructEq
/- link.Share, walked. -/
namespace Go.Proofs.YtfbhchpbflaphaaGreatDoor
open Go.RowKit Go.Maps Go.ChangeMaps

/-- The state of Share's second loop: the list begun, its places pv. -/
structure ShAt (W1 : World) (b0 b4 g : Nat) (E : L.Env) (S : Nat → Prop) (RS : Except Int L.St) (ns : List ByteArray) (NB : List C.Bs) (v : Value) (n0 k : Nat) (st : L.St) (X : Nat → Prop) (kc : LC) (pv : Value) (wr : World) : Prop where
  rest : RS = L.starts E (ns.drop k) st
  names : st.1.map (·.2) = ns.take k
  ok : L.ListOk E st.1
  bd : L.Bd E st.2
  link : LinkAt wr S X b0 g E st [] kc
  pos : OwnL intC 3 1 wr b4 pv k ((List.range k).map fun i : Nat => (i : Int))
  off : ∀ b, pv.ownBlock = some b → ¬ X b ∧ ¬ S b
  list : OwnS wr W1.heap.size v n0 NB
  ext : Ext W1 wr
  low : b4 ≤ wr.heap.size
theorem ShAt.ext' {W1 : World} {b0 b4 g : Nat} {E : L.Env} {S : Nat → Prop} {RS : Except Int L.St} {ns : List ByteArray} {NB : List C.Bs} {v : Value} {n0 k : Nat} {st : L.St} {X : Nat → Prop} {kc : LC} {pv : Value} {wr W : World} (h : ShAt W1 b0 b4 g E S RS ns NB v n0 k st X kc pv wr) (he : Ext wr W) : ShAt W1 b0 b4 g E S RS ns NB v n0 k st X kc pv W :=
  ⟨h.rest, h.names, h.ok, h.bd, h.link.ext he, h.pos.ext he, h.off, h.list.ext he, h.ext.trans he, Nat.le_trans h.low he.size⟩

attribute [local irreducible] wpLex wpT
set_option maxRecDepth 8000 in
set_option maxHeartbeats 8000000 in
theorem Share_any (objs : List C.Mem) (A : Option Addr) (a n : Nat) (w : World) (hn : n = objs.length) (hA : SliceAt memR w (Old w) A a objs) (hC : CaseOk objs [] []) (hg : Gl w) :
    Calls Tryz.prog 16 #[.slice A n a] w (RetLk w (linkV (L.shareL okN okP objs))) := by
  have hno := hC.no
  have hfew := hC.few
  have hA' := fun W (e : Ext w W) => hA.ext e
  have HV := Lib.hid (fun W (e : Ext w W) => lvalid_any objs [] [] A none none a 0 0 n 0 0 W hn (hA' W e) rfl (SliceAt.nil _ _ _ _ _ (by omega)) rfl (SliceAt.nil _ _ _ _ _ (by omega)) hC.mems (fun s hs => by cases hs) (fun l hl => by cases hl) (by omega) (by omega) (by omega) (hg.ext e))
  have HNW := Lib.hid (fun W (e : Ext w W) => newLinker_any objs [] [] A none none a 0 0 n 0 0 W hn (hA' W e) rfl (SliceAt.nil _ _ _ _ _ (by omega)) rfl (SliceAt.nil _ _ _ _ _ (by omega)) hC.mems (fun s hs => by cases hs) (by omega) (by omega))
  have HE := Lib.hid hC.env
  have HU : Hid (L.validB okN okP objs [] [] = true → ∀ m ∈ objs, m.2.1.length ≤ 128) := fun hv m hm => (L.check_parts (L.valid_units hv [] m (List.mem_append_left _ hm))).1
  obtain ⟨FV, hR⟩ : ∃ FV, FV = linkV (L.shareL okN okP objs) := ⟨_, rfl⟩
  rw [← hR]
  unfold L.shareL at hR
  rw [← valid_alone objs] at hR
  obtain ⟨E, hE⟩ : ∃ E, E = L.envOf objs [] [] := ⟨_, rfl⟩
  obtain ⟨ns, hns⟩ : ∃ ns, ns = namesE objs := ⟨_, rfl⟩
  have hns' : ((L.expNames objs).map fun b => (⟨b.toArray⟩ : ByteArray)) = ns := hns.symm
  rw [← hE] at HNW HE
  have hel : E.libs = [] := by rw [hE]; rfl
  generalize L.validB okN okP objs [] [] = V at HV hR HE HU
  have HA := Lib.hid hA'
  have HN := Lib.hid hn
  have HMS := Lib.hid hC.mems
  obtain ⟨hx1, hr1, hr2, hs1⟩ := two_cells w
  obtain ⟨W1, hW1⟩ : ∃ W1, W1 = (w.alloc (.cells zrow35 35)).alloc (.cells zrow38 38) := ⟨_, rfl⟩
  rw [← hW1] at hx1 hr1 hr2 hs1
  have HW1 := Lib.hid hW1
  have HX1 := Lib.hid hx1
  have HR1 := Lib.hid hr1
  have HR2 := Lib.hid hr2
  have HS1 := Lib.hid hs1
  have hn50 : n ≤ 50 := by omega
  clear hn hA hC hg hno hfew hA' hx1 hr1 hr2 hs1 hW1
  cases V with
  | false =>
    have hR' : FV = (zeroB, ([], []), 1) := by rw [hR]; rfl
    have HR := Lib.hid hR'
    clear hR hR' HE HU hns' hns hE hel
    go_enter Tryz.func16, Tryz.ntmps16
    go_upto_region 1 with (fail)
    rw [← HW1.out]
    go_wp2_with fail
    refine (HV.out _ HX1.out).mono ?_
    rintro _ w2 ⟨rfl, e2⟩
    have HE2 := Lib.hid e2
    clear e2
    go_wp2_with fail
    refine (none59_any 1 _).mono ?_
    rintro e wz ⟨ez, rfl⟩
    have hz := HE2.out.trans ez
    have hA := (hz.block _ (Array.getElem?_eq_some_iff.1 HR1.out).1).trans HR1.out
    have hB := (hz.block _ (Array.getElem?_eq_some_iff.1 HR2.out).1).trans HR2.out
    obtain ⟨⟨r0, r1, r2, r3, r4, r5, r6, r7⟩, f0, f1, f2, f3, f4, f5, f6, f7⟩ := zcells hA
    obtain ⟨s0, s1, t0, t1⟩ := zcells2 hB
    obtain ⟨hA3, hB3⟩ := zput_rows hA hB
    have HA3 := Lib.hid hA3
    have HB3 := Lib.hid hB3
    have HX3 := Lib.hid (zput_ext (HX1.out.trans hz))
    clear hz ez hA hB hA3 hB3
    go_wp2_with fail
    refine ret_bre rfl rfl rfl rfl HA3.out HB3.out rfl rfl rfl ?_
    rw [HR.out]
    exact ⟨HX3.out, RetBR.none _ _ _⟩
  | true =>
    rw [if_pos rfl] at hR
    simp only [hns', ← hE] at hR
    have HEV := Lib.hid (HE.out rfl)
    have HUU := Lib.hid (HU.out rfl)
    have HRR := Lib.hid hR
    have HNS := Lib.hid hns
    have HEL := Lib.hid hel
    have HXS : Hid (∀ y ∈ ns, y.size ≤ 9223372036854775807) := by
      rw [hns]
      intro y hy
      have := namesE_size HMS.out y hy
      omega
    have HEE := Lib.hid hE
    clear hR HE HU hns' hns hE hel
    go_enter Tryz.func16, Tryz.ntmps16
    go_upto_region 1 with (fail)
    rw [← HW1.out]
    go_wp2_with fail
    refine (HV.out _ HX1.out).mono ?_
    rintro _ w2 ⟨rfl, e2⟩
    have HE2 := Lib.hid e2
    clear e2
    go_wp2_with fail
    go_loopw [6, 31] (fun v i wr => ∃ k : Nat, k ≤ n ∧ i = .int .i64 (k : Int) ∧ Hid (OwnS wr W1.heap.size v (catE (objs.take k)).length (catE (objs.take k)) ∧ Ext W1 wr)) (fun _ i _ => n - (intOf i).toNat)
    case atStart => exact ⟨0, Nat.zero_le _, rfl, OwnS.nil _ _, HE2.out⟩
    case round =>
      obtain ⟨k, hk, rfl, HK⟩ := hrel
      obtain ⟨W0, hW0⟩ : ∃ W0, W0 = wr := ⟨_, rfl⟩
      subst hW0
      by_cases hlt : k < n
      · have hkl : k < objs.length := by rw [← HN.out]; exact hlt
        obtain ⟨mb, mo, s, TA, tc, TB, td, rfl, hbo, hms, hss, hTA, hTB, m0, m1, m2⟩ := mem_getB (HA.out _ (HX1.out.trans HK.out.2)) hkl
        have hu := HUU.out _ (List.getElem_mem hkl)
        have htk := catE_take hkl
        have hcl : (catE (objs.take k)).length ≤ k * 128 := by
          have h1 := catE_len (l := objs.take k) fun m hm => HUU.out m (List.mem_of_mem_take hm)
          rw [List.length_take] at h1
          have h2 : min k objs.length * 128 ≤ k * 128 := Nat.mul_le_mul_right _ (Nat.min_le_left _ _)
          omega
        have hel := exports_len (expL objs[k].2.1)
        have hel2 := expL_len objs[k].2.1
        obtain ⟨sy, hsy⟩ : ∃ sy, sy = objs[k].2.1 := ⟨_, rfl⟩
        rw [← hsy] at hTA m1 hu htk hel hel2
        generalize objs[k].2.2.length = ul at m2
        obtain ⟨tl, htl⟩ : ∃ tl, tl = sy.length := ⟨_, rfl⟩
        rw [← htl] at m1 hu hel2
        have HTK := Lib.hid htk
        have HO := Lib.hid HK.out.1
        have HOX := Lib.hid HK.out.2
        obtain ⟨LC0, hLC⟩ : ∃ LC0, LC0 = catE (objs.take k) := ⟨_, rfl⟩
        rw [← hLC] at HO hcl HTK
        obtain ⟨LX, hLX⟩ : ∃ LX, LX = (expL sy).foldl C.insB [] := ⟨_, rfl⟩
        rw [← hLX] at hel HTK
        obtain ⟨W4, hW4⟩ : ∃ W4, W4 = W0.alloc (.cells #[.string s, .slice TA tl tc, .slice TB ul td] 69) := ⟨_, rfl⟩
        obtain ⟨eb, heb⟩ : ∃ eb, eb = W0.heap.size := ⟨_, rfl⟩
        have E4 : Ext W0 W4 := by rw [hW4]; exact (Ext.refl W0).alloc _
        have hb4 : W4.heap[eb]? = some (.cells #[.string s, .slice TA tl tc, .slice TB ul td] 69 (0, 0)) := by rw [hW4, heb]; exact heap_alloc_new W0 _
        have t1 : W4.cell? ⟨eb, 1, none⟩ = _ := cell_of_row W4 eb 1 _ _ _ hb4
        have t2 : W4.cell? ⟨eb, 2, none⟩ = _ := cell_of_row W4 eb 2 _ _ _ hb4
        have HEX : Hid (Calls Tryz.prog 60 #[.agg #[.slice TA tl tc, .slice TB ul td]] W4 (RetS W4 LX)) := by rw [hLX]; exact Exports_any sy TA TB tc td tl ul W4 htl (hTA.ext E4) (by omega)
        have HEB := Lib.hid heb
        have HO4 := Lib.hid (HO.out.ext E4)
        have HX4 := Lib.hid (HOX.out.trans E4)
        clear htk hms hss hTA hTB hbo hsy htl hLC hLX heb hb4 E4 hkl HK HO HOX
        go_upto_region 8 with (fail)
        rw [← hW4, ← HEB.out]
        clear hW4 m0 m1 m2
        go_wp2_with fail
        refine HEX.out.mono ?_
        rintro e w5 ⟨e5, v5, n5, rfl, ho5⟩
        have hn5 := ho5.1
        have hown := HO4.out.ext e5
        have hbase : W1.heap.size ≤ w5.heap.size := (HX4.out.trans e5).size
        have HX5 := Lib.hid (HX4.out.trans e5)
        clear e5
        go_wp2_with (at_builtin; refine wpList_append_ownS rfl (.tmp 35) (.tmp 38) rfl rfl hown rfl ho5 (by omega) hbase ?_; intro v6 w6 ho6 hg6)
        have HX6 := Lib.hid (hown.grown HX5.out (Nat.le_refl _) hg6)
        have HO6 : Hid (OwnS w6 W1.heap.size v6 (catE (objs.take (k + 1))).length (catE (objs.take (k + 1)))) := by
          rw [HTK.out, List.length_append]
          rw [hn5] at ho6
          exact ho6
        go_roundw
        case rel => exact ⟨k + 1, by omega, by go_num, HO6.out, HX6.out⟩
        case measure => simp [intOf]; omega
      · obtain rfl : k = n := by omega
        have htk : objs.take k = objs := List.take_of_length_le (by rw [HN.out]; exact Nat.le_refl _)
        have hcl : (catE objs).length ≤ 6400 := by
          have h1 := catE_len (l := objs) HUU.out
          have := HN.out
          omega
        have hcn := catE_names objs
        rw [htk] at HK
        obtain ⟨LC0, hLC⟩ : ∃ LC0, LC0 = catE objs := ⟨_, rfl⟩
        rw [← hLC] at HK hcl hcn
        obtain ⟨NB, hNB⟩ : ∃ NB, NB = L.expNames objs := ⟨_, rfl⟩
        rw [← hNB] at hcn
        have HSO := Lib.hid (sort_any HK.out.1 (by omega))
        have HK0 := Lib.hid HK.out
        have HCN := Lib.hid hcn
        have HNB := Lib.hid hNB
        have hlen2 : NB.length ≤ LC0.length := by
          rw [← hcn]
          have := Lib.compact_length_le (LC0.mergeSort fun x y => decide (x ≤ y))
          rwa [List.length_mergeSort] at this
        obtain ⟨nl, hnl⟩ : ∃ nl, nl = LC0.length := ⟨_, rfl⟩
        rw [← hnl] at HK0 HSO hcl hlen2
        have HNL := Lib.hid hnl
        clear htk hLC hcn hNB HK hnl
        go_wp2_with fail
        refine HSO.out.mono ?_
        rintro e w3 ⟨rfl, ho3, hg3⟩
        have HX3' := Lib.hid (HK0.out.1.grown HK0.out.2 (Nat.le_refl _) hg3)
        have HCO := Lib.hid (compact_any ho3 (by omega))
        have HO3 := Lib.hid ho3
        clear ho3 hg3
        go_wp2_with fail
        refine HCO.out.mono ?_
        rintro e w4 ⟨v4, rfl, ho4, hv4, hg4⟩
        have HX4 := Lib.hid (HO3.out.grown HX3'.out (Nat.le_refl _) hg4)
        rw [HCN.out] at ho4
        obtain ⟨VA, vc, rfl, hvl, hvc⟩ := ho4.form2
        obtain ⟨q, hq⟩ : ∃ q, q = NB.length := ⟨_, rfl⟩
        rw [← hq] at ho4 hvl hlen2 ⊢
        have HO4 := Lib.hid ho4
        have HQ := Lib.hid hq
        clear ho4 hv4 hg4 hq HSO HCO HO3 HX3' HK0
        by_cases hq0 : q = 0
        · have hR' : FV = (zeroB, ([], []), 7) := by
            have h0 : ns = [] := List.eq_nil_of_length_eq_zero (by rw [HNS.out, namesE_len, ← HNB.out, ← HQ.out, hq0])
            rw [HRR.out, if_pos h0]
            rfl
          have HRB := Lib.hid hR'
          clear hR'
          subst hq0
          go_wp2_with fail
          refine (none59_any 7 _).mono ?_
          rintro e wz ⟨ez, rfl⟩
          have hz := HX4.out.trans ez
          have hA := (hz.block _ (Array.getElem?_eq_some_iff.1 HR1.out).1).trans HR1.out
          have hB := (hz.block _ (Array.getElem?_eq_some_iff.1 HR2.out).1).trans HR2.out
          obtain ⟨⟨r0, r1, r2, r3, r4, r5, r6, r7⟩, f0, f1, f2, f3, f4, f5, f6, f7⟩ := zcells hA
          obtain ⟨s0, s1, t0, t1⟩ := zcells2 hB
          obtain ⟨hA3, hB3⟩ := zput_rows hA hB
          have HA3 := Lib.hid hA3
          have HB3 := Lib.hid hB3
          have HX3 := Lib.hid (zput_ext (HX1.out.trans hz))
          clear hz ez hA hB hA3 hB3
          go_wp2_with fail
          refine ret_bre rfl rfl rfl rfl HA3.out HB3.out rfl rfl rfl ?_
          rw [HRB.out]
          exact ⟨HX3.out, RetBR.none _ _ _⟩
        · have hnn : ns.length = q := by rw [HNS.out, namesE_len, ← HNB.out, ← HQ.out]
          have hne : ns ≠ [] := fun h => hq0 (by rw [← hnn, h]; rfl)
          obtain ⟨RS, hRS⟩ : ∃ RS, RS = L.starts E ns ([], 0, 0) := ⟨_, rfl⟩
          have hR' := HRR.out
          rw [if_neg hne, ← hRS] at hR'
          have HRB := Lib.hid hR'
          have HRS := Lib.hid hRS
          have HNN := Lib.hid hnn
          clear hR' hRS hnn hne
          have q1 : ((q : Int) == 0) = false := by
            have : ¬ (q : Int) = 0 := by omega
            simpa using this
          go_wp2_with fail
          refine (HNW.out _ (HX1.out.trans HX4.out)).mono ?_
          rintro e w5 ⟨e5, g, S, X, kc, rfl, hL, hS⟩
          have HLK := Lib.hid hL
          have HE5 := Lib.hid e5
          have hSl : ∀ b, S b → b < w5.heap.size := fun b hb => (hL.out b hb).1
          have HSL := Lib.hid hSl
          have H0 : Hid (ShAt W1 w4.heap.size w5.heap.size g E S RS ns NB (.slice VA q vc) q 0 ([], 0, 0) X kc (.slice none 0 0) w5) := {
            rest := HRS.out
            names := rfl
            ok := ⟨Nat.zero_le _, List.nodup_nil, fun p hp => by cases hp⟩
            bd := ⟨Nat.zero_le _, Nat.zero_le _⟩
            link := hL
            pos := OwnL.nil _ _
            off := fun b hb => by simp [Value.ownBlock] at hb
            list := HO4.out.ext e5
            ext := HX4.out.trans e5
            low := Nat.le_refl _ }
          have HB4 := Lib.hid (show w4.heap.size ≤ w5.heap.size from e5.size)
          clear hL e5 hS hSl HLK
          go_wp2_with fail
          go_loopw [10, 57] (fun pv i wr => ∃ (k : Nat) (st : L.St) (X' : Nat → Prop) (kc' : LC), k ≤ q ∧ i = .int .i64 (k : Int) ∧ Hid (ShAt W1 w4.heap.size w5.heap.size g E S RS ns NB (.slice VA q vc) q k st X' kc' pv wr)) (fun _ i _ => q - (intOf i).toNat)
          case atStart => exact ⟨0, _, X, kc, Nat.zero_le _, rfl, H0.out⟩
          case round =>
            obtain ⟨k, st, X', kc', hk, rfl, HK⟩ := hrel
            obtain ⟨V0, hV0⟩ : ∃ V0, V0 = wr := ⟨_, rfl⟩
            subst hV0
            by_cases hlt : k < q
            · have hkn : k < ns.length := by rw [HNN.out]; exact hlt
              have hkb : k < NB.length := by rw [← HQ.out]; exact hlt
              obtain ⟨nb, no, nc, hva, hnb1, hnb2, _, _, hcell⟩ := HK.out.list.2.cells (by omega)
              have hxc := hcell k (encStr NB[k]) (by rw [List.getElem?_map, List.getElem?_eq_getElem hkb]; rfl)
              have hxe : encStr NB[k] = .string ns[k] := by
                have h2 : ns[k]? = some (mkN NB[k]) := by
                  rw [HNS.out]
                  unfold namesE
                  rw [← HNB.out, List.getElem?_map, List.getElem?_eq_getElem hkb]
                  rfl
                rw [List.getElem?_eq_getElem hkn] at h2
                rw [Option.some.inj h2]
                rfl
              rw [hxe] at hxc
              have hva1 : VA = some ⟨nb, no, none⟩ := by cases hva; rfl
              clear hva
              subst hva1
              have hrest := HK.out.rest
              rw [starts_at hkn] at hrest
              have hxn : ns[k] ∉ st.1.map (·.2) := by
                rw [HK.out.names]
                have h1 := HNS.out
                subst h1
                exact namesE_new hkn
              have hnm : ns.take (k + 1) = ns.take k ++ [ns[k]] := List.take_succ_eq_append_getElem hkn
              obtain ⟨x, hxx⟩ : ∃ x, x = ns[k] := ⟨_, rfl⟩
              rw [← hxx] at hxc hrest hxn hnm
              have hxs : x.size ≤ 9223372036854775807 := HXS.out x (by rw [hxx]; exact List.getElem_mem hkn)
              have HRES := Lib.hid (resolve_any V0 S X' _ g E st [] kc' HK.out.link HEV.out x hxs)
              have HREST := Lib.hid hrest
              have HXN := Lib.hid hxn
              have HNM := Lib.hid hnm
              have HXS2 := Lib.hid hxs
              clear hkn hkb hxe hrest hxn hnm hxx hxs hcell hnb1 hnb2
              go_wp2_with fail
              refine HRES.out.mono ?_
              rintro e w6 ⟨ht6, hh⟩
              have HT6 := Lib.hid ht6
              have HX6 : Hid (Ext W1 w6) := by
                have h1 : Tch (fun _ => False) W1 V0 := HK.out.ext.tch _
                exact (h1.trans' ht6 fun i hi e => absurd (HK.out.link.lt i e).1 (by have := HX4.out.size; omega)).ext fun _ _ h => h
              clear ht6 hxc
              cases hhit : L.hit E x with
              | twice =>
                rw [hhit] at hh
                subst hh
                have hRS := HREST.out
                rw [hhit] at hRS
                have hR' : FV = (zeroB, ([], []), 6) := by rw [HRB.out, hRS]; rfl
                have HRC := Lib.hid hR'
                clear hR' hhit hRS
                unfold placeV
                go_wp2_with fail
                refine (none59_any 6 _).mono ?_
                rintro e wz ⟨ez, rfl⟩
                have hz := (HX6.out.alloc _).trans ez
                have hA := (hz.block _ (Array.getElem?_eq_some_iff.1 HR1.out).1).trans HR1.out
                have hB := (hz.block _ (Array.getElem?_eq_some_iff.1 HR2.out).1).trans HR2.out
                obtain ⟨⟨r0, r1, r2, r3, r4, r5, r6, r7⟩, f0, f1, f2, f3, f4, f5, f6, f7⟩ := zcells hA
                obtain ⟨s0, s1, t0, t1⟩ := zcells2 hB
                obtain ⟨hA3, hB3⟩ := zput_rows hA hB
                have HA3 := Lib.hid hA3
                have HB3 := Lib.hid hB3
                have HX3 := Lib.hid (zput_ext (HX1.out.trans hz))
                clear hz ez hA hB hA3 hB3
                go_wp2_with fail
                refine ret_bre rfl rfl rfl rfl HA3.out HB3.out rfl rfl rfl ?_
                rw [HRC.out]
                exact ⟨HX3.out, RetBR.none _ _ _⟩
              | unknown =>
                rw [hhit] at hh
                subst hh
                have hRS := HREST.out
                rw [hhit] at hRS
                have hR' : FV = (zeroB, ([], []), 8) := by rw [HRB.out, hRS]; rfl
                have HRC := Lib.hid hR'
                clear hR' hhit hRS
                unfold placeV
                go_wp2_with fail
                refine (none59_any 8 _).mono ?_
                rintro e wz ⟨ez, rfl⟩
                have hz := (HX6.out.alloc _).trans ez
                have hA := (hz.block _ (Array.getElem?_eq_some_iff.1 HR1.out).1).trans HR1.out
                have hB := (hz.block _ (Array.getElem?_eq_some_iff.1 HR2.out).1).trans HR2.out
                obtain ⟨⟨r0, r1, r2, r3, r4, r5, r6, r7⟩, f0, f1, f2, f3, f4, f5, f6, f7⟩ := zcells hA
                obtain ⟨s0, s1, t0, t1⟩ := zcells2 hB
                obtain ⟨hA3, hB3⟩ := zput_rows hA hB
                have HA3 := Lib.hid hA3
                have HB3 := Lib.hid hB3
                have HX3 := Lib.hid (zput_ext (HX1.out.trans hz))
                clear hz ez hA hB hA3 hB3
                go_wp2_with fail
                refine ret_bre rfl rfl rfl rfl HA3.out HB3.out rfl rfl rfl ?_
                rw [HRC.out]
                exact ⟨HX3.out, RetBR.none _ _ _⟩
              | lib j =>
                have := L.hit_lib hhit
                rw [HEL.out] at this
                exact absurd this (Nat.not_lt_zero _)
              | unit u mm =>
                rw [hhit] at hh
                obtain ⟨rfl, hL6⟩ := hh
                have hRS := HREST.out
                rw [hhit] at hRS
                simp only at hRS
                rw [addS_new HXN.out] at hRS
                obtain ⟨hu, hsec⟩ := L.hit_sec HEV.out.units hhit
                obtain ⟨_, _, _, hmm⟩ := L.hit_unit hhit
                have hfw := HEV.out.few
                obtain ⟨W6, hW6⟩ : ∃ W6, W6 = w6.alloc (.cells #[.int .i64 (u : Int), .int .i64 (-1)] 101) := ⟨_, rfl⟩
                obtain ⟨pb, hpb⟩ : ∃ pb, pb = w6.heap.size := ⟨_, rfl⟩
                have E6 : Ext w6 W6 := by rw [hW6]; exact (Ext.refl w6).alloc _
                have hb6 : W6.heap[pb]? = some (.cells #[.int .i64 (u : Int), .int .i64 (-1)] 101 (0, 0)) := by rw [hW6, hpb]; exact heap_alloc_new w6 _
                have p0 : W6.cell? ⟨pb, 0, none⟩ = _ := cell_of_row W6 pb 0 _ _ _ hb6
                have hst : ∀ q ∈ st.1, DomP q := fun q hq => by
                  obtain ⟨h1, h2⟩ := HK.out.ok.2.2 q hq
                  have h3 := sym_small HEV.out (sec_sym h2)
                  exact ⟨by omega, by omega⟩
                have HADD := Lib.hid (add_any W6 S X' _ g E _ [] kc' (hL6.ext E6) (u, x) ⟨by show u < _; omega, HXS2.out⟩ hst HK.out.ok.1)
                rw [addS_new HXN.out] at HADD
                have HL6 := Lib.hid (hL6.ext E6)
                have HX7 := Lib.hid (HX6.out.trans E6)
                have HT7 := Lib.hid (HT6.out.trans (E6.tch _))
                have HPB := Lib.hid hpb
                have HU2 := Lib.hid (And.intro hu hsec)
                have HMM := Lib.hid hmm
                clear hhit hL6 hu hsec hmm E6 hb6 hpb hst
                unfold placeV
                go_upto_region 20 with (fail)
                rw [← hW6, ← HPB.out]
                clear hW6
                by_cases hbig : 128 ≤ st.1.length
                · rw [if_pos hbig] at hRS HADD
                  have hR' : FV = (zeroB, ([], []), 10) := by rw [HRB.out, hRS]; rfl
                  have HRC := Lib.hid hR'
                  clear hR' hRS
                  go_wp2_with fail
                  refine HADD.out.mono ?_
                  rintro e w7 ⟨ht7, rfl⟩
                  have HX8 : Hid (Ext W1 w7) := by
                    have h1 : Tch (fun _ => False) W1 W6 := HX7.out.tch _
                    exact (h1.trans' ht7 fun i hi e => absurd (HL6.out.lt i e).1 (by have := HX4.out.size; omega)).ext fun _ _ h => h
                  clear ht7
                  go_wp2_with fail
                  refine (none59_any 10 _).mono ?_
                  rintro e wz ⟨ez, rfl⟩
                  have hz := HX8.out.trans ez
                  have hA := (hz.block _ (Array.getElem?_eq_some_iff.1 HR1.out).1).trans HR1.out
                  have hB := (hz.block _ (Array.getElem?_eq_some_iff.1 HR2.out).1).trans HR2.out
                  obtain ⟨⟨r0, r1, r2, r3, r4, r5, r6, r7⟩, f0, f1, f2, f3, f4, f5, f6, f7⟩ := zcells hA
                  obtain ⟨s0, s1, t0, t1⟩ := zcells2 hB
                  obtain ⟨hA3, hB3⟩ := zput_rows hA hB
                  have HA3 := Lib.hid hA3
                  have HB3 := Lib.hid hB3
                  have HX3 := Lib.hid (zput_ext (HX1.out.trans hz))
                  clear hz ez hA hB hA3 hB3
                  go_wp2_with fail
                  refine ret_bre rfl rfl rfl rfl HA3.out HB3.out rfl rfl rfl ?_
                  rw [HRC.out]
                  exact ⟨HX3.out, RetBR.none _ _ _⟩
                · rw [if_neg hbig] at hRS HADD
                  have HRS2 := Lib.hid hRS
                  have hst1 : st.1.length = k := by
                    have h1 := congrArg List.length HK.out.names
                    rw [List.length_map, List.length_take, HNN.out] at h1
                    omega
                  have hps : L.pos (st.1 ++ [(u, x)]) (u, x) = k := by rw [L.pos_snoc (new_spot HXN.out), hst1]
                  have HPS := Lib.hid hps
                  clear hRS hps hst1
                  go_wp2_with fail
                  refine HADD.out.mono ?_
                  rintro e w7 ⟨ht7, rfl, X2, kc2, hX2, hL7⟩
                  simp only
                  rw [HPS.out]
                  have hTT := HT7.out.trans ht7
                  have HX8 : Hid (Ext W1 w7) := by
                    have h1 : Tch (fun _ => False) W1 W6 := HX7.out.tch _
                    exact (h1.trans' ht7 fun i hi e => absurd (HL6.out.lt i e).1 (by have := HX4.out.size; omega)).ext fun _ _ h => h
                  have hpos := HK.out.pos.tch hTT fun b hb => (HK.out.off b hb).1
                  have hlist := HK.out.list.tch hTT fun b hb hx => by
                    have h1 := (HK.out.link.lt b hx).1
                    have h2 := (HO4.out.lt hb).2
                    omega
                  have hoff : ∀ b, u10.ownBlock = some b → ¬ X2 b ∧ ¬ S b := fun b hb => ⟨fun hx => by
                    rcases hX2 b hx with h | h
                    · exact (HK.out.off b hb).1 h
                    · have h1 := (HK.out.pos.lt hb).2
                      have h2 := HT7.out.size
                      omega, (HK.out.off b hb).2⟩
                  have HPOS := Lib.hid hpos
                  have HLIST := Lib.hid hlist
                  have HOFF := Lib.hid hoff
                  have HL7 := Lib.hid hL7
                  have hown := hpos.ext ((Ext.refl w7).alloc (.cells #[.int .i64 (k : Int)] 3))
                  have hb5 : w5.heap.size ≤ (w7.alloc (.cells #[.int .i64 (k : Int)] 3)).heap.size := by
                    have h1 := HK.out.low
                    have h2 := hTT.size
                    have h3 : (w7.alloc (.cells #[.int .i64 (k : Int)] 3)).heap.size = w7.heap.size + 1 := by simp
                    omega
                  obtain ⟨i9, hi9, hz9, hz91, hz92⟩ := info_parts info3
                  have hs5 : ∀ j u, (intC (k : Int))[j]? = some u → (w7.alloc (.cells #[.int .i64 (k : Int)] 3)).cell? ⟨w7.heap.size, j, none⟩ = some u := new_cells w7 (intC (k : Int)) 3 _ rfl
                  clear hpos hlist hoff hTT hX2 hL7 ht7
                  go_wp2_with (at_builtin; refine wpList_append_one rfl (.tmp 91) (.tmp 93) 30 rfl Tryz.underlying30 hi9 hz9 hz91 hz92 rfl (by decide) (by decide) rfl hown (k : Int) rfl rfl hs5 (intC_one _) (by omega) hb5 ?_; intro v8 w8 hown8 hg8 hv8)
                  have hg8' : (w7.alloc (.cells #[.int .i64 (k : Int)] 3)).grownBy w8 u10.ownBlock := hg8
                  have ha7 : (w7.alloc (.cells #[.int .i64 (k : Int)] 3)).heap.size = w7.heap.size + 1 := by simp
                  have hT8 : Tch (fun b => u10.ownBlock = some b) w7 w8 := (((Ext.refl w7).alloc (.cells #[.int .i64 (k : Int)] 3)).tch _).trans ⟨hg8'.os, hg8'.tape, hg8'.output, hg8'.size, fun i hi hx => hg8'.block i hi fun e => hx e.symm⟩
                  have HS : Hid (ShAt W1 w4.heap.size w5.heap.size g E S RS ns NB (.slice (some ⟨nb, no, none⟩) q vc) q (k + 1) (st.1 ++ [(u, x)], max st.2.1 mm, max st.2.2 0) X2 kc2 v8 w8) := {
                    rest := HRS2.out
                    names := by
                      show (st.1 ++ [(u, x)]).map (·.2) = _
                      rw [List.map_append, HK.out.names, HNM.out]
                      rfl
                    ok := (L.addS_ok (st := L.note st (mm, 0)) (p := (u, x)) (by rw [addS_new HXN.out, if_neg hbig]) HK.out.ok HU2.out).1
                    bd := ⟨Nat.max_le.2 ⟨HK.out.bd.1, HMM.out⟩, Nat.max_le.2 ⟨HK.out.bd.2, Nat.zero_le _⟩⟩
                    link := HL7.out.tch hT8 HOFF.out
                    pos := by
                      rw [List.range_succ, List.map_append]
                      exact hown8
                    off := fun b hb => by
                      rcases hv8 with h | ⟨i, h, h1, _⟩
                      · exact HOFF.out b (h.symm.trans hb)
                      · rw [h] at hb
                        cases hb
                        exact ⟨fun hx => by have := (HL7.out.lt _ hx).2; omega, fun hs => by have := (HL7.out.out _ hs).1; omega⟩
                    list := HLIST.out.tch hT8 fun b hb hx => by
                      have h1 := (HO4.out.lt hb).2
                      have h2 := (HK.out.pos.lt hx).1
                      have h3 := HB4.out
                      omega
                    ext := Ext.grownL (HX8.out.alloc _) hown (Nat.le_trans HX4.out.size HB4.out) hg8
                    low := Nat.le_trans hb5 hg8'.size }
                  clear hg8 hg8' hT8 ha7 hown8 hv8 hown hs5 hb5
                  go_roundw
                  case rel => exact ⟨k + 1, _, X2, kc2, by omega, by go_num, HS.out⟩
                  case measure => simp [intOf]; omega
            · obtain rfl : k = q := by omega
              have hdr : ns.drop k = [] := List.drop_eq_nil_of_le (by rw [HNN.out]; exact Nat.le_refl _)
              have hrs := HK.out.rest
              rw [hdr] at hrs
              have hrs2 : RS = .ok st := hrs
              have hR' := HRB.out
              rw [hrs2] at hR'
              simp only at hR'
              have HRF := Lib.hid hR'
              have HFN := Lib.hid (finish_any V0 S X' _ g E st kc' HK.out.link HEV.out HK.out.ok HK.out.bd (fun l hl => by rw [HEL.out] at hl; cases hl))
              clear hdr hrs hrs2 hR'
              go_wp2_with fail
              refine HFN.out.mono ?_
              rintro e w9 ⟨ht9, vs, rs, rfl, hBV, hRV, hv6⟩
              have HX9 : Hid (Ext W1 w9) := by
                have h1 : Tch (fun _ => False) W1 V0 := HK.out.ext.tch _
                exact (h1.trans' ht9 fun i hi e => absurd (HK.out.link.lt i e).1 (by have := HX4.out.size; omega)).ext fun _ _ h => h
              have HTS := Lib.hid ht9.size
              obtain ⟨x10, n1, n2, n3⟩ := two_cells w9
              obtain ⟨n4, n5, n6, y10, _⟩ := two_stores w9 _ vs rs x10 n1 n2
              obtain ⟨W10, hW10⟩ : ∃ W10, W10 = (((w9.alloc (.cells zrow35 35)).alloc (.cells zrow38 38)).setRow w9.heap.size (Array.mk vs)).setRow (w9.heap.size + 1) (Array.mk rs) := ⟨_, rfl⟩
              rw [← hW10] at n5 n6 y10
              have hrow := row35 hBV
              have hone := hBV.one
              have hlen := hBV.len
              have hrow2 := row38 hRV
              have hone2 := hRV.one
              have hlen2' := hRV.len
              have HBV := Lib.hid hBV
              have HRV := Lib.hid hRV
              have HV6 := Lib.hid hv6
              have H5 := Lib.hid n5
              have H6 := Lib.hid n6
              have HY := Lib.hid y10
              have HRB1 := HX9.out.trans y10
              have HXW := Lib.hid HRB1
              have HPOS := Lib.hid (HK.out.pos.tch (ht9.trans (y10.tch _)) fun b hb => (HK.out.off b hb).1)
              have HLST := Lib.hid (HK.out.list.tch (ht9.trans (y10.tch _)) fun b hb hx => by
                have h1 := (HK.out.link.lt b hx).1
                have h2 := (HO4.out.lt hb).2
                omega)
              clear ht9 hBV hRV hv6 x10 n3 n5 n6 y10 HRB1
              obtain ⟨er, her⟩ : ∃ er, er = (finV E (L.finish E st)).2.2 := ⟨_, rfl⟩
              rw [← her]
              have HER := Lib.hid her
              clear her
              go_upto_region 28 with (first | (refine wpList_store_row rfl 35 (.tmp 16) (.tmp 99) rfl w9.heap.size (Array.mk vs) rfl rfl 35 _ n1 hrow (show 8 = vs.length from hlen.symm) hone ?_) | (refine wpList_store_row rfl 38 (.tmp 17) (.tmp 100) rfl (w9.heap.size + 1) (Array.mk rs) rfl rfl 38 _ n4 hrow2 (show 2 = rs.length from hlen2'.symm) hone2 ?_))
              rw [← hW10]
              clear hW10 n1 n2 n4
              obtain ⟨tb, htb⟩ : ∃ tb, tb = w9.heap.size := ⟨_, rfl⟩
              have HTBL : Hid (V0.heap.size ≤ tb) := by
                rw [htb]
                exact HTS.out
              rw [← htb]
              rw [← htb] at H5 H6
              have HTB9 := Lib.hid htb
              clear htb
              cases hfin : L.finish E st with
              | error ne =>
                have hne0 := L.finish_ne hfin
                have hR' := HRF.out
                rw [hfin] at hR'
                have her := HER.out
                rw [hfin] at her
                have hen : er = ne := her
                rw [← hen] at hne0
                have q2 : (er == 0) = false := by simpa using hne0
                have q3 : (er != 0) = true := by simp [bne, q2]
                have hRB : FV = (zeroB, ([], []), er) := by rw [hR', hen]; rfl
                have HRC := Lib.hid hRB
                clear hR' hRB hen her HER hne0 hfin
                go_wp2_with fail
                refine (none59_any er _).mono ?_
                rintro e wz ⟨ez, rfl⟩
                have hz := HXW.out.trans ez
                have hA := (hz.block _ (Array.getElem?_eq_some_iff.1 HR1.out).1).trans HR1.out
                have hB := (hz.block _ (Array.getElem?_eq_some_iff.1 HR2.out).1).trans HR2.out
                obtain ⟨⟨r0, r1, r2, r3, r4, r5, r6, r7⟩, f0, f1, f2, f3, f4, f5, f6, f7⟩ := zcells hA
                obtain ⟨s0, s1, t0, t1⟩ := zcells2 hB
                obtain ⟨hA3, hB3⟩ := zput_rows hA hB
                have HA3 := Lib.hid hA3
                have HB3 := Lib.hid hB3
                have HX3 := Lib.hid (zput_ext (HX1.out.trans hz))
                clear hz ez hA hB hA3 hB3
                go_wp2_with fail
                refine ret_bre rfl rfl rfl rfl HA3.out HB3.out rfl rfl rfl ?_
                rw [HRC.out]
                exact ⟨HX3.out, RetBR.none _ _ _⟩
              | ok sf =>
                have hR' := HRF.out
                rw [hfin] at hR'
                have her := HER.out
                rw [hfin] at her
                have her0 : er = 0 := her
                have hRB : FV = (E.bin sf.1 2 (-1) (exL E sf.1 ns), E.reading sf.2, 0) := hR'
                have HRC := Lib.hid hRB
                have hBE0 : BinV W10 (Fresh V0 w9) (E.bin sf.1 0 0 []) vs := by
                  have := HBV.out
                  rw [hfin] at this
                  exact this.keep (fun _ h => h) fun i hi => HY.out.block i hi.2
                have hRE0 : RdV W10 (Fresh V0 w9) (E.reading sf.2) rs := by
                  have := HRV.out
                  rw [hfin] at this
                  exact this.keep (fun _ h => h) fun i hi => HY.out.block i hi.2
                obtain ⟨hok, hpre, hsel, _⟩ := finish_ok HEV.out.units hfin HK.out.ok
                have hst1 : st.1.length = k := by
                  have h1 := congrArg List.length HK.out.names
                  rw [List.length_map, List.length_take, HNN.out] at h1
                  omega
                have hns2 : ns.length ≤ sf.1.length := by
                  have := hpre.length_le
                  have := HNN.out
                  omega
                have HOKF := Lib.hid hok
                have HNS2 := Lib.hid hns2
                obtain ⟨A1, c1, A2, c2, A3, c3, A4, c4, A5, c5, hvs, hP1, _⟩ := hBE0.form
                have hv3 : vs[3]? = some (.slice A1 (E.bin sf.1 0 0 []).2.2.2.1.length c1) := by rw [hvs]; rfl
                obtain ⟨np, hnp⟩ : ∃ np, np = (E.bin sf.1 0 0 []).2.2.2.1.length := ⟨_, rfl⟩
                rw [← hnp] at hv3
                have hnp2 : np = sf.1.length := by rw [hnp]; exact places_len sf.1
                have hp1 : SliceAt plcR W10 (Fresh V0 w9) A1 c1 (E.places sf.1) := hP1
                have hkp : k ≤ np := by have := HNN.out; omega
                obtain ⟨v1, hv1⟩ : ∃ v1, v1 = (vs.set 0 (.int .i64 2)).set 1 (.int .i64 (-1)) := ⟨_, rfl⟩
                have h18 : v1.length = 8 := by rw [hv1, List.length_set, List.length_set]; exact hlen
                have h13 : v1[3]? = some (.slice A1 np c1) := by
                  rw [hv1, List.getElem?_set_ne (by decide), List.getElem?_set_ne (by decide)]
                  exact hv3
                have h16 : v1.set 6 (.slice none 0 0) = v1 := set_same (by
                  rw [hv1, List.getElem?_set_ne (by decide), List.getElem?_set_ne (by decide)]
                  exact HV6.out)
                obtain ⟨W11, hW11⟩ : ∃ W11, W11 = (W10.setCell ⟨tb, 0, none⟩ (.int .i64 2)).setCell ⟨tb, 1, none⟩ (.int .i64 (-1)) := ⟨_, rfl⟩
                have hT11 : Tch (fun i => i = tb) W10 W11 := by rw [hW11]; exact (grown_tch (grownBy_setCell W10 ⟨tb, 0, none⟩ _)).trans (grown_tch (grownBy_setCell _ ⟨tb, 1, none⟩ _))
                have hr11 : W11.heap[tb]? = some (.cells (Array.mk v1) 35 (0, 0)) := by
                  rw [hW11, heap_setCell_cells (heap_setCell_cells H5.out 0 _) 1 _, hv1]
                  simp
                have k0 : W10.cell? ⟨tb, 0, none⟩ = (Array.mk vs)[0]? := cell_of_row W10 tb 0 _ _ _ H5.out
                have k1 : W10.cell? ⟨tb, 1, none⟩ = (Array.mk vs)[1]? := cell_of_row W10 tb 1 _ _ _ H5.out
                have kf0 := Lib.frozen_of_heap H5.out 0
                have kf1 := Lib.frozen_of_heap H5.out 1
                obtain ⟨y0, hy0⟩ : ∃ y, (Array.mk vs)[0]? = some y := ⟨_, Array.getElem?_eq_getElem (by show 0 < vs.length; omega)⟩
                obtain ⟨y1, hy1⟩ : ∃ y, (Array.mk vs)[1]? = some y := ⟨_, Array.getElem?_eq_getElem (by show 1 < vs.length; omega)⟩
                rw [hy0] at k0
                rw [hy1] at k1
                have htl : tb < W10.heap.size := (Array.getElem?_eq_some_iff.1 H5.out).1
                obtain ⟨nb, no, nc, hva, _, hnb2, _, _, hcell⟩ := HLST.out.2.cells (by omega)
                have hva1 : VA = some ⟨nb, no, none⟩ := by cases hva; rfl
                subst hva1
                clear hva
                obtain ⟨pg, po, pc, rfl, hpg1, hpg2, hpk, hpc2, hpcell⟩ := HPOS.out.2.cells (by omega)
                have hnbt : nb < tb := by
                  have h1 := (HO4.out.lt (show (Value.slice (some ⟨nb, no, none⟩) k vc).ownBlock = some nb from by simp [Value.ownBlock])).2
                  have h2 := HTBL.out
                  have h3 := HK.out.low
                  have h4 := HB4.out
                  omega
                have hpgt : pg < tb := by
                  have h1 := (HK.out.pos.lt (show (Value.slice (some ⟨pg, po, none⟩) k pc).ownBlock = some pg from by simp [Value.ownBlock])).2
                  have h2 := HTBL.out
                  omega
                have hNC : ∀ Z, Tch (fun i => i = tb) W11 Z → ∀ j (_ : j < k), ∃ h : j < ns.length, Z.cell? ⟨nb, no + j, none⟩ = some (.string ns[j]) := by
                  intro Z hZ j hj
                  have hjn : j < ns.length := by rw [HNN.out]; exact hj
                  have hjb : j < NB.length := by rw [← HQ.out]; exact hj
                  have h1 := hcell j (encStr NB[j]) (by rw [List.getElem?_map, List.getElem?_eq_getElem hjb]; rfl)
                  have h2 : ns[j]? = some (mkN NB[j]) := by
                    rw [HNS.out]
                    unfold namesE
                    rw [← HNB.out, List.getElem?_map, List.getElem?_eq_getElem hjb]
                    rfl
                  rw [List.getElem?_eq_getElem hjn] at h2
                  refine ⟨hjn, ?_⟩
                  rw [Option.some.inj h2]
                  exact (hT11.trans hZ).keepc h1 (by show ¬ nb = tb; omega)
                have hPC : ∀ Z, Tch (fun i => i = tb) W11 Z → ∀ j (_ : j < k), Z.cell? ⟨pg, po + j, none⟩ = some (.int .i64 (j : Int)) := by
                  intro Z hZ j hj
                  have h1 := hpcell j (.int .i64 (j : Int)) (by
                    rw [flat_ints, List.getElem?_map, List.getElem?_map, List.getElem?_range hj]
                    rfl)
                  exact (hT11.trans hZ).keepc h1 (by show ¬ pg = tb; omega)
                have hQC : ∀ Z, Tch (fun i => i = tb) W11 Z → ∀ j (_ : j < k), ∃ b1 o1, A1 = some ⟨b1, o1, none⟩ ∧ b1 < tb ∧ Z.cell? ⟨b1, o1 + j * 5 + 3, none⟩ = some (.int .i64 ((L.up (L.fin ((E.sizes sf.1).take j) 0) : Nat) : Int)) := by
                  intro Z hZ j hj
                  have hjl : j < sf.1.length := by omega
                  have hjp : j < (E.places sf.1).length := by rw [places_len]; exact hjl
                  obtain ⟨b1, o1, h1, h2, h3⟩ := plc_at hp1 hjp
                  rw [places_get hjl hjp] at h3
                  have h4 : b1 < tb := by rw [HTB9.out]; exact h2.2
                  exact ⟨b1, o1, h1, h4, (hT11.trans hZ).keepc h3 (by show ¬ b1 = tb; omega)⟩
                have HNC := Lib.hid hNC
                have HPC := Lib.hid hPC
                have HQC := Lib.hid hQC
                have HT11 := Lib.hid hT11
                have HJ0 : Hid (ExAt W11 tb v1 (exL E sf.1 ns) 0 (.slice none 0 0) W11) := ⟨Tch.refl _ _, by rw [h16]; exact hr11, OwnL.nil _ _, Nat.lt_of_lt_of_le htl hT11.size⟩
                have HV1 := Lib.hid hv1
                have H13 := Lib.hid h13
                have HBE0 := Lib.hid hBE0
                have HRE0 := Lib.hid hRE0
                have HVS := Lib.hid hvs
                clear hR' hRB HER hok hpre hsel hst1 hns2 hP1 hv3 hnp hnp2 hp1 hv1 h13 h16 hT11 hr11 hy0 hy1 htl hcell hnb2 hpg1 hpg2 hpcell hnbt hpgt hNC hPC hQC hBE0 hRE0 hfin hvs
                have her1 := Lib.hid her0
                clear her
                subst her0
                go_upto_region 31 with (fail)
                rw [← hW11]
                clear hW11 k0 k1 kf0 kf1
                go_wp2_with fail
                go_loopw [114] (fun i wr => ∃ (j : Nat) (vE : Value), j ≤ k ∧ i = .int .i64 (j : Int) ∧ Hid (ExAt W11 tb v1 (exL E sf.1 ns) j vE wr)) (fun i _ => k - (intOf i).toNat)
                case atStart => exact ⟨0, _, Nat.zero_le _, rfl, HJ0.out⟩
                case round =>
                  obtain ⟨j, vE, hj, rfl, HJ⟩ := hrel
                  obtain ⟨Z0, hZ0⟩ : ∃ Z0, Z0 = wr := ⟨_, rfl⟩
                  subst hZ0
                  by_cases hjk : j < k
                  · obtain ⟨hjn, hxc⟩ := HNC.out Z0 HJ.out.tch j hjk
                    have hpcj := HPC.out Z0 HJ.out.tch j hjk
                    obtain ⟨b1, o1, rfl, hb1, hqc⟩ := HQC.out Z0 HJ.out.tch j hjk
                    have htk := exL_take (E := E) (l := sf.1) hjn HNS2.out
                    obtain ⟨ua, hua⟩ : ∃ ua, ua = L.up (L.fin ((E.sizes sf.1).take j) 0) := ⟨_, rfl⟩
                    obtain ⟨x, hxx⟩ : ∃ x, x = ns[j] := ⟨_, rfl⟩
                    rw [← hua] at hqc htk
                    rw [← hxx] at hxc htk
                    have hrw := HJ.out.row
                    have y6 : Z0.cell? ⟨tb, 6, none⟩ = some vE := by
                      rw [cell_of_row Z0 tb 6 _ _ _ hrw, ← Array.getElem?_toList]
                      exact List.getElem?_set_self (by omega)
                    have y3 : Z0.cell? ⟨tb, 3, none⟩ = some (.slice (some ⟨b1, o1, none⟩) np c1) := by
                      rw [cell_of_row Z0 tb 3 _ _ _ hrw, ← Array.getElem?_toList]
                      show (v1.set 6 vE)[3]? = _
                      rw [List.getElem?_set_ne (by decide)]
                      exact H13.out
                    have hvl := fun b hb => HJ.out.own.lt (k := b) hb
                    have hlo := HJ.out.low
                    have hpt : pg < tb := by
                      have h1 := (HK.out.pos.lt (show (Value.slice (some ⟨pg, po, none⟩) k pc).ownBlock = some pg from by simp [Value.ownBlock])).2
                      have h2 := HTBL.out
                      omega
                    have n1 : ¬ vE.ownBlock = some tb := fun e => by have := (hvl _ e).1; omega
                    have n2 : ¬ vE.ownBlock = some pg := fun e => by have := (hvl _ e).1; omega
                    have n3 : ¬ vE.ownBlock = some b1 := fun e => by have := (hvl _ e).1; omega
                    obtain ⟨Φ, hΦ⟩ : ∃ Φ : World → Prop, ∀ W, Φ W ↔ Tch (fun i => vE.ownBlock = some i) Z0 W := ⟨_, fun _ => Iff.rfl⟩
                    have h0 : Φ Z0.drew := (hΦ _).2 (((Ext.refl Z0).drew).tch _)
                    have fx0 : ∀ z : Lat Φ, z.w'.cell? ⟨tb, 6, none⟩ = _ := fun z => ((hΦ _).1 z.h).keepc y6 n1
                    have fx1 : ∀ z : Lat Φ, z.w'.cell? ⟨tb, 3, none⟩ = _ := fun z => ((hΦ _).1 z.h).keepc y3 n1
                    have fx2 : ∀ z : Lat Φ, z.w'.cell? ⟨pg, po + j, none⟩ = _ := fun z => ((hΦ _).1 z.h).keepc hpcj n2
                    have fx3 : ∀ z : Lat Φ, z.w'.cell? ⟨b1, o1 + j * 5 + 3, none⟩ = _ := fun z => ((hΦ _).1 z.h).keepc hqc n3
                    have hne := Lat.some h0
                    have hjnp : j < np := by omega
                    have HTK := Lib.hid htk
                    have hown3 := HJ.out.own
                    clear htk hua hxx hrw hjn hvl hqc y3 y6 hpcj hpt n1 n2 n3
                    go_upto_region 34 with (fail)
                    refine wp_region_tail 16 [13, 14] Φ h0 (by kernel_rfl) (by kernel_rfl) (by kernel_rfl) ?_
                    iterate 13 (refine lex_pure rfl rfl rfl ?_; intro K hK; go_big_quiet_op; go_big_quiet_on)
                    refine lex_eff rfl ?_
                    go_wp2_with fail
                    obtain ⟨el, hel⟩ : ∃ el : L.Expd, el = (x, (ua : Int)) := ⟨_, rfl⟩
                    obtain ⟨Z4, hZ4⟩ : ∃ Z4, Z4 = (Z0.alloc (.cells #[.string x, .int .i64 (ua : Int)] 74)).drew := ⟨_, rfl⟩
                    have E4 : Ext Z0 Z4 := by rw [hZ4]; exact ((Ext.refl Z0).alloc _).drew
                    have hs4 : ∀ j v, (expC el)[j]? = some v → Z4.cell? ⟨Z0.heap.size, j, none⟩ = some v := by rw [hZ4, hel]; exact new_cells Z0 (expC (x, (ua : Int))) 74 _ rfl
                    rw [← hZ4]
                    have hP4 : Φ Z4 := (hΦ _).2 (E4.tch _)
                    have hown4 := hown3.ext E4
                    have hbase4 : W11.heap.size ≤ Z4.heap.size := Nat.le_trans HJ.out.tch.size E4.size
                    have HEL2 := Lib.hid hel
                    obtain ⟨i9, hi9, hz9, hz91, hz92⟩ := info_parts info74
                    clear hZ4 hel
                    refine ⟨⟨⟨Z4, hP4⟩, rfl⟩, ?_⟩
                    refine lex_eff rfl ?_
                    go_wp2_with (at_builtin; refine wpList_append_one rfl (.tmp 120) (.tmp 132) 32 rfl Tryz.underlying32 hi9 hz9 hz91 hz92 rfl (by decide) (by decide) rfl hown4 el rfl rfl hs4 (expC_one el) (by omega) hbase4 ?_; intro v5 z5 hown5 hg5 hv5)
                    obtain ⟨A6, c6, rfl⟩ := hown5.form
                    have hg5' : Z4.grownBy z5 vE.ownBlock := hg5
                    have hT5 : Tch (fun i => vE.ownBlock = some i) Z0 z5 := (E4.tch _).trans ⟨hg5'.os, hg5'.tape, hg5'.output, hg5'.size, fun i hi hx => hg5'.block i hi fun e => hx e.symm⟩
                    refine ⟨⟨⟨z5, (hΦ _).2 hT5⟩, rfl⟩, ?_⟩
                    refine lex_pure rfl rfl rfl ?_; intro K hK; go_big_quiet_op; go_big_quiet_on
                    refine lex_nil ?_
                    show wpList _ _ _ (_ :: []) _ _
                    have hown6 : OwnL expC 74 2 z5 W11.heap.size (.slice A6 (j + 1) c6) (j + 1) ((exL E sf.1 ns).take (j + 1)) := by
                      rw [HTK.out, ← HEL2.out]
                      exact hown5
                    obtain ⟨hJ6, x6, xf⟩ := HJ.out.pushed h18 hown6 hT5
                    have HJ6 := Lib.hid hJ6
                    clear fx0 fx1 fx2 fx3 hne h0 hT5 hP4 hs4 hown3 hown4 hown5 hown6 hg5 hg5' hv5 E4 hJ6 hbase4
                    go_wp2_with fail
                    go_roundw
                    case rel => exact ⟨j + 1, _, by omega, by go_num, HJ6.out⟩
                    case measure => simp [intOf]; omega
                  · obtain rfl : j = k := by omega
                    have hxl : (exL E sf.1 ns).length = j := by rw [exL_len HNS2.out]; exact HNN.out
                    have htk : (exL E sf.1 ns).take j = exL E sf.1 ns := List.take_of_length_le (by omega)
                    have hown := HJ.out.own
                    rw [htk] at hown
                    obtain ⟨A6, c6, rfl, s6⟩ := OwnL.slice hown (fun B => exp_is HEV.out HOKF.out HNS2.out HXS.out)
                    obtain ⟨v2, hv2⟩ : ∃ v2, v2 = v1.set 6 (.slice A6 j c6) := ⟨_, rfl⟩
                    have hrw := HJ.out.row
                    rw [← hv2] at hrw
                    have hTT := HT11.out.trans HJ.out.tch
                    have hfr : ∀ b, Fresh V0 w9 b → b < W10.heap.size ∧ b ≠ tb := fun b hb => by
                      have h1 := hb.2
                      have h2 := HTB9.out
                      have h3 := HY.out.size
                      exact ⟨by omega, by omega⟩
                    have hbv2 : BinV Z0 (fun b => Fresh V0 w9 b ∨ (W11.heap.size ≤ b ∧ b < Z0.heap.size)) (E.bin sf.1 2 (-1) (exL E sf.1 ns)) v2 := by
                      rw [hv2, HV1.out, ← hxl]
                      rw [hxl]
                      have h1 := HBE0.out.share (W := Z0) (B' := fun b => Fresh V0 w9 b ∨ (W11.heap.size ≤ b ∧ b < Z0.heap.size)) (fun _ h => .inl h) (fun b hb => hTT.block b (hfr b hb).1 (hfr b hb).2) (s6.keep (w' := Z0) (B' := fun b => Fresh V0 w9 b ∨ (W11.heap.size ≤ b ∧ b < Z0.heap.size)) (fun b hb => .inr ⟨hb.2.1, hb.2.2⟩) fun _ _ => rfl)
                      rw [hxl] at h1
                      exact h1
                    have hrv2 : RdV Z0 (Fresh V0 w9) (E.reading sf.2) rs := HRE0.out.keep (fun _ h => h) fun b hb => hTT.block b (hfr b hb).1 (hfr b hb).2
                    have hlow : w.heap.size + 2 ≤ V0.heap.size := by
                      have h1 := HK.out.ext.size
                      have h2 := HS1.out
                      omega
                    have htbl : V0.heap.size ≤ tb := HTBL.out
                    have hz5 : Z0.heap[tb + 1]? = some (.cells (Array.mk rs) 38 (0, 0)) := (hTT.block _ (Array.getElem?_eq_some_iff.1 H6.out).1 (by omega)).trans H6.out
                    have hz1 := (HXW.out.block _ (Array.getElem?_eq_some_iff.1 HR1.out).1).trans HR1.out
                    have hz2 := (HXW.out.block _ (Array.getElem?_eq_some_iff.1 HR2.out).1).trans HR2.out
                    have hA8 := (hTT.block _ (Array.getElem?_eq_some_iff.1 hz1).1 (by omega)).trans hz1
                    have hB8 := (hTT.block _ (Array.getElem?_eq_some_iff.1 hz2).1 (by omega)).trans hz2
                    have hxe : Ext w Z0 := by
                      have h1 : Tch (fun _ => False) w W10 := (HX1.out.trans HXW.out).tch _
                      exact (h1.trans' hTT fun i hi e => absurd hi (by omega)).ext fun _ _ h => h
                    obtain ⟨Φ, hΦ⟩ : ∃ Φ : World → Prop, ∀ W, Φ W ↔ Tch (fun i => i = w.heap.size ∨ i = w.heap.size + 1) Z0 W := ⟨_, fun _ => Iff.rfl⟩
                    have h0 : Φ Z0.drew := (hΦ _).2 (((Ext.refl Z0).drew).tch _)
                    have hfx : ∀ w', (∃ x : Lat Φ, w' = x.w') → w'.heap[tb]? = some (.cells (Array.mk v2) 35 (0, 0)) := by
                      rintro w' ⟨z, rfl⟩
                      exact (((hΦ _).1 z.h).block _ (Array.getElem?_eq_some_iff.1 hrw).1 (by omega)).trans hrw
                    have hfy : ∀ w', (∃ x : Lat Φ, w' = x.w') → w'.heap[tb + 1]? = some (.cells (Array.mk rs) 38 (0, 0)) := by
                      rintro w' ⟨z, rfl⟩
                      exact (((hΦ _).1 z.h).block _ (Array.getElem?_eq_some_iff.1 hz5).1 (by omega)).trans hz5
                    have hne := Lat.some h0
                    have HFX := Lib.hid hfx
                    have HFY := Lib.hid hfy
                    have HPH := Lib.hid hΦ
                    have hrow9 := row35 hbv2
                    have hone9 := hbv2.one
                    have hlen9 := hbv2.len
                    have HBV2 := Lib.hid hbv2
                    have HRV2 := Lib.hid hrv2
                    have HXE := Lib.hid hxe
                    have HFR := Lib.hid hfr
                    have HSZ : Hid (tb < Z0.heap.size ∧ V0.heap.size ≤ w9.heap.size ∧ w9.heap.size ≤ Z0.heap.size ∧ V0.heap.size ≤ W11.heap.size) := by
                      have h1 := (Array.getElem?_eq_some_iff.1 hrw).1
                      have h2 := HTS.out
                      have h3 := HTB9.out
                      have h4 := HT11.out.size
                      have h5 := HY.out.size
                      exact ⟨h1, h2, by omega, by omega⟩
                    clear hfx hfy hΦ hbv2 hrv2 hxe hfr hz1 hz2 hz5 hrw hTT s6 hown htk hxl hv2
                    go_upto_region 36 with (fail)
                    refine wp_region_tail 3 [2] Φ h0 (by kernel_rfl) (by kernel_rfl) (by kernel_rfl) ?_
                    simp only [List.take_succ_cons, List.take_zero, List.drop_succ_cons, List.drop_zero]
                    refine lex_pure rfl rfl rfl ?_
                    intro K hK
                    refine quiet_load_row 35 _ rfl tb rfl 35 (Array.mk v2) (0, 0) _ HFX.out Tryz.underlying35 rfl hrow9 ?_
                    go_simp
                    go_big_quiet_on
                    refine lex_pure rfl rfl rfl ?_
                    intro K hK
                    refine quiet_load_row 38 _ rfl (tb + 1) rfl 38 (Array.mk rs) (0, 0) _ HFY.out Tryz.underlying38 rfl hrow2 ?_
                    go_simp
                    go_big_quiet_on
                    refine lex_eff rfl ?_
                    go_wp2_with (refine wpList_store_row rfl 35 (.tmp 2) (.tmp 136) rfl w.heap.size (Array.mk v2) rfl rfl 35 _ hA8 hrow9 (show 8 = v2.length from hlen9.symm) hone9 ?_)
                    obtain ⟨s1, s2, s3, s4, s5⟩ := two_stores w Z0.drew v2 rs (HXE.out.drew) hA8 hB8
                    have hT6 : Tch (fun i => i = w.heap.size ∨ i = w.heap.size + 1) Z0 (Z0.drew.setRow w.heap.size (Array.mk v2)) := (((Ext.refl Z0).drew).tch _).trans ((tch_setRow _ _ _).mono fun _ _ h => .inl h)
                    refine ⟨⟨⟨_, (HPH.out _).2 hT6⟩, rfl⟩, ?_⟩
                    refine lex_nil ?_
                    show wpList _ _ _ (_ :: _ :: []) _ _
                    go_wp2_with (refine wpList_store_row rfl 38 (.tmp 3) (.tmp 137) rfl (w.heap.size + 1) (Array.mk rs) rfl rfl 38 _ s1 hrow2 (show 2 = rs.length from hlen2'.symm) hone2 ?_)
                    refine ret_bre rfl rfl rfl rfl s2 s3 hlen9 hlen2' rfl ?_
                    rw [HRC.out]
                    have hdr : Z0.drew.heap.size = Z0.heap.size := rfl
                    obtain ⟨z1, z2, z3, z4⟩ := HSZ.out
                    refine ⟨s4, _, _, rfl, ?_, ?_⟩
                    · refine HBV2.out.keep (fun i hi => ?_) fun i hi => ?_
                      · have h3 := s5.size
                        rcases hi with hi | hi
                        · have h1 := hi.1
                          have h2 := hi.2
                          exact ⟨by omega, by omega⟩
                        · exact ⟨by omega, by omega⟩
                      · rcases hi with hi | hi
                        · have h1 := hi.1
                          have h2 := hi.2
                          exact (s5.block i (by omega) (by omega)).trans rfl
                        · exact (s5.block i (by omega) (by omega)).trans rfl
                    · refine HRV2.out.keep (fun i hi => ?_) fun i hi => ?_
                      · have h1 := hi.1
                        have h2 := hi.2
                        have h3 := s5.size
                        exact ⟨by omega, by omega⟩
                      · have h1 := hi.1
                        have h2 := hi.2
                        exact (s5.block i (by omega) (by omega)).trans rfl
end Go.Proofs.YtfbhchpbflaphaaGreatDoor

/- awake of chapter 11. -/
namespace Go.Proofs.YtfbhchpbflaphaaGreatDoor
open Go.RowKit Go.Maps Go.ChangeMaps Go.Sort

theorem ex_ok1 : CaseOk exM exSh [] := ⟨by unfold MemSizes; decide, by decide, by unfold ShelfSize MemSizes; decide, by decide, fun l hl => (by cases hl), by decide⟩
theorem ex_ok2 : CaseOk exM2 exSh [] := ⟨by unfold MemSizes; decide, by decide, by unfold ShelfSize MemSizes; decide, by decide, fun l hl => (by cases hl), by decide⟩
theorem ex_ok3 : CaseOk exM3 [] [] := ⟨by unfold MemSizes; decide, by decide, by unfold ShelfSize MemSizes; decide, by decide, fun l hl => (by cases hl), by decide⟩

theorem ints_at {w : World} {B : Nat → Prop} {A : Option Addr} {c : Nat} {l : List Int} (h : SliceAt (intR .i64) w B A c l) (hne : l ≠ []) : ∃ b off, A = some ⟨b, off, none⟩ ∧ B b ∧ ∀ j, j < l.length → w.cell? ⟨b, off + j, none⟩ = some (.int .i64 (l.getD j 0)) := by
  obtain ⟨b, off, rfl, hb, hr⟩ := h.2.2 hne
  refine ⟨b, off, rfl, hb, fun j hj => ?_⟩
  obtain ⟨us, ⟨rfl, _⟩, hc⟩ := hr j hj
  have := hc 0 _ rfl
  rw [show off + (j * (intR .i64).size + 0) = off + j by show off + (j * 1 + 0) = off + j; omega] at this
  rw [this, List.getD_eq_getElem?_getD, List.getElem?_eq_getElem hj]
  rfl
theorem strs_at {w : World} {B : Nat → Prop} {A : Option Addr} {c : Nat} {l : List ByteArray} (h : SliceAt strR w B A c l) (hne : l ≠ []) : ∃ b off, A = some ⟨b, off, none⟩ ∧ B b ∧ ∀ j, j < l.length → w.cell? ⟨b, off + j, none⟩ = some (.string (l.getD j ByteArray.empty)) := by
  obtain ⟨b, off, rfl, hb, hr⟩ := h.2.2 hne
  refine ⟨b, off, rfl, hb, fun j hj => ?_⟩
  obtain ⟨us, ⟨rfl, _⟩, hc⟩ := hr j hj
  have := hc 0 _ rfl
  rw [show off + (j * strR.size + 0) = off + j by show off + (j * 1 + 0) = off + j; omega] at this
  rw [this, List.getD_eq_getElem?_getD, List.getElem?_eq_getElem hj]
  rfl
/-- The cells of place k. -/
theorem plcs_at {w : World} {B : Nat → Prop} {A : Option Addr} {c : Nat} {l : List L.Plc} (h : SliceAt plcR w B A c l) (hne : l ≠ []) : ∃ b off, A = some ⟨b, off, none⟩ ∧ B b ∧ ∀ k (_ : k < l.length), w.cell? ⟨b, off + k * 5, none⟩ = some (.string l[k].1) ∧ w.cell? ⟨b, off + k * 5 + 3, none⟩ = some (.int .i64 l[k].2.2.2.1) := by
  obtain ⟨b, off, rfl, hb, hr⟩ := h.2.2 hne
  refine ⟨b, off, rfl, hb, fun k hk => ?_⟩
  obtain ⟨us, ⟨x1, y1, rfl, ⟨rfl, _⟩, x2, y2, rfl, ⟨rfl, _⟩, x3, y3, rfl, ⟨rfl, _⟩, x4, y4, rfl, ⟨rfl, _⟩, h5⟩, hc⟩ := hr k hk
  exact ⟨hc 0 _ rfl, hc 3 _ rfl⟩
/-- A binary and a reading are put where they were made. -/
theorem two_put (w : World) (vs rs : List Value) : ∃ W, W = (((w.alloc (.cells zrow35 35)).alloc (.cells zrow38 38)).setRow w.heap.size (Array.mk vs)).setRow (w.heap.size + 1) (Array.mk rs) ∧ Ext w W ∧ W.heap[w.heap.size]? = some (.cells (Array.mk vs) 35 (0, 0)) ∧ W.heap[w.heap.size + 1]? = some (.cells (Array.mk rs) 38 (0, 0)) ∧
    ((w.alloc (.cells zrow35 35)).alloc (.cells zrow38 38)).heap[w.heap.size]? = some (.cells (Array.mk zero35) 35 (0, 0)) ∧ (((w.alloc (.cells zrow35 35)).alloc (.cells zrow38 38)).setRow w.heap.size (Array.mk vs)).heap[w.heap.size + 1]? = some (.cells (Array.mk zero38) 38 (0, 0)) := by
  obtain ⟨x10, n1, n2, _⟩ := two_cells w
  obtain ⟨n4, n5, n6, y10, _⟩ := two_stores w _ vs rs x10 n1 n2
  exact ⟨_, rfl, y10, n5, n6, n1, n4⟩
/-- What is known of a binary, of its reading, and of where they were put. -/
structure Put (b : L.Bin) (r : L.Rd) (g : Nat) (W : World) : Prop where
  bin : ∃ vs, BinV W (Old W) b vs ∧ W.heap[g]? = some (.cells (Array.mk vs) 35 (0, 0))
  rd : ∃ rs, RdV W (Old W) r rs ∧ W.heap[g + 1]? = some (.cells (Array.mk rs) 38 (0, 0))
theorem Put.ext {b : L.Bin} {r : L.Rd} {g : Nat} {W W' : World} (h : Put b r g W) (he : Ext W W') : Put b r g W' := by
  obtain ⟨⟨vs, h1, h2⟩, rs, h3, h4⟩ := h
  exact ⟨⟨vs, h1.keep (fun k hk => Nat.lt_of_lt_of_le hk he.size) fun k hk => he.block k hk, (he.block _ (Array.getElem?_eq_some_iff.1 h2).1).trans h2⟩, rs, h3.keep (fun k hk => Nat.lt_of_lt_of_le hk he.size) fun k hk => he.block k hk, (he.block _ (Array.getElem?_eq_some_iff.1 h4).1).trans h4⟩
theorem put_of {w0 w W : World} {b : L.Bin} {r : L.Rd} {vs rs : List Value} (h1 : BinV w (Fresh w0 w) b vs) (h2 : RdV w (Fresh w0 w) r rs) (he : Ext w W) (h3 : W.heap[w.heap.size]? = some (.cells (Array.mk vs) 35 (0, 0))) (h4 : W.heap[w.heap.size + 1]? = some (.cells (Array.mk rs) 38 (0, 0))) : Put b r w.heap.size W :=
  ⟨⟨vs, h1.keep (fun k hk => Nat.lt_of_lt_of_le hk.2 he.size) fun k hk => he.block k hk.2, h3⟩, rs, h2.keep (fun k hk => Nat.lt_of_lt_of_le hk.2 he.size) fun k hk => he.block k hk.2, h4⟩

attribute [local irreducible] wpLex wpT
set_option maxRecDepth 8000 in
set_option maxHeartbeats 8000000 in
theorem awake_any (w : World) (hg : Gl w) : Calls Tryz.prog 10 #[] w (Al (.bool true) w) := by
  have HG := Lib.hid hg
  clear hg
  go_enter Tryz.func10, Tryz.ntmps10
  go_wp2_with fail
  refine (code_any nMain 1 nF _ (by decide) (by decide) (by decide)).mono ?_
  rintro e w1 ⟨e1, A1, B1, rfl, s1, t1⟩
  obtain ⟨W2, hW2⟩ : ∃ W2, W2 = w1.alloc (.cells #[.string nO, .slice A1 2 2, .slice B1 1 1] 69) := ⟨_, rfl⟩
  obtain ⟨ob, hob⟩ : ∃ ob, ob = w1.heap.size := ⟨_, rfl⟩
  have E2 : Ext w1 W2 := by rw [hW2]; exact (Ext.refl w1).alloc _
  have hM1 : SliceAt memR W2 (Old W2) (some ⟨ob, 0, none⟩) 1 exM := by
    have hk : Ext (w1.alloc (.cells #[.string nO, .slice A1 2 2, .slice B1 1 1] 69)) W2 := by rw [hW2]; exact Ext.refl _
    refine slice_new (w := w1) (cs := #[.string nO, .slice A1 2 2, .slice B1 1 1]) (T := 69) hob rfl (by decide) (show _ < _ by rw [hW2, hob]; simp) hk ?_
    exact ⟨_, [], rfl, mem_vals s1 t1 E2 (by decide), rfl⟩
  have HX2 := Lib.hid (e1.trans E2)
  have HM1 := Lib.hid hM1
  have hu1 : ∀ j u, ([.string nO, .slice A1 2 2, .slice B1 1 1] : List Value)[j]? = some u → W2.cell? ⟨ob, j, none⟩ = some u := by rw [hW2, hob]; exact new_cells w1 [.string nO, .slice A1 2 2, .slice B1 1 1] 69 _ rfl
  have HU1 := Lib.hid hu1
  have HOB := Lib.hid hob
  have HMV1 := Lib.hid (mem_vals (nm := nO) s1 t1 E2 (by decide))
  clear e1 E2 hM1 hu1 hob s1 t1
  go_upto_region 2 with (fail)
  rw [← hW2, ← HOB.out]
  clear hW2
  go_wp2_with fail
  refine (code_any nG 1 nH _ (by decide) (by decide) (by decide)).mono ?_
  rintro e w3 ⟨e3, A2, B2, rfl, s2, t2⟩
  go_wp2_with fail
  refine (code_any nF 1 nMain _ (by decide) (by decide) (by decide)).mono ?_
  rintro e w4 ⟨e4, A3, B3, rfl, s3, t3⟩
  obtain ⟨W5, hW5⟩ : ∃ W5, W5 = w4.alloc (.cells #[.string nX, .slice A2 2 2, .slice B2 1 1, .string nY, .slice A3 2 2, .slice B3 1 1] 69) := ⟨_, rfl⟩
  obtain ⟨mb, hmb⟩ : ∃ mb, mb = w4.heap.size := ⟨_, rfl⟩
  obtain ⟨W6, hW6⟩ : ∃ W6, W6 = W5.alloc (.cells #[.string nLib, .slice (some ⟨mb, 0, none⟩) 2 2] 83) := ⟨_, rfl⟩
  obtain ⟨sb, hsb⟩ : ∃ sb, sb = mb + 1 := ⟨_, rfl⟩
  have hs5 : W5.heap.size = mb + 1 := by rw [hW5, hmb]; simp
  have E5 : Ext w4 W5 := by rw [hW5]; exact (Ext.refl w4).alloc _
  have E6 : Ext W5 W6 := by rw [hW6]; exact (Ext.refl W5).alloc _
  have hMs : SliceAt memR W6 (Old W6) (some ⟨mb, 0, none⟩) 2 [(nX, codeO nG 1 nH), (nY, codeO nF 1 nMain)] := by
    have hk : Ext (w4.alloc (.cells #[.string nX, .slice A2 2 2, .slice B2 1 1, .string nY, .slice A3 2 2, .slice B3 1 1] 69)) W6 := by rw [← hW5]; exact E6
    refine slice_new (w := w4) (cs := #[.string nX, .slice A2 2 2, .slice B2 1 1, .string nY, .slice A3 2 2, .slice B3 1 1]) (T := 69) hmb rfl (by decide) (show _ < _ by have := E6.size; omega) hk ?_
    exact ⟨[.string nX, .slice A2 2 2, .slice B2 1 1], [.string nY, .slice A3 2 2, .slice B3 1 1], rfl, mem_vals s2 t2 (e4.trans (E5.trans E6)) (by decide), [.string nY, .slice A3 2 2, .slice B3 1 1], [], rfl, mem_vals s3 t3 (E5.trans E6) (by decide), rfl⟩
  have hSh : SliceAt shelfR W6 (Old W6) (some ⟨sb, 0, none⟩) 1 exSh := by
    have hk : Ext (W5.alloc (.cells #[.string nLib, .slice (some ⟨mb, 0, none⟩) 2 2] 83)) W6 := by rw [hW6]; exact Ext.refl _
    refine slice_new (w := W5) (cs := #[.string nLib, .slice (some ⟨mb, 0, none⟩) 2 2]) (T := 83) (by omega) rfl (by decide) (show _ < _ by rw [hsb, ← hs5, hW6]; simp) hk ?_
    exact ⟨[.string nLib, .slice (some ⟨mb, 0, none⟩) 2 2], [], rfl, ⟨[.string nLib], _, rfl, ⟨rfl, (by decide : nLib.size ≤ 9223372036854775807)⟩, _, _, rfl, hMs⟩, rfl⟩
  have HX6 := Lib.hid (e3.trans (e4.trans (E5.trans E6)))
  have HSH := Lib.hid hSh
  have HSB := Lib.hid hsb
  have HMB := Lib.hid hmb
  have HS5 := Lib.hid hs5
  clear e3 e4 E5 E6 s2 t2 s3 t3 hMs hSh hmb hsb hs5
  go_upto_region 3 with (fail)
  rw [← hW5, ← HMB.out, ← hW6, ← HSB.out]
  clear hW5 hW6
  have hlk1 : linkV (L.linkL okN okP nMain exM exSh []) = ((1, 0, exI, [(nO, nMain, 1, 0, 8), (nLY, nF, 1, 8, 8)], [3, 11], [], [], []), ([nO, nLX, nLY], []), 0) := by rw [ex_link1]; rfl
  have HL1 := Lib.hid (Link_any nMain exM exSh [] (some ⟨ob, 0, none⟩) (some ⟨sb, 0, none⟩) none 1 1 0 1 1 0 W6 rfl (HM1.out.ext HX6.out) rfl HSH.out rfl (SliceAt.nil _ _ _ _ _ (by decide)) ex_ok1 (by decide) (HG.out.ext (HX2.out.trans HX6.out)))
  rw [hlk1] at HL1
  clear hlk1
  go_wp2_with fail
  refine HL1.out.mono ?_
  rintro e w7 ⟨e7, vs1, rs1, rfl, hB1, hR1⟩
  obtain ⟨W8, hW8, xW8, p1, p2, q1, q2⟩ := two_put w7 vs1 rs1
  have hr1 := row35 hB1
  have ho1 := hB1.one
  have hl1 := hB1.len
  have hr2 := row38 hR1
  have ho2 := hR1.one
  have hl2 := hR1.len
  have HP1 := Lib.hid (put_of hB1 hR1 xW8 p1 p2)
  have HXW8 := Lib.hid (e7.trans xW8)
  clear hB1 hR1 p1 p2 xW8 e7
  go_upto_region 4 with (first | (refine wpList_store_row rfl 35 (.tmp 3) (.tmp 29) rfl w7.heap.size (Array.mk vs1) rfl rfl 35 _ q1 hr1 (show 8 = vs1.length from hl1.symm) ho1 ?_) | (refine wpList_store_row rfl 38 (.tmp 4) (.tmp 30) rfl (w7.heap.size + 1) (Array.mk rs1) rfl rfl 38 _ q2 hr2 (show 2 = rs1.length from hl2.symm) ho2 ?_))
  rw [← hW8]
  obtain ⟨ba, hba⟩ : ∃ ba, ba = w7.heap.size := ⟨_, rfl⟩
  rw [← hba] at HP1 ⊢
  clear hW8 q1 q2 hr1 ho1 hl1 hr2 ho2 hl2 hba
  have HM8 := Lib.hid (HM1.out.ext (HX6.out.trans HXW8.out))
  have HSH8 := Lib.hid (HSH.out.ext HXW8.out)
  go_wp2_with fail
  refine (code_any nF 2 nMain _ (by decide) (by decide) (by decide)).mono ?_
  rintro e w9 ⟨e9, A4, B4, rfl, s4, t4⟩
  obtain ⟨W10, hW10⟩ : ∃ W10, W10 = w9.alloc (.cells #[.string nP, .slice A4 2 2, .slice B4 1 1] 69) := ⟨_, rfl⟩
  have E10 : Ext w9 W10 := by rw [hW10]; exact (Ext.refl w9).alloc _
  have hX10 : Ext W2 W10 := (HX6.out.trans HXW8.out).trans (e9.trans E10)
  have hu10 : ∀ j u, ([.string nO, .slice A1 2 2, .slice B1 1 1] : List Value)[j]? = some u → W10.cell? ((⟨ob, 0, none⟩ : Addr).add j) = some u := fun j u hj => by
    rw [Addr.add_lit, Nat.zero_add]
    exact hX10.keepc (HU1.out j u hj)
  have hv10 : ∀ j u, ([.string nP, .slice A4 2 2, .slice B4 1 1] : List Value)[j]? = some u → W10.cell? ((⟨w9.heap.size, 0, none⟩ : Addr).add j) = some u := fun j u hj => by
    rw [Addr.add_lit, Nat.zero_add, hW10]
    exact new_cells w9 [.string nP, .slice A4 2 2, .slice B4 1 1] 69 _ rfl j u hj
  have hm1 := memR.keep (B' := Old W10) HMV1.out (fun b hb => Nat.lt_of_lt_of_le hb hX10.size) fun b hb => hX10.block b hb
  have hm2 := mem_vals (nm := nP) s4 t4 E10 (by decide)
  obtain ⟨i9, hi9, hz9, hz91, hz92⟩ := info_parts info69
  have HX10 := Lib.hid (e9.trans E10)
  have HMA := Lib.hid hm1
  have HMB2 := Lib.hid hm2
  clear e9 E10 hX10 hm1 hm2 s4 t4
  have HW10 := Lib.hid hW10.symm
  clear hW10
  go_wp2_with (at_builtin; rw [HW10.out]; refine wpList_append_full rfl (.tmp 33) (.tmp 36) 22 rfl Tryz.underlying22 hi9 hz9 hz91 hz92 ⟨ob, 0, none⟩ 1 1 [.string nO, .slice A1 2 2, .slice B1 1 1] rfl rfl hu10 ⟨w9.heap.size, 0, none⟩ 1 1 [.string nP, .slice A4 2 2, .slice B4 1 1] rfl rfl hv10 (by decide) (by decide) (by decide) ?_; intro og oc w11 e11 h1 h2 h3 h4 h5)
  have hM2 : SliceAt memR w11 (Old w11) (some ⟨og, 0, none⟩) oc exM2 := by
    refine ⟨h3, by simp only [maxLen] at h4; omega, fun _ => ⟨og, 0, rfl, h2, ?_⟩⟩
    have hf : Flat memR w11 (Old w11) exM2 ([.string nO, .slice A1 2 2, .slice B1 1 1] ++ [.string nP, .slice A4 2 2, .slice B4 1 1]) :=
      ⟨_, _, rfl, memR.keep (B' := Old w11) HMA.out (fun b hb => Nat.lt_of_lt_of_le hb e11.size) (fun b hb => e11.block b hb), _, [], rfl, memR.keep (B' := Old w11) HMB2.out (fun b hb => Nat.lt_of_lt_of_le hb e11.size) (fun b hb => e11.block b hb), rfl⟩
    exact hf.row fun j u hj => by rw [Nat.zero_add]; exact h5 j u hj
  have hlk2 : linkV (L.linkL okN okP nMain exM2 exSh []) = ((1, 0, exI, [(nO, nMain, 1, 0, 8), (nP, nF, 1, 8, 8)], [3, 11], [], [], []), ([nO, nP], []), 0) := by rw [ex_link2]; rfl
  have HX11 := Lib.hid (HX10.out.trans e11)
  have HL2 := Lib.hid (Link_any nMain exM2 exSh [] (some ⟨og, 0, none⟩) (some ⟨sb, 0, none⟩) none oc 1 0 2 1 0 w11 rfl hM2 rfl (HSH8.out.ext HX11.out) rfl (SliceAt.nil _ _ _ _ _ (by decide)) ex_ok2 (by decide) (HG.out.ext (HX2.out.trans (HX6.out.trans (HXW8.out.trans HX11.out)))))
  rw [hlk2] at HL2
  clear hlk2 hM2 e11 h1 h2 h3 h4 h5 hu10 hv10
  refine HL2.out.mono ?_
  rintro e w12 ⟨e12, vs2, rs2, rfl, hB2, hR2⟩
  obtain ⟨W13, hW13, xW13, p1, p2, q1, q2⟩ := two_put w12 vs2 rs2
  have hr1 := row35 hB2
  have ho1 := hB2.one
  have hl1 := hB2.len
  have hr2 := row38 hR2
  have ho2 := hR2.one
  have hl2 := hR2.len
  have HP2 := Lib.hid (put_of hB2 hR2 xW13 p1 p2)
  have HXW13 := Lib.hid (e12.trans xW13)
  clear hB2 hR2 p1 p2 xW13 e12
  go_upto_region 5 with (first | (refine wpList_store_row rfl 35 (.tmp 6) (.tmp 40) rfl w12.heap.size (Array.mk vs2) rfl rfl 35 _ q1 hr1 (show 8 = vs2.length from hl1.symm) ho1 ?_) | (refine wpList_store_row rfl 38 (.tmp 7) (.tmp 41) rfl (w12.heap.size + 1) (Array.mk rs2) rfl rfl 38 _ q2 hr2 (show 2 = rs2.length from hl2.symm) ho2 ?_))
  rw [← hW13]
  obtain ⟨bb, hbb⟩ : ∃ bb, bb = w12.heap.size := ⟨_, rfl⟩
  rw [← hbb] at HP2 ⊢
  clear hW13 q1 q2 hr1 ho1 hl1 hr2 ho2 hl2 hbb
  have HX13 := Lib.hid (HX11.out.trans HXW13.out)
  have hrs : resV (L.resolveL okN okP nG exM exSh []) = .tuple #[.string nLX, .bool false, .int .i64 0] := by rw [ex_res]; rfl
  have HRS := Lib.hid (Resolve_any nG exM exSh [] (some ⟨ob, 0, none⟩) (some ⟨sb, 0, none⟩) none 1 1 0 1 1 0 W13 rfl (HM8.out.ext HX13.out) rfl (HSH8.out.ext HX13.out) rfl (SliceAt.nil _ _ _ _ _ (by decide)) ex_ok1 (by decide) (HG.out.ext (HX2.out.trans (HX6.out.trans (HXW8.out.trans HX13.out)))))
  rw [hrs] at HRS
  clear hrs
  go_wp2_with fail
  refine HRS.out.mono ?_
  rintro e w14 ⟨rfl, e14⟩
  have HX14 := Lib.hid (HX13.out.trans e14)
  have HE14 := Lib.hid e14
  clear e14
  go_wp2_with fail
  refine (code_any nK 2 nK2 _ (by decide) (by decide) (by decide)).mono ?_
  rintro e w15 ⟨e15, A5, B5, rfl, s5, t5⟩
  go_wp2_with fail
  refine (code_any nK2 1 nK _ (by decide) (by decide) (by decide)).mono ?_
  rintro e w16 ⟨e16, A6, B6, rfl, s6, t6⟩
  obtain ⟨W17, hW17⟩ : ∃ W17, W17 = w16.alloc (.cells #[.string nO, .slice A5 2 2, .slice B5 1 1, .string nP, .slice A6 2 2, .slice B6 1 1] 69) := ⟨_, rfl⟩
  have E17 : Ext w16 W17 := by rw [hW17]; exact (Ext.refl w16).alloc _
  have hM3 : SliceAt memR W17 (Old W17) (some ⟨w16.heap.size, 0, none⟩) 2 exM3 := by
    have hk : Ext (w16.alloc (.cells #[.string nO, .slice A5 2 2, .slice B5 1 1, .string nP, .slice A6 2 2, .slice B6 1 1] 69)) W17 := by rw [hW17]; exact Ext.refl _
    refine slice_new (w := w16) (cs := #[.string nO, .slice A5 2 2, .slice B5 1 1, .string nP, .slice A6 2 2, .slice B6 1 1]) (T := 69) rfl rfl (by decide) (show _ < _ by rw [hW17]; simp) hk ?_
    exact ⟨[.string nO, .slice A5 2 2, .slice B5 1 1], [.string nP, .slice A6 2 2, .slice B6 1 1], rfl, mem_vals s5 t5 (e16.trans E17) (by decide), [.string nP, .slice A6 2 2, .slice B6 1 1], [], rfl, mem_vals s6 t6 E17 (by decide), rfl⟩
  have HX17 := Lib.hid (HE14.out.trans (e15.trans (e16.trans E17)))
  have hlk3 : linkV (L.shareL okN okP exM3) = ((2, -1, exI, [(nO, nK, 1, 0, 8), (nP, nK2, 1, 8, 8)], [3, 11], [], [(nK, 0), (nK2, 8)], []), ([nO, nP], []), 0) := by rw [ex_share]; rfl
  have HL3 := Lib.hid (Share_any exM3 (some ⟨w16.heap.size, 0, none⟩) 2 2 W17 rfl hM3 ex_ok3 (HG.out.ext (HX2.out.trans (HX6.out.trans (HXW8.out.trans (HX13.out.trans HX17.out))))))
  rw [hlk3] at HL3
  have HW17 := Lib.hid hW17.symm
  clear hlk3 hM3 e15 e16 E17 s5 t5 s6 t6 hW17
  go_wp2_with fail
  rw [HW17.out]
  refine HL3.out.mono ?_
  rintro e w18 ⟨e18, vs3, rs3, rfl, hB3, hR3⟩
  obtain ⟨W19, hW19, xW19, p1, p2, q1, q2⟩ := two_put w18 vs3 rs3
  have hr1 := row35 hB3
  have ho1 := hB3.one
  have hl1 := hB3.len
  have hr2 := row38 hR3
  have ho2 := hR3.one
  have hl2 := hR3.len
  have HP3 := Lib.hid (put_of hB3 hR3 xW19 p1 p2)
  have HXW19 := Lib.hid (e18.trans xW19)
  clear hB3 hR3 p1 p2 xW19 e18
  go_upto_region 7 with (first | (refine wpList_store_row rfl 35 (.tmp 12) (.tmp 57) rfl w18.heap.size (Array.mk vs3) rfl rfl 35 _ q1 hr1 (show 8 = vs3.length from hl1.symm) ho1 ?_) | (refine wpList_store_row rfl 38 (.tmp 13) (.tmp 58) rfl (w18.heap.size + 1) (Array.mk rs3) rfl rfl 38 _ q2 hr2 (show 2 = rs3.length from hl2.symm) ho2 ?_))
  rw [← hW19]
  obtain ⟨bc, hbc⟩ : ∃ bc, bc = w18.heap.size := ⟨_, rfl⟩
  rw [← hbc] at HP3 ⊢
  clear hW19 q1 q2 hr1 ho1 hl1 hr2 ho2 hl2 hbc
  have HPA := Lib.hid (HP1.out.ext (HX13.out.trans (HX17.out.trans HXW19.out)))
  have HPB := Lib.hid (HP2.out.ext (HX17.out.trans HXW19.out))
  have HXZ := Lib.hid (HX2.out.trans (HX6.out.trans (HXW8.out.trans (HX13.out.trans (HX17.out.trans HXW19.out)))))
  clear HP1 HP2 HX2 HX6 HXW8 HX13 HX17 HXW19 HX10 HX11 HX14 HE14 HXW13 HM8 HSH8 HM1 HSH HU1 HMV1 HMA HMB2 HW17 HOB HSB HMB HS5 HW10 HL1 HL2 HL3 HRS HG
  obtain ⟨⟨va, hva, ra⟩, ua, hua, rua⟩ := HPA.out
  obtain ⟨⟨vb, hvb, rb⟩, ub, hub, rub⟩ := HPB.out
  obtain ⟨⟨vc, hvc, rc⟩, uc, huc, ruc⟩ := HP3.out
  obtain ⟨P1, p1, F1, f1, I1, i1, X1, x1, N1, n1, hv1, hp1, hf1, _⟩ := hva.form
  obtain ⟨P2, p2, F2, f2, I2, i2, X2, x2, N2, n2, hv2, hp2, _⟩ := hvb.form
  obtain ⟨P3, p3, F3, f3, I3, i3, X3, x3, N3, n3, hv3, _, _, _, hx3, _⟩ := hvc.form
  obtain ⟨T1, t1, L1, l1, hu1, ht1, _⟩ := hua
  obtain ⟨T2, t2, L2, l2, hu2, ht2, _⟩ := hub
  have a3 : W19.cell? ⟨ba, 3, none⟩ = some (.slice P1 2 p1) := by rw [cell_of_row W19 ba 3 _ _ _ ra, hv1]; rfl
  have a2 : W19.cell? ⟨ba, 2, none⟩ = some (.string exI) := by rw [cell_of_row W19 ba 2 _ _ _ ra, hv1]; rfl
  have a4 : W19.cell? ⟨ba, 4, none⟩ = some (.slice F1 2 f1) := by rw [cell_of_row W19 ba 4 _ _ _ ra, hv1]; rfl
  have a5 : W19.cell? ⟨ba + 1, 0, none⟩ = some (.slice T1 3 t1) := by rw [cell_of_row W19 (ba + 1) 0 _ _ _ rua, hu1]; rfl
  have b3 : W19.cell? ⟨bb, 3, none⟩ = some (.slice P2 2 p2) := by rw [cell_of_row W19 bb 3 _ _ _ rb, hv2]; rfl
  have b5 : W19.cell? ⟨bb + 1, 0, none⟩ = some (.slice T2 2 t2) := by rw [cell_of_row W19 (bb + 1) 0 _ _ _ rub, hu2]; rfl
  have c0 : W19.cell? ⟨bc, 0, none⟩ = some (.int .i64 2) := by rw [cell_of_row W19 bc 0 _ _ _ rc, hv3]; rfl
  have c1 : W19.cell? ⟨bc, 1, none⟩ = some (.int .i64 (-1)) := by rw [cell_of_row W19 bc 1 _ _ _ rc, hv3]; rfl
  have c6 : W19.cell? ⟨bc, 6, none⟩ = some (.slice X3 2 x3) := by rw [cell_of_row W19 bc 6 _ _ _ rc, hv3]; rfl
  obtain ⟨g1, o1, rfl, _, k1⟩ := plcs_at hp1 (by simp)
  obtain ⟨g2, o2, rfl, _, k2⟩ := plcs_at hp2 (by simp)
  obtain ⟨g3, o3, rfl, _, k3⟩ := ints_at hf1 (by simp)
  obtain ⟨g4, o4, rfl, _, k4⟩ := strs_at ht1 (by simp)
  obtain ⟨g5, o5, rfl, _, k5⟩ := strs_at ht2 (by simp)
  obtain ⟨g6, o6, rfl, _, _, _, y0, y1⟩ := exp_get (k := 1) hx3 (by decide)
  have d1 : W19.cell? ⟨g1, o1 + 5, none⟩ = some (.string nLY) := (k1 1 (by decide)).1
  have d2 : W19.cell? ⟨g1, o1 + 5 + 3, none⟩ = some (.int .i64 8) := (k1 1 (by decide)).2
  have d3 : W19.cell? ⟨g2, o2 + 5, none⟩ = some (.string nP) := (k2 1 (by decide)).1
  have d4 : W19.cell? ⟨g6, o6 + 2, none⟩ = some (.string nK2) := y0
  have d5 : W19.cell? ⟨g6, o6 + 2 + 1, none⟩ = some (.int .i64 8) := y1
  have HK3 := Lib.hid k3
  have HK4 := Lib.hid k4
  have HK5 := Lib.hid k5
  have HALL := Lib.hid (And.intro a2 (And.intro a3 (And.intro a4 (And.intro a5 (And.intro b3 (And.intro b5 (And.intro c0 (And.intro c1 (And.intro c6 (And.intro d1 (And.intro d2 (And.intro d3 (And.intro d4 d5)))))))))))))
  clear HPA HPB HP3 k1 k2 k3 k4 k5 y0 y1 hv1 hv2 hv3 hu1 hu2 hva hvb hvc hp1 hf1 hp2 hx3 ht1 ht2 ra rb rc rua rub ruc huc
  have hs7 : (7 : Int) ≤ (exI.size : Int) := by decide
  have hx7 : (exI.extract 3 7).toList = [8, 0, 0, 0] := by decide +kernel
  go_wp2_with fail
  have E20 : Ext W19 (W19.alloc (.cells #[.int .i64 3, .int .i64 11] 3)) := (Ext.refl W19).alloc _
  have hn20 : ∀ j, j < 2 → (W19.alloc (.cells #[.int .i64 3, .int .i64 11] 3)).cell? ⟨W19.heap.size, 0 + j, none⟩ = some (.int .i64 (([3, 11] : List Int).getD j 0)) := fun j hj => by
    rw [Nat.zero_add, cell_new]
    match j, hj with
    | 0, _ => rfl
    | 1, _ => rfl
  refine (Tryz.slices_Equal_int g3 o3 2 f1 W19.heap.size 0 2 2 [3, 11] [3, 11] _ (by decide) (by decide) (by decide) (by decide) (fun j hj => E20.keepc (HK3.out j hj)) hn20).mono ?_
  rintro e w20 ⟨rfl, q20, hw20⟩
  have hX20 : Ext W19 w20 := by rw [hw20]; exact E20.drewN q20
  have HX20 := Lib.hid hX20
  clear hw20 E20 hn20 a2 a3 a4 a5 b3 b5 c0 c1 c6 d1 d2 d3 d4 d5 hs7 hx7
  obtain ⟨a2, a3, a4, a5, b3, b5, c0, c1, c6, d1, d2, d3, d4, d5⟩ := HALL.out
  have a5' := hX20.keepc a5
  clear a2 a3 a4 a5 b3 b5 c0 c1 c6 d1 d2 d3 d4 d5 hX20
  rw [show (List.take 2 [(3 : Int), 11] == List.take 2 [3, 11]) = true from by decide]
  go_wp2_with fail
  have E21 : Ext w20 (w20.alloc (.cells #[.string nO, .string nLX, .string nLY] 9)) := (Ext.refl w20).alloc _
  have hn21 : ∀ j, j < 3 → (w20.alloc (.cells #[.string nO, .string nLX, .string nLY] 9)).cell? ⟨w20.heap.size, 0 + j, none⟩ = some (.string (([nO, nLX, nLY] : List ByteArray).getD j ByteArray.empty)) := fun j hj => by
    rw [Nat.zero_add, cell_new]
    match j, hj with
    | 0, _ => rfl
    | 1, _ => rfl
    | 2, _ => rfl
  refine (Tryz.slices_Equal_string g4 o4 3 t1 w20.heap.size 0 3 3 [nO, nLX, nLY] [nO, nLX, nLY] _ (by decide) (by decide) (by decide) (by decide) (fun j hj => (HX20.out.trans E21).keepc (HK4.out j hj)) hn21).mono ?_
  rintro e w21 ⟨rfl, q21, hw21⟩
  have hX21 : Ext W19 w21 := by rw [hw21]; exact (HX20.out.trans E21).drewN q21
  have HX21 := Lib.hid hX21
  clear hw21 E21 hn21 a5'
  obtain ⟨a2, a3, a4, a5, b3, b5, c0, c1, c6, d1, d2, d3, d4, d5⟩ := HALL.out
  have b3' := hX21.keepc b3
  have b5' := hX21.keepc b5
  have d3' := hX21.keepc d3
  clear a2 a3 a4 a5 b3 b5 c0 c1 c6 d1 d2 d3 d4 d5 hX21
  rw [decide_eq_true (rfl : List.take 3 [nO, nLX, nLY] = List.take 3 [nO, nLX, nLY])]
  go_wp2_with fail
  have E22 : Ext w21 (w21.alloc (.cells #[.string nO, .string nP] 9)) := (Ext.refl w21).alloc _
  have hn22 : ∀ j, j < 2 → (w21.alloc (.cells #[.string nO, .string nP] 9)).cell? ⟨w21.heap.size, 0 + j, none⟩ = some (.string (([nO, nP] : List ByteArray).getD j ByteArray.empty)) := fun j hj => by
    rw [Nat.zero_add, cell_new]
    match j, hj with
    | 0, _ => rfl
    | 1, _ => rfl
  refine (Tryz.slices_Equal_string g5 o5 2 t2 w21.heap.size 0 2 2 [nO, nP] [nO, nP] _ (by decide) (by decide) (by decide) (by decide) (fun j hj => (HX21.out.trans E22).keepc (HK5.out j hj)) hn22).mono ?_
  rintro e w22 ⟨rfl, q22, hw22⟩
  have hX22 : Ext W19 w22 := by rw [hw22]; exact (HX21.out.trans E22).drewN q22
  have HX22 := Lib.hid hX22
  clear hw22 E22 hn22 b3' b5' d3'
  obtain ⟨a2, a3, a4, a5, b3, b5, c0, c1, c6, d1, d2, d3, d4, d5⟩ := HALL.out
  have c0' := hX22.keepc c0
  have c1' := hX22.keepc c1
  have c6' := hX22.keepc c6
  have d4' := hX22.keepc d4
  have d5' := hX22.keepc d5
  clear a2 a3 a4 a5 b3 b5 c0 c1 c6 d1 d2 d3 d4 d5 hX22
  rw [decide_eq_true (rfl : List.take 2 [nO, nP] = List.take 2 [nO, nP])]
  have hse : ∀ W : World, (binOp .eql 74 (.agg #[.string nK2, .int .i64 8]) (.agg #[.string nK2, .int .i64 8])).run Tryz.prog W = .ok (.bool true) W := fun _ => by kernel_rfl
  go_wp2_with fail
  go_ret
  exact ⟨rfl, HXZ.out.trans HX22.out⟩
end Go.Proofs.YtfbhchpbflaphaaGreatDoor
