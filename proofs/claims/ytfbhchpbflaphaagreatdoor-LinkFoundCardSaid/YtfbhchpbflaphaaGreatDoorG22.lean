/- The texts Xi of the seat, joined. -/
import Derived.Test.YtfbhchpbflaphaaGreatDoorG21
/- The walk of LinkFound. -/
namespace Go.Proofs.YtfbhchpbflaphaaGreatDoor
open Go.RowKit Go.Maps Go.ChangeMaps Go.Sort

theorem isDef_full (x : ByteArray) (a b : ByteArray) (o : C.Obj) : L.isDef x (a, o) = L.isDef x (b, o) := rfl
theorem cnt_memb {x : ByteArray} {p : ByteArray} {ms : List C.Mem} {pre : List C.Mem} {j : Nat} (h : j < ms.length) : cntB (L.isDef x) (pre ++ (ms.take (j + 1)).map fun m => (L.full p m.1, m.2)) = cntB (L.isDef x) (pre ++ (ms.take j).map fun m => (L.full p m.1, m.2)) + (if L.isDef x ms[j] = true then 1 else 0) := by
  rw [List.take_succ_eq_append_getElem h, List.map_append, ← List.append_assoc]
  unfold cntB
  rw [List.filter_append, List.length_append]
  congr 1
  show ((List.filter (L.isDef x) [(L.full p ms[j].1, ms[j].2)]).length) = _
  have e : L.isDef x (L.full p ms[j].1, ms[j].2) = L.isDef x ms[j] := rfl
  by_cases hp : L.isDef x ms[j] = true
  · rw [if_pos hp, List.filter_cons_of_pos (by rw [e]; exact hp)]; rfl
  · rw [if_neg hp, List.filter_cons_of_neg (by rw [e]; exact hp)]; rfl
theorem inside_is {E : L.Env} (hN : L.NamesOk E) {u : Nat} (hu : u < E.units.length) : (E.objs.any fun y => y.1.data.toList == (E.name u).data.toList) = decide (u < E.objs.length) := by
  have hnm : E.name u = E.units[u].1 := by unfold L.Env.name; rw [List.getElem?_eq_getElem hu]; rfl
  rw [Bool.eq_iff_iff, List.any_eq_true, decide_eq_true_iff]
  have hul : ∀ k (hk : k < E.objs.length), ∃ h : k < E.units.length, E.units[k] = E.objs[k] := fun k hk => by
    have h1 : k < E.units.length := by unfold L.Env.units; rw [List.length_append]; omega
    have := L.units_left hk
    rw [List.getElem?_eq_getElem h1] at this
    exact ⟨h1, Option.some.inj this⟩
  constructor
  · rintro ⟨y, hy, e⟩
    obtain ⟨k, hk, rfl⟩ := List.getElem_of_mem hy
    obtain ⟨h1, h2⟩ := hul k hk
    have h3 : k = u := hN.eq h1 hu (by
      show E.units[k].1.data.toList = E.units[u].1.data.toList
      rw [h2, ← hnm]
      simpa using e)
    omega
  · intro h
    obtain ⟨h1, h2⟩ := hul u h
    exact ⟨_, List.getElem_mem h, by rw [hnm, h2]; simp⟩

attribute [local irreducible] wpLex wpT
set_option maxRecDepth 100000 in
set_option maxHeartbeats 8000000 in
theorem linkFound_walk (v0 : Value) (c : CaseT) (w : World) (hg : Gl w) (h0 : ∃ cs, v0 = .agg cs) (r0 : caseR.val w c v0) (hb : BdCs c) : Calls Tryz.prog 9 #[v0] w (Al (.bool true) w) := by
  obtain ⟨A, a, B, b, D, d, rfl, hx, hA, hB, hD⟩ := case_val h0 r0
  obtain ⟨x, objs, sh, libs⟩ := c
  simp only at hx hA hB hD ⊢
  obtain ⟨n, hn⟩ : ∃ n, n = objs.length := ⟨_, rfl⟩
  obtain ⟨m, hm⟩ : ∃ m, m = sh.length := ⟨_, rfl⟩
  obtain ⟨q, hq⟩ : ∃ q, q = libs.length := ⟨_, rfl⟩
  rw [← hn, ← hm, ← hq]
  have HAW := Lib.hid (fun W (h : Ext w W) => awake_any W (hg.ext h))
  have HFW := Lib.hid (fun W (h : Ext w W) => few_any x objs sh libs A B D a b d n m q W hn (hA.ext h) hm (hB.ext h) hq (hD.ext h) hx hb)
  have HR1 := Lib.hid (fun (hf : FewC x objs sh libs) W (h : Ext w W) => Resolve_any x objs sh libs A B D a b d n m q W hn (hA.ext h) hm (hB.ext h) hq (hD.ext h) hf.ok hx (hg.ext h))
  have HEV := Lib.hid (fun (hf : FewC x objs sh libs) hv => hf.ok.env (libs := libs) hv)
  obtain ⟨R, hR⟩ : ∃ R, R = L.resolveL okN okP x objs sh libs := ⟨_, rfl⟩
  rw [← hR] at HR1
  unfold L.resolveL at hR
  obtain ⟨E, hE⟩ : ∃ E, E = L.envOf objs sh libs := ⟨_, rfl⟩
  rw [← hE] at hR HEV
  have HOB : Hid (E.objs = objs) := by rw [hE]; rfl
  have HME : Hid (E.mems = L.memsOf sh) := by rw [hE]; rfl
  obtain ⟨rn, rb, re⟩ := R
  unfold resV at HR1
  obtain ⟨W1, hW1⟩ : ∃ W1, W1 = w.alloc (.cells #[.string x, .slice A n a, .slice B m b, .slice D q d] 26) := ⟨_, rfl⟩
  have hb1 : W1.heap[w.heap.size]? = some (.cells #[.string x, .slice A n a, .slice B m b, .slice D q d] 26 (0, 0)) := by rw [hW1]; exact heap_alloc_new w _
  have HX1 : Hid (Ext w W1) := by rw [hW1]; exact (Ext.refl w).alloc _
  have HB1 := Lib.hid hb1
  have HN := Lib.hid hn
  have HM := Lib.hid hm
  have HA := Lib.hid hA
  have HB := Lib.hid hB
  have HX := Lib.hid hx
  have HRR := Lib.hid hR
  clear hn hm hq hA hB hD h0 r0 hg hb hx hb1 hR hE
  go_enter Tryz.func9, Tryz.ntmps9
  go_upto_region 1 with (fail)
  rw [← hW1]
  clear hW1
  go_wp2_with fail
  refine (HAW.out _ HX1.out).mono ?_
  rintro e w2 ⟨rfl, d2⟩
  have hb2 := (d2.block _ (Array.getElem?_eq_some_iff.1 HB1.out).1).trans HB1.out
  have c0 : w2.cell? ⟨w.heap.size, 0, none⟩ = _ := cell_of_row w2 _ 0 _ _ _ hb2
  have c1 : w2.cell? ⟨w.heap.size, 1, none⟩ = _ := cell_of_row w2 _ 1 _ _ _ hb2
  have c2 : w2.cell? ⟨w.heap.size, 2, none⟩ = _ := cell_of_row w2 _ 2 _ _ _ hb2
  have c3 : w2.cell? ⟨w.heap.size, 3, none⟩ = _ := cell_of_row w2 _ 3 _ _ _ hb2
  have HX2 := Lib.hid (HX1.out.trans d2)
  have HB2 := Lib.hid hb2
  clear d2 hb2
  go_wp2_with fail
  refine (HFW.out _ HX2.out).mono ?_
  rintro e w3 ⟨d3, fb, rfl, hfb⟩
  have HX3 := Lib.hid (HX2.out.trans d3)
  cases fb with
  | false =>
    clear hfb d3 c0 c1 c2 c3
    go_wp2_with fail
    go_ret
    exact ⟨rfl, HX3.out⟩
  | true =>
    have HF := Lib.hid (hfb rfl)
    have hb3 := (d3.block _ (Array.getElem?_eq_some_iff.1 HB2.out).1).trans HB2.out
    clear hfb d3 c0 c1 c2 c3
    have c0 : w3.cell? ⟨w.heap.size, 0, none⟩ = _ := cell_of_row w3 _ 0 _ _ _ hb3
    have c1 : w3.cell? ⟨w.heap.size, 1, none⟩ = _ := cell_of_row w3 _ 1 _ _ _ hb3
    have c2 : w3.cell? ⟨w.heap.size, 2, none⟩ = _ := cell_of_row w3 _ 2 _ _ _ hb3
    have c3 : w3.cell? ⟨w.heap.size, 3, none⟩ = _ := cell_of_row w3 _ 3 _ _ _ hb3
    have HB3 := Lib.hid hb3
    clear hb3
    go_wp2_with fail
    refine (HR1.out HF.out _ HX3.out).mono ?_
    rintro e w4 ⟨rfl, d4⟩
    obtain ⟨W5, hW5⟩ : ∃ W5, W5 = w4.alloc (.cells #[.string rn] 9) := ⟨_, rfl⟩
    obtain ⟨nb, hnb⟩ : ∃ nb, nb = w4.heap.size := ⟨_, rfl⟩
    have E5 : Ext w4 W5 := by rw [hW5]; exact (Ext.refl w4).alloc _
    have hn5 : W5.cell? ⟨nb, 0, none⟩ = some (.string rn) := by rw [hW5, hnb]; exact cell_new w4 #[.string rn] 9 0
    have hb5 := ((d4.trans E5).block _ (Array.getElem?_eq_some_iff.1 HB3.out).1).trans HB3.out
    have HX5 := Lib.hid (HX3.out.trans (d4.trans E5))
    have HB5 := Lib.hid hb5
    have HN5 := Lib.hid hn5
    have HNB := Lib.hid hnb
    clear d4 c0 c1 c2 c3 E5 hb5 hn5 hnb
    go_upto_region 6 with (fail)
    rw [← hW5, ← HNB.out]
    clear hW5
    rcases Bool.eq_false_or_eq_true (L.validB okN okP objs sh libs && okN x) with hV | hV
    · have hR := HRR.out
      rw [if_pos hV] at hR
      have hv : L.validB okN okP objs sh libs = true := (Bool.and_eq_true _ _ ▸ hV : _ ∧ _).1
      have HE := Lib.hid (HEV.out HF.out hv)
      have hre : re = 6 ∨ re = 8 ∨ re = 0 := by
        cases hh : L.hit E x with
        | twice => rw [hh] at hR; cases hR; exact .inl rfl
        | unknown => rw [hh] at hR; cases hR; exact .inr (.inl rfl)
        | unit u mm => rw [hh] at hR; cases hR; exact .inr (.inr rfl)
        | lib j => rw [hh] at hR; cases hR; exact .inr (.inr rfl)
      have HRV := Lib.hid hR
      have q1 : (re == 1) = false := by rcases hre with rfl | rfl | rfl <;> rfl
      have HU : Hid (∀ m ∈ E.units, C.checkB okN m.2 = true) := HE.out.units
      clear hR hv hre hV HRR HEV
      have c1 : W5.cell? ⟨w.heap.size, 1, none⟩ = _ := cell_of_row W5 _ 1 _ _ _ HB5.out
      go_wp2_with fail
      clear c1 q1
      go_loopw [6, 7, 51] (fun ev wv i wr => ∃ k k1 k2 : Nat, k ≤ n ∧ i = .int .i64 (k : Int) ∧ ev = .int .i64 (k1 : Int) ∧ wv = .int .i64 (k2 : Int) ∧ k1 ≤ k ∧ k2 ≤ k ∧ Hid (k1 = cntB (hasM x 1) (objs.take k) ∧ k2 = cntB (hasM x 2) (objs.take k) ∧ Ext W5 wr)) (fun _ _ i _ => n - (intOf i).toNat)
      case atStart => exact ⟨0, 0, 0, Nat.zero_le _, rfl, rfl, rfl, Nat.le_refl _, Nat.le_refl _, rfl, rfl, Ext.refl _⟩
      case round =>
        obtain ⟨k, k1, k2, hk, rfl, rfl, rfl, hk1, hk2, HK⟩ := hrel
        obtain ⟨W0, hW0⟩ : ∃ W0, W0 = wr := ⟨_, rfl⟩
        subst hW0
        have hno8 : n ≤ 8 := by have := HF.out.2.1.2; have := HN.out; omega
        by_cases hlt : k < n
        · have hkl : k < objs.length := by rw [← HN.out]; exact hlt
          obtain ⟨mb, mo, s, TA, tc, TB, td, rfl, hbo, hms, hss, hTA, hTB, m0, m1, m2⟩ := mem_getB (HA.out.ext (HX5.out.trans HK.out.2.2)) hkl
          have hu : objs[k].2.1.length ≤ 128 := by
            refine (L.check_parts (HU.out objs[k] ?_)).1
            unfold L.Env.units
            rw [HOB.out]
            exact List.mem_append_left _ (List.getElem_mem hkl)
          obtain ⟨nm, md, sc, bb, hfv, hd1, hd2, hd3⟩ := find_form objs[k].2 x
          clear hd3
          have hs1 := cnt_succ (p := hasM x 1) hkl
          have hs2 := cnt_succ (p := hasM x 2) hkl
          have he1 : (hasM x 1 objs[k] = true) ↔ md = 1 := by unfold hasM; rw [decide_eq_true_iff]; exact hd1.symm
          have he2 : (hasM x 2 objs[k] = true) ↔ md = 2 := by unfold hasM; rw [decide_eq_true_iff]; exact hd2.symm
          simp only [he1] at hs1
          simp only [he2] at hs2
          rw [← HK.out.1] at hs1
          rw [← HK.out.2.1] at hs2
          obtain ⟨W4, hW4⟩ : ∃ W4, W4 = W0.alloc (.cells #[.string s, .slice TA objs[k].2.1.length tc, .slice TB objs[k].2.2.length td] 69) := ⟨_, rfl⟩
          obtain ⟨eb, heb⟩ : ∃ eb, eb = W0.heap.size := ⟨_, rfl⟩
          have E4 : Ext W0 W4 := by rw [hW4]; exact (Ext.refl W0).alloc _
          have HFD := Lib.hid (rFind_any objs[k].2.1 TA TB tc td _ objs[k].2.2.length x W4 rfl (hTA.ext E4) (by omega) HX.out)
          rw [hfv] at HFD
          generalize objs[k].2.1.length = tl at m1 hW4 HFD
          generalize objs[k].2.2.length = ul at m2 hW4 HFD
          have hb4 : W4.heap[eb]? = some (.cells #[.string s, .slice TA tl tc, .slice TB ul td] 69 (0, 0)) := by rw [hW4, heb]; exact heap_alloc_new W0 _
          have t1 : W4.cell? ⟨eb, 1, none⟩ = _ := cell_of_row W4 eb 1 _ _ _ hb4
          have t2 : W4.cell? ⟨eb, 2, none⟩ = _ := cell_of_row W4 eb 2 _ _ _ hb4
          have HEB := Lib.hid heb
          have HX4 := Lib.hid (HK.out.2.2.trans E4)
          have hbw := (HX4.out.block _ (Array.getElem?_eq_some_iff.1 HB5.out).1).trans HB5.out
          have c0 : W4.cell? ⟨w.heap.size, 0, none⟩ = _ := cell_of_row W4 _ 0 _ _ _ hbw
          have HS1 := Lib.hid hs1
          have HS2 := Lib.hid hs2
          clear hbo hms hss hTA hTB hu hfv hd1 hd2 hs1 hs2 he1 he2 heb hb4 E4 HK hkl hbw
          go_upto_region 12 with (fail)
          rw [← hW4, ← HEB.out]
          clear hW4 m0 m1 m2
          go_wp2_with fail
          refine HFD.out.mono ?_
          rintro e w5 ⟨rfl, e5⟩
          obtain ⟨W6, hW6⟩ : ∃ W6, W6 = w5.alloc (.cells #[.string nm, .int .i64 md, .int .i64 sc] 60) := ⟨_, rfl⟩
          obtain ⟨fb, hfb⟩ : ∃ fb, fb = w5.heap.size := ⟨_, rfl⟩
          have E6 : Ext w5 W6 := by rw [hW6]; exact (Ext.refl w5).alloc _
          have hb6 : W6.heap[fb]? = some (.cells #[.string nm, .int .i64 md, .int .i64 sc] 60 (0, 0)) := by rw [hW6, hfb]; exact heap_alloc_new w5 _
          have s1 : W6.cell? ⟨fb, 1, none⟩ = _ := cell_of_row W6 fb 1 _ _ _ hb6
          have HFB := Lib.hid hfb
          have HX6 := Lib.hid (HX4.out.trans (e5.trans E6))
          clear e5 E6 hb6 hfb t1 t2 c0
          go_upto_region 13 with (fail)
          rw [← hW6, ← HFB.out]
          clear hW6
          rcases mode_ways md with ⟨rfl, g1⟩ | ⟨rfl, g1, g2⟩ | ⟨h1, h2, g1, g2⟩
          · have hs1 := HS1.out
            have hs2 := HS2.out
            rw [if_pos rfl] at hs1
            rw [if_neg (by decide)] at hs2
            have HC : Hid (k1 + 1 = cntB (hasM x 1) (objs.take (k + 1)) ∧ k2 = cntB (hasM x 2) (objs.take (k + 1)) ∧ Ext W5 W6) := ⟨hs1.symm, hs2.symm, HX6.out⟩
            clear hs1 hs2
            go_wp2_with fail
            go_roundw
            case rel => exact ⟨k + 1, k1 + 1, k2, by omega, by go_num, by go_num, rfl, by omega, by omega, HC⟩
            case measure => simp [intOf]; omega
          · have hs1 := HS1.out
            have hs2 := HS2.out
            rw [if_neg (by decide)] at hs1
            rw [if_pos rfl] at hs2
            have HC : Hid (k1 = cntB (hasM x 1) (objs.take (k + 1)) ∧ k2 + 1 = cntB (hasM x 2) (objs.take (k + 1)) ∧ Ext W5 W6) := ⟨hs1.symm, hs2.symm, HX6.out⟩
            clear hs1 hs2
            go_wp2_with fail
            go_roundw
            case rel => exact ⟨k + 1, k1, k2 + 1, by omega, by go_num, rfl, by go_num, by omega, by omega, HC⟩
            case measure => simp [intOf]; omega
          · have hs1 := HS1.out
            have hs2 := HS2.out
            rw [if_neg h1] at hs1
            rw [if_neg h2] at hs2
            have HC : Hid (k1 = cntB (hasM x 1) (objs.take (k + 1)) ∧ k2 = cntB (hasM x 2) (objs.take (k + 1)) ∧ Ext W5 W6) := ⟨hs1.symm, hs2.symm, HX6.out⟩
            clear hs1 hs2
            go_wp2_with fail
            go_roundw
            case rel => exact ⟨k + 1, k1, k2, by omega, by go_num, rfl, rfl, by omega, by omega, HC⟩
            case measure => simp [intOf]; omega
        · obtain rfl : k = n := by omega
          have htk : objs.take k = objs := List.take_of_length_le (by rw [HN.out]; exact Nat.le_refl _)
          have h1 : k1 = n1 E x := by rw [HK.out.1, htk]; unfold n1; rw [HOB.out]
          have h2 : k2 = n2 E x := by rw [HK.out.2.1, htk]; unfold n2; rw [HOB.out]
          have H1 := Lib.hid h1
          have H2 := Lib.hid h2
          have HX0 := Lib.hid HK.out.2.2
          clear htk h1 h2 HK
          by_cases hbig : 1 < k1
          · have hh : L.hit E x = .twice := by
              cases hh : L.hit E x with
              | twice => rfl
              | unknown => have := (found_unknown hh).1; have := H1.out; omega
              | lib j => have := (found_lib hh).1; have := H1.out; omega
              | unit u mm => obtain ⟨_, h3, _⟩ := found_unit hh; have := H1.out; omega
            have hR := HRV.out
            rw [hh] at hR
            obtain ⟨rfl, rfl, rfl⟩ : rn = ⟨#[]⟩ ∧ rb = false ∧ re = 6 := by cases hR; exact ⟨rfl, rfl, rfl⟩
            have hn0 := HX0.out.keepc HN5.out
            clear hR hh
            go_wp2_with fail
            go_ret
            exact ⟨rfl, HX5.out.trans HX0.out⟩
          · have hnt : L.hit E x ≠ .twice := fun hh => by have := found_twice hh; have := H1.out; omega
            have HNT := Lib.hid hnt
            have hbw := (HX0.out.block _ (Array.getElem?_eq_some_iff.1 HB5.out).1).trans HB5.out
            have c2 : W0.cell? ⟨w.heap.size, 2, none⟩ = _ := cell_of_row W0 _ 2 _ _ _ hbw
            clear hnt hbw
            go_wp2_with fail
            clear c2
            have hml : (L.memsOf sh).length ≤ 550 := by
              have h1 := HF.out.ok.few
              have h2 : (L.envOf objs sh libs).units.length = objs.length + (L.memsOf sh).length := by unfold L.Env.units L.envOf; simp
              omega
            have HML := Lib.hid hml
            clear hml
            go_loopw [12, 89] (fun cv i wr => ∃ l c : Nat, l ≤ m ∧ i = .int .i64 (l : Int) ∧ cv = .int .i64 (c : Int) ∧ Hid (c = cntB (L.isDef x) (L.memsOf (sh.take l)) ∧ Ext W0 wr)) (fun _ i _ => m - (intOf i).toNat)
            case atStart => exact ⟨0, 0, Nat.zero_le _, rfl, rfl, rfl, Ext.refl _⟩
            case round =>
              obtain ⟨l, c, hl, rfl, rfl, HL⟩ := hrel
              obtain ⟨V0, hV0⟩ : ∃ V0, V0 = wr := ⟨_, rfl⟩
              subst hV0
              have hm4 : m ≤ 4 := by have := HF.out.2.2.1.1; have := HM.out; omega
              by_cases hlm : l < m
              · have hll : l < sh.length := by rw [← HM.out]; exact hlm
                obtain ⟨ub, uo, SA, sc, rfl, hbo, hps, hSA, u0, u1⟩ := shelf_get HB.out hll
                have hxv := HX5.out.trans (HX0.out.trans HL.out.2)
                replace u0 := hxv.keepc u0
                replace u1 := hxv.keepc u1
                have hsu := memsOf_succ hll
                have hle := memsOf_le hll
                have hunit : ∀ o ∈ sh[l].2, C.checkB okN o.2 = true := fun o ho => by
                  have h1 : (L.full sh[l].1 o.1, o.2) ∈ E.units := by
                    unfold L.Env.units
                    rw [HME.out]
                    exact List.mem_append_right _ (List.mem_flatMap.2 ⟨_, List.getElem_mem hll, List.mem_map.2 ⟨o, ho, rfl⟩⟩)
                  exact HU.out (L.full sh[l].1 o.1, o.2) h1
                obtain ⟨p, hp⟩ : ∃ p, p = sh[l].1 := ⟨_, rfl⟩
                obtain ⟨ms, hms⟩ : ∃ ms, ms = sh[l].2 := ⟨_, rfl⟩
                rw [← hp, ← hms] at hsu
                rw [← hms] at hle hunit u1 hSA
                rw [← hp] at u0
                obtain ⟨sm, hsm⟩ : ∃ sm, sm = ms.length := ⟨_, rfl⟩
                rw [← hsm] at hle u1
                have hsm3 : sm ≤ 550 := by have := HML.out; omega
                have HSM := Lib.hid hsm
                have HSU := Lib.hid hsu
                have HLE := Lib.hid hle
                have HSA := Lib.hid hSA
                have HUN := Lib.hid hunit
                obtain ⟨X4, hX4⟩ : ∃ X4, X4 = V0.alloc (.cells #[.string p, .slice SA sm sc] 83) := ⟨_, rfl⟩
                obtain ⟨eb, heb⟩ : ∃ eb, eb = V0.heap.size := ⟨_, rfl⟩
                have E4 : Ext V0 X4 := by rw [hX4]; exact (Ext.refl V0).alloc _
                have hb4 : X4.heap[eb]? = some (.cells #[.string p, .slice SA sm sc] 83 (0, 0)) := by rw [hX4, heb]; exact heap_alloc_new V0 _
                have t1 : X4.cell? ⟨eb, 1, none⟩ = _ := cell_of_row X4 eb 1 _ _ _ hb4
                have HEB := Lib.hid heb
                have HX4 := Lib.hid (HL.out.2.trans E4)
                have HC0 := Lib.hid HL.out.1
                clear hbo hps hSA hsu hle hunit hp hms hsm heb hb4 E4 HL hll hxv
                go_upto_region 24 with (fail)
                rw [← hX4, ← HEB.out]
                clear hX4 u0 u1
                go_wp2_with fail
                clear t1
                go_loopw [12, 96] (fun cv i wr => ∃ j c : Nat, j ≤ sm ∧ i = .int .i64 (j : Int) ∧ cv = .int .i64 (c : Int) ∧ Hid (c = cntB (L.isDef x) (L.memsOf (sh.take l) ++ (ms.take j).map fun m => (L.full p m.1, m.2)) ∧ Ext X4 wr)) (fun _ i _ => sm - (intOf i).toNat)
                case atStart => exact ⟨0, c, Nat.zero_le _, rfl, rfl, by rw [List.take_zero, List.map_nil, List.append_nil]; exact HC0.out, Ext.refl _⟩
                case round =>
                  obtain ⟨j, cc, hj, rfl, rfl, HJ⟩ := hrel
                  obtain ⟨Y0, hY0⟩ : ∃ Y0, Y0 = wr := ⟨_, rfl⟩
                  subst hY0
                  by_cases hjl : j < sm
                  · have hjm : j < ms.length := by rw [← HSM.out]; exact hjl
                    have hxe := HX5.out.trans (HX0.out.trans (HX4.out.trans HJ.out.2))
                    obtain ⟨mb, mo, s, TA, tc, TB, td, rfl, hbo, hms, hss, hTA, hTB, m0, m1, m2⟩ := mem_getB (HSA.out.ext hxe) hjm
                    have hchk := HUN.out _ (List.getElem_mem hjm)
                    have hem := exp_mem hchk x
                    have hdf : L.isDef x ms[j] = true ↔ (L.modeP ms[j].2 x = 1 ∨ L.modeP ms[j].2 x = 2) := by unfold L.isDef; simp
                    have hcm := cnt_memb (x := x) (p := p) (pre := L.memsOf (sh.take l)) hjm
                    rw [← HJ.out.1] at hcm
                    have hccl : cc ≤ 550 := by
                      have h1 := HJ.out.1
                      have h2 := cnt_le (p := L.isDef x) (l := L.memsOf (sh.take l) ++ (ms.take j).map fun m => (L.full p m.1, m.2))
                      rw [← h1, List.length_append, List.length_map, List.length_take] at h2
                      have h3 := HLE.out
                      have h4 := HML.out
                      omega
                    have hslen := (L.check_parts hchk).1
                    obtain ⟨sy, hsy⟩ : ∃ sy, sy = ms[j].2.1 := ⟨_, rfl⟩
                    rw [← hsy] at hem hslen hTA m1
                    obtain ⟨LX, hLX⟩ : ∃ LX, LX = (expL sy).foldl C.insB [] := ⟨_, rfl⟩
                    have hlx : LX.length ≤ 128 := by rw [hLX]; exact Nat.le_trans (exports_len _) (Nat.le_trans (expL_len _) hslen)
                    rw [← hLX] at hem
                    have hxd : (x.data.toList ∈ LX) ↔ L.isDef x ms[j] = true := hem.trans hdf.symm
                    obtain ⟨tl, htl⟩ : ∃ tl, tl = sy.length := ⟨_, rfl⟩
                    rw [← htl] at m1
                    generalize ms[j].2.2.length = ul at m2
                    obtain ⟨Y4, hY4⟩ : ∃ Y4, Y4 = Y0.alloc (.cells #[.string s, .slice TA tl tc, .slice TB ul td] 69) := ⟨_, rfl⟩
                    obtain ⟨fb, hfb⟩ : ∃ fb, fb = Y0.heap.size := ⟨_, rfl⟩
                    have E4 : Ext Y0 Y4 := by rw [hY4]; exact (Ext.refl Y0).alloc _
                    have hb4 : Y4.heap[fb]? = some (.cells #[.string s, .slice TA tl tc, .slice TB ul td] 69 (0, 0)) := by rw [hY4, hfb]; exact heap_alloc_new Y0 _
                    have t1 : Y4.cell? ⟨fb, 1, none⟩ = _ := cell_of_row Y4 fb 1 _ _ _ hb4
                    have t2 : Y4.cell? ⟨fb, 2, none⟩ = _ := cell_of_row Y4 fb 2 _ _ _ hb4
                    have hx4 := HX0.out.trans (HX4.out.trans (HJ.out.2.trans E4))
                    have hbw := (hx4.block _ (Array.getElem?_eq_some_iff.1 HB5.out).1).trans HB5.out
                    have c0 : Y4.cell? ⟨w.heap.size, 0, none⟩ = _ := cell_of_row Y4 _ 0 _ _ _ hbw
                    have HXP := Lib.hid (fun W (h : Ext Y4 W) => (show Calls Tryz.prog 25 #[.agg #[.slice TA tl tc, .slice TB ul td]] W (RetS W LX) from hLX ▸ rExports_any sy TA TB tc td tl ul W htl ((hTA.ext E4).ext h) (by omega)))
                    have HFB := Lib.hid hfb
                    have HXJ := Lib.hid (HJ.out.2.trans E4)
                    have HLX := Lib.hid hlx
                    have HCM := Lib.hid hcm
                    have HXD := Lib.hid hxd
                    have fx0 : ∀ z : Lat (Ext Y4), z.w'.cell? ⟨fb, 1, none⟩ = _ := fun z => z.h.keepc t1
                    have fx1 : ∀ z : Lat (Ext Y4), z.w'.cell? ⟨fb, 2, none⟩ = _ := fun z => z.h.keepc t2
                    have fx2 : ∀ z : Lat (Ext Y4), z.w'.cell? ⟨w.heap.size, 0, none⟩ = _ := fun z => z.h.keepc c0
                    have hne := Lat.some (Φ := Ext Y4) ((Ext.refl Y4).drew)
                    generalize L.isDef x ms[j] = IB at HCM HXD
                    clear hbo hms hss hTA hTB hchk hem hdf hcm hslen hsy hLX hlx hxd htl hfb hb4 E4 hx4 hbw HJ hjm hxe
                    go_upto_region 27 with (fail)
                    rw [← hY4, ← HFB.out]
                    clear hY4 m0 m1 m2 t1 t2 c0
                    cases IB with
                    | true =>
                      refine wp_region_lat [2, 5] (Ext Y4) ((Ext.refl Y4).drew) (by kernel_rfl) (by kernel_rfl) (by kernel_rfl) ?_
                      iterate 2 (refine lex_pure rfl rfl rfl ?_; intro K hK; go_big_quiet_op; go_big_quiet_on)
                      refine lex_eff rfl ?_
                      go_wp2_with fail
                      refine (HXP.out _ ((Ext.refl Y4).drew)).mono ?_
                      rintro e w6 ⟨e6, v6, n6, rfl, ho6⟩
                      have D6 := Lib.hid (((Ext.refl Y4).drew).trans e6)
                      have HCT := Lib.hid (contains_own LX v6 n6 _ x w6 ho6 (by have h1 := ho6.1; have h2 := HLX.out; omega))
                      clear e6 ho6
                      go_wp2_with fail
                      refine ⟨⟨⟨w6, D6.out⟩, rfl⟩, ?_⟩
                      iterate 2 (refine lex_pure rfl rfl rfl ?_; intro K hK; go_big_quiet_op; go_big_quiet_on)
                      refine lex_eff rfl ?_
                      go_wp2_with fail
                      refine HCT.out.mono ?_
                      rintro e w7 ⟨rfl, rfl⟩
                      rw [decide_eq_true (by first | exact HXD.out.2 rfl | exact HXD.out.2 trivial)]
                      go_wp2_with fail
                      refine ⟨⟨⟨_, D6.out⟩, rfl⟩, ?_⟩
                      refine lex_nil ?_
                      clear fx0 fx1 fx2 hne
                      have HC : Hid (cc + 1 = cntB (L.isDef x) (L.memsOf (sh.take l) ++ (ms.take (j + 1)).map fun m => (L.full p m.1, m.2)) ∧ Ext X4 w7) := ⟨by have h9 := HCM.out; first | (rw [if_pos rfl] at h9; exact h9.symm) | (rw [if_pos trivial] at h9; exact h9.symm) | exact h9.symm, HXJ.out.trans D6.out⟩
                      go_wp2_with fail
                      go_roundw
                      case rel => exact ⟨j + 1, cc + 1, by omega, by go_num, by go_num, HC⟩
                      case measure => simp [intOf]; omega
                    | false =>
                      refine wp_region_lat [2, 5] (Ext Y4) ((Ext.refl Y4).drew) (by kernel_rfl) (by kernel_rfl) (by kernel_rfl) ?_
                      iterate 2 (refine lex_pure rfl rfl rfl ?_; intro K hK; go_big_quiet_op; go_big_quiet_on)
                      refine lex_eff rfl ?_
                      go_wp2_with fail
                      refine (HXP.out _ ((Ext.refl Y4).drew)).mono ?_
                      rintro e w6 ⟨e6, v6, n6, rfl, ho6⟩
                      have D6 := Lib.hid (((Ext.refl Y4).drew).trans e6)
                      have HCT := Lib.hid (contains_own LX v6 n6 _ x w6 ho6 (by have h1 := ho6.1; have h2 := HLX.out; omega))
                      clear e6 ho6
                      go_wp2_with fail
                      refine ⟨⟨⟨w6, D6.out⟩, rfl⟩, ?_⟩
                      iterate 2 (refine lex_pure rfl rfl rfl ?_; intro K hK; go_big_quiet_op; go_big_quiet_on)
                      refine lex_eff rfl ?_
                      go_wp2_with fail
                      refine HCT.out.mono ?_
                      rintro e w7 ⟨rfl, rfl⟩
                      rw [decide_eq_false (fun h => by have h9 := HXD.out.1 h; first | exact h9 | cases h9)]
                      go_wp2_with fail
                      refine ⟨⟨⟨_, D6.out⟩, rfl⟩, ?_⟩
                      refine lex_nil ?_
                      clear fx0 fx1 fx2 hne
                      have HC : Hid (cc = cntB (L.isDef x) (L.memsOf (sh.take l) ++ (ms.take (j + 1)).map fun m => (L.full p m.1, m.2)) ∧ Ext X4 w7) := ⟨by have h9 := HCM.out; first | (rw [if_neg Bool.false_ne_true] at h9; exact h9.symm) | (rw [if_neg not_false] at h9; exact h9.symm) | exact h9.symm, HXJ.out.trans D6.out⟩
                      go_wp2_with fail
                      go_roundw
                      case rel => exact ⟨j + 1, cc, by omega, by go_num, rfl, HC⟩
                      case measure => simp [intOf]; omega
                  · obtain rfl : j = sm := by omega
                    have htk : ms.take j = ms := List.take_of_length_le (by rw [HSM.out]; exact Nat.le_refl _)
                    have HN' : Hid (cc = cntB (L.isDef x) (L.memsOf (sh.take (l + 1))) ∧ Ext W0 Y0) := by
                      refine ⟨?_, HX4.out.trans HJ.out.2⟩
                      rw [HSU.out, HJ.out.1, htk]
                    clear htk HJ
                    go_wp2_with fail
                    exact ⟨⟨l + 1, cc, by omega, by go_num, rfl, HN'⟩, by simp [intOf]; omega⟩
              · obtain rfl : l = m := by omega
                have htk : sh.take l = sh := List.take_of_length_le (by rw [HM.out]; exact Nat.le_refl _)
                have h3 : c = n3 E x := by rw [HL.out.1, htk]; unfold n3; rw [HME.out]
                have H3 := Lib.hid h3
                have HX3' := Lib.hid (HX0.out.trans HL.out.2)
                clear htk h3 HL
                have hn0 := HX3'.out.keepc HN5.out
                cases hhit : L.hit E x with
                | twice => exact absurd hhit HNT.out
                | unknown =>
                  obtain ⟨z1, z2, z3⟩ := found_unknown hhit
                  have hR := HRV.out
                  rw [hhit] at hR
                  obtain ⟨rfl, rfl, rfl⟩ : rn = ⟨#[]⟩ ∧ rb = false ∧ re = 8 := by cases hR; exact ⟨rfl, rfl, rfl⟩
                  obtain rfl : k1 = 0 := by rw [H1.out]; exact z1
                  obtain rfl : k2 = 0 := by rw [H2.out]; exact z2
                  obtain rfl : c = 0 := by rw [H3.out]; exact z3
                  clear hR hhit z1 z2 z3 H1 H2 H3
                  go_wp2_with fail
                  go_ret
                  exact ⟨rfl, HX5.out.trans HX3'.out⟩
                | lib j =>
                  obtain ⟨z1, z2, z3⟩ := found_lib hhit
                  have hR := HRV.out
                  rw [hhit] at hR
                  obtain ⟨rfl, rfl⟩ : rb = true ∧ re = 0 := by cases hR; exact ⟨rfl, rfl⟩
                  obtain rfl : k1 = 0 := by rw [H1.out]; exact z1
                  obtain rfl : k2 = 0 := by rw [H2.out]; exact z2
                  obtain rfl : c = 0 := by rw [H3.out]; exact z3
                  clear hR hhit z1 z2 z3 H1 H2 H3
                  go_wp2_with fail
                  go_ret
                  exact ⟨rfl, HX5.out.trans HX3'.out⟩
                | unit u mm =>
                  obtain ⟨hu, hle1, hfu⟩ := found_unit hhit
                  have hR := HRV.out
                  rw [hhit] at hR
                  obtain ⟨hrn, rfl, rfl⟩ : rn = E.name u ∧ rb = false ∧ re = 0 := by cases hR; exact ⟨rfl, rfl, rfl⟩
                  have hun : E.units = objs ++ L.memsOf sh := by unfold L.Env.units; rw [HOB.out, HME.out]
                  have hu2 : u < (objs ++ L.memsOf sh).length := hun ▸ hu
                  have hge : E.units[u] = (objs ++ L.memsOf sh)[u] := List.getElem_of_eq hun hu
                  have hnm : rn = (objs ++ L.memsOf sh)[u].1 := by
                    rw [hrn, ← hge]
                    unfold L.Env.name
                    rw [List.getElem?_eq_getElem hu]
                    rfl
                  have hnd : ((objs ++ L.memsOf sh).map L.mname).Nodup := by
                    have h9 := HE.out.names
                    unfold L.NamesOk at h9
                    rw [hun] at h9
                    exact h9
                  have hb8 : k ≤ 100000 := by have := HF.out.2.1.2; have := HN.out; omega
                  have hm8 : l ≤ 100000 := by have := HF.out.2.2.1.1; have := HM.out; omega
                  have HOF := Lib.hid (fun W (h : Ext w W) => objectOf_any x rn objs sh A B D a b d k l q W HN.out (HA.out.ext h) HM.out (HB.out.ext h) hb8 hm8 (fun s hs => (HF.out.ok.shelves s hs).1) u hu2 hnd hnm)
                  have hsl : (E.units[u]).2.1.length ≤ 128 := (L.check_parts (HU.out _ (List.getElem_mem hu))).1
                  have hins := inside_is HE.out.names hu
                  rw [← hrn, HOB.out] at hins
                  rw [HOB.out] at hfu
                  have HIN := Lib.hid (fun W (h : Ext w W) (c1 : W.cell? ⟨nb, 0, none⟩ = some (.string rn)) => hins ▸ inside_any objs A a k nb rn W HN.out (HA.out.ext h) c1)
                  rw [hge] at hfu hsl
                  obtain ⟨o, ho⟩ : ∃ o, o = (objs ++ L.memsOf sh)[u].2 := ⟨_, rfl⟩
                  rw [← ho] at hfu hsl HOF
                  obtain ⟨nm, md, sc, bb, hfv, hd1, hd2, hd3⟩ := find_form o x
                  rw [← hd1, ← hd2, ← H1.out, ← H2.out] at hfu
                  have HFU := Lib.hid hfu
                  have HFV := Lib.hid hfv
                  have HSL := Lib.hid hsl
                  have HXV := Lib.hid (HX5.out.trans HX3'.out)
                  have hbw := (HX3'.out.block _ (Array.getElem?_eq_some_iff.1 HB5.out).1).trans HB5.out
                  have c0 : V0.cell? ⟨w.heap.size, 0, none⟩ = _ := cell_of_row V0 _ 0 _ _ _ hbw
                  have c1 : V0.cell? ⟨w.heap.size, 1, none⟩ = _ := cell_of_row V0 _ 1 _ _ _ hbw
                  have c2 : V0.cell? ⟨w.heap.size, 2, none⟩ = _ := cell_of_row V0 _ 2 _ _ _ hbw
                  have c3 : V0.cell? ⟨w.heap.size, 3, none⟩ = _ := cell_of_row V0 _ 3 _ _ _ hbw
                  have HBW := Lib.hid hbw
                  have HN0 := Lib.hid hn0
                  clear hR hhit hu hle1 hfu hrn hun hu2 hge hnm hnd hb8 hm8 hsl hins hfv hd1 hd2 hd3 hbw H1 H2 H3 HRV HNT ho
                  go_wp2_with fail
                  refine (HOF.out _ HXV.out).mono ?_
                  rintro e w6 ⟨e6, SA, ac, SB, ad, rfl, hSA, hSB⟩
                  obtain ⟨tl, htl⟩ : ∃ tl, tl = o.1.length := ⟨_, rfl⟩
                  rw [← htl]
                  generalize o.2.length = ul
                  obtain ⟨W7, hW7⟩ : ∃ W7, W7 = w6.alloc (.cells #[.slice SA tl ac, .slice SB ul ad] 56) := ⟨_, rfl⟩
                  obtain ⟨ob, hob⟩ : ∃ ob, ob = w6.heap.size := ⟨_, rfl⟩
                  have E7 : Ext w6 W7 := by rw [hW7]; exact (Ext.refl w6).alloc _
                  have hb7 : W7.heap[ob]? = some (.cells #[.slice SA tl ac, .slice SB ul ad] 56 (0, 0)) := by rw [hW7, hob]; exact heap_alloc_new w6 _
                  have t0 : W7.cell? ⟨ob, 0, none⟩ = _ := cell_of_row W7 ob 0 _ _ _ hb7
                  have t1 : W7.cell? ⟨ob, 1, none⟩ = _ := cell_of_row W7 ob 1 _ _ _ hb7
                  have HFD := Lib.hid (rFind_any o.1 SA SB ac ad tl ul x W7 htl (hSA.ext E7) (by have := HSL.out; omega) HX.out)
                  rw [HFV.out] at HFD
                  have HX7 := Lib.hid (e6.trans E7)
                  have hbw := (HX7.out.block _ (Array.getElem?_eq_some_iff.1 HBW.out).1).trans HBW.out
                  have k0 : W7.cell? ⟨w.heap.size, 0, none⟩ = _ := cell_of_row W7 _ 0 _ _ _ hbw
                  have HOB2 := Lib.hid hob
                  have HBX := Lib.hid hbw
                  clear e6 hSA hSB htl E7 hb7 hob hbw c0 c1 c2 c3 hn0
                  go_upto_region 34 with (fail)
                  rw [← hW7, ← HOB2.out]
                  clear hW7
                  go_wp2_with fail
                  refine HFD.out.mono ?_
                  rintro e w8 ⟨rfl, e8⟩
                  obtain ⟨W9, hW9⟩ : ∃ W9, W9 = w8.alloc (.cells #[.string nm, .int .i64 md, .int .i64 sc] 60) := ⟨_, rfl⟩
                  obtain ⟨fb, hfb⟩ : ∃ fb, fb = w8.heap.size := ⟨_, rfl⟩
                  have E9 : Ext w8 W9 := by rw [hW9]; exact (Ext.refl w8).alloc _
                  have hb9 : W9.heap[fb]? = some (.cells #[.string nm, .int .i64 md, .int .i64 sc] 60 (0, 0)) := by rw [hW9, hfb]; exact heap_alloc_new w8 _
                  have HB9 := Lib.hid hb9
                  have HX9 := Lib.hid (HX7.out.trans (e8.trans E9))
                  have hbw := ((e8.trans E9).block _ (Array.getElem?_eq_some_iff.1 HBX.out).1).trans HBX.out
                  have c1 : W9.cell? ⟨w.heap.size, 1, none⟩ = _ := cell_of_row W9 _ 1 _ _ _ hbw
                  have hn9 := HX9.out.keepc HN0.out
                  have HFB := Lib.hid hfb
                  clear e8 E9 hb9 hbw hfb t0 t1 k0
                  go_upto_region 35 with (fail)
                  rw [← hW9, ← HFB.out]
                  clear hW9
                  have HCI := Lib.hid (HIN.out _ (HXV.out.trans HX9.out) hn9)
                  go_wp2_with fail
                  refine HCI.out.mono ?_
                  rintro e wa ⟨rfl, ea⟩
                  have hba := (ea.block _ (Array.getElem?_eq_some_iff.1 HB9.out).1).trans HB9.out
                  have s1 : wa.cell? ⟨fb, 1, none⟩ = _ := cell_of_row wa fb 1 _ _ _ hba
                  have HXA := Lib.hid (HXV.out.trans (HX9.out.trans ea))
                  clear ea hba c1 hn9
                  rcases HFU.out with ⟨h1, h2, h3⟩ | ⟨h1, h2, h3, h4⟩
                  · rw [decide_eq_true h1]
                    have hpos : (0 : Int) < (k1 : Int) + (k2 : Int) := by omega
                    rcases h3 with rfl | ⟨rfl, rfl⟩
                    · clear h1 h2
                      go_wp2_with fail
                      go_ret
                      exact ⟨rfl, HXA.out⟩
                    · have hk2d : decide (0 < k2) = true := decide_eq_true (by omega)
                      clear h1 h2
                      go_wp2_with fail
                      go_ret
                      exact ⟨by first | rfl | (rw [hk2d]; rfl), HXA.out⟩
                  · rw [decide_eq_false (by omega)]
                    subst h2 h3
                    rcases h4 with rfl | rfl
                    · clear h1
                      go_wp2_with fail
                      go_ret
                      exact ⟨rfl, HXA.out⟩
                    · clear h1
                      go_wp2_with fail
                      go_ret
                      exact ⟨rfl, HXA.out⟩
    · have hR := HRR.out
      rw [if_neg (by rw [hV]; exact Bool.false_ne_true)] at hR
      obtain ⟨rfl, rfl, rfl⟩ : rn = ⟨#[]⟩ ∧ rb = false ∧ re = 1 := by cases hR; exact ⟨rfl, rfl, rfl⟩
      have hn0 := HN5.out
      clear hR hV
      go_wp2_with fail
      go_ret
      exact ⟨rfl, HX5.out⟩
end Go.Proofs.YtfbhchpbflaphaaGreatDoor
