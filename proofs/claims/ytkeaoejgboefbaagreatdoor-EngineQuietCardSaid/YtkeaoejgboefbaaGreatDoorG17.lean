/- The texts Kq Kr Xb Ks Xc of the seat, joined. -/
import Derived.Test.YtkeaoejgboefbaaGreatDoorG16
import Derived.BigQuiet
import Derived.Laws.StructEq
/- The reference's Inputs. -/
namespace Go.Proofs.YtkeaoejgboefbaaGreatDoor
open Go.RowKit Go.Maps

theorem bytesLess_dec : ∀ (x y : List UInt8), Op.bytesLess x y = decide (x < y)
  | [], [] => by simp [Op.bytesLess]
  | _ :: _, [] => by simp [Op.bytesLess]
  | [], _ :: _ => by simp [Op.bytesLess]
  | a :: x, b :: y => by
    rw [Op.bytesLess, bytesLess_dec x y]
    simp only [List.cons_lt_cons_iff]
    by_cases h1 : a < b <;> by_cases h2 : a = b <;> by_cases h3 : x < y <;> simp [h1, h2, h3]
theorem less_pth (x y : ByteArray) : Op.bytesLess x.toList y.toList = decide (x.data.toList < y.data.toList) := by rw [bytesLess_dec, ByteArray.toList_eq, ByteArray.toList_eq]
/-- The first k files stand before a path. -/
def ltTo (t : T.Tr) (p : T.Bs) (k : Nat) : Prop := ∀ i (h : i < t.length), i < k → T.pth t[i] < p
theorem ltTo_succ {t : T.Tr} {p : T.Bs} {k : Nat} (h : ltTo t p k) (hk : k < t.length) (h1 : T.pth t[k] < p) : ltTo t p (k + 1) := by
  intro i hi hik
  by_cases e : i = k
  · subst e; exact h1
  · exact h i hi (by omega)
theorem file_row {w : World} {g : Nat} {x y : ByteArray} (h : w.heap[g]? = some (.cells #[.string x, .string y] 57 (0, 0))) (hx : x.size ≤ 9223372036854775807) (hy : y.size ≤ 9223372036854775807) : SliceAt fileR w (Old w) (some ⟨g, 0, none⟩) 1 [(x, y)] := by
  refine ⟨Nat.le_refl _, by decide, fun _ => ⟨g, 0, rfl, (Array.getElem?_eq_some_iff.1 h).1, fun i hi => ?_⟩⟩
  obtain rfl : i = 0 := by simpa using hi
  refine ⟨[.string x, .string y], ⟨[.string x], [.string y], rfl, ⟨rfl, hx⟩, ⟨rfl, hy⟩⟩, fun j u hj => ?_⟩
  rw [cell_of_row w g _ _ _ _ h, ← hj]
  show (#[Value.string x, .string y] : Array Value)[0 + (0 * 2 + j)]? = _
  rw [show 0 + (0 * 2 + j) = j by omega]
  exact List.getElem?_toArray
theorem inputsK_length (e : E.En) (k : Nat) : (E.inputsK e k).length ≤ k := by
  have h := inputs_length { e with cells := e.cells.take k }
  have h1 : E.inputsE { e with cells := e.cells.take k } = E.inputsK e k := rfl
  rw [h1] at h
  have : (e.cells.take k).length ≤ k := by rw [List.length_take]; omega
  exact Nat.le_trans h this
/-- The names so far are those of earlier cells. -/
theorem inputsK_mem {e : E.En} {k : Nat} {f : T.File} (h : f ∈ E.inputsK e k) : ∃ j, ∃ hj : j < e.cells.length, j < k ∧ e.cells[j].1 = f.1 := by
  have h1 := (E.mem_fold e.vals (e.cells.take k) [] (fun _ h => by cases h) f).1 h
  rcases h1 with h1 | ⟨_, c, hc, he⟩
  · cases h1
  · obtain ⟨j, hj, rfl⟩ := List.getElem_of_mem hc
    rw [List.length_take] at hj
    exact ⟨j, by omega, by omega, by rw [← he, List.getElem_take]⟩
theorem lt_of_not {x y : List UInt8} (h : ¬ x < y) (hne : x ≠ y) : y < x := by
  rcases T.lt_ways x y with h1 | h1 | h1
  · exact absurd h1 h
  · exact absurd h1 hne
  · exact h1
theorem ty34 : Tryz.prog.elem 34 = 57 := by kernel_rfl
theorem sz34 : ∀ w', (sizeOf (Tryz.prog.elem 34)).run Tryz.prog w' = .ok fileR.size w' := fun _ => by kernel_rfl
/-- append(v, y...) of files, none too; of the rows that were, only v's has changed. -/
theorem wpList_append_files2 {ops : Array Oper} {rest : List Oper} {o : Oper} {a : Act} {w : World} {Q : Exit → Act → World → Prop} (hw : Region.wanted o (yielded ops a.tmps) = true) (s x : Operand)
    (ho : o.op = .call { callee := .builtin .append, args := #[s, x], argTypes := #[34, 34] })
    (base : Nat) (v : Value) (l y : T.Tr) (hs : a.eval s = v) (hown : OwnFiles w base v l) (A : Option Addr) (m c : Nat) (hx : a.eval x = .slice A m c) (hm1 : m = y.length) (B : Nat → Prop) (hy : SliceAt fileR w B A c y)
    (h63 : l.length + y.length ≤ 1000) (hbase : base ≤ w.heap.size)
    (h : ∀ v' w', OwnFiles w' base v' (l ++ y) → Below base w w' → w.grownBy w' v.ownBlock → wpList Tryz.prog ops Q rest (a.put o.dst v') w') : wpList Tryz.prog ops Q (o :: rest) a w := by
  obtain ⟨i0, hi, hz0, hz1, hz2⟩ := info_parts file_info
  refine wpList_wanted hw ?_
  by_cases hm : y = []
  · subst hm
    have hm0 : m = 0 := hm1
    subst hm0
    have hsrc : Src Tryz.prog i0.size 34 (.slice A 0 c) 0 [] w := by
      cases A with
      | none => exact Src.ofNil w Tryz.underlying34 c
      | some ad => exact Src.ofSlice w Tryz.underlying34 ad 0 c [] (by simp) (fun j u hj => by simp at hj) (fun u hu => by simp at hu)
    have hrun : ∃ (b : Option Addr) (n cp : Nat), v = .slice b n cp ∧ n ≤ cp := by
      obtain ⟨A', c', rfl, h1, _⟩ := own_files_form hown
      exact ⟨_, _, _, rfl, h1⟩
    obtain ⟨b, n, cp, rfl, hle⟩ := hrun
    have hr := run_append_nothing (P := Tryz.prog) w 34 34 o.type 57 i0 Tryz.underlying34 hi b n cp hle _ hsrc
    unfold Oper.wp execOp
    simp only [ho, resolve, invoke, builtin, Sem.run_bind, Sem.run_pure, Result.andThen_ok, List.map_toArray, List.map_cons, List.map_nil, hs, hx, hr]
    exact h _ _ (by rw [List.append_nil]; exact hown) (Below.refl _ _) (World.grownBy.refl _ _)
  · have hpos : 0 < y.length := List.length_pos_iff.2 hm
    obtain ⟨b, off, rfl, _, hcc⟩ := files_cells hy hm
    subst hm1
    refine wp_append_ownAt w s x 34 ho base 57 i0 (.agg #[.string ⟨#[]⟩, .string ⟨#[]⟩]) 2 32 Tryz.underlying34 hi hz0 hz1 hz2 rfl (by decide) v l.length (fcells l) hs hown ⟨b, off, none⟩ y.length c (fcells y) hx (fcells_len y) hcc (fcells_one y) (by unfold maxLen; omega) (by omega) hbase hpos ?_
    intro v' w' h2 h3 _ _
    refine h v' w' ?_ ?_ h3
    · unfold OwnFiles
      rw [fcells_append, List.length_append]
      exact h2
    · refine Below.grown (Below.refl _ _) h3 hbase fun k hk => ?_
      exact own_apart hown hk
set_option maxRecDepth 100000 in
set_option maxHeartbeats 20000000 in
theorem refInputs_any {w : World} {S : Nat → Prop} {p : Plc} {e : E.En} {ft : Int} {cs : List E.Cell} {mm : Nat} (h : RefAt w S p 0 ft [] e) (hft : Fit cs mm e) :
    Calls Tryz.prog 14 #[.pointer (some ⟨p.g, p.o, none⟩)] w (RetT w (E.inputsE e)) := by
  obtain ⟨c0, c1, _, _, _, _⟩ := h.row.cells
  have HE := Lib.hid h
  have HFT := Lib.hid hft
  have hfew : e.cells.length ≤ 200 := by rw [hft.cells]; exact hft.few
  have HEN := Lib.hid (E.inputsK_end e)
  obtain ⟨L, hL⟩ : ∃ L, L = e.cells.length := ⟨_, rfl⟩
  rw [← hL] at c0 c1 hfew HEN
  have HL := Lib.hid hL
  clear h hft hL
  go_enter Tryz.func14, Tryz.ntmps14
  go_wp2_with fail
  go_loopw [3, 4, 5] (fun v i _ wr => ∃ (j : Nat), i = .int .i64 j ∧ j ≤ L ∧ Hid (OwnFiles wr w.heap.size v (E.inputsK e j)) ∧ Hid (SzF (E.inputsK e j)) ∧ Hid (Ext w wr)) (fun _ i _ _ => L - (intOf i).toNat)
  case atStart => exact ⟨0, rfl, Nat.zero_le _, own_files_nil _ _, Lib.hid (fun _ h => absurd h List.not_mem_nil), Ext.refl _⟩
  case round =>
    obtain ⟨j, rfl, hj, HO, HSZ, HX⟩ := hrel
    replace c0 := HX.out.keepc c0
    replace c1 := HX.out.keepc c1
    by_cases hlt : j < L
    · have hjl : j < e.cells.length := by have := HL.out; omega
      have HEX := Lib.hid (HE.out.ext HX.out)
      obtain ⟨b, off, A2, k2, hAe, hbb, d0, d1, d2, d3, z1, z2, z3, z4⟩ := cell_get HEX.out.args hjl
      obtain ⟨v0, v1⟩ := HEX.out.vals.cells hjl
      rw [nmAt_get hjl] at v0 v1
      have HS := Lib.hid (E.inputsK_succ e hjl)
      rw [hAe] at c0
      have HLT : Hid (∀ i (hi : i < (E.inputsK e j).length), T.pth (E.inputsK e j)[i] ≠ (e.cells[j].1).data.toList) := Lib.hid fun i hi hpe => by
        obtain ⟨q, hq, hqj, hqe⟩ := inputsK_mem (List.getElem_mem hi)
        have : e.cells[q].1 = e.cells[j].1 := by rw [hqe]; exact bytes_inj hpe
        have := HFT.out.once q j hq hjl (by rw [nmAt_get hq, nmAt_get hjl]; exact this)
        omega
      clear hAe d1 d2 d3 z2 z3 z4 hbb
      cases hv : e.vals e.cells[j].1 with
      | none =>
        rw [hv] at v0 v1
        have HS2 : Hid (E.inputsK e (j + 1) = E.inputsK e j) := Lib.hid (by rw [HS.out]; unfold E.inStep; rw [hv])
        replace v1 : wr.cell? ⟨p.bv, p.ov + j * 2 + 1, none⟩ = some (.bool false) := v1
        clear v0 hv d0 z1
        go_wp2_with fail
        go_roundw
        case rel => exact ⟨j + 1, by go_num, by omega, by rw [HS2.out]; exact HO, by rw [HS2.out]; exact HSZ, HX⟩
        case measure => simp [intOf]; omega
      | some s =>
        rw [hv] at v0 v1
        have HS2 : Hid (E.inputsK e (j + 1) = T.insT (E.inputsK e j) (e.cells[j].1, s)) := Lib.hid (by rw [HS.out]; unfold E.inStep; rw [hv])
        replace v1 : wr.cell? ⟨p.bv, p.ov + j * 2 + 1, none⟩ = some (.bool true) := v1
        replace v0 : wr.cell? ⟨p.bv, p.ov + j * 2, none⟩ = some (.string s) := v0
        have hsz : s.size ≤ 9223372036854775807 := by have := HFT.out.vals _ _ hv; omega
        have HSRT := Lib.hid (E.srt_inputsK e j)
        have HSZ2 : Hid (SzF (T.insT (E.inputsK e j) (e.cells[j].1, s))) := Lib.hid fun f hf => by
          rcases T.mem_ins.1 hf with rfl | ⟨hf, _⟩
          · exact ⟨z1, hsz⟩
          · exact HSZ.out f hf
        have HTL := Lib.hid (inputsK_length e j)
        generalize e.cells[j].1 = nm at *
        clear hv HS hjl
        obtain ⟨t, ht⟩ : ∃ t, t = E.inputsK e j := ⟨_, rfl⟩
        rw [← ht] at HO HSZ HLT HS2 HSRT HTL HSZ2
        clear ht
        obtain ⟨A, c, rfl, hsl⟩ := own_files_slice HO.out HSZ.out
        have HSL := Lib.hid hsl
        obtain ⟨m, hm⟩ : ∃ m, m = t.length := ⟨_, rfl⟩
        rw [← hm] at HTL ⊢
        have HM := Lib.hid hm
        have hmz : m ≤ 200 := by have := HTL.out; omega
        clear hsl hm
        obtain ⟨w1, rfl⟩ : ∃ w1, w1 = wr := ⟨wr, rfl⟩
        go_wp2_with fail
        go_loopw [5] (fun i wr => ∃ (k : Nat), i = .int .i64 k ∧ k ≤ m ∧ Hid (ltTo t nm.data.toList k) ∧ Hid (Ext w1 wr)) (fun i _ => m - (intOf i).toNat)
        case atStart => exact ⟨0, rfl, Nat.zero_le _, (fun _ _ h => absurd h (Nat.not_lt_zero _)), Ext.refl _⟩
        case round =>
          obtain ⟨k, rfl, hk, HT, HX1⟩ := hrel
          replace c0 := HX1.out.keepc c0
          replace c1 := HX1.out.keepc c1
          replace d0 := HX1.out.keepc d0
          replace v0 := HX1.out.keepc v0
          have hcase : (k < m ∧ ∃ hkl : k < t.length, T.pth t[k] < nm.data.toList) ∨ ((k = m ∨ (k < m ∧ ∃ hkl : k < t.length, ¬ T.pth t[k] < nm.data.toList)) ∧ Hid (T.insT t (nm, s) = t.take k ++ (nm, s) :: t.drop k)) := by
            by_cases hkm : k < m
            · have hkl : k < t.length := by have := HM.out; omega
              by_cases hlp : T.pth t[k] < nm.data.toList
              · exact .inl ⟨hkm, hkl, hlp⟩
              · refine .inr ⟨.inr ⟨hkm, hkl, hlp⟩, Lib.hid (T.put_ins (f := (nm, s)) HT.out (fun i hi hik => ?_)).symm⟩
                have h1 : nm.data.toList < T.pth t[k] := lt_of_not hlp fun e => HLT.out k hkl e
                rcases Nat.lt_or_ge k i with h2 | h2
                · exact T.lt_trans h1 (List.pairwise_iff_getElem.1 HSRT.out k i hkl hi h2)
                · obtain rfl : k = i := by omega
                  exact h1
            · refine .inr ⟨.inl (by omega), Lib.hid (T.put_ins (f := (nm, s)) HT.out (fun i hi hik => ?_)).symm⟩
              have := HM.out
              omega
          rcases hcase with ⟨hkm, hkl, hlp⟩ | ⟨hcase, HPUT⟩
          · obtain ⟨bt, ot, hAt, _, f0, f1, y0, y1⟩ := file_get (HSL.out.ext HX1.out) hkl
            subst hAt
            have hless := less_pth t[k].1 nm
            have HTS := Lib.hid (fun h1 => ltTo_succ HT.out hkl h1)
            have hdk : decide ((k : Int) < (m : Int)) = true := decide_eq_true (by omega)
            have hl2 : decide (t[k].1.data.toList < nm.data.toList) = true := decide_eq_true hlp
            rw [hl2] at hless
            have HT2 := Lib.hid (HTS.out hlp)
            generalize t[k] = f at *
            obtain ⟨fp, fd⟩ := f
            simp only at f0 f1 y0 y1 hless
            clear hl2 hlp HTS hkl
            go_wp2_with fail
            go_quiet (fail)
            go_wp2_with fail
            go_roundw
            case rel => exact ⟨k + 1, by go_num, by omega, HT2, HX1.out.drewN _⟩
            case measure => simp [intOf]; omega
          · obtain ⟨WD, hWD⟩ : ∃ WD, WD = wr.drewN 1 := ⟨_, rfl⟩
            rcases hcase with hkm | ⟨hkm, hkl, hlp⟩
            · have hdk : decide ((k : Int) < (m : Int)) = false := decide_eq_false (by omega)
              go_wp2_with fail
              go_quiet (fail)
              go_wp2_with fail
              obtain ⟨WR, hWR⟩ : ∃ WR, WR = wr.drewN nq := ⟨_, rfl⟩
              have XR : Ext wr WR := by rw [hWR]; exact (Ext.refl wr).drewN _
              rw [← hWR]
              obtain ⟨Φ, hΦ⟩ : ∃ Φ : World → Prop, ∀ w', Φ w' ↔ Ext WR.drew w' := ⟨_, fun _ => Iff.rfl⟩
              have h0 : Φ WR.drew := (hΦ _).2 (Ext.refl _)
              have fc0 : ∀ x : Lat Φ, x.w'.cell? ⟨p.g, p.o, none⟩ = some (.slice (some ⟨b, off, none⟩) L p.kc) := fun x => (XR.drew.trans ((hΦ _).1 x.h)).keepc c0
              have fc1 : ∀ x : Lat Φ, x.w'.cell? ⟨p.g, p.o + 1, none⟩ = some (.slice (some ⟨p.bv, p.ov, none⟩) L p.cv) := fun x => (XR.drew.trans ((hΦ _).1 x.h)).keepc c1
              have fd0 : ∀ x : Lat Φ, x.w'.cell? ⟨b, off + j * 4, none⟩ = some (.string nm) := fun x => (XR.drew.trans ((hΦ _).1 x.h)).keepc d0
              have fv0 : ∀ x : Lat Φ, x.w'.cell? ⟨p.bv, p.ov + j * 2, none⟩ = some (.string s) := fun x => (XR.drew.trans ((hΦ _).1 x.h)).keepc v0
              have hne1 := Lat.some h0
              have HΦ := Lib.hid hΦ
              have HXW := Lib.hid (HX1.out.trans XR.drew)
              obtain ⟨A4, hs4, ht4⟩ := run_slice_till (i := k) 34 (ty34 ▸ Tryz.underlying34) sz34 HSL.out HM.out hk
              obtain ⟨A7, hs7, ht7⟩ := run_slice_from (i := k) 34 (ty34 ▸ Tryz.underlying34) sz34 HSL.out HM.out hk
              have HT4 := Lib.hid ht4
              have HT7 := Lib.hid ht7
              have hl4 : Hid (k = (t.take k).length) := Lib.hid (by rw [List.length_take]; have := HM.out; omega)
              have hl7 : Hid (m - k = (t.drop k).length) := Lib.hid (by rw [List.length_drop]; have := HM.out; omega)
              have hz4 : Hid ((t.take k).length ≤ 200) := Lib.hid (by rw [List.length_take]; omega)
              have hz7 : Hid ((t.drop k).length ≤ 200) := Lib.hid (by rw [List.length_drop]; have := HM.out; omega)
              have hk63 : k ≤ 200 := by omega
              obtain ⟨base, hbase⟩ : ∃ n, n = WR.drew.heap.size := ⟨_, rfl⟩
              have HB := Lib.hid hbase
              have HBW : Hid (w.heap.size ≤ base) := Lib.hid (by rw [hbase]; exact Nat.le_trans HX.out.size HXW.out.size)
              clear hΦ XR c0 c1 d0 v0 ht4 ht7 hbase hWR
              refine wp_region_tree (FT.path [1,2,3,5,6,7,8,9,10,11,12,13,14,15,16,17,18,19,20,21,24,25,26] (.fork (.step 0 (.fork (FT.path [4,22,23,27,28] .leaf) (FT.path [22,4,23,27,28] .leaf))) (FT.path [22,0,4,23,27,28] .leaf))) [0, 4, 22, 23, 27] Φ h0 (by kernel_rfl) (by kernel_rfl) ?_
              generalize WR.drew = WE at *
              clear hkm hdk
              iterate 23 (refine ftl_pure rfl rfl rfl rfl ?_; intro K hK; go_big_quiet_op; go_big_quiet_on)
              refine ft_fork ?_ ?_
              · refine ftl_eff rfl rfl ?_
                go_wp2_with fail
                have HX1a : Hid (Ext WE (WE.alloc (.cells #[] 57))) := Lib.hid ((Ext.refl _).alloc _)
                have HO1a : Hid (OwnFiles (WE.alloc (.cells #[] 57)) base (.slice (some ⟨WE.heap.size, 0, none⟩) 0 0) []) := Lib.hid (by rw [HB.out]; exact own_files_empty WE _ rfl)
                have HB1 : Hid (base ≤ (WE.alloc (.cells #[] 57)).heap.size) := Lib.hid (by rw [HB.out]; exact HX1a.out.size)
                refine ⟨⟨⟨_, (HΦ.out _).2 HX1a.out⟩, rfl⟩, ?_⟩
                obtain ⟨g0, hg0⟩ : ∃ g0, g0 = WE.heap.size := ⟨_, rfl⟩
                obtain ⟨Wa, hWa⟩ : ∃ Wa, Wa = WE.alloc (.cells #[] 57) := ⟨_, rfl⟩
                have HG0 : Hid (g0 < Wa.heap.size) := Lib.hid (by rw [hg0, hWa, size_alloc']; omega)
                rw [← hg0, ← hWa] at HO1a
                rw [← hWa] at HX1a HB1
                rw [← hg0, ← hWa]
                clear hg0 hWa
                refine ft_fork ?_ ?_
                · refine ftl_eff rfl rfl ?_
                  refine wpList_append_files2 rfl (.tmp 46) (.tmp 49) rfl base _ [] (t.take k) rfl HO1a.out A4 k c rfl hl4.out _ (HT4.out.ext (HXW.out.trans HX1a.out)) (by have := hz4.out; simp only [List.length_nil]; omega) HB1.out ?_
                  intro v4 w4 o4 b4 g4
                  have HO4a : Hid (OwnFiles w4 base v4 (t.take k)) := Lib.hid (by simpa using o4)
                  have HX4 : Hid (Ext WE w4) := Lib.hid (by rw [HB.out] at b4; exact Below.trans HX1a.out b4)
                  clear o4 b4 g4
                  go_wp2_with fail
                  refine ⟨⟨⟨_, (HΦ.out _).2 HX4.out⟩, rfl⟩, ?_⟩
                  refine ftl_eff rfl rfl ?_
                  go_wp2_with fail
                  have HX5 : Hid (Ext WE (w4.alloc (.cells #[.string nm, .string s] 57))) := Lib.hid (HX4.out.alloc _)
                  have HO4 : Hid (OwnFiles (w4.alloc (.cells #[.string nm, .string s] 57)) base v4 (t.take k)) := Lib.hid (OwnAt.alloc HO4a.out _)
                  have HRW : Hid (SliceAt fileR (w4.alloc (.cells #[.string nm, .string s] 57)) (Old (w4.alloc (.cells #[.string nm, .string s] 57))) (some ⟨w4.heap.size, 0, none⟩) 1 [(nm, s)]) := Lib.hid (file_row (heap_alloc_new w4 _) z1 hsz)
                  have HB5 : Hid (base ≤ (w4.alloc (.cells #[.string nm, .string s] 57)).heap.size) := Lib.hid (by rw [HB.out]; exact HX5.out.size)
                  refine ⟨⟨⟨_, (HΦ.out _).2 HX5.out⟩, rfl⟩, ?_⟩
                  refine ftl_eff rfl rfl ?_
                  refine wpList_append_files2 rfl (.tmp 50) (.tmp 68) rfl base _ (t.take k) [(nm, s)] rfl HO4.out _ 1 1 rfl rfl _ HRW.out (by have := hz4.out; simp only [List.length_cons, List.length_nil]; omega) HB5.out ?_
                  intro v6 w6 o6 b6 g6
                  have HO6 := Lib.hid o6
                  have HX6 : Hid (Ext WE w6) := Lib.hid (by rw [HB.out] at b6; exact Below.trans HX5.out b6)
                  clear o6 b6 g6
                  go_wp2_with fail
                  refine ⟨⟨⟨_, (HΦ.out _).2 HX6.out⟩, rfl⟩, ?_⟩
                  refine ftl_eff rfl rfl ?_
                  refine wpList_append_files2 rfl (.tmp 69) (.tmp 72) rfl base _ (t.take k ++ [(nm, s)]) (t.drop k) rfl HO6.out A7 (m - k) (c - k) rfl hl7.out _ (HT7.out.ext (HXW.out.trans HX6.out)) (by have := hz4.out; have := hz7.out; simp only [List.length_append, List.length_cons, List.length_nil]; omega) (by rw [HB.out]; exact HX6.out.size) ?_
                  intro v7 w7 o7 b7 g7
                  have HO7 : Hid (OwnFiles w7 w.heap.size v7 (E.inputsK e (j + 1))) := Lib.hid (by rw [HS2.out, HPUT.out]; rw [List.append_assoc] at o7; exact OwnAt.mono o7 HBW.out)
                  have HX7 : Hid (Ext WE w7) := Lib.hid (by rw [HB.out] at b7; exact Below.trans HX6.out b7)
                  clear o7 b7 g7
                  go_wp2_with fail
                  refine ⟨⟨⟨_, (HΦ.out _).2 HX7.out⟩, rfl⟩, ?_⟩
                  iterate 1 (refine ftl_pure rfl rfl rfl rfl ?_; intro K hK; go_big_quiet_op; go_big_quiet_on)
                  refine ft_leaf ?_
                  have HX8 := Lib.hid (HX.out.trans (HXW.out.trans HX7.out))
                  clear fc0 fc1 fd0 fv0 hne1 h0 HΦ hs4 hs7 HX5 HX6 HX7 HO6 HO4 HRW HB5
                  go_wp2_with fail
                  go_roundw
                  case rel => exact ⟨j + 1, by go_num, by omega, HO7.out, by rw [HS2.out]; exact HSZ2.out, HX8.out⟩
                  case measure => simp [intOf]; omega
                · refine ftl_eff rfl rfl ?_
                  go_wp2_with fail
                  have HX2a : Hid (Ext WE (Wa.alloc (.cells #[.string nm, .string s] 57))) := Lib.hid (HX1a.out.alloc _)
                  have HO2a : Hid (OwnFiles (Wa.alloc (.cells #[.string nm, .string s] 57)) base (.slice (some ⟨g0, 0, none⟩) 0 0) []) := Lib.hid (OwnAt.alloc HO1a.out _)
                  have HRW0 := Lib.hid (heap_alloc_new Wa (.cells #[.string nm, .string s] 57))
                  have HRL : Hid (Wa.heap.size < (Wa.alloc (.cells #[.string nm, .string s] 57)).heap.size) := Lib.hid (by rw [size_alloc']; omega)
                  have HB2 : Hid (base ≤ (Wa.alloc (.cells #[.string nm, .string s] 57)).heap.size) := Lib.hid (by rw [HB.out]; exact HX2a.out.size)
                  refine ⟨⟨⟨_, (HΦ.out _).2 HX2a.out⟩, rfl⟩, ?_⟩
                  refine ftl_eff rfl rfl ?_
                  refine wpList_append_files2 rfl (.tmp 46) (.tmp 49) rfl base _ [] (t.take k) rfl HO2a.out A4 k c rfl hl4.out _ (HT4.out.ext (HXW.out.trans HX2a.out)) (by have := hz4.out; simp only [List.length_nil]; omega) HB2.out ?_
                  intro v4 w4 o4 b4 g4
                  have HO4 : Hid (OwnFiles w4 base v4 (t.take k)) := Lib.hid (by simpa using o4)
                  have HX5 : Hid (Ext WE w4) := Lib.hid (by rw [HB.out] at b4; exact Below.trans HX2a.out b4)
                  have HRW : Hid (SliceAt fileR w4 (Old w4) (some ⟨Wa.heap.size, 0, none⟩) 1 [(nm, s)]) := Lib.hid (file_row ((g4.block _ HRL.out (fun e => by have := HG0.out; have e2 : some Wa.heap.size = some g0 := e; injection e2; omega)).trans HRW0.out) z1 hsz)
                  have HB5 : Hid (base ≤ w4.heap.size) := Lib.hid (by rw [HB.out]; exact HX5.out.size)
                  clear o4 b4 g4
                  go_wp2_with fail
                  refine ⟨⟨⟨_, (HΦ.out _).2 HX5.out⟩, rfl⟩, ?_⟩
                  refine ftl_eff rfl rfl ?_
                  refine wpList_append_files2 rfl (.tmp 50) (.tmp 68) rfl base _ (t.take k) [(nm, s)] rfl HO4.out _ 1 1 rfl rfl _ HRW.out (by have := hz4.out; simp only [List.length_cons, List.length_nil]; omega) HB5.out ?_
                  intro v6 w6 o6 b6 g6
                  have HO6 := Lib.hid o6
                  have HX6 : Hid (Ext WE w6) := Lib.hid (by rw [HB.out] at b6; exact Below.trans HX5.out b6)
                  clear o6 b6 g6
                  go_wp2_with fail
                  refine ⟨⟨⟨_, (HΦ.out _).2 HX6.out⟩, rfl⟩, ?_⟩
                  refine ftl_eff rfl rfl ?_
                  refine wpList_append_files2 rfl (.tmp 69) (.tmp 72) rfl base _ (t.take k ++ [(nm, s)]) (t.drop k) rfl HO6.out A7 (m - k) (c - k) rfl hl7.out _ (HT7.out.ext (HXW.out.trans HX6.out)) (by have := hz4.out; have := hz7.out; simp only [List.length_append, List.length_cons, List.length_nil]; omega) (by rw [HB.out]; exact HX6.out.size) ?_
                  intro v7 w7 o7 b7 g7
                  have HO7 : Hid (OwnFiles w7 w.heap.size v7 (E.inputsK e (j + 1))) := Lib.hid (by rw [HS2.out, HPUT.out]; rw [List.append_assoc] at o7; exact OwnAt.mono o7 HBW.out)
                  have HX7 : Hid (Ext WE w7) := Lib.hid (by rw [HB.out] at b7; exact Below.trans HX6.out b7)
                  clear o7 b7 g7
                  go_wp2_with fail
                  refine ⟨⟨⟨_, (HΦ.out _).2 HX7.out⟩, rfl⟩, ?_⟩
                  iterate 1 (refine ftl_pure rfl rfl rfl rfl ?_; intro K hK; go_big_quiet_op; go_big_quiet_on)
                  refine ft_leaf ?_
                  have HX8 := Lib.hid (HX.out.trans (HXW.out.trans HX7.out))
                  clear fc0 fc1 fd0 fv0 hne1 h0 HΦ hs4 hs7 HX5 HX6 HX7 HO6 HO4 HRW HB5
                  go_wp2_with fail
                  go_roundw
                  case rel => exact ⟨j + 1, by go_num, by omega, HO7.out, by rw [HS2.out]; exact HSZ2.out, HX8.out⟩
                  case measure => simp [intOf]; omega
              · refine ftl_eff rfl rfl ?_
                go_wp2_with fail
                have HX1a : Hid (Ext WE (WE.alloc (.cells #[.string nm, .string s] 57))) := Lib.hid ((Ext.refl _).alloc _)
                have HRW1 := Lib.hid (heap_alloc_new WE (.cells #[.string nm, .string s] 57))
                have HB1 : Hid (base ≤ (WE.alloc (.cells #[.string nm, .string s] 57)).heap.size) := Lib.hid (by rw [HB.out]; exact HX1a.out.size)
                refine ⟨⟨⟨_, (HΦ.out _).2 HX1a.out⟩, rfl⟩, ?_⟩
                obtain ⟨g0, hg0⟩ : ∃ g0, g0 = WE.heap.size := ⟨_, rfl⟩
                obtain ⟨Wa, hWa⟩ : ∃ Wa, Wa = WE.alloc (.cells #[.string nm, .string s] 57) := ⟨_, rfl⟩
                have HG0 : Hid (g0 < Wa.heap.size) := Lib.hid (by rw [hg0, hWa, size_alloc']; omega)
                rw [← hg0, ← hWa] at HRW1
                rw [← hWa] at HX1a HB1
                rw [← hg0, ← hWa]
                clear hg0 hWa
                refine ftl_eff rfl rfl ?_
                go_wp2_with fail
                have HX2a : Hid (Ext WE (Wa.alloc (.cells #[] 57))) := Lib.hid (HX1a.out.alloc _)
                have HO2a : Hid (OwnFiles (Wa.alloc (.cells #[] 57)) base (.slice (some ⟨Wa.heap.size, 0, none⟩) 0 0) []) := Lib.hid (OwnAt.mono (own_files_empty Wa _ rfl) HB1.out)
                have HRW0 : Hid ((Wa.alloc (.cells #[] 57)).heap[g0]? = some (.cells #[.string nm, .string s] 57 (0, 0))) := Lib.hid ((((Ext.refl Wa).alloc (.cells #[] 57)).block _ HG0.out).trans HRW1.out)
                have HRL : Hid (g0 < (Wa.alloc (.cells #[] 57)).heap.size) := Lib.hid (by have := HG0.out; rw [size_alloc']; omega)
                have HB2 : Hid (base ≤ (Wa.alloc (.cells #[] 57)).heap.size) := Lib.hid (by rw [HB.out]; exact HX2a.out.size)
                refine ⟨⟨⟨_, (HΦ.out _).2 HX2a.out⟩, rfl⟩, ?_⟩
                refine ftl_eff rfl rfl ?_
                refine wpList_append_files2 rfl (.tmp 46) (.tmp 49) rfl base _ [] (t.take k) rfl HO2a.out A4 k c rfl hl4.out _ (HT4.out.ext (HXW.out.trans HX2a.out)) (by have := hz4.out; simp only [List.length_nil]; omega) HB2.out ?_
                intro v4 w4 o4 b4 g4
                have HO4 : Hid (OwnFiles w4 base v4 (t.take k)) := Lib.hid (by simpa using o4)
                have HX5 : Hid (Ext WE w4) := Lib.hid (by rw [HB.out] at b4; exact Below.trans HX2a.out b4)
                have HRW : Hid (SliceAt fileR w4 (Old w4) (some ⟨g0, 0, none⟩) 1 [(nm, s)]) := Lib.hid (file_row ((g4.block _ HRL.out (fun e => by have := HG0.out; have e2 : some g0 = some Wa.heap.size := e; injection e2; omega)).trans HRW0.out) z1 hsz)
                have HB5 : Hid (base ≤ w4.heap.size) := Lib.hid (by rw [HB.out]; exact HX5.out.size)
                clear o4 b4 g4
                go_wp2_with fail
                refine ⟨⟨⟨_, (HΦ.out _).2 HX5.out⟩, rfl⟩, ?_⟩
                refine ftl_eff rfl rfl ?_
                refine wpList_append_files2 rfl (.tmp 50) (.tmp 68) rfl base _ (t.take k) [(nm, s)] rfl HO4.out _ 1 1 rfl rfl _ HRW.out (by have := hz4.out; simp only [List.length_cons, List.length_nil]; omega) HB5.out ?_
                intro v6 w6 o6 b6 g6
                have HO6 := Lib.hid o6
                have HX6 : Hid (Ext WE w6) := Lib.hid (by rw [HB.out] at b6; exact Below.trans HX5.out b6)
                clear o6 b6 g6
                go_wp2_with fail
                refine ⟨⟨⟨_, (HΦ.out _).2 HX6.out⟩, rfl⟩, ?_⟩
                refine ftl_eff rfl rfl ?_
                refine wpList_append_files2 rfl (.tmp 69) (.tmp 72) rfl base _ (t.take k ++ [(nm, s)]) (t.drop k) rfl HO6.out A7 (m - k) (c - k) rfl hl7.out _ (HT7.out.ext (HXW.out.trans HX6.out)) (by have := hz4.out; have := hz7.out; simp only [List.length_append, List.length_cons, List.length_nil]; omega) (by rw [HB.out]; exact HX6.out.size) ?_
                intro v7 w7 o7 b7 g7
                have HO7 : Hid (OwnFiles w7 w.heap.size v7 (E.inputsK e (j + 1))) := Lib.hid (by rw [HS2.out, HPUT.out]; rw [List.append_assoc] at o7; exact OwnAt.mono o7 HBW.out)
                have HX7 : Hid (Ext WE w7) := Lib.hid (by rw [HB.out] at b7; exact Below.trans HX6.out b7)
                clear o7 b7 g7
                go_wp2_with fail
                refine ⟨⟨⟨_, (HΦ.out _).2 HX7.out⟩, rfl⟩, ?_⟩
                iterate 1 (refine ftl_pure rfl rfl rfl rfl ?_; intro K hK; go_big_quiet_op; go_big_quiet_on)
                refine ft_leaf ?_
                have HX8 := Lib.hid (HX.out.trans (HXW.out.trans HX7.out))
                clear fc0 fc1 fd0 fv0 hne1 h0 HΦ hs4 hs7 HX5 HX6 HX7 HO6 HO4 HRW HB5
                go_wp2_with fail
                go_roundw
                case rel => exact ⟨j + 1, by go_num, by omega, HO7.out, by rw [HS2.out]; exact HSZ2.out, HX8.out⟩
                case measure => simp [intOf]; omega
            · obtain ⟨bt, ot, hAt, _, f0, f1, y0, y1⟩ := file_get (HSL.out.ext HX1.out) hkl
              subst hAt
              have hless := less_pth t[k].1 nm
              have hdk : decide ((k : Int) < (m : Int)) = true := decide_eq_true (by omega)
              have hl2 : decide (t[k].1.data.toList < nm.data.toList) = false := decide_eq_false hlp
              rw [hl2] at hless
              generalize t[k] = f at *
              obtain ⟨fp, fd⟩ := f
              simp only at f0 f1 y0 y1 hless
              clear hl2 hlp hkl
              go_wp2_with fail
              go_quiet (fail)
              go_wp2_with fail
              obtain ⟨WR, hWR⟩ : ∃ WR, WR = wr.drewN nq := ⟨_, rfl⟩
              have XR : Ext wr WR := by rw [hWR]; exact (Ext.refl wr).drewN _
              rw [← hWR]
              obtain ⟨Φ, hΦ⟩ : ∃ Φ : World → Prop, ∀ w', Φ w' ↔ Ext WR.drew w' := ⟨_, fun _ => Iff.rfl⟩
              have h0 : Φ WR.drew := (hΦ _).2 (Ext.refl _)
              have fc0 : ∀ x : Lat Φ, x.w'.cell? ⟨p.g, p.o, none⟩ = some (.slice (some ⟨b, off, none⟩) L p.kc) := fun x => (XR.drew.trans ((hΦ _).1 x.h)).keepc c0
              have fc1 : ∀ x : Lat Φ, x.w'.cell? ⟨p.g, p.o + 1, none⟩ = some (.slice (some ⟨p.bv, p.ov, none⟩) L p.cv) := fun x => (XR.drew.trans ((hΦ _).1 x.h)).keepc c1
              have fd0 : ∀ x : Lat Φ, x.w'.cell? ⟨b, off + j * 4, none⟩ = some (.string nm) := fun x => (XR.drew.trans ((hΦ _).1 x.h)).keepc d0
              have fv0 : ∀ x : Lat Φ, x.w'.cell? ⟨p.bv, p.ov + j * 2, none⟩ = some (.string s) := fun x => (XR.drew.trans ((hΦ _).1 x.h)).keepc v0
              have hne1 := Lat.some h0
              have HΦ := Lib.hid hΦ
              have HXW := Lib.hid (HX1.out.trans XR.drew)
              obtain ⟨A4, hs4, ht4⟩ := run_slice_till (i := k) 34 (ty34 ▸ Tryz.underlying34) sz34 HSL.out HM.out hk
              obtain ⟨A7, hs7, ht7⟩ := run_slice_from (i := k) 34 (ty34 ▸ Tryz.underlying34) sz34 HSL.out HM.out hk
              have HT4 := Lib.hid ht4
              have HT7 := Lib.hid ht7
              have hl4 : Hid (k = (t.take k).length) := Lib.hid (by rw [List.length_take]; have := HM.out; omega)
              have hl7 : Hid (m - k = (t.drop k).length) := Lib.hid (by rw [List.length_drop]; have := HM.out; omega)
              have hz4 : Hid ((t.take k).length ≤ 200) := Lib.hid (by rw [List.length_take]; omega)
              have hz7 : Hid ((t.drop k).length ≤ 200) := Lib.hid (by rw [List.length_drop]; have := HM.out; omega)
              have hk63 : k ≤ 200 := by omega
              obtain ⟨base, hbase⟩ : ∃ n, n = WR.drew.heap.size := ⟨_, rfl⟩
              have HB := Lib.hid hbase
              have HBW : Hid (w.heap.size ≤ base) := Lib.hid (by rw [hbase]; exact Nat.le_trans HX.out.size HXW.out.size)
              clear hΦ XR c0 c1 d0 v0 ht4 ht7 hbase hWR
              refine wp_region_tree (FT.path [1,2,3,5,6,7,8,9,10,11,12,13,14,15,16,17,18,19,20,21,24,25,26] (.fork (.step 0 (.fork (FT.path [4,22,23,27,28] .leaf) (FT.path [22,4,23,27,28] .leaf))) (FT.path [22,0,4,23,27,28] .leaf))) [0, 4, 22, 23, 27] Φ h0 (by kernel_rfl) (by kernel_rfl) ?_
              generalize WR.drew = WE at *
              clear hkm hdk
              iterate 23 (refine ftl_pure rfl rfl rfl rfl ?_; intro K hK; go_big_quiet_op; go_big_quiet_on)
              refine ft_fork ?_ ?_
              · refine ftl_eff rfl rfl ?_
                go_wp2_with fail
                have HX1a : Hid (Ext WE (WE.alloc (.cells #[] 57))) := Lib.hid ((Ext.refl _).alloc _)
                have HO1a : Hid (OwnFiles (WE.alloc (.cells #[] 57)) base (.slice (some ⟨WE.heap.size, 0, none⟩) 0 0) []) := Lib.hid (by rw [HB.out]; exact own_files_empty WE _ rfl)
                have HB1 : Hid (base ≤ (WE.alloc (.cells #[] 57)).heap.size) := Lib.hid (by rw [HB.out]; exact HX1a.out.size)
                refine ⟨⟨⟨_, (HΦ.out _).2 HX1a.out⟩, rfl⟩, ?_⟩
                obtain ⟨g0, hg0⟩ : ∃ g0, g0 = WE.heap.size := ⟨_, rfl⟩
                obtain ⟨Wa, hWa⟩ : ∃ Wa, Wa = WE.alloc (.cells #[] 57) := ⟨_, rfl⟩
                have HG0 : Hid (g0 < Wa.heap.size) := Lib.hid (by rw [hg0, hWa, size_alloc']; omega)
                rw [← hg0, ← hWa] at HO1a
                rw [← hWa] at HX1a HB1
                rw [← hg0, ← hWa]
                clear hg0 hWa
                refine ft_fork ?_ ?_
                · refine ftl_eff rfl rfl ?_
                  refine wpList_append_files2 rfl (.tmp 46) (.tmp 49) rfl base _ [] (t.take k) rfl HO1a.out A4 k c rfl hl4.out _ (HT4.out.ext (HXW.out.trans HX1a.out)) (by have := hz4.out; simp only [List.length_nil]; omega) HB1.out ?_
                  intro v4 w4 o4 b4 g4
                  have HO4a : Hid (OwnFiles w4 base v4 (t.take k)) := Lib.hid (by simpa using o4)
                  have HX4 : Hid (Ext WE w4) := Lib.hid (by rw [HB.out] at b4; exact Below.trans HX1a.out b4)
                  clear o4 b4 g4
                  go_wp2_with fail
                  refine ⟨⟨⟨_, (HΦ.out _).2 HX4.out⟩, rfl⟩, ?_⟩
                  refine ftl_eff rfl rfl ?_
                  go_wp2_with fail
                  have HX5 : Hid (Ext WE (w4.alloc (.cells #[.string nm, .string s] 57))) := Lib.hid (HX4.out.alloc _)
                  have HO4 : Hid (OwnFiles (w4.alloc (.cells #[.string nm, .string s] 57)) base v4 (t.take k)) := Lib.hid (OwnAt.alloc HO4a.out _)
                  have HRW : Hid (SliceAt fileR (w4.alloc (.cells #[.string nm, .string s] 57)) (Old (w4.alloc (.cells #[.string nm, .string s] 57))) (some ⟨w4.heap.size, 0, none⟩) 1 [(nm, s)]) := Lib.hid (file_row (heap_alloc_new w4 _) z1 hsz)
                  have HB5 : Hid (base ≤ (w4.alloc (.cells #[.string nm, .string s] 57)).heap.size) := Lib.hid (by rw [HB.out]; exact HX5.out.size)
                  refine ⟨⟨⟨_, (HΦ.out _).2 HX5.out⟩, rfl⟩, ?_⟩
                  refine ftl_eff rfl rfl ?_
                  refine wpList_append_files2 rfl (.tmp 50) (.tmp 68) rfl base _ (t.take k) [(nm, s)] rfl HO4.out _ 1 1 rfl rfl _ HRW.out (by have := hz4.out; simp only [List.length_cons, List.length_nil]; omega) HB5.out ?_
                  intro v6 w6 o6 b6 g6
                  have HO6 := Lib.hid o6
                  have HX6 : Hid (Ext WE w6) := Lib.hid (by rw [HB.out] at b6; exact Below.trans HX5.out b6)
                  clear o6 b6 g6
                  go_wp2_with fail
                  refine ⟨⟨⟨_, (HΦ.out _).2 HX6.out⟩, rfl⟩, ?_⟩
                  refine ftl_eff rfl rfl ?_
                  refine wpList_append_files2 rfl (.tmp 69) (.tmp 72) rfl base _ (t.take k ++ [(nm, s)]) (t.drop k) rfl HO6.out A7 (m - k) (c - k) rfl hl7.out _ (HT7.out.ext (HXW.out.trans HX6.out)) (by have := hz4.out; have := hz7.out; simp only [List.length_append, List.length_cons, List.length_nil]; omega) (by rw [HB.out]; exact HX6.out.size) ?_
                  intro v7 w7 o7 b7 g7
                  have HO7 : Hid (OwnFiles w7 w.heap.size v7 (E.inputsK e (j + 1))) := Lib.hid (by rw [HS2.out, HPUT.out]; rw [List.append_assoc] at o7; exact OwnAt.mono o7 HBW.out)
                  have HX7 : Hid (Ext WE w7) := Lib.hid (by rw [HB.out] at b7; exact Below.trans HX6.out b7)
                  clear o7 b7 g7
                  go_wp2_with fail
                  refine ⟨⟨⟨_, (HΦ.out _).2 HX7.out⟩, rfl⟩, ?_⟩
                  iterate 1 (refine ftl_pure rfl rfl rfl rfl ?_; intro K hK; go_big_quiet_op; go_big_quiet_on)
                  refine ft_leaf ?_
                  have HX8 := Lib.hid (HX.out.trans (HXW.out.trans HX7.out))
                  clear fc0 fc1 fd0 fv0 hne1 h0 HΦ hs4 hs7 HX5 HX6 HX7 HO6 HO4 HRW HB5
                  go_wp2_with fail
                  go_roundw
                  case rel => exact ⟨j + 1, by go_num, by omega, HO7.out, by rw [HS2.out]; exact HSZ2.out, HX8.out⟩
                  case measure => simp [intOf]; omega
                · refine ftl_eff rfl rfl ?_
                  go_wp2_with fail
                  have HX2a : Hid (Ext WE (Wa.alloc (.cells #[.string nm, .string s] 57))) := Lib.hid (HX1a.out.alloc _)
                  have HO2a : Hid (OwnFiles (Wa.alloc (.cells #[.string nm, .string s] 57)) base (.slice (some ⟨g0, 0, none⟩) 0 0) []) := Lib.hid (OwnAt.alloc HO1a.out _)
                  have HRW0 := Lib.hid (heap_alloc_new Wa (.cells #[.string nm, .string s] 57))
                  have HRL : Hid (Wa.heap.size < (Wa.alloc (.cells #[.string nm, .string s] 57)).heap.size) := Lib.hid (by rw [size_alloc']; omega)
                  have HB2 : Hid (base ≤ (Wa.alloc (.cells #[.string nm, .string s] 57)).heap.size) := Lib.hid (by rw [HB.out]; exact HX2a.out.size)
                  refine ⟨⟨⟨_, (HΦ.out _).2 HX2a.out⟩, rfl⟩, ?_⟩
                  refine ftl_eff rfl rfl ?_
                  refine wpList_append_files2 rfl (.tmp 46) (.tmp 49) rfl base _ [] (t.take k) rfl HO2a.out A4 k c rfl hl4.out _ (HT4.out.ext (HXW.out.trans HX2a.out)) (by have := hz4.out; simp only [List.length_nil]; omega) HB2.out ?_
                  intro v4 w4 o4 b4 g4
                  have HO4 : Hid (OwnFiles w4 base v4 (t.take k)) := Lib.hid (by simpa using o4)
                  have HX5 : Hid (Ext WE w4) := Lib.hid (by rw [HB.out] at b4; exact Below.trans HX2a.out b4)
                  have HRW : Hid (SliceAt fileR w4 (Old w4) (some ⟨Wa.heap.size, 0, none⟩) 1 [(nm, s)]) := Lib.hid (file_row ((g4.block _ HRL.out (fun e => by have := HG0.out; have e2 : some Wa.heap.size = some g0 := e; injection e2; omega)).trans HRW0.out) z1 hsz)
                  have HB5 : Hid (base ≤ w4.heap.size) := Lib.hid (by rw [HB.out]; exact HX5.out.size)
                  clear o4 b4 g4
                  go_wp2_with fail
                  refine ⟨⟨⟨_, (HΦ.out _).2 HX5.out⟩, rfl⟩, ?_⟩
                  refine ftl_eff rfl rfl ?_
                  refine wpList_append_files2 rfl (.tmp 50) (.tmp 68) rfl base _ (t.take k) [(nm, s)] rfl HO4.out _ 1 1 rfl rfl _ HRW.out (by have := hz4.out; simp only [List.length_cons, List.length_nil]; omega) HB5.out ?_
                  intro v6 w6 o6 b6 g6
                  have HO6 := Lib.hid o6
                  have HX6 : Hid (Ext WE w6) := Lib.hid (by rw [HB.out] at b6; exact Below.trans HX5.out b6)
                  clear o6 b6 g6
                  go_wp2_with fail
                  refine ⟨⟨⟨_, (HΦ.out _).2 HX6.out⟩, rfl⟩, ?_⟩
                  refine ftl_eff rfl rfl ?_
                  refine wpList_append_files2 rfl (.tmp 69) (.tmp 72) rfl base _ (t.take k ++ [(nm, s)]) (t.drop k) rfl HO6.out A7 (m - k) (c - k) rfl hl7.out _ (HT7.out.ext (HXW.out.trans HX6.out)) (by have := hz4.out; have := hz7.out; simp only [List.length_append, List.length_cons, List.length_nil]; omega) (by rw [HB.out]; exact HX6.out.size) ?_
                  intro v7 w7 o7 b7 g7
                  have HO7 : Hid (OwnFiles w7 w.heap.size v7 (E.inputsK e (j + 1))) := Lib.hid (by rw [HS2.out, HPUT.out]; rw [List.append_assoc] at o7; exact OwnAt.mono o7 HBW.out)
                  have HX7 : Hid (Ext WE w7) := Lib.hid (by rw [HB.out] at b7; exact Below.trans HX6.out b7)
                  clear o7 b7 g7
                  go_wp2_with fail
                  refine ⟨⟨⟨_, (HΦ.out _).2 HX7.out⟩, rfl⟩, ?_⟩
                  iterate 1 (refine ftl_pure rfl rfl rfl rfl ?_; intro K hK; go_big_quiet_op; go_big_quiet_on)
                  refine ft_leaf ?_
                  have HX8 := Lib.hid (HX.out.trans (HXW.out.trans HX7.out))
                  clear fc0 fc1 fd0 fv0 hne1 h0 HΦ hs4 hs7 HX5 HX6 HX7 HO6 HO4 HRW HB5
                  go_wp2_with fail
                  go_roundw
                  case rel => exact ⟨j + 1, by go_num, by omega, HO7.out, by rw [HS2.out]; exact HSZ2.out, HX8.out⟩
                  case measure => simp [intOf]; omega
              · refine ftl_eff rfl rfl ?_
                go_wp2_with fail
                have HX1a : Hid (Ext WE (WE.alloc (.cells #[.string nm, .string s] 57))) := Lib.hid ((Ext.refl _).alloc _)
                have HRW1 := Lib.hid (heap_alloc_new WE (.cells #[.string nm, .string s] 57))
                have HB1 : Hid (base ≤ (WE.alloc (.cells #[.string nm, .string s] 57)).heap.size) := Lib.hid (by rw [HB.out]; exact HX1a.out.size)
                refine ⟨⟨⟨_, (HΦ.out _).2 HX1a.out⟩, rfl⟩, ?_⟩
                obtain ⟨g0, hg0⟩ : ∃ g0, g0 = WE.heap.size := ⟨_, rfl⟩
                obtain ⟨Wa, hWa⟩ : ∃ Wa, Wa = WE.alloc (.cells #[.string nm, .string s] 57) := ⟨_, rfl⟩
                have HG0 : Hid (g0 < Wa.heap.size) := Lib.hid (by rw [hg0, hWa, size_alloc']; omega)
                rw [← hg0, ← hWa] at HRW1
                rw [← hWa] at HX1a HB1
                rw [← hg0, ← hWa]
                clear hg0 hWa
                refine ftl_eff rfl rfl ?_
                go_wp2_with fail
                have HX2a : Hid (Ext WE (Wa.alloc (.cells #[] 57))) := Lib.hid (HX1a.out.alloc _)
                have HO2a : Hid (OwnFiles (Wa.alloc (.cells #[] 57)) base (.slice (some ⟨Wa.heap.size, 0, none⟩) 0 0) []) := Lib.hid (OwnAt.mono (own_files_empty Wa _ rfl) HB1.out)
                have HRW0 : Hid ((Wa.alloc (.cells #[] 57)).heap[g0]? = some (.cells #[.string nm, .string s] 57 (0, 0))) := Lib.hid ((((Ext.refl Wa).alloc (.cells #[] 57)).block _ HG0.out).trans HRW1.out)
                have HRL : Hid (g0 < (Wa.alloc (.cells #[] 57)).heap.size) := Lib.hid (by have := HG0.out; rw [size_alloc']; omega)
                have HB2 : Hid (base ≤ (Wa.alloc (.cells #[] 57)).heap.size) := Lib.hid (by rw [HB.out]; exact HX2a.out.size)
                refine ⟨⟨⟨_, (HΦ.out _).2 HX2a.out⟩, rfl⟩, ?_⟩
                refine ftl_eff rfl rfl ?_
                refine wpList_append_files2 rfl (.tmp 46) (.tmp 49) rfl base _ [] (t.take k) rfl HO2a.out A4 k c rfl hl4.out _ (HT4.out.ext (HXW.out.trans HX2a.out)) (by have := hz4.out; simp only [List.length_nil]; omega) HB2.out ?_
                intro v4 w4 o4 b4 g4
                have HO4 : Hid (OwnFiles w4 base v4 (t.take k)) := Lib.hid (by simpa using o4)
                have HX5 : Hid (Ext WE w4) := Lib.hid (by rw [HB.out] at b4; exact Below.trans HX2a.out b4)
                have HRW : Hid (SliceAt fileR w4 (Old w4) (some ⟨g0, 0, none⟩) 1 [(nm, s)]) := Lib.hid (file_row ((g4.block _ HRL.out (fun e => by have := HG0.out; have e2 : some g0 = some Wa.heap.size := e; injection e2; omega)).trans HRW0.out) z1 hsz)
                have HB5 : Hid (base ≤ w4.heap.size) := Lib.hid (by rw [HB.out]; exact HX5.out.size)
                clear o4 b4 g4
                go_wp2_with fail
                refine ⟨⟨⟨_, (HΦ.out _).2 HX5.out⟩, rfl⟩, ?_⟩
                refine ftl_eff rfl rfl ?_
                refine wpList_append_files2 rfl (.tmp 50) (.tmp 68) rfl base _ (t.take k) [(nm, s)] rfl HO4.out _ 1 1 rfl rfl _ HRW.out (by have := hz4.out; simp only [List.length_cons, List.length_nil]; omega) HB5.out ?_
                intro v6 w6 o6 b6 g6
                have HO6 := Lib.hid o6
                have HX6 : Hid (Ext WE w6) := Lib.hid (by rw [HB.out] at b6; exact Below.trans HX5.out b6)
                clear o6 b6 g6
                go_wp2_with fail
                refine ⟨⟨⟨_, (HΦ.out _).2 HX6.out⟩, rfl⟩, ?_⟩
                refine ftl_eff rfl rfl ?_
                refine wpList_append_files2 rfl (.tmp 69) (.tmp 72) rfl base _ (t.take k ++ [(nm, s)]) (t.drop k) rfl HO6.out A7 (m - k) (c - k) rfl hl7.out _ (HT7.out.ext (HXW.out.trans HX6.out)) (by have := hz4.out; have := hz7.out; simp only [List.length_append, List.length_cons, List.length_nil]; omega) (by rw [HB.out]; exact HX6.out.size) ?_
                intro v7 w7 o7 b7 g7
                have HO7 : Hid (OwnFiles w7 w.heap.size v7 (E.inputsK e (j + 1))) := Lib.hid (by rw [HS2.out, HPUT.out]; rw [List.append_assoc] at o7; exact OwnAt.mono o7 HBW.out)
                have HX7 : Hid (Ext WE w7) := Lib.hid (by rw [HB.out] at b7; exact Below.trans HX6.out b7)
                clear o7 b7 g7
                go_wp2_with fail
                refine ⟨⟨⟨_, (HΦ.out _).2 HX7.out⟩, rfl⟩, ?_⟩
                iterate 1 (refine ftl_pure rfl rfl rfl rfl ?_; intro K hK; go_big_quiet_op; go_big_quiet_on)
                refine ft_leaf ?_
                have HX8 := Lib.hid (HX.out.trans (HXW.out.trans HX7.out))
                clear fc0 fc1 fd0 fv0 hne1 h0 HΦ hs4 hs7 HX5 HX6 HX7 HO6 HO4 HRW HB5
                go_wp2_with fail
                go_roundw
                case rel => exact ⟨j + 1, by go_num, by omega, HO7.out, by rw [HS2.out]; exact HSZ2.out, HX8.out⟩
                case measure => simp [intOf]; omega
    · have hjn : j = L := by omega
      rw [hjn, HEN.out] at HO
      go_wp2_with fail
      go_ret
      exact ⟨_, rfl, HO.out, HX.out⟩
end Go.Proofs.YtkeaoejgboefbaaGreatDoor

/- Parts of both; files that are the same. -/
namespace Go.Proofs.YtkeaoejgboefbaaGreatDoor
open Go.RowKit Go.Maps

section
variable {w0 w w' : World} {D : Nat → Prop} {g m : Nat} {cs : List E.Cell} {e : E.En}
/-- The engine of both, alone; and the model. -/
theorem Both1.parts (h : Both1 w0 w D g cs m e) : ∃ ge, w.cell? ⟨g, 0, none⟩ = some (.pointer (some ⟨ge, 0, none⟩)) ∧ w.cell? ⟨g, 5, none⟩ = some (.int .i64 e.st.cnt) ∧ Eng1 w0 w ge cs m e ∧
    Calls Tryz.prog 14 #[.pointer (some ⟨g, 1, none⟩)] w (RetT w (E.inputsE e)) := by
  obtain ⟨hg, hx, hf, S, S2, ge, bc, bi, br, p, ft, hb⟩ := h
  have hfew := hf.few
  obtain ⟨m1, _, m3, m4, _⟩ := hb.mine
  refine ⟨ge, hb.ptr, ?_, ⟨hg, hx, hf, S, bc, bi, br, hb.eng, (hb.dom _ m1).1, (hb.dom _ m3).1, (hb.dom _ m4).1⟩, ?_⟩
  · have := hb.ref.row.cells.2.2.2.2.1
    rw [hb.at'.1, hb.at'.2.1] at this
    simpa using this
  · have := refInputs_any hb.ref hf
    rw [hb.at'.1, hb.at'.2.1] at this
    exact this
theorem Eng1.inputs (h : Eng1 w0 w g cs m e) : Calls Tryz.prog 13 #[.pointer (some ⟨g, 0, none⟩)] w (RetT w (E.inputsE e)) := by
  obtain ⟨hg, hx, hf, S, bc, bi, br, he, _⟩ := h
  exact Inputs_any he hf
theorem Eng1.reads (h : Eng1 w0 w g cs m e) {n : ByteArray} (hn : n.size ≤ 9223372036854775807) : Calls Tryz.prog 21 #[.pointer (some ⟨g, 0, none⟩), .string n] w (RetReads w (readsE e n)) := by
  obtain ⟨hg, hx, hf, S, bc, bi, br, he, _⟩ := h
  exact Reads_any he hn
end
theorem neq_file (w : World) (a b c d : ByteArray) : (Go.binOp .neq 57 (.agg #[.string a, .string b]) (.agg #[.string c, .string d])).run Tryz.prog w = .ok (.bool (!((a.toList == c.toList) && (b.toList == d.toList)))) w := by
  have h1 : Tryz.prog.underlying 57 = some (.struct (Tryz.prog.fieldsOf 57)) := by kernel_rfl
  have h2 : Tryz.prog.stoodInHeld 57 = false := by kernel_rfl
  have h9 : Tryz.prog.underlying 9 = some .string := by kernel_rfl
  rw [run_neq_struct, run_equalIn_agg _ _ _ _ _ h1 h2]
  have hm : (Tryz.prog.fieldsOf 57).toList.map (fun f => (decide (f.name ≠ "_"), f.type, f.offset)) = [(true, 9, 0), (true, 9, 1)] := by kernel_rfl
  generalize (Tryz.prog.fieldsOf 57).toList = l at hm
  obtain ⟨f, l1, rfl, ef, hm1⟩ := List.map_eq_cons_iff.1 hm
  obtain ⟨g, l2, rfl, eg, hm2⟩ := List.map_eq_cons_iff.1 hm1
  have hl2 := List.map_eq_nil_iff.1 hm2
  subst hl2
  clear hm hm1 hm2
  simp only [Prod.mk.injEq] at ef eg
  obtain ⟨a1, a2, a3⟩ := ef
  obtain ⟨b1, b2, b3⟩ := eg
  have a1' := of_decide_eq_true a1
  have b1' := of_decide_eq_true b1
  have hp : ∀ (x y : ByteArray), (part 9 #[.string x, .string y] 0).run Tryz.prog w = .ok (.string x) w ∧ (part 9 #[.string x, .string y] 1).run Tryz.prog w = .ok (.string y) w := fun x y => ⟨by simp [part], by simp [part]⟩
  have hs := fun (d : Nat) (x y : ByteArray) => run_equalIn_string (P := Tryz.prog) w d 9 x y h9
  cases hx : (a.toList == c.toList) <;> cases hy : (b.toList == d.toList) <;> simp [Op.eqFields, a1', a2, a3, b1', b2, b3, hp, hs, hx, hy]
theorem sz_inputs {cs : List E.Cell} {m : Nat} {e : E.En} (h : Fit cs m e) : SzF (E.inputsE e) := by
  intro f hf
  have ho := h.eok
  have h1 := (E.mem_inputs ho.vals f).1 hf
  obtain ⟨h2, h3⟩ := ho.vals _ _ h1
  refine ⟨?_, by omega⟩
  obtain ⟨c, hc, hce⟩ := List.mem_map.1 (input_name h2)
  rw [h.cells] at hc
  have h4 := ((newErr_formed h.right).2 c hc).2
  unfold E.nameB at h4
  simp only [Bool.and_eq_true, decide_eq_true_eq] at h4
  have hce : c.1 = f.1 := hce
  rw [← hce]
  omega
set_option maxRecDepth 100000 in
theorem SameF_same (t : T.Tr) (A B : Option Addr) (c c' n m : Nat) (w : World) (hn : n = t.length) (hm : m = t.length) (hA : SliceAt fileR w (Old w) A c t) (hB : SliceAt fileR w (Old w) B c' t) :
    Calls Tryz.prog 12 #[.slice A n c, .slice B m c'] w (Al (.bool true) w) := by
  have hn63 : n ≤ 9223372036854775807 := by have := hA.1; have := hA.2.1; omega
  obtain rfl : n = m := hn.trans hm.symm
  have HN := Lib.hid hn
  have HA := Lib.hid hA
  have HB := Lib.hid hB
  clear hn hA hm hB
  go_enter Tryz.func12, Tryz.ntmps12
  go_wp2_with fail
  go_loopw [5] (fun i wr => ∃ k : Nat, k ≤ n ∧ i = .int .i64 k ∧ Hid (Ext w wr)) (fun i _ => n - (intOf i).toNat)
  case atStart => exact ⟨0, Nat.zero_le _, rfl, Ext.refl _⟩
  case round =>
    obtain ⟨k, hk, rfl, HX⟩ := hrel
    by_cases hlt : k < n
    · have hkl : k < t.length := by rw [← HN.out]; exact hlt
      obtain ⟨b, off, hAe, hb, ca0, ca1, za1, za2⟩ := file_get (HA.out.ext HX.out) hkl
      obtain ⟨b2, off2, hBe, hb2, cb0, cb1, zb1, zb2⟩ := file_get (HB.out.ext HX.out) hkl
      subst hAe hBe
      rw [← Nat.add_assoc] at ca1 cb1
      generalize t[k] = f at *
      obtain ⟨fp, fd⟩ := f
      simp only at ca0 ca1 cb0 cb1 za1 za2 zb1 zb2
      have hne := fun W => neq_file W fp fd fp fd
      have hbb : ((fp.toList == fp.toList) && (fd.toList == fd.toList)) = true := by simp
      simp only [hbb, Bool.not_true] at hne
      clear hbb
      go_wp2_with fail
      go_quiet (fail)
      go_wp2_with fail
      go_roundw
      case rel => exact ⟨k + 1, by omega, by go_num, HX.out.drewN _⟩
      case measure => simp [intOf]; omega
    · go_wp2_with fail
      go_ret
      exact ⟨rfl, HX.out⟩
end Go.Proofs.YtkeaoejgboefbaaGreatDoor

/- The walk of EngineValues. -/
namespace Go.Proofs.YtkeaoejgboefbaaGreatDoor
open Go.RowKit Go.Maps

set_option maxRecDepth 100000 in
set_option maxHeartbeats 8000000 in
theorem engineValues_walk (v0 v1 : Value) (cs : List E.Cell) (acts : List ActE) (w : World) (hg : Gl w) (r0 : (sliceR cellR).val w cs v0) (r1 : (sliceR actR).val w acts v1) :
    Calls Tryz.prog 3 #[v0, v1] w (Al (.bool true) w) := by
  obtain ⟨A, k, rfl, hA⟩ := val_slice r0
  obtain ⟨B, kb, rfl, hB⟩ := val_slice r1
  obtain ⟨n, hn⟩ : ∃ n, n = cs.length := ⟨_, rfl⟩
  obtain ⟨m, hm⟩ : ∃ m, m = acts.length := ⟨_, rfl⟩
  rw [← hn, ← hm]
  have HAW := Lib.hid (fun W (h : Ext w W) => awake_any W (hg.ext h))
  have HFW := Lib.hid (fun W (h : Ext w W) => refFew_any cs A k n 12 W hn (hA.ext h))
  have HSW := Lib.hid (fun W (h : Ext w W) => refShort_any acts B kb m 30 W hm (hB.ext h))
  have HST := Lib.hid (fun (hf : FewC cs 12) W (h : Ext w W) => Both1.start (hg.ext h) (hA.ext h) hn hf.args (by have := hf.1; omega))
  have HA := Lib.hid hA
  have HB := Lib.hid hB
  have HN := Lib.hid hn
  have HM := Lib.hid hm
  have hm63 : m ≤ 9223372036854775807 := by have := hB.1; have := hB.2.1; omega
  clear hA hB hn hm hg r0 r1
  go_enter Tryz.func3, Tryz.ntmps3
  go_wp2_with fail
  refine (HAW.out _ (Ext.refl w)).mono ?_
  rintro e2 w2 ⟨rfl, d2⟩
  have HD2 := Lib.hid d2
  clear d2
  go_wp2_with fail
  refine (HFW.out _ HD2.out).mono ?_
  rintro e3 w3 ⟨d3, b, rfl, hb⟩
  have HD3 := Lib.hid (HD2.out.trans d3)
  clear d3 HD2
  cases b with
  | false =>
    clear hb
    go_wp2_with fail
    refine (HAW.out _ HD3.out).mono ?_
    rintro e4 w4 ⟨rfl, d4⟩
    have HD4 := Lib.hid (HD3.out.trans d4)
    clear d4
    go_wp2_with fail
    go_ret
    exact ⟨rfl, HD4.out⟩
  | true =>
    have HFO := Lib.hid (hb rfl)
    clear hb
    go_wp2_with fail
    refine (HSW.out _ HD3.out).mono ?_
    rintro e4 w4 ⟨d4, b, rfl, hb⟩
    have HD4 := Lib.hid (HD3.out.trans d4)
    clear d4 HD3
    cases b with
    | false =>
      clear hb
      go_wp2_with fail
      refine (HAW.out _ HD4.out).mono ?_
      rintro e5 w5 ⟨rfl, d5⟩
      have HD5 := Lib.hid (HD4.out.trans d5)
      clear d5
      go_wp2_with fail
      go_ret
      exact ⟨rfl, HD5.out⟩
    | true =>
      have HSO := Lib.hid (hb rfl)
      clear hb
      go_wp2_with fail
      refine (HST.out HFO.out _ HD4.out).mono ?_
      rintro e5 w5 ⟨d5, hr⟩
      have HD5 := Lib.hid (HD4.out.trans d5)
      clear d5
      rcases hr with ⟨_, rfl⟩ | ⟨_, g, D, rfl, hb⟩
      · go_wp2_with fail
        go_ret
        exact ⟨rfl, HD5.out⟩
      · have HBO := Lib.hid hb
        have hn12 : n ≤ 12 := by have := HFO.out.1; have := HN.out; omega
        have hm30 : m ≤ 30 := by have := HSO.out.1; have := HM.out; omega
        clear hb
        go_wp2_with fail
        go_loopw [8, 36] (fun _ i wr => ∃ (t : Nat) (e : E.En) (D' : Nat → Prop), i = .int .i64 t ∧ t ≤ m ∧ Hid (Both1 w4 wr D' g cs t e)) (fun _ i _ => m - (intOf i).toNat)
        case atStart => exact ⟨0, _, _, rfl, Nat.zero_le _, HBO⟩
        case round =>
          obtain ⟨t, e, D', rfl, ht, HB2⟩ := hrel
          by_cases htm : t < m
          · have htl : t < acts.length := by have := HM.out; omega
            obtain ⟨b, off, hBe, hbb, d0, d1, d2, z1, z2, z3⟩ := act_get (HB.out.ext (HD4.out.trans HB2.out.ahead)) htl
            subst hBe
            have HACT := Lib.hid (fun W (hx : Ext wr W) => (HB2.out.ext hx).act (by omega) z1 z2 z3)
            generalize acts[t] = ac at *
            obtain ⟨kk, cc, vv⟩ := ac
            simp only at d0 d1 d2 z1 z2 z3 HACT
            obtain ⟨W2, hW2⟩ : ∃ W2, W2 = wr.alloc (.cells #[.int .u8 kk, .int .u8 cc, .string vv] 31) := ⟨_, rfl⟩
            have X2 : Ext wr W2 := by rw [hW2]; exact (Ext.refl wr).alloc _
            have p0 : W2.cell? ⟨wr.heap.size, 0, none⟩ = some (.int .u8 kk) := by rw [hW2]; exact cell_new wr #[.int .u8 kk, .int .u8 cc, .string vv] 31 0
            have p1 : W2.cell? ⟨wr.heap.size, 1, none⟩ = some (.int .u8 cc) := by rw [hW2]; exact cell_new wr #[.int .u8 kk, .int .u8 cc, .string vv] 31 1
            have p2 : W2.cell? ⟨wr.heap.size, 2, none⟩ = some (.string vv) := by rw [hW2]; exact cell_new wr #[.int .u8 kk, .int .u8 cc, .string vv] 31 2
            have HAC := Lib.hid (HACT.out W2 X2)
            generalize hea : actE e (kk, cc, vv) = e' at *
            go_upto_region 9 with (fail)
            rw [← hW2]
            clear hW2 d0 d1 d2 z1 z2 z3 X2 HACT hea
            go_wp2_with fail
            refine HAC.out.mono ?_
            rintro ed w7 ⟨rfl, _, D2, hb7, _⟩
            have HB7 := Lib.hid hb7
            clear hb7 p0 p1 p2 HAC
            go_wp2_with fail
            go_roundw
            case rel => exact ⟨t + 1, e', D2, by go_num, by omega, HB7⟩
            case measure => simp [intOf]; omega
          · obtain ⟨ge, q0, _, he1, hin⟩ := HB2.out.parts
            have HI1 := Lib.hid (fun W (hx : Ext wr W) => (he1.ext hx).inputs)
            have HI2 := Lib.hid (fun W (hx : Ext wr W) => (by obtain ⟨_, _, _, _, h⟩ := (HB2.out.ext hx).parts; exact h : Calls Tryz.prog 14 #[.pointer (some ⟨g, 1, none⟩)] W (RetT W (E.inputsE e))))
            have HSZ := Lib.hid (sz_inputs HB2.out.fit)
            obtain ⟨L, hL⟩ : ∃ L, L = E.inputsE e := ⟨_, rfl⟩
            rw [← hL] at HI1 HI2 HSZ
            obtain ⟨q, hq⟩ : ∃ q, q = L.length := ⟨_, rfl⟩
            have HQ := Lib.hid hq
            clear hq
            have HXW := Lib.hid (HD4.out.trans HB2.out.ahead)
            clear he1 hin hL
            have hmt : decide ((t : Int) < (m : Int)) = false := decide_eq_false (by omega)
            obtain ⟨Φ, hΦ⟩ : ∃ Φ : World → Prop, ∀ w', Φ w' ↔ w'.cell? ⟨g, 0, none⟩ = some (.pointer (some ⟨ge, 0, none⟩)) := ⟨_, fun _ => Iff.rfl⟩
            have h0 : Φ wr.drew := (hΦ _).2 q0
            have fx0 : ∀ x : Lat Φ, x.w'.cell? ⟨g, 0, none⟩ = some (.pointer (some ⟨ge, 0, none⟩)) := fun x => (hΦ _).1 x.h
            have hne1 := Lat.some h0
            have HΦ := Lib.hid hΦ
            clear hΦ
            go_upto_region 12 with (fail)
            refine wp_region_lat [4, 8, 9] Φ h0 (by kernel_rfl) (by kernel_rfl) (by kernel_rfl) ?_
            iterate 4 (refine lex_pure rfl rfl rfl ?_; intro K hK; go_big_quiet_op; go_big_quiet_on)
            refine lex_eff rfl ?_
            go_wp2_with fail
            refine (HI1.out _ (Ext.refl wr).drew).mono ?_
            rintro ed w5 ⟨v5, rfl, o5, x5⟩
            have HX5 := Lib.hid ((Ext.refl wr).drew.trans x5)
            obtain ⟨A5, k5, rfl, hs5⟩ := own_files_slice o5 HSZ.out
            have HS5 := Lib.hid hs5
            rw [← HQ.out]
            clear o5 x5 hs5 HI1
            go_wp2_with fail
            refine ⟨⟨⟨w5, (HΦ.out _).2 (HX5.out.keepc q0)⟩, rfl⟩, ?_⟩
            iterate 3 (refine lex_pure rfl rfl rfl ?_; intro K hK; go_big_quiet_op; go_big_quiet_on)
            refine lex_eff rfl ?_
            go_wp2_with fail
            refine (HI2.out _ HX5.out).mono ?_
            rintro ed w6 ⟨v6, rfl, o6, x6⟩
            have HX6 := Lib.hid (HX5.out.trans x6)
            obtain ⟨A6, k6, rfl, hs6⟩ := own_files_slice o6 HSZ.out
            have HEQ := Lib.hid (SameF_same L A5 A6 k5 k6 q q w6 HQ.out HQ.out (HS5.out.ext x6) hs6)
            rw [← HQ.out]
            clear o6 x6 hs6 HI2 HS5
            go_wp2_with fail
            refine ⟨⟨⟨w6, (HΦ.out _).2 (HX6.out.keepc q0)⟩, rfl⟩, ?_⟩
            refine lex_eff rfl ?_
            go_wp2_with fail
            refine HEQ.out.mono ?_
            rintro ed w7 ⟨rfl, x7⟩
            have HX7 := Lib.hid (HX6.out.trans x7)
            clear x7 HEQ
            go_wp2_with fail
            refine ⟨⟨⟨w7, (HΦ.out _).2 (HX7.out.keepc q0)⟩, rfl⟩, ?_⟩
            iterate 1 (refine lex_pure rfl rfl rfl ?_; intro K hK; go_big_quiet_op; go_big_quiet_on)
            refine lex_nil ?_
            clear fx0 hne1 h0 HΦ
            go_wp2_with fail
            go_ret
            exact ⟨rfl, HXW.out.trans HX7.out⟩
end Go.Proofs.YtkeaoejgboefbaaGreatDoor

/- licitlaw56.start, behind other calls. -/
namespace Go.Proofs.YtkeaoejgboefbaaGreatDoor
open Go.RowKit Go.Maps

/-- Where no memo is, nothing bounds what memos read. -/
theorem MRow.free {w : World} {S S' : Nat → Prop} {b o n : Nat} {wk : Nat → Bool} (h : MRow w S b o n (fun _ => none) wk) : MRow w S' b o n (fun _ => none) wk := by
  obtain ⟨cs, h1, h2⟩ := h
  refine ⟨cs, h1, fun i hi => ?_⟩
  obtain ⟨us, h3, h4, h5⟩ := h2 i hi
  exact ⟨us, h3, h4, h5⟩
/-- What start answers, at a world behind w0 in which the cells were. -/
def RetStart2 (w0 w : World) (cs : List E.Cell) (ed : Ending) (w' : World) : Prop := Ext w w' ∧
  ((E.newErr cs ≠ 0 ∧ ed = .returned (.tuple #[.pointer none, .bool true])) ∨
   (E.newErr cs = 0 ∧ ∃ g D, ed = .returned (.tuple #[.pointer (some ⟨g, 0, none⟩), .bool true]) ∧ BothAt w' w0.heap.size D g (E.fresh cs) ∧ ∀ k, D k → w.heap.size ≤ k))
/-- The two are joined. -/
theorem start_made2 {w0 w w1 w3 w4 W5 : World} {cs : List E.Cell} {A : Option Addr} {n kc bv bm : Nat} {S : Nat → Prop} (hA0 : SliceAt cellR w (Old w0) A kc cs) (h00 : w0.heap.size ≤ w.heap.size) (hn : n = cs.length)
    (x1 : Ext w w1) (hv : VRow w1 bv 0 n fun _ => none) (hm : MRow w1 (Old w) bm 0 n (fun _ => none) fun _ => false) (l1 : w.heap.size ≤ bv) (l2 : w.heap.size ≤ bm) (hne : bv ≠ bm)
    (x3 : Ext w1 w3) (hf : Fresh w3 S cs w4) (x5 : Ext w4 W5) (hr : W5.heap[w4.heap.size]? = some (.cells #[.pointer (some ⟨w3.heap.size + 3, 0, none⟩), .slice A n kc, .slice (some ⟨bv, 0, none⟩) n n, .slice (some ⟨bm, 0, none⟩) n n, .int .i64 0, .int .i64 0, .int .i64 0] 42 (0, 0))) :
    BothAt W5 w0.heap.size (fun k => w.heap.size ≤ k ∧ k < W5.heap.size) w4.heap.size (E.fresh cs) := by
  subst hn
  replace hm := hm.free (S' := Old w0)
  have x15 : Ext w1 W5 := (x3.trans hf.ext).trans x5
  have x05 := x1.trans x15
  have s1 := x1.size
  have s3 := x3.size
  have s4 := hf.ext.size
  have s5 := x5.size
  have lg : w4.heap.size < W5.heap.size := (Array.getElem?_eq_some_iff.1 hr).1
  have lbv := hv.lt
  have lbm := hm.lt
  have lr := hf.row.lt
  refine ⟨S, Old w0, w3.heap.size + 3, w3.heap.size, w3.heap.size + 1, w3.heap.size + 2, ⟨w4.heap.size, 1, fun _ => some (.pointer (some ⟨w3.heap.size + 3, 0, none⟩)), A, kc, bv, 0, cs.length, bm, 0, cs.length⟩, 0, ⟨rfl, rfl, rfl⟩, hf.engAt.ext x5, ?_, fun k hk => ⟨by omega, hk.2⟩, ⟨⟨by omega, by omega⟩, ⟨by omega, by omega⟩, ⟨by omega, by omega⟩, ⟨by omega, by omega⟩, ⟨by omega, by omega⟩, ⟨l1, by show bv < _; omega⟩, ⟨l2, by show bm < _; omega⟩⟩, fun k hk => ?_, fun k hk => .inr hk, fun k hk => ?_, ?_⟩
  · refine ⟨⟨_, 42, hr, rfl, rfl, rfl, rfl, rfl, rfl, fun i hi => ?_⟩, hA0.keep (fun _ h => h) fun k hk => x05.block k (Nat.lt_of_lt_of_le hk h00), hv.tch (x15.tch fun _ => False) (fun h => h), hm.tch (x15.tch fun _ => False) (fun h => h) (fun k hk => ⟨by have hk : k < w0.heap.size := hk; omega, fun h => h⟩) fun _ hk => hk, ⟨Nat.le_refl _, Nat.le_refl _⟩, ⟨by show w4.heap.size ≠ bv; omega, by show w4.heap.size ≠ bm; omega, hne⟩, ⟨fun h => by have h : w4.heap.size < w0.heap.size := h; omega, fun h => by have h : bv < w0.heap.size := h; omega, fun h => by have h : bm < w0.heap.size := h; omega⟩, fun k hk => by have hk : k < w0.heap.size := hk; have := x05.size; show k < W5.heap.size; omega⟩
    have hi : i < 1 := hi
    obtain rfl : i = 0 := by omega
    rfl
  · have := hf.sup k hk
    omega
  · have hk : k = w4.heap.size ∨ k = bv ∨ k = bm := hk
    refine ⟨by omega, by omega, by omega, by omega, fun hs => ?_⟩
    have := hf.sup k hs
    omega
  · refine ⟨fun h => ?_, fun h => ?_, fun h => ?_⟩
    · have h : w3.heap.size + 3 < w0.heap.size := h
      omega
    · have h : w3.heap.size + 1 < w0.heap.size := h
      omega
    · have h : w3.heap.size + 2 < w0.heap.size := h
      omega
set_option maxRecDepth 100000 in
set_option maxHeartbeats 2000000 in
theorem start_any2 {w0 w : World} {A : Option Addr} {kc n : Nat} {cs : List E.Cell} (hA : SliceAt cellR w (Old w) A kc cs) (hA0 : SliceAt cellR w (Old w0) A kc cs) (h00 : w0.heap.size ≤ w.heap.size) (hn : n = cs.length) (harg : ∀ c ∈ cs, c.2.2.1.length ≤ 1000) (hl : n ≤ 1000000) :
    Calls Tryz.prog 10 #[.slice A n kc] w (RetStart2 w0 w cs) := by
  have HRN := Lib.hid (refNew_any hA hn harg)
  have HCP := Lib.hid (fun W (h : Ext w W) => cp_any (hA.ext h) hn harg hl)
  have HNW := Lib.hid (fun (W : World) (A' : Option Addr) (k' n' : Nat) (h1 : SliceAt cellR W (Old W) A' k' cs) (h2 : n' = cs.length) => New_any h1 h2 harg)
  have HA0 := Lib.hid hA0
  have H00 := Lib.hid h00
  have HN := Lib.hid hn
  clear hA hA0 h00 hn harg hl
  go_enter Tryz.func10, Tryz.ntmps10
  go_wp2_with fail
  refine HRN.out.mono ?_
  rintro ed w1 ⟨x1, hr⟩
  have HX1 := Lib.hid x1
  clear x1
  rcases hr with ⟨h0, rfl⟩ | ⟨h0, bv, bm, rfl, l1, l2, hne, hv, hm⟩
  · have H0 := Lib.hid h0
    have hx1 : (E.newErr cs == 0) = false := by rw [beq_eq_false_iff_ne]; exact h0
    have hx2 : (E.newErr cs != 0) = true := by rw [bne, hx1]; rfl
    obtain ⟨x, hx⟩ : ∃ x, x = E.newErr cs := ⟨_, rfl⟩
    have HX := Lib.hid hx
    rw [← hx] at hx1 hx2 ⊢
    clear h0 hx
    go_upto_region 2 with (fail)
    obtain ⟨W2, hW2⟩ : ∃ W2, W2 = w1.alloc (.cells #[.slice none 0 0, .slice none 0 0, .slice none 0 0, .int .i64 0, .int .i64 0, .int .i64 0] 40) := ⟨_, rfl⟩
    rw [← hW2]
    have HX2 : Hid (Ext w W2) := Lib.hid (by rw [hW2]; exact HX1.out.alloc _)
    clear hW2
    go_wp2_with fail
    refine (HCP.out _ HX2.out).mono ?_
    rintro ed w3 ⟨A', k', n', hn', rfl, hs', x3⟩
    have HX3 := Lib.hid (HX2.out.trans x3)
    have HN3 := Lib.hid (HNW.out w3 A' k' n' hs' hn')
    clear hn' hs' x3
    go_wp2_with fail
    refine HN3.out.mono ?_
    rintro ed w4 ⟨x4, hr⟩
    rcases hr with ⟨_, rfl⟩ | ⟨h1, _⟩
    · have HX4 := Lib.hid (HX3.out.trans x4)
      rw [← HX.out]
      clear x4
      go_wp2_with fail
      go_ret2
      exact ⟨HX4.out, .inl ⟨H0.out, rfl⟩⟩
    · exact absurd h1 H0.out
  · have H0 := Lib.hid h0
    have HB := Lib.hid (And.intro l1 (And.intro l2 (And.intro hne (And.intro hv hm))))
    clear h0 l1 l2 hne hv hm
    go_upto_region 2 with (fail)
    obtain ⟨W2, hW2⟩ : ∃ W2, W2 = w1.alloc (.cells #[.slice A n kc, .slice (some ⟨bv, 0, none⟩) n n, .slice (some ⟨bm, 0, none⟩) n n, .int .i64 0, .int .i64 0, .int .i64 0] 40) := ⟨_, rfl⟩
    rw [← hW2]
    have HX2 : Hid (Ext w1 W2) := Lib.hid (by rw [hW2]; exact (Ext.refl w1).alloc _)
    have K2 : Hid (W2.heap[w1.heap.size]? = some (.cells #[.slice A n kc, .slice (some ⟨bv, 0, none⟩) n n, .slice (some ⟨bm, 0, none⟩) n n, .int .i64 0, .int .i64 0, .int .i64 0] 40 (0, 0))) := Lib.hid (by rw [hW2]; exact heap_alloc_new w1 _)
    clear hW2
    go_wp2_with fail
    refine (HCP.out _ (HX1.out.trans HX2.out)).mono ?_
    rintro ed w3 ⟨A', k', n', hn', rfl, hs', x3⟩
    have HX3 := Lib.hid (HX2.out.trans x3)
    have HX23 := Lib.hid x3
    have HN3 := Lib.hid (HNW.out w3 A' k' n' hs' hn')
    clear hn' hs' x3
    go_wp2_with fail
    refine HN3.out.mono ?_
    rintro ed w4 ⟨x4, hr⟩
    rcases hr with ⟨h1, _⟩ | ⟨_, rfl, S, hf⟩
    · exact absurd H0.out h1
    · have HF := Lib.hid hf
      have HX24 := Lib.hid (HX23.out.trans x4)
      have K4 : Hid (w4.heap[w1.heap.size]? = some (.cells #[.slice A n kc, .slice (some ⟨bv, 0, none⟩) n n, .slice (some ⟨bm, 0, none⟩) n n, .int .i64 0, .int .i64 0, .int .i64 0] 40 (0, 0))) := Lib.hid ((HX24.out.block _ (Array.getElem?_eq_some_iff.1 K2.out).1).trans K2.out)
      have r0 : w4.cell? ⟨w1.heap.size, 0, none⟩ = some (.slice A n kc) := by rw [new_off K4.out]; rfl
      have r1 : w4.cell? ⟨w1.heap.size, 1, none⟩ = some (.slice (some ⟨bv, 0, none⟩) n n) := by rw [new_off K4.out]; rfl
      have r2 : w4.cell? ⟨w1.heap.size, 2, none⟩ = some (.slice (some ⟨bm, 0, none⟩) n n) := by rw [new_off K4.out]; rfl
      have r3 : w4.cell? ⟨w1.heap.size, 3, none⟩ = some (.int .i64 0) := by rw [new_off K4.out]; rfl
      have r4 : w4.cell? ⟨w1.heap.size, 4, none⟩ = some (.int .i64 0) := by rw [new_off K4.out]; rfl
      have r5 : w4.cell? ⟨w1.heap.size, 5, none⟩ = some (.int .i64 0) := by rw [new_off K4.out]; rfl
      clear hf x4
      go_wp2_with fail
      go_ret2
      obtain ⟨l1, l2, hne, hv, hm⟩ := HB.out
      refine ⟨?_, .inr ⟨H0.out, _, _, rfl, start_made2 HA0.out H00.out HN.out HX1.out hv hm l1 l2 hne HX3.out HF.out ((Ext.refl _).alloc _) (heap_alloc_new _ _), fun k hk => hk.1⟩⟩
      exact ((HX1.out.trans HX3.out).trans HF.out.ext).alloc _
section
variable {w0 w w' : World} {D : Nat → Prop} {g m : Nat} {cs : List E.Cell} {e : E.En}
/-- Other blocks have changed. -/
theorem Both1.tch (h : Both1 w0 w D g cs m e) {X : Nat → Prop} (ht : Tch X w w') (hX : ∀ k, X k → ¬ D k ∧ w0.heap.size ≤ k) : Both1 w0 w' D g cs m e :=
  ⟨h.1, h.2.1.wrote ht fun k hk => (hX k hk).2, h.2.2.1, h.2.2.2.tch ht hX⟩
theorem Both1.start2 {A : Option Addr} {kc n : Nat} (hg : Gl w0) (hx : Ext w0 w) (hA : SliceAt cellR w0 (Old w0) A kc cs) (hn : n = cs.length) (harg : ∀ c ∈ cs, c.2.2.1.length ≤ 1000) (hl : n ≤ 1000000) :
    Calls Tryz.prog 10 #[.slice A n kc] w fun ed w' => Ext w w' ∧ ((E.newErr cs ≠ 0 ∧ ed = .returned (.tuple #[.pointer none, .bool true])) ∨ (E.newErr cs = 0 ∧ ∃ g D, ed = .returned (.tuple #[.pointer (some ⟨g, 0, none⟩), .bool true]) ∧ Both1 w0 w' D g cs 0 (E.fresh cs) ∧ ∀ k, D k → w.heap.size ≤ k)) := by
  refine (start_any2 (w0 := w0) (hA.ext hx) (hA.keep (fun _ h => h) fun k hk => hx.block k hk) hx.size hn harg hl).mono ?_
  rintro ed w' ⟨hx2, h⟩
  exact ⟨hx2, h.imp_right fun ⟨h0, g, D, h1, h2, h3⟩ => ⟨h0, g, D, h1, ⟨hg, hx.trans hx2, fit_fresh h0, h2⟩, h3⟩⟩
end
end Go.Proofs.YtkeaoejgboefbaaGreatDoor

/- The walk of EngineSeparate. -/
namespace Go.Proofs.YtkeaoejgboefbaaGreatDoor
open Go.RowKit Go.Maps

theorem bool_get {w : World} {B : Nat → Prop} {A : Option Addr} {c : Nat} {l : List Bool} (h : SliceAt boolR w B A c l) {k : Nat} (hk : k < l.length) :
    ∃ b off, A = some ⟨b, off, none⟩ ∧ B b ∧ w.cell? ⟨b, off + k, none⟩ = some (.bool l[k]) := by
  obtain ⟨_, _, h3⟩ := h
  obtain ⟨b, off, hA, hb, hr⟩ := h3 (by intro e; rw [e] at hk; exact absurd hk (Nat.not_lt_zero _))
  obtain ⟨us, hu, hc⟩ := hr k hk
  obtain rfl := hu
  have h2 := hc 0 _ rfl
  have e : boolR.size = 1 := rfl
  rw [e, Nat.mul_one, Nat.add_zero] at h2
  exact ⟨b, off, hA, hb, h2⟩

set_option maxRecDepth 100000 in
set_option maxHeartbeats 8000000 in
theorem engineSeparate_walk (v0 v1 v2 : Value) (cs : List E.Cell) (acts : List ActE) (wh : List Bool) (w : World) (hg : Gl w) (r0 : (sliceR cellR).val w cs v0) (r1 : (sliceR actR).val w acts v1) (r2 : (sliceR boolR).val w wh v2) :
    Calls Tryz.prog 4 #[v0, v1, v2] w (Al (.bool true) w) := by
  obtain ⟨A, k, rfl, hA⟩ := val_slice r0
  obtain ⟨B, kb, rfl, hB⟩ := val_slice r1
  obtain ⟨C, kw, rfl, hC⟩ := val_slice r2
  obtain ⟨y, hy⟩ : ∃ y, y = wh.length := ⟨_, rfl⟩
  obtain ⟨n, hn⟩ : ∃ n, n = cs.length := ⟨_, rfl⟩
  obtain ⟨m, hm⟩ : ∃ m, m = acts.length := ⟨_, rfl⟩
  rw [← hn, ← hm, ← hy]
  have HAW := Lib.hid (fun W (h : Ext w W) => awake_any W (hg.ext h))
  have HFW := Lib.hid (fun W (h : Ext w W) => refFew_any cs A k n 12 W hn (hA.ext h))
  have HSW := Lib.hid (fun W (h : Ext w W) => refShort_any acts B kb m 30 W hm (hB.ext h))
  have HST := Lib.hid (fun (hf : FewC cs 12) W (h : Ext w W) W' (h' : Ext W W') => Both1.start2 (hg.ext h) h' (hA.ext h) hn hf.args (by have := hf.1; omega))
  have HA := Lib.hid hA
  have HB := Lib.hid hB
  have HC := Lib.hid hC
  have HY := Lib.hid hy
  have hy63 : y ≤ 9223372036854775807 := by have := hC.1; have := hC.2.1; omega
  have HN := Lib.hid hn
  have HM := Lib.hid hm
  have hm63 : m ≤ 9223372036854775807 := by have := hB.1; have := hB.2.1; omega
  clear hA hB hC hn hm hy hg r0 r1 r2
  go_enter Tryz.func4, Tryz.ntmps4
  go_wp2_with fail
  refine (HAW.out _ (Ext.refl w)).mono ?_
  rintro e2 w2 ⟨rfl, d2⟩
  have HD2 := Lib.hid d2
  clear d2
  go_wp2_with fail
  refine (HFW.out _ HD2.out).mono ?_
  rintro e3 w3 ⟨d3, b, rfl, hb⟩
  have HD3 := Lib.hid (HD2.out.trans d3)
  clear d3 HD2
  cases b with
  | false =>
    clear hb
    go_wp2_with fail
    refine (HAW.out _ HD3.out).mono ?_
    rintro e4 w4 ⟨rfl, d4⟩
    have HD4 := Lib.hid (HD3.out.trans d4)
    clear d4
    go_wp2_with fail
    go_ret
    exact ⟨rfl, HD4.out⟩
  | true =>
    have HFO := Lib.hid (hb rfl)
    clear hb
    go_wp2_with fail
    refine (HSW.out _ HD3.out).mono ?_
    rintro e4 w4 ⟨d4, b, rfl, hb⟩
    have HD4 := Lib.hid (HD3.out.trans d4)
    clear d4 HD3
    cases b with
    | false =>
      clear hb
      go_wp2_with fail
      refine (HAW.out _ HD4.out).mono ?_
      rintro e5 w5 ⟨rfl, d5⟩
      have HD5 := Lib.hid (HD4.out.trans d5)
      clear d5
      go_wp2_with fail
      go_ret
      exact ⟨rfl, HD5.out⟩
    | true =>
      have HSO := Lib.hid (hb rfl)
      clear hb
      by_cases hy30 : 30 < y
      · go_wp2_with fail
        refine (HAW.out _ HD4.out).mono ?_
        rintro e5 w5 ⟨rfl, d5⟩
        have HD5 := Lib.hid (HD4.out.trans d5)
        clear d5
        go_wp2_with fail
        go_ret
        exact ⟨rfl, HD5.out⟩
      have hy31 : y ≤ 30 := by omega
      go_wp2_with fail
      refine (HST.out HFO.out _ HD4.out _ (Ext.refl w4)).mono ?_
      rintro e5 w5 ⟨d5, hr⟩
      have HD45 := Lib.hid d5
      have HD5 := Lib.hid (HD4.out.trans d5)
      clear d5
      rcases hr with ⟨h0, rfl⟩ | ⟨h0, g, D, rfl, hb, _⟩
      · have H0 := Lib.hid h0
        clear h0
        go_wp2_with fail
        refine (HST.out HFO.out _ HD4.out _ HD45.out).mono ?_
        rintro e6 w6 ⟨d6, hr⟩
        have HD6 := Lib.hid (HD5.out.trans d6)
        clear d6
        rcases hr with ⟨_, rfl⟩ | ⟨h1, _⟩
        · go_wp2_with fail
          go_ret
          exact ⟨rfl, HD6.out⟩
        · exact absurd h1 H0.out
      · have H0 := Lib.hid h0
        have HBO := Lib.hid hb
        have hn12 : n ≤ 12 := by have := HFO.out.1; have := HN.out; omega
        have hm30 : m ≤ 30 := by have := HSO.out.1; have := HM.out; omega
        clear hb h0
        go_wp2_with fail
        refine (HST.out HFO.out _ HD4.out _ HD45.out).mono ?_
        rintro e6 w6 ⟨d6, hr⟩
        rcases hr with ⟨h1, _⟩ | ⟨_, g2, D2, rfl, hb2, hlo2⟩
        · exact absurd H0.out h1
        have HBO1 := Lib.hid (HBO.out.ext d6)
        have HBO2 := Lib.hid hb2
        have HDJ : Hid (∀ k, D k → ¬ D2 k) := Lib.hid fun k h1 h2 => by have := hlo2 k h2; have := (HBO.out.dom k h1).2; omega
        clear d6 hb2 hlo2 HBO
        go_wp2_with fail
        go_loopw [11, 12, 13, 62] (fun _ _ _ i wr => ∃ (t t1 t2 : Nat) (ea eb : E.En) (D D2 : Nat → Prop), i = .int .i64 t ∧ t ≤ m ∧ t1 ≤ t ∧ t2 ≤ t ∧ Hid (Both1 w4 wr D g cs t1 ea) ∧ Hid (Both1 w4 wr D2 g2 cs t2 eb) ∧ Hid (∀ k, D k → ¬ D2 k)) (fun _ _ _ i _ => m - (intOf i).toNat)
        case atStart => exact ⟨0, 0, 0, _, _, _, _, rfl, Nat.zero_le _, Nat.zero_le _, Nat.zero_le _, HBO1, HBO2, HDJ⟩
        case round =>
          clear HBO1 HBO2 HDJ
          obtain ⟨t, t1, t2, ea, eb, D, D2, rfl, ht, ht1, ht2, HB1, HB2, HDJ⟩ := hrel
          by_cases htm : t < m
          · have htl : t < acts.length := by have := HM.out; omega
            obtain ⟨b, off, hBe, hbb, d0, d1, d2, z1, z2, z3⟩ := act_get (HB.out.ext (HD4.out.trans HB1.out.ahead)) htl
            subst hBe
            have HACT1 := Lib.hid (fun W (hx : Ext wr W) => (HB1.out.ext hx).act (by omega) z1 z2 z3)
            have HACT2 := Lib.hid (fun W (hx : Ext wr W) => (HB2.out.ext hx).act (by omega) z1 z2 z3)
            generalize acts[t] = ac at *
            obtain ⟨kk, cc, vv⟩ := ac
            simp only at d0 d1 d2 z1 z2 z3 HACT1 HACT2
            obtain ⟨W2, hW2⟩ : ∃ W2, W2 = wr.alloc (.cells #[.int .u8 kk, .int .u8 cc, .string vv] 31) := ⟨_, rfl⟩
            have X2 : Ext wr W2 := by rw [hW2]; exact (Ext.refl wr).alloc _
            have p0 : W2.cell? ⟨wr.heap.size, 0, none⟩ = some (.int .u8 kk) := by rw [hW2]; exact cell_new wr #[.int .u8 kk, .int .u8 cc, .string vv] 31 0
            have p1 : W2.cell? ⟨wr.heap.size, 1, none⟩ = some (.int .u8 cc) := by rw [hW2]; exact cell_new wr #[.int .u8 kk, .int .u8 cc, .string vv] 31 1
            have p2 : W2.cell? ⟨wr.heap.size, 2, none⟩ = some (.string vv) := by rw [hW2]; exact cell_new wr #[.int .u8 kk, .int .u8 cc, .string vv] 31 2
            have HAC1 := Lib.hid (HACT1.out W2 X2)
            have HAC2 := Lib.hid (HACT2.out W2 X2)
            have HX2 := Lib.hid X2
            have hw : (t < y ∧ ∃ b off, C = some ⟨b, off, none⟩ ∧ W2.cell? ⟨b, off + t, none⟩ = some (.bool true)) ∨ (t < y ∧ ∃ b off, C = some ⟨b, off, none⟩ ∧ W2.cell? ⟨b, off + t, none⟩ = some (.bool false)) ∨ ¬ t < y := by
              by_cases hty : t < y
              · obtain ⟨b, off, hC, _, hc⟩ := bool_get (HC.out.ext (HD4.out.trans (HB1.out.ahead.trans X2))) (k := t) (by have := HY.out; omega)
                cases hx : wh[t]'(by have := HY.out; omega) with
                | true => rw [hx] at hc; exact .inl ⟨hty, b, off, hC, hc⟩
                | false => rw [hx] at hc; exact .inr (.inl ⟨hty, b, off, hC, hc⟩)
              · exact .inr (.inr hty)
            go_upto_region 10 with (fail)
            rw [← hW2]
            clear hW2 d0 d1 d2 z1 z2 z3 X2 HACT1 HACT2
            have HT2 : Hid (t2 ≤ t + 1) := Lib.hid (by omega)
            have HT1 : Hid (t1 ≤ t + 1) := Lib.hid (by omega)
            have HT21 : Hid (t2 + 1 ≤ t + 1) := Lib.hid (by omega)
            have HT11 : Hid (t1 + 1 ≤ t + 1) := Lib.hid (by omega)
            have HFIRST : Hid (∀ ed w7, ((ed = Ending.returned (.bool true)) ∧ Tch D2 W2 w7 ∧ ∃ D', Both1 w4 w7 D' g2 cs (t2 + 1) (actE eb (kk, cc, vv)) ∧ ∀ k, D' k → D2 k ∨ W2.heap.size ≤ k) → ed = .returned (.bool true) ∧ ∃ (t1' t2' : Nat) (ea eb : E.En) (D D2 : Nat → Prop), t1' ≤ t + 1 ∧ t2' ≤ t + 1 ∧ Both1 w4 w7 D g cs t1' ea ∧ Both1 w4 w7 D2 g2 cs t2' eb ∧ ∀ k, D k → ¬ D2 k) := Lib.hid (by
              rintro ed w7 ⟨rfl, t7, D', hb7, hd7⟩
              refine ⟨rfl, t1, t2 + 1, ea, _, D, D', HT1.out, HT21.out, (HB1.out.ext HX2.out).tch t7 fun k hk => ⟨fun h => HDJ.out k h hk, (HB2.out.dom k hk).1⟩, hb7, fun k h1 h2 => ?_⟩
              rcases hd7 k h2 with h3 | h3
              · exact HDJ.out k h1 h3
              · have := (HB1.out.dom k h1).2; have := HX2.out.size; omega)
            have HSECOND : Hid (∀ ed w7, ((ed = Ending.returned (.bool true)) ∧ Tch D W2 w7 ∧ ∃ D', Both1 w4 w7 D' g cs (t1 + 1) (actE ea (kk, cc, vv)) ∧ ∀ k, D' k → D k ∨ W2.heap.size ≤ k) → ed = .returned (.bool true) ∧ ∃ (t1' t2' : Nat) (ea eb : E.En) (D D2 : Nat → Prop), t1' ≤ t + 1 ∧ t2' ≤ t + 1 ∧ Both1 w4 w7 D g cs t1' ea ∧ Both1 w4 w7 D2 g2 cs t2' eb ∧ ∀ k, D k → ¬ D2 k) := Lib.hid (by
              rintro ed w7 ⟨rfl, t7, D', hb7, hd7⟩
              refine ⟨rfl, t1 + 1, t2, _, eb, D', D2, HT11.out, HT2.out, hb7, (HB2.out.ext HX2.out).tch t7 fun k hk => ⟨HDJ.out k hk, (HB1.out.dom k hk).1⟩, fun k h1 h2 => ?_⟩
              rcases hd7 k h1 with h3 | h3
              · exact HDJ.out k h3 h2
              · have := (HB2.out.dom k h2).2; have := HX2.out.size; omega)
            rcases hw with ⟨hty, bw, ow, rfl, pw⟩ | ⟨hty, bw, ow, rfl, pw⟩ | hty
            · go_wp2_with fail
              refine HAC2.out.mono ?_
              intro ed w7 hr7
              obtain ⟨rfl, t1', t2', ea', eb', D', D2', hx1, hx2, hb1, hb2, hdj⟩ := HFIRST.out _ _ hr7
              have HB71 := Lib.hid hb1
              have HB72 := Lib.hid hb2
              have HDJ7 := Lib.hid hdj
              clear hb1 hb2 hdj hr7 HFIRST HSECOND p0 p1 p2 pw HAC1 HAC2
              go_wp2_with fail
              go_roundw
              case rel => exact ⟨t + 1, t1', t2', ea', eb', D', D2', by go_num, by omega, hx1, hx2, HB71, HB72, HDJ7⟩
              case measure => simp [intOf]; omega
            · go_wp2_with fail
              refine HAC1.out.mono ?_
              intro ed w7 hr7
              obtain ⟨rfl, t1', t2', ea', eb', D', D2', hx1, hx2, hb1, hb2, hdj⟩ := HSECOND.out _ _ hr7
              have HB71 := Lib.hid hb1
              have HB72 := Lib.hid hb2
              have HDJ7 := Lib.hid hdj
              clear hb1 hb2 hdj hr7 HFIRST HSECOND p0 p1 p2 pw HAC1 HAC2
              go_wp2_with fail
              go_roundw
              case rel => exact ⟨t + 1, t1', t2', ea', eb', D', D2', by go_num, by omega, hx1, hx2, HB71, HB72, HDJ7⟩
              case measure => simp [intOf]; omega
            · go_wp2_with fail
              refine HAC1.out.mono ?_
              intro ed w7 hr7
              obtain ⟨rfl, t1', t2', ea', eb', D', D2', hx1, hx2, hb1, hb2, hdj⟩ := HSECOND.out _ _ hr7
              have HB71 := Lib.hid hb1
              have HB72 := Lib.hid hb2
              have HDJ7 := Lib.hid hdj
              clear hb1 hb2 hdj hr7 HFIRST HSECOND p0 p1 p2 HAC1 HAC2
              go_wp2_with fail
              go_roundw
              case rel => exact ⟨t + 1, t1', t2', ea', eb', D', D2', by go_num, by omega, hx1, hx2, HB71, HB72, HDJ7⟩
              case measure => simp [intOf]; omega
          · have HSZA := Lib.hid (sz_inputs HB1.out.fit)
            have HSZB := Lib.hid (sz_inputs HB2.out.fit)
            have HXW := Lib.hid (HD4.out.trans HB1.out.ahead)
            obtain ⟨gea, qA, cA, heA, _⟩ := HB1.out.parts
            have HIA := Lib.hid (fun W (hx : Ext wr W) => (heA.ext hx).inputs)
            have HRA := Lib.hid (fun W (hx : Ext wr W) => (by obtain ⟨_, _, _, _, h⟩ := (HB1.out.ext hx).parts; exact h : Calls Tryz.prog 14 #[.pointer (some ⟨g, 1, none⟩)] W (RetT W (E.inputsE ea))))
            have HCA := Lib.hid (fun W (hx : Ext wr W) => (heA.ext hx).computed)
            obtain ⟨LA, hLA⟩ : ∃ L, L = E.inputsE ea := ⟨_, rfl⟩
            rw [← hLA] at HIA HRA HSZA
            obtain ⟨nA, hnA⟩ : ∃ q, q = LA.length := ⟨_, rfl⟩
            have HNA := Lib.hid hnA
            obtain ⟨kA, hkA⟩ : ∃ q : Int, q = ea.st.cnt := ⟨_, rfl⟩
            rw [← hkA] at cA HCA
            have hqA : (kA == kA) = true := by simp
            clear heA hLA hnA hkA
            obtain ⟨geb, qB, cB, heB, _⟩ := HB2.out.parts
            have HIB := Lib.hid (fun W (hx : Ext wr W) => (heB.ext hx).inputs)
            have HRB := Lib.hid (fun W (hx : Ext wr W) => (by obtain ⟨_, _, _, _, h⟩ := (HB2.out.ext hx).parts; exact h : Calls Tryz.prog 14 #[.pointer (some ⟨g2, 1, none⟩)] W (RetT W (E.inputsE eb))))
            have HCB := Lib.hid (fun W (hx : Ext wr W) => (heB.ext hx).computed)
            obtain ⟨LB, hLB⟩ : ∃ L, L = E.inputsE eb := ⟨_, rfl⟩
            rw [← hLB] at HIB HRB HSZB
            obtain ⟨nB, hnB⟩ : ∃ q, q = LB.length := ⟨_, rfl⟩
            have HNB := Lib.hid hnB
            obtain ⟨kB, hkB⟩ : ∃ q : Int, q = eb.st.cnt := ⟨_, rfl⟩
            rw [← hkB] at cB HCB
            have hqB : (kB == kB) = true := by simp
            clear heB hLB hnB hkB
            obtain ⟨Φ, hΦ⟩ : ∃ Φ : World → Prop, ∀ w', Φ w' ↔ (w'.cell? ⟨g, 0, none⟩ = some (.pointer (some ⟨gea, 0, none⟩)) ∧ w'.cell? ⟨g2, 0, none⟩ = some (.pointer (some ⟨geb, 0, none⟩)) ∧ w'.cell? ⟨g, 5, none⟩ = some (.int .i64 kA) ∧ w'.cell? ⟨g2, 5, none⟩ = some (.int .i64 kB)) := ⟨_, fun _ => Iff.rfl⟩
            have HK : Hid (∀ W, Ext wr W → Φ W) := Lib.hid fun W h => (hΦ _).2 ⟨h.keepc qA, h.keepc qB, h.keepc cA, h.keepc cB⟩
            have h0 : Φ wr.drew := HK.out _ (Ext.refl wr).drew
            have fx0 : ∀ x : Lat Φ, x.w'.cell? ⟨g, 0, none⟩ = some (.pointer (some ⟨gea, 0, none⟩)) := fun x => ((hΦ _).1 x.h).1
            have fx1 : ∀ x : Lat Φ, x.w'.cell? ⟨g2, 0, none⟩ = some (.pointer (some ⟨geb, 0, none⟩)) := fun x => ((hΦ _).1 x.h).2.1
            have fx2 : ∀ x : Lat Φ, x.w'.cell? ⟨g, 5, none⟩ = some (.int .i64 kA) := fun x => ((hΦ _).1 x.h).2.2.1
            have fx3 : ∀ x : Lat Φ, x.w'.cell? ⟨g2, 5, none⟩ = some (.int .i64 kB) := fun x => ((hΦ _).1 x.h).2.2.2
            have hne1 := Lat.some h0
            clear hΦ qA qB cA cB
            go_wp2_with fail
            refine wp_region_lat [4, 8, 9, 15, 19, 20, 27, 40] Φ h0 (by kernel_rfl) (by kernel_rfl) (by kernel_rfl) ?_
            iterate 4 (refine lex_pure rfl rfl rfl ?_; intro K hK; go_big_quiet_op; go_big_quiet_on)
            refine lex_eff rfl ?_
            go_wp2_with fail
            refine (HIA.out _ (Ext.refl wr).drew).mono ?_
            rintro ed w21 ⟨v21, rfl, o21, x21⟩
            have HX21 := Lib.hid (((Ext.refl wr).drew).trans x21)
            obtain ⟨A21, k21, rfl, hs21⟩ := own_files_slice o21 HSZA.out
            have HS21 := Lib.hid hs21
            rw [← HNA.out]
            clear o21 x21 hs21 HIA
            go_wp2_with fail
            refine ⟨⟨⟨_, HK.out _ HX21.out⟩, rfl⟩, ?_⟩
            iterate 3 (refine lex_pure rfl rfl rfl ?_; intro K hK; go_big_quiet_op; go_big_quiet_on)
            refine lex_eff rfl ?_
            go_wp2_with fail
            refine (HRA.out _ HX21.out).mono ?_
            rintro ed w22 ⟨v22, rfl, o22, x22⟩
            have HX22 := Lib.hid (HX21.out.trans x22)
            obtain ⟨A22, k22, rfl, hs22⟩ := own_files_slice o22 HSZA.out
            have HEQ := Lib.hid (SameF_same LA A21 A22 k21 k22 nA nA w22 HNA.out HNA.out (HS21.out.ext x22) hs22)
            rw [← HNA.out]
            clear o22 x22 hs22 HRA HS21
            go_wp2_with fail
            refine ⟨⟨⟨_, HK.out _ HX22.out⟩, rfl⟩, ?_⟩
            refine lex_eff rfl ?_
            go_wp2_with fail
            refine HEQ.out.mono ?_
            rintro ed w23 ⟨rfl, x23⟩
            have HX23 := Lib.hid (HX22.out.trans x23)
            clear x23 HEQ
            go_wp2_with fail
            refine ⟨⟨⟨_, HK.out _ HX23.out⟩, rfl⟩, ?_⟩
            iterate 5 (refine lex_pure rfl rfl rfl ?_; intro K hK; go_big_quiet_op; go_big_quiet_on)
            refine lex_eff rfl ?_
            go_wp2_with fail
            refine (HIB.out _ HX23.out).mono ?_
            rintro ed w24 ⟨v24, rfl, o24, x24⟩
            have HX24 := Lib.hid (HX23.out.trans x24)
            obtain ⟨A24, k24, rfl, hs24⟩ := own_files_slice o24 HSZB.out
            have HS24 := Lib.hid hs24
            rw [← HNB.out]
            clear o24 x24 hs24 HIB
            go_wp2_with fail
            refine ⟨⟨⟨_, HK.out _ HX24.out⟩, rfl⟩, ?_⟩
            iterate 3 (refine lex_pure rfl rfl rfl ?_; intro K hK; go_big_quiet_op; go_big_quiet_on)
            refine lex_eff rfl ?_
            go_wp2_with fail
            refine (HRB.out _ HX24.out).mono ?_
            rintro ed w25 ⟨v25, rfl, o25, x25⟩
            have HX25 := Lib.hid (HX24.out.trans x25)
            obtain ⟨A25, k25, rfl, hs25⟩ := own_files_slice o25 HSZB.out
            have HEQ := Lib.hid (SameF_same LB A24 A25 k24 k25 nB nB w25 HNB.out HNB.out (HS24.out.ext x25) hs25)
            rw [← HNB.out]
            clear o25 x25 hs25 HRB HS24
            go_wp2_with fail
            refine ⟨⟨⟨_, HK.out _ HX25.out⟩, rfl⟩, ?_⟩
            refine lex_eff rfl ?_
            go_wp2_with fail
            refine HEQ.out.mono ?_
            rintro ed w26 ⟨rfl, x26⟩
            have HX26 := Lib.hid (HX25.out.trans x26)
            clear x26 HEQ
            go_wp2_with fail
            refine ⟨⟨⟨_, HK.out _ HX26.out⟩, rfl⟩, ?_⟩
            iterate 6 (refine lex_pure rfl rfl rfl ?_; intro K hK; go_big_quiet_op; go_big_quiet_on)
            refine lex_eff rfl ?_
            go_wp2_with fail
            refine (HCA.out _ HX26.out).mono ?_
            rintro ed w27 ⟨rfl, rfl⟩
            clear HCA
            go_wp2_with fail
            refine ⟨⟨⟨_, HK.out _ HX26.out⟩, rfl⟩, ?_⟩
            iterate 12 (refine lex_pure rfl rfl rfl ?_; intro K hK; go_big_quiet_op; go_big_quiet_on)
            refine lex_eff rfl ?_
            go_wp2_with fail
            refine (HCB.out _ HX26.out).mono ?_
            rintro ed w28 ⟨rfl, rfl⟩
            clear HCB
            go_wp2_with fail
            refine ⟨⟨⟨_, HK.out _ HX26.out⟩, rfl⟩, ?_⟩
            iterate 8 (refine lex_pure rfl rfl rfl ?_; intro K hK; go_big_quiet_op; go_big_quiet_on)
            refine lex_nil ?_
            clear fx0 fx1 fx2 fx3 hne1 h0 HK
            go_wp2_with fail
            go_ret
            exact ⟨rfl, HXW.out.trans HX26.out⟩
end Go.Proofs.YtkeaoejgboefbaaGreatDoor
