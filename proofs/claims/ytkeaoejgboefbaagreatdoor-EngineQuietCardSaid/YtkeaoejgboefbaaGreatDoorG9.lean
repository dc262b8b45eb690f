/- The texts Je Jf Jg Jh Jc Ji Jj of the seat, joined. -/
import Derived.Test.YtkeaoejgboefbaaGreatDoorG8
import Derived.BigQuiet
import Derived.Laws.StructEq
/- The reference's Check. -/
namespace Go.Proofs.YtkeaoejgboefbaaGreatDoor
open Go.RowKit Go.Maps

theorem formed_bounds (c : E.Cell) : E.formedB c = (c.2.2.1.all E.nameB && (decide (lowA c.2.1 ≤ c.2.2.1.length) && decide ((c.2.2.1.length : Int) ≤ highA c.2.1) && (decide (c.2.1 = 2) || decide (c.2.2.2.size = 0)) && decide (c.2.2.2.size ≤ 64))) := by
  unfold E.formedB
  congr 1
  generalize c.2.2.1.length = L
  generalize c.2.1 = x
  generalize c.2.2.2.size = t
  rw [Bool.eq_iff_iff]
  unfold lowA highA
  by_cases h2 : x = 2
  · subst h2; simp; omega
  by_cases h1 : x = 1
  · subst h1; simp; omega
  by_cases h3 : x = 3
  · subst h3; simp; omega
  by_cases h4 : x = 4
  · subst h4; simp; omega
  by_cases h5 : x = 5
  · subst h5; simp; omega
  by_cases h6 : x = 6
  · subst h6; simp; omega
  by_cases h7 : x = 7
  · subst h7; simp; omega
  simp [h1, h2, h3, h4, h5, h6, h7]
  omega
theorem lowA_bounds (x : Int) : 0 ≤ lowA x ∧ lowA x ≤ 3 := by
  unfold lowA
  repeat' split
  all_goals decide
theorem highA_bounds (x : Int) : 0 ≤ highA x ∧ highA x ≤ 8 := by
  unfold highA
  repeat' split
  all_goals decide
/-- The reference's Check. -/
theorem err_of {a b c v : Int} (h : a = if b ≠ 0 then b else c) (hb : b = v) (hv : v ≠ 0) : a = v := by rw [h, hb, if_pos hv]
theorem err_on {a b c : Int} (h : a = if b ≠ 0 then b else c) (hb : b = 0) : a = c := by rw [h, hb]; rfl
def RetChk (w : World) (cs : List E.Cell) (ed : Ending) (w' : World) : Prop := ed = .returned (.int .i64 (E.newErr cs)) ∧ Ext w w'
set_option maxRecDepth 100000 in
set_option maxHeartbeats 8000000 in
theorem refCheck_any {w : World} {A : Option Addr} {kc n : Nat} {cs : List E.Cell} (hA : SliceAt cellR w (Old w) A kc cs) (hn : n = cs.length) (harg : ∀ c ∈ cs, c.2.2.1.length ≤ 1000) : Calls Tryz.prog 44 #[.slice A n kc] w (RetChk w cs) := by
  have HA := Lib.hid hA
  have HN := Lib.hid hn
  have HAR := Lib.hid harg
  by_cases hbig : 200 < n
  · have HE : Hid (E.newErr cs = 10) := Lib.hid (by unfold E.newErr; rw [if_pos (by omega)])
    have hn63 : (n : Int) ≤ 9223372036854775807 := by have := hA.1; have := hA.2.1; omega
    clear hA hn harg
    go_enter Tryz.func44, Tryz.ntmps44
    go_wp2_with fail
    go_ret
    exact ⟨by rw [HE.out]; rfl, Ext.refl _⟩
  · have HE : Hid (E.newErr cs = E.newE [] cs) := Lib.hid (by unfold E.newErr; rw [if_neg (by omega)])
    clear hA hn harg
    go_enter Tryz.func44, Tryz.ntmps44
    go_wp2_with fail
    go_loopw [3, 4, 5, 6, 7, 8] (fun i _ _ _ _ _ wr => ∃ k : Nat, i = .int .i64 k ∧ k ≤ n ∧ Hid (E.newErr cs = E.newE (cs.take k) (cs.drop k)) ∧ Ext w wr) (fun i _ _ _ _ _ _ => n - (intOf i).toNat)
    case atStart => exact ⟨0, rfl, Nat.zero_le _, HE, Ext.refl _⟩
    case round =>
      obtain ⟨k, rfl, hk, hE, hX⟩ := hrel
      by_cases hlt : k < n
      · have hkl : k < cs.length := by have := HN.out; omega
        obtain ⟨b, off, A2, k2, hAe, hbb, d0, d1, d2, d3, z1, z2, z3, z4⟩ := cell_get (HA.out.ext hX) hkl
        subst hAe
        have HER : Hid (E.newErr cs = if E.cellE (cs.take k) cs[k] ≠ 0 then E.cellE (cs.take k) cs[k] else E.newE (cs.take (k + 1)) (cs.drop (k + 1))) := Lib.hid (by rw [hE.out, List.drop_eq_getElem_cons hkl, newE_cons, List.take_succ_eq_append_getElem hkl])
        have hag : cs[k].2.2.1.length ≤ 1000 := HAR.out _ (List.getElem_mem hkl)
        generalize cs[k] = c at *
        obtain ⟨L2, hL2⟩ : ∃ L2, L2 = c.2.2.1.length := ⟨_, rfl⟩
        rw [← hL2] at d2 hag
        have HL2 := Lib.hid hL2
        obtain ⟨W2, hW2⟩ : ∃ W2, W2 = wr.alloc (.cells #[.string c.1, .int .i64 c.2.1, .slice A2 L2 k2, .string c.2.2.2] 50) := ⟨_, rfl⟩
        have X2 : Ext wr W2 := by rw [hW2]; exact (Ext.refl wr).alloc _
        have K2 : Hid (W2.heap[wr.heap.size]? = some (.cells #[.string c.1, .int .i64 c.2.1, .slice A2 L2 k2, .string c.2.2.2] 50 (0, 0))) := Lib.hid (by rw [hW2]; exact heap_alloc_new wr _)
        have HX2 := Lib.hid (hX.trans X2)
        have HZ3 := Lib.hid (z3.ext X2)
        have q0 : W2.cell? ⟨wr.heap.size, 0, none⟩ = some (.string c.1) := by rw [new_off K2.out]; rfl
        have q1 : W2.cell? ⟨wr.heap.size, 1, none⟩ = some (.int .i64 c.2.1) := by rw [new_off K2.out]; rfl
        have q2 : W2.cell? ⟨wr.heap.size, 2, none⟩ = some (.slice A2 L2 k2) := by rw [new_off K2.out]; rfl
        have q3 : W2.cell? ⟨wr.heap.size, 3, none⟩ = some (.string c.2.2.2) := by rw [new_off K2.out]; rfl
        have HNM0 := Lib.hid (refName_any c.1 W2 z1)
        have HAG0 := Lib.hid (refArgs_any c.2.1 W2 z2)
        have HCE : Hid (E.cellE (cs.take k) c = if E.nameB c.1 = false then 2 else if E.formedB c = false then 1 else if E.has ((cs.take k).map (·.1)) c.1 then 6 else 0) := Lib.hid rfl
        have HFBD := Lib.hid (formed_bounds c)
        rw [← hL2] at HFBD
        obtain ⟨hl0, hl1⟩ := lowA_bounds c.2.1
        obtain ⟨hh0, hh1⟩ := highA_bounds c.2.1
        clear hL2 X2 hX
        go_upto_region 7 with (fail)
        rw [← hW2]
        clear hW2 d0 d1 d2 d3
        cases hnb : E.nameB c.1 with
        | false =>
          have HER2 : Hid (E.newErr cs = 2) := Lib.hid (err_of HER.out (v := 2) (by rw [HCE.out, if_pos hnb]) (by decide))
          rw [hnb] at HNM0
          clear hnb
          go_wp2_with fail
          refine HNM0.out.mono ?_
          rintro ed w5 ⟨rfl, rfl⟩
          go_wp2_with fail
          go_ret
          exact ⟨by rw [HER2.out]; rfl, HX2.out⟩
        | true =>
          have HNB : Hid (¬ E.nameB c.1 = false) := Lib.hid (by rw [hnb]; decide)
          rw [hnb] at HNM0
          clear hnb
          have HE1' : Hid ((decide (lowA c.2.1 ≤ L2) && decide ((L2 : Int) ≤ highA c.2.1) && (decide (c.2.1 = 2) || decide (c.2.2.2.size = 0)) && decide (c.2.2.2.size ≤ 64)) = false → E.newErr cs = 1) := Lib.hid fun h => err_of HER.out (v := 1) (by rw [HCE.out, if_neg HNB.out, if_pos (by rw [HFBD.out, h, Bool.and_false])]) (by decide)
          go_wp2_with fail
          refine HNM0.out.mono ?_
          rintro ed w5 ⟨rfl, rfl⟩
          go_wp2_with fail
          refine HAG0.out.mono ?_
          rintro ed w5 ⟨rfl, rfl⟩
          have HBDI := Lib.hid (show c.2.1 = c.2.1 from rfl)
          obtain ⟨op, hop⟩ : ∃ op, op = c.2.1 := ⟨_, rfl⟩
          obtain ⟨tx, htx⟩ : ∃ tx, tx = c.2.2.2 := ⟨_, rfl⟩
          rw [← hop] at HE1' hl0 hl1 hh0 hh1 q1 ⊢
          rw [← htx] at HE1' q3 z4
          have HOP := Lib.hid hop
          have HTX := Lib.hid htx
          generalize hlo : lowA op = lo at *
          generalize hhi : highA op = hi at *
          have HLO := Lib.hid hlo
          have HHI := Lib.hid hhi
          clear hop htx hlo hhi HBDI
          have hemt := empty_dec tx
          by_cases g1 : (L2 : Int) < lo
          · have HE1 := Lib.hid (HE1'.out (by rw [decide_eq_false (by omega)]; simp))
            clear hemt
            go_wp2_with fail
            go_ret
            exact ⟨by rw [HE1.out]; rfl, HX2.out⟩
          by_cases g2 : hi < (L2 : Int)
          · have HE1 := Lib.hid (HE1'.out (by rw [decide_eq_false (p := (L2 : Int) ≤ hi) (by omega)]; simp))
            clear hemt
            go_wp2_with fail
            go_ret
            exact ⟨by rw [HE1.out]; rfl, HX2.out⟩
          by_cases g3 : op = 2
          · subst g3
            clear hemt
            by_cases g4 : 64 < tx.size
            · have HE1 := Lib.hid (HE1'.out (by rw [decide_eq_false (p := tx.size ≤ 64) (by omega)]; simp))
              go_wp2_with fail
              go_ret
              exact ⟨by rw [HE1.out]; rfl, HX2.out⟩
            · have HBD : Hid ((decide (lowA c.2.1 ≤ c.2.2.1.length) && decide ((c.2.2.1.length : Int) ≤ highA c.2.1) && (decide (c.2.1 = 2) || decide (c.2.2.2.size = 0)) && decide (c.2.2.2.size ≤ 64)) = true) := Lib.hid (by
                rw [← HOP.out, ← HTX.out, ← HL2.out, HLO.out, HHI.out, decide_eq_true (by omega), decide_eq_true (by omega), decide_eq_true (p := tx.size ≤ 64) (by omega)]; simp)
              have HARG : Hid (∀ x ∈ c.2.2.1, x.size ≤ 9223372036854775807) := Lib.hid (strs_sized z3)
              go_upto_region 12 with (fail)

              go_wp2_with fail
              go_loopw [7] (fun q wr2 => ∃ j : Nat, q = .int .i64 j ∧ j ≤ L2 ∧ Hid (∀ t (ht : t < c.2.2.1.length), t < j → E.nameB c.2.2.1[t] = true) ∧ wr2 = W2) (fun q _ => L2 - (intOf q).toNat)
              case atStart => exact ⟨0, rfl, Nat.zero_le _, (fun t _ ht => absurd ht (Nat.not_lt_zero _)), rfl⟩
              case round =>
                obtain ⟨j, rfl, hj, HJ, hw⟩ := hrel
                subst W2
                by_cases hjl : j < L2
                · have hjl2 : j < c.2.2.1.length := by have := HL2.out; omega
                  obtain ⟨b2, off2, hA2e, hb2, e0, ez⟩ := str_get HZ3.out hjl2
                  subst hA2e
                  have HNM := Lib.hid (refName_any c.2.2.1[j] wr ez)
                  cases hnb : E.nameB c.2.2.1[j] with
                  | false =>
                    have HER2 : Hid (E.newErr cs = 1) := Lib.hid (by
                      refine err_of HER.out (v := 1) (by
                        rw [HCE.out, if_neg HNB.out, if_pos]
                        rw [formed_bounds]
                        have : c.2.2.1.all E.nameB = false := by
                          rw [Bool.eq_false_iff]
                          intro h
                          rw [List.all_eq_true] at h
                          rw [h _ (List.getElem_mem hjl2)] at hnb
                          cases hnb
                        rw [this]; rfl) (by decide))
                    rw [hnb] at HNM
                    clear hnb
                    generalize c.2.2.1[j] = x at *
                    go_wp2_with fail
                    refine HNM.out.mono ?_
                    rintro ed w5 ⟨rfl, rfl⟩
                    go_wp2_with fail
                    go_ret
                    exact ⟨by rw [HER2.out]; rfl, HX2.out⟩
                  | true =>
                    have HJ2 : Hid (∀ t (ht : t < c.2.2.1.length), t < j + 1 → E.nameB c.2.2.1[t] = true) := Lib.hid fun t ht htj => by
                      by_cases e : t = j
                      · subst e; exact hnb
                      · exact HJ.out t ht (by omega)
                    rw [hnb] at HNM
                    clear hnb
                    generalize c.2.2.1[j] = x at *
                    go_wp2_with fail
                    refine HNM.out.mono ?_
                    rintro ed w5 ⟨rfl, rfl⟩
                    go_wp2_with fail
                    go_roundw
                    case rel => exact ⟨j + 1, by go_num, by omega, HJ2, trivial⟩
                    case measure => simp [intOf]; omega
                · have HFB : Hid (E.formedB c = true) := Lib.hid (by
                    rw [formed_bounds, HBD.out, Bool.and_true, List.all_eq_true]
                    intro x hx
                    obtain ⟨t, ht, rfl⟩ := List.getElem_of_mem hx
                    exact HJ.out t ht (by have := HL2.out; omega))
                  clear HJ
                  go_wp2_with fail
                  go_loopw [8] (fun q wr3 => ∃ t : Nat, q = .int .i64 t ∧ t ≤ k ∧ Hid (∀ r (hr : r < cs.length), r < t → cs[r].1 ≠ c.1) ∧ Hid (Ext wr wr3)) (fun q _ => k - (intOf q).toNat)
                  case atStart => exact ⟨0, rfl, Nat.zero_le _, (fun r _ hr => absurd hr (Nat.not_lt_zero _)), Ext.refl _⟩
                  case round =>
                    obtain ⟨t, rfl, ht, HT, hw⟩ := hrel
                    have HX3 := Lib.hid (HX2.out.trans hw.out)
                    have q0' := hw.out.keepc q0
                    clear q0 q1 q2 q3
                    have q0 := q0'
                    clear q0'
                    by_cases htk : t < k
                    · have htl : t < cs.length := by have := HN.out; omega
                      obtain ⟨b3, off3, A3, k3, hA3e, hb3, f0, f1, f2, f3, y1, y2, y3, y4⟩ := cell_get (HA.out.ext HX3.out) htl
                      obtain ⟨rfl, rfl⟩ : b = b3 ∧ off = off3 := by
                        injection hA3e with e
                        injection e with e1 e2
                        exact ⟨e1, e2⟩
                      clear f1 f2 f3 y2 y3 y4 hA3e
                      by_cases he : cs[t].1 = c.1
                      · have HER2 : Hid (E.newErr cs = 6) := Lib.hid (by
                          refine err_of HER.out (v := 6) (by
                            rw [HCE.out, if_neg HNB.out, if_neg (by rw [HFB.out]; decide), if_pos]
                            rw [E.has_iff]
                            exact List.mem_map.2 ⟨cs[t], List.mem_take_iff_getElem.2 ⟨t, by omega, rfl⟩, he⟩) (by decide))
                        have e1 : (cs[t].1.toList == c.1.toList) = true := by rw [he]; simp
                        clear he
                        generalize cs[t].1 = x at *
                        go_upto_region 20 with (fail)
                        go_quiet (fail)
                        go_wp2_with fail
                        go_ret
                        exact ⟨by rw [HER2.out]; rfl, HX3.out.drewN _⟩
                      · have e1 : (cs[t].1.toList == c.1.toList) = false := by
                          rw [beq_eq_false_iff_ne, ByteArray.toList_eq, ByteArray.toList_eq]
                          exact fun e => he (bytes_inj e)
                        have HT2 : Hid (∀ r (hr : r < cs.length), r < t + 1 → cs[r].1 ≠ c.1) := Lib.hid fun r hr hrt => by
                          by_cases e : r = t
                          · subst e; exact he
                          · exact HT.out r hr (by omega)
                        clear he
                        generalize cs[t].1 = x at *
                        go_upto_region 20 with (fail)
                        go_quiet (fail)
                        go_wp2_with fail
                        go_roundw
                        case rel => exact ⟨t + 1, by go_num, by omega, HT2, Lib.hid (hw.out.drewN _)⟩
                        case measure => simp [intOf]; omega
                    · have hkt : t = k := by omega
                      subst hkt
                      have HER2 : Hid (E.newErr cs = E.newE (cs.take (t + 1)) (cs.drop (t + 1))) := Lib.hid (by
                        refine err_on HER.out (by
                          rw [HCE.out, if_neg HNB.out, if_neg (by rw [HFB.out]; decide), if_neg]
                          intro h
                          rw [E.has_iff] at h
                          obtain ⟨c', hc', he⟩ := List.mem_map.1 h
                          obtain ⟨r, hr, rfl⟩ := List.mem_take_iff_getElem.1 hc'
                          exact HT.out r (by omega) (by omega) he))
                      go_wp2_with fail
                      go_roundw
                      case rel => exact ⟨t + 1, by go_num, by omega, HER2, HX3.out⟩
                      case measure => simp [intOf]; omega
          · have g3' : (op == 2) = false := by rw [beq_eq_false_iff_ne]; exact g3
            by_cases g5 : tx.size = 0
            · have hem : tx.toList.isEmpty = true := by rw [hemt, decide_eq_true g5]
              have g4 : ¬ (64 < tx.size) := by omega
              have HBD : Hid ((decide (lowA c.2.1 ≤ c.2.2.1.length) && decide ((c.2.2.1.length : Int) ≤ highA c.2.1) && (decide (c.2.1 = 2) || decide (c.2.2.2.size = 0)) && decide (c.2.2.2.size ≤ 64)) = true) := Lib.hid (by
                rw [← HOP.out, ← HTX.out, ← HL2.out, HLO.out, HHI.out, decide_eq_true (by omega), decide_eq_true (by omega), decide_eq_true (p := tx.size = 0) g5, decide_eq_true (p := tx.size ≤ 64) (by omega)]; simp)
              clear hemt g5
              have HARG : Hid (∀ x ∈ c.2.2.1, x.size ≤ 9223372036854775807) := Lib.hid (strs_sized z3)
              go_upto_region 12 with (fail)

              go_wp2_with fail
              go_loopw [7] (fun q wr2 => ∃ j : Nat, q = .int .i64 j ∧ j ≤ L2 ∧ Hid (∀ t (ht : t < c.2.2.1.length), t < j → E.nameB c.2.2.1[t] = true) ∧ wr2 = W2) (fun q _ => L2 - (intOf q).toNat)
              case atStart => exact ⟨0, rfl, Nat.zero_le _, (fun t _ ht => absurd ht (Nat.not_lt_zero _)), rfl⟩
              case round =>
                obtain ⟨j, rfl, hj, HJ, hw⟩ := hrel
                subst W2
                by_cases hjl : j < L2
                · have hjl2 : j < c.2.2.1.length := by have := HL2.out; omega
                  obtain ⟨b2, off2, hA2e, hb2, e0, ez⟩ := str_get HZ3.out hjl2
                  subst hA2e
                  have HNM := Lib.hid (refName_any c.2.2.1[j] wr ez)
                  cases hnb : E.nameB c.2.2.1[j] with
                  | false =>
                    have HER2 : Hid (E.newErr cs = 1) := Lib.hid (by
                      refine err_of HER.out (v := 1) (by
                        rw [HCE.out, if_neg HNB.out, if_pos]
                        rw [formed_bounds]
                        have : c.2.2.1.all E.nameB = false := by
                          rw [Bool.eq_false_iff]
                          intro h
                          rw [List.all_eq_true] at h
                          rw [h _ (List.getElem_mem hjl2)] at hnb
                          cases hnb
                        rw [this]; rfl) (by decide))
                    rw [hnb] at HNM
                    clear hnb
                    generalize c.2.2.1[j] = x at *
                    go_wp2_with fail
                    refine HNM.out.mono ?_
                    rintro ed w5 ⟨rfl, rfl⟩
                    go_wp2_with fail
                    go_ret
                    exact ⟨by rw [HER2.out]; rfl, HX2.out⟩
                  | true =>
                    have HJ2 : Hid (∀ t (ht : t < c.2.2.1.length), t < j + 1 → E.nameB c.2.2.1[t] = true) := Lib.hid fun t ht htj => by
                      by_cases e : t = j
                      · subst e; exact hnb
                      · exact HJ.out t ht (by omega)
                    rw [hnb] at HNM
                    clear hnb
                    generalize c.2.2.1[j] = x at *
                    go_wp2_with fail
                    refine HNM.out.mono ?_
                    rintro ed w5 ⟨rfl, rfl⟩
                    go_wp2_with fail
                    go_roundw
                    case rel => exact ⟨j + 1, by go_num, by omega, HJ2, trivial⟩
                    case measure => simp [intOf]; omega
                · have HFB : Hid (E.formedB c = true) := Lib.hid (by
                    rw [formed_bounds, HBD.out, Bool.and_true, List.all_eq_true]
                    intro x hx
                    obtain ⟨t, ht, rfl⟩ := List.getElem_of_mem hx
                    exact HJ.out t ht (by have := HL2.out; omega))
                  clear HJ
                  go_wp2_with fail
                  go_loopw [8] (fun q wr3 => ∃ t : Nat, q = .int .i64 t ∧ t ≤ k ∧ Hid (∀ r (hr : r < cs.length), r < t → cs[r].1 ≠ c.1) ∧ Hid (Ext wr wr3)) (fun q _ => k - (intOf q).toNat)
                  case atStart => exact ⟨0, rfl, Nat.zero_le _, (fun r _ hr => absurd hr (Nat.not_lt_zero _)), Ext.refl _⟩
                  case round =>
                    obtain ⟨t, rfl, ht, HT, hw⟩ := hrel
                    have HX3 := Lib.hid (HX2.out.trans hw.out)
                    have q0' := hw.out.keepc q0
                    clear q0 q1 q2 q3
                    have q0 := q0'
                    clear q0'
                    by_cases htk : t < k
                    · have htl : t < cs.length := by have := HN.out; omega
                      obtain ⟨b3, off3, A3, k3, hA3e, hb3, f0, f1, f2, f3, y1, y2, y3, y4⟩ := cell_get (HA.out.ext HX3.out) htl
                      obtain ⟨rfl, rfl⟩ : b = b3 ∧ off = off3 := by
                        injection hA3e with e
                        injection e with e1 e2
                        exact ⟨e1, e2⟩
                      clear f1 f2 f3 y2 y3 y4 hA3e
                      by_cases he : cs[t].1 = c.1
                      · have HER2 : Hid (E.newErr cs = 6) := Lib.hid (by
                          refine err_of HER.out (v := 6) (by
                            rw [HCE.out, if_neg HNB.out, if_neg (by rw [HFB.out]; decide), if_pos]
                            rw [E.has_iff]
                            exact List.mem_map.2 ⟨cs[t], List.mem_take_iff_getElem.2 ⟨t, by omega, rfl⟩, he⟩) (by decide))
                        have e1 : (cs[t].1.toList == c.1.toList) = true := by rw [he]; simp
                        clear he
                        generalize cs[t].1 = x at *
                        go_upto_region 20 with (fail)
                        go_quiet (fail)
                        go_wp2_with fail
                        go_ret
                        exact ⟨by rw [HER2.out]; rfl, HX3.out.drewN _⟩
                      · have e1 : (cs[t].1.toList == c.1.toList) = false := by
                          rw [beq_eq_false_iff_ne, ByteArray.toList_eq, ByteArray.toList_eq]
                          exact fun e => he (bytes_inj e)
                        have HT2 : Hid (∀ r (hr : r < cs.length), r < t + 1 → cs[r].1 ≠ c.1) := Lib.hid fun r hr hrt => by
                          by_cases e : r = t
                          · subst e; exact he
                          · exact HT.out r hr (by omega)
                        clear he
                        generalize cs[t].1 = x at *
                        go_upto_region 20 with (fail)
                        go_quiet (fail)
                        go_wp2_with fail
                        go_roundw
                        case rel => exact ⟨t + 1, by go_num, by omega, HT2, Lib.hid (hw.out.drewN _)⟩
                        case measure => simp [intOf]; omega
                    · have hkt : t = k := by omega
                      subst hkt
                      have HER2 : Hid (E.newErr cs = E.newE (cs.take (t + 1)) (cs.drop (t + 1))) := Lib.hid (by
                        refine err_on HER.out (by
                          rw [HCE.out, if_neg HNB.out, if_neg (by rw [HFB.out]; decide), if_neg]
                          intro h
                          rw [E.has_iff] at h
                          obtain ⟨c', hc', he⟩ := List.mem_map.1 h
                          obtain ⟨r, hr, rfl⟩ := List.mem_take_iff_getElem.1 hc'
                          exact HT.out r (by omega) (by omega) he))
                      go_wp2_with fail
                      go_roundw
                      case rel => exact ⟨t + 1, by go_num, by omega, HER2, HX3.out⟩
                      case measure => simp [intOf]; omega
            · have hem : tx.toList.isEmpty = false := by rw [hemt, decide_eq_false g5]
              have HE1 := Lib.hid (HE1'.out (by rw [decide_eq_false g3, decide_eq_false g5]; simp))
              clear hemt g5
              go_wp2_with fail
              go_ret
              exact ⟨by rw [HE1.out]; rfl, HX2.out⟩
      · have hkn : k = n := by omega
        have hd : cs.drop k = [] := List.drop_eq_nil_of_le (by have := HN.out; omega)
        have HE0 : Hid (E.newErr cs = 0) := Lib.hid (by rw [hE.out, hd]; rfl)
        clear hd
        go_wp2_with fail
        go_ret
        exact ⟨by rw [HE0.out]; rfl, hX⟩
end Go.Proofs.YtkeaoejgboefbaaGreatDoor

/- The reference's engine in memory. -/
namespace Go.Proofs.YtkeaoejgboefbaaGreatDoor
open Go.RowKit Go.Maps

def nmAt (cs : List E.Cell) (i : Nat) : ByteArray := match cs[i]? with
  | some c => c.1
  | none => ⟨#[]⟩
theorem nmAt_get {cs : List E.Cell} {i : Nat} (h : i < cs.length) : nmAt cs i = cs[i].1 := by unfold nmAt; rw [List.getElem?_eq_getElem h]
/-- A row of values. -/
def VRow (w : World) (b o n : Nat) (v : Nat → E.V) : Prop := ∃ cs, w.heap[b]? = some (.cells cs 82 (0, 0)) ∧ ∀ i, i < n → cs[o + i * 2]? = some (.string ((v i).getD ⟨#[]⟩)) ∧ cs[o + i * 2 + 1]? = some (.bool (v i).isSome)
theorem VRow.lt {w : World} {b o n : Nat} {v : Nat → E.V} (h : VRow w b o n v) : b < w.heap.size := by obtain ⟨cs, h1, _⟩ := h; exact (Array.getElem?_eq_some_iff.1 h1).1
theorem VRow.frozen {w : World} {b o n : Nat} {v : Nat → E.V} (h : VRow w b o n v) (i : Nat) : w.frozen? ⟨b, i, none⟩ = false := by obtain ⟨cs, h1, _⟩ := h; exact Lib.frozen_of_heap h1 i
theorem VRow.cells {w : World} {b o n : Nat} {v : Nat → E.V} (h : VRow w b o n v) {i : Nat} (hi : i < n) : w.cell? ⟨b, o + i * 2, none⟩ = some (.string ((v i).getD ⟨#[]⟩)) ∧ w.cell? ⟨b, o + i * 2 + 1, none⟩ = some (.bool (v i).isSome) := by
  obtain ⟨cs, h1, h2⟩ := h
  rw [cell_of_row w b _ _ _ _ h1, cell_of_row w b _ _ _ _ h1]
  exact h2 i hi
theorem VRow.tch {w w' : World} {b o n : Nat} {v : Nat → E.V} {X : Nat → Prop} (h : VRow w b o n v) (ht : Tch X w w') (hx : ¬ X b) : VRow w' b o n v := by
  have hl := h.lt
  obtain ⟨cs, h1, h2⟩ := h
  exact ⟨cs, (ht.block b hl hx).trans h1, h2⟩
theorem VRow.congr {w : World} {b o n : Nat} {v u : Nat → E.V} (h : VRow w b o n v) (hu : ∀ i, i < n → u i = v i) : VRow w b o n u := by
  obtain ⟨cs, h1, h2⟩ := h
  exact ⟨cs, h1, fun i hi => by rw [hu i hi]; exact h2 i hi⟩
theorem VRow.set {w : World} {b o n : Nat} {v : Nat → E.V} (h : VRow w b o n v) {i : Nat} (hi : i < n) (x : E.V) : VRow ((w.setCell ⟨b, o + i * 2, none⟩ (.string (x.getD ⟨#[]⟩))).setCell ⟨b, o + i * 2 + 1, none⟩ (.bool x.isSome)) b o n fun j => if j = i then x else v j := by
  obtain ⟨cs, h1, h2⟩ := h
  refine ⟨_, heap_setCell_cells (heap_setCell_cells h1 _ _) _ _, fun j hj => ?_⟩
  obtain ⟨e1, e2⟩ := h2 i hi
  obtain ⟨d1, d2⟩ := h2 j hj
  have l1 := (Array.getElem?_eq_some_iff.1 e1).1
  have l2 := (Array.getElem?_eq_some_iff.1 e2).1
  show _ = some (Value.string ((if j = i then x else v j).getD ⟨#[]⟩)) ∧ _ = some (Value.bool (if j = i then x else v j).isSome)
  by_cases e : j = i
  · subst e
    rw [if_pos rfl]
    constructor
    · rw [Array.getElem?_setIfInBounds, if_neg (by omega), Array.getElem?_setIfInBounds, if_pos rfl, if_pos l1]
    · rw [Array.getElem?_setIfInBounds, if_pos rfl, if_pos (by simpa using l2)]
  · rw [if_neg e]
    constructor
    · rw [Array.getElem?_setIfInBounds, if_neg (by omega), Array.getElem?_setIfInBounds, if_neg (by omega)]; exact d1
    · rw [Array.getElem?_setIfInBounds, if_neg (by omega), Array.getElem?_setIfInBounds, if_neg (by omega)]; exact d2
/-- A memo's cells. -/
def MOk (w : World) (S : Nat → Prop) (wk : Bool) (us : List Value) : Option E.Memo → Prop
  | none => us = [.bool false, .int .i64 0, .string ⟨#[]⟩, .bool false, .slice none 0 0, .bool wk]
  | some m => (m.res.getD ⟨#[]⟩).size ≤ 65536 ∧ m.reads.length ≤ 100 ∧ m.at' < 4000000000000000000 ∧ ∃ A k, us = [.bool true, .int .i64 m.at', .string (m.res.getD ⟨#[]⟩), .bool m.res.isSome, .slice A m.reads.length k, .bool wk] ∧ SliceAt readR w S A k m.reads
theorem MOk.tch {w w' : World} {S S' X : Nat → Prop} {wk : Bool} {us : List Value} {m : Option E.Memo} (h : MOk w S wk us m) (ht : Tch X w w') (hS : ∀ k, S k → k < w.heap.size ∧ ¬ X k) (hS2 : ∀ k, S k → S' k) : MOk w' S' wk us m := by
  cases m with
  | none => exact h
  | some m =>
    obtain ⟨h1, h2, h3, A, k, h4, h5⟩ := h
    exact ⟨h1, h2, h3, A, k, h4, (h5.tch ht hS).keep hS2 fun _ _ => rfl⟩
def MRow (w : World) (S : Nat → Prop) (b o n : Nat) (ms : Nat → Option E.Memo) (wk : Nat → Bool) : Prop := ∃ cs, w.heap[b]? = some (.cells cs 119 (0, 0)) ∧ ∀ i, i < n → ∃ us, MOk w S (wk i) us (ms i) ∧ us.length = 6 ∧ ∀ j, j < 6 → cs[o + i * 6 + j]? = us[j]?
theorem MRow.lt {w : World} {S : Nat → Prop} {b o n : Nat} {ms : Nat → Option E.Memo} {wk : Nat → Bool} (h : MRow w S b o n ms wk) : b < w.heap.size := by obtain ⟨cs, h1, _⟩ := h; exact (Array.getElem?_eq_some_iff.1 h1).1
theorem MRow.frozen {w : World} {S : Nat → Prop} {b o n : Nat} {ms : Nat → Option E.Memo} {wk : Nat → Bool} (h : MRow w S b o n ms wk) (i : Nat) : w.frozen? ⟨b, i, none⟩ = false := by obtain ⟨cs, h1, _⟩ := h; exact Lib.frozen_of_heap h1 i
theorem MRow.cells {w : World} {S : Nat → Prop} {b o n : Nat} {ms : Nat → Option E.Memo} {wk : Nat → Bool} (h : MRow w S b o n ms wk) {i : Nat} (hi : i < n) : ∃ us, MOk w S (wk i) us (ms i) ∧ us.length = 6 ∧ ∀ j, j < 6 → w.cell? ⟨b, o + i * 6 + j, none⟩ = us[j]? := by
  obtain ⟨cs, h1, h2⟩ := h
  obtain ⟨us, h3, h4, h5⟩ := h2 i hi
  exact ⟨us, h3, h4, fun j hj => by rw [cell_of_row w b _ _ _ _ h1]; exact h5 j hj⟩
theorem MRow.tch {w w' : World} {S S' X : Nat → Prop} {b o n : Nat} {ms : Nat → Option E.Memo} {wk : Nat → Bool} (h : MRow w S b o n ms wk) (ht : Tch X w w') (hx : ¬ X b) (hS : ∀ k, S k → k < w.heap.size ∧ ¬ X k) (hS2 : ∀ k, S k → S' k) : MRow w' S' b o n ms wk := by
  have hl := h.lt
  obtain ⟨cs, h1, h2⟩ := h
  refine ⟨cs, (ht.block b hl hx).trans h1, fun i hi => ?_⟩
  obtain ⟨us, h3, h4, h5⟩ := h2 i hi
  exact ⟨us, h3.tch ht hS hS2, h4, h5⟩
theorem MRow.congr {w : World} {S : Nat → Prop} {b o n : Nat} {ms ms' : Nat → Option E.Memo} {wk wk' : Nat → Bool} (h : MRow w S b o n ms wk) (h1 : ∀ i, i < n → ms' i = ms i) (h2 : ∀ i, i < n → wk' i = wk i) : MRow w S b o n ms' wk' := by
  obtain ⟨cs, e1, e2⟩ := h
  exact ⟨cs, e1, fun i hi => by rw [h1 i hi, h2 i hi]; exact e2 i hi⟩
/-- The reference's engine: its row. -/
def RRow (w : World) (g o : Nat) (pr : Nat → Option Value) (A : Option Addr) (n kc bv ov cv bm om cm : Nat) (rev cnt fault : Int) : Prop := ∃ cs t, w.heap[g]? = some (.cells cs t (0, 0)) ∧ cs[o]? = some (.slice A n kc) ∧ cs[o + 1]? = some (.slice (some ⟨bv, ov, none⟩) n cv) ∧ cs[o + 2]? = some (.slice (some ⟨bm, om, none⟩) n cm) ∧ cs[o + 3]? = some (.int .i64 rev) ∧ cs[o + 4]? = some (.int .i64 cnt) ∧ cs[o + 5]? = some (.int .i64 fault) ∧ ∀ i, i < o → cs[i]? = pr i
section
variable {w w' : World} {g o : Nat} {pr : Nat → Option Value} {A : Option Addr} {n kc bv ov cv bm om cm : Nat} {rev cnt fault : Int}
theorem RRow.lt (h : RRow w g o pr A n kc bv ov cv bm om cm rev cnt fault) : g < w.heap.size := by obtain ⟨cs, t, h1, _⟩ := h; exact (Array.getElem?_eq_some_iff.1 h1).1
theorem RRow.frozen (h : RRow w g o pr A n kc bv ov cv bm om cm rev cnt fault) (i : Nat) : w.frozen? ⟨g, i, none⟩ = false := by obtain ⟨cs, t, h1, _⟩ := h; exact Lib.frozen_of_heap h1 i
theorem RRow.tch {X : Nat → Prop} (h : RRow w g o pr A n kc bv ov cv bm om cm rev cnt fault) (ht : Tch X w w') (hx : ¬ X g) : RRow w' g o pr A n kc bv ov cv bm om cm rev cnt fault := by
  have hl := h.lt
  obtain ⟨cs, t, h1, h2⟩ := h
  exact ⟨cs, t, (ht.block g hl hx).trans h1, h2⟩
theorem RRow.cells (h : RRow w g o pr A n kc bv ov cv bm om cm rev cnt fault) : w.cell? ⟨g, o, none⟩ = some (.slice A n kc) ∧ w.cell? ⟨g, o + 1, none⟩ = some (.slice (some ⟨bv, ov, none⟩) n cv) ∧ w.cell? ⟨g, o + 2, none⟩ = some (.slice (some ⟨bm, om, none⟩) n cm) ∧ w.cell? ⟨g, o + 3, none⟩ = some (.int .i64 rev) ∧ w.cell? ⟨g, o + 4, none⟩ = some (.int .i64 cnt) ∧ w.cell? ⟨g, o + 5, none⟩ = some (.int .i64 fault) := by
  obtain ⟨cs, t, h1, h2, h3, h4, h5, h6, h7, _⟩ := h
  refine ⟨?_, ?_, ?_, ?_, ?_, ?_⟩ <;> rw [cell_of_row w g _ _ _ _ h1] <;> assumption
theorem RRow.pre (h : RRow w g o pr A n kc bv ov cv bm om cm rev cnt fault) {i : Nat} (hi : i < o) : w.cell? ⟨g, i, none⟩ = pr i := by
  obtain ⟨cs, t, h1, _, _, _, _, _, _, h8⟩ := h
  rw [cell_of_row w g _ _ _ _ h1]
  exact h8 i hi
theorem RRow.setRev (h : RRow w g o pr A n kc bv ov cv bm om cm rev cnt fault) (x : Int) : RRow (w.setCell ⟨g, o + 3, none⟩ (.int .i64 x)) g o pr A n kc bv ov cv bm om cm x cnt fault := by
  obtain ⟨cs, t, h1, h2, h3, h4, h5, h6, h7, h8⟩ := h
  have l := (Array.getElem?_eq_some_iff.1 h5).1
  refine ⟨_, t, heap_setCell_cells h1 _ _, ?_, ?_, ?_, ?_, ?_, ?_, fun i hi => ?_⟩ <;> rw [Array.getElem?_setIfInBounds]
  · rw [if_neg (by omega)]; exact h2
  · rw [if_neg (by omega)]; exact h3
  · rw [if_neg (by omega)]; exact h4
  · rw [if_pos rfl, if_pos l]
  · rw [if_neg (by omega)]; exact h6
  · rw [if_neg (by omega)]; exact h7
  · rw [if_neg (by omega)]; exact h8 i hi
theorem RRow.setCnt (h : RRow w g o pr A n kc bv ov cv bm om cm rev cnt fault) (x : Int) : RRow (w.setCell ⟨g, o + 4, none⟩ (.int .i64 x)) g o pr A n kc bv ov cv bm om cm rev x fault := by
  obtain ⟨cs, t, h1, h2, h3, h4, h5, h6, h7, h8⟩ := h
  have l := (Array.getElem?_eq_some_iff.1 h6).1
  refine ⟨_, t, heap_setCell_cells h1 _ _, ?_, ?_, ?_, ?_, ?_, ?_, fun i hi => ?_⟩ <;> rw [Array.getElem?_setIfInBounds]
  · rw [if_neg (by omega)]; exact h2
  · rw [if_neg (by omega)]; exact h3
  · rw [if_neg (by omega)]; exact h4
  · rw [if_neg (by omega)]; exact h5
  · rw [if_pos rfl, if_pos l]
  · rw [if_neg (by omega)]; exact h7
  · rw [if_neg (by omega)]; exact h8 i hi
theorem RRow.setFault (h : RRow w g o pr A n kc bv ov cv bm om cm rev cnt fault) (x : Int) : RRow (w.setCell ⟨g, o + 5, none⟩ (.int .i64 x)) g o pr A n kc bv ov cv bm om cm rev cnt x := by
  obtain ⟨cs, t, h1, h2, h3, h4, h5, h6, h7, h8⟩ := h
  have l := (Array.getElem?_eq_some_iff.1 h7).1
  refine ⟨_, t, heap_setCell_cells h1 _ _, ?_, ?_, ?_, ?_, ?_, ?_, fun i hi => ?_⟩ <;> rw [Array.getElem?_setIfInBounds]
  · rw [if_neg (by omega)]; exact h2
  · rw [if_neg (by omega)]; exact h3
  · rw [if_neg (by omega)]; exact h4
  · rw [if_neg (by omega)]; exact h5
  · rw [if_neg (by omega)]; exact h6
  · rw [if_pos rfl, if_pos l]
  · rw [if_neg (by omega)]; exact h8 i hi
theorem RRow.setMemos (h : RRow w g o pr A n kc bv ov cv bm om cm rev cnt fault) (bm' om' cm' : Nat) : RRow (w.setCell ⟨g, o + 2, none⟩ (.slice (some ⟨bm', om', none⟩) n cm')) g o pr A n kc bv ov cv bm' om' cm' rev cnt fault := by
  obtain ⟨cs, t, h1, h2, h3, h4, h5, h6, h7, h8⟩ := h
  have l := (Array.getElem?_eq_some_iff.1 h4).1
  refine ⟨_, t, heap_setCell_cells h1 _ _, ?_, ?_, ?_, ?_, ?_, ?_, fun i hi => ?_⟩ <;> rw [Array.getElem?_setIfInBounds]
  · rw [if_neg (by omega)]; exact h2
  · rw [if_neg (by omega)]; exact h3
  · rw [if_pos rfl, if_pos l]
  · rw [if_neg (by omega)]; exact h5
  · rw [if_neg (by omega)]; exact h6
  · rw [if_neg (by omega)]; exact h7
  · rw [if_neg (by omega)]; exact h8 i hi
end
/-- The reference's engine. P: where it lies. -/
structure Plc where
  g : Nat
  o : Nat
  pr : Nat → Option Value
  A : Option Addr
  kc : Nat
  bv : Nat
  ov : Nat
  cv : Nat
  bm : Nat
  om : Nat
  cm : Nat
structure RefAt (w : World) (S : Nat → Prop) (p : Plc) (d : Nat) (fault : Int) (opn : List ByteArray) (e : E.En) : Prop where
  row : RRow w p.g p.o p.pr p.A e.cells.length p.kc p.bv p.ov p.cv p.bm p.om p.cm e.rev ((e.st.cnt : Int) + d) fault
  args : SliceAt cellR w S p.A p.kc e.cells
  vals : VRow w p.bv p.ov e.cells.length fun i => e.vals (nmAt e.cells i)
  memos : MRow w S p.bm p.om e.cells.length (fun i => e.st.ms (nmAt e.cells i)) fun i => E.has opn (nmAt e.cells i)
  caps : e.cells.length ≤ p.cv ∧ e.cells.length ≤ p.cm
  ne : p.g ≠ p.bv ∧ p.g ≠ p.bm ∧ p.bv ≠ p.bm
  out : ¬ S p.g ∧ ¬ S p.bv ∧ ¬ S p.bm
  lt : ∀ k, S k → k < w.heap.size
theorem RefAt.tch {w w' : World} {S X : Nat → Prop} {p : Plc} {d : Nat} {fault : Int} {opn : List ByteArray} {e : E.En} (h : RefAt w S p d fault opn e) (ht : Tch X w w') (hX : ∀ k, X k → k ≠ p.g ∧ k ≠ p.bv ∧ k ≠ p.bm ∧ ¬ S k) : RefAt w' S p d fault opn e where
  row := h.row.tch ht fun hx => (hX _ hx).1 rfl
  args := h.args.tch ht fun k hk => ⟨h.lt k hk, fun hx => (hX _ hx).2.2.2 hk⟩
  vals := h.vals.tch ht fun hx => (hX _ hx).2.1 rfl
  memos := h.memos.tch ht (fun hx => (hX _ hx).2.2.1 rfl) (fun k hk => ⟨h.lt k hk, fun hx => (hX _ hx).2.2.2 hk⟩) fun _ hk => hk
  caps := h.caps
  ne := h.ne
  out := h.out
  lt := fun k hk => Nat.lt_of_lt_of_le (h.lt k hk) ht.size
theorem RefAt.ext {w w' : World} {S : Nat → Prop} {p : Plc} {d : Nat} {fault : Int} {opn : List ByteArray} {e : E.En} (h : RefAt w S p d fault opn e) (he : Ext w w') : RefAt w' S p d fault opn e := h.tch (he.tch fun _ => False) fun _ h => h.elim
end Go.Proofs.YtkeaoejgboefbaaGreatDoor

/- The reference's Set and Clear. -/
namespace Go.Proofs.YtkeaoejgboefbaaGreatDoor
open Go.RowKit Go.Maps

/-- Two values of type Found are not the same; are the same. -/
theorem parts90 (w : World) (a c : ByteArray) (b d : Bool) : (Go.binOp .neq 82 (.agg #[.string a, .bool b]) (.agg #[.string c, .bool d])).run Tryz.prog w = .ok (.bool (!((a.toList == c.toList) && (b == d)))) w ∧ (Go.binOp .eql 82 (.agg #[.string a, .bool b]) (.agg #[.string c, .bool d])).run Tryz.prog w = .ok (.bool ((a.toList == c.toList) && (b == d))) w := by
  have h1 : Tryz.prog.underlying 82 = some (.struct (Tryz.prog.fieldsOf 82)) := by kernel_rfl
  have h2 : Tryz.prog.stoodInHeld 82 = false := by kernel_rfl
  have h9 : Tryz.prog.underlying 9 = some .string := by kernel_rfl
  have h4 : Tryz.prog.underlying 4 = some .bool := by kernel_rfl
  rw [run_neq_struct, run_eql_struct, run_equalIn_agg _ _ _ _ _ h1 h2]
  have hm : (Tryz.prog.fieldsOf 82).toList.map (fun f => (decide (f.name ≠ "_"), f.type, f.offset)) = [(true, 9, 0), (true, 4, 1)] := by kernel_rfl
  generalize (Tryz.prog.fieldsOf 82).toList = l at hm
  obtain ⟨f, l1, rfl, ef, hm1⟩ := List.map_eq_cons_iff.1 hm
  obtain ⟨g, l2, rfl, eg, hm2⟩ := List.map_eq_cons_iff.1 hm1
  have hl2 := List.map_eq_nil_iff.1 hm2
  subst hl2
  clear hm hm1 hm2
  simp only [Prod.mk.injEq] at ef eg
  obtain ⟨a1, a2, a3⟩ := ef
  obtain ⟨b1, b2, b3⟩ := eg
  have a1' := of_decide_eq_true a1
  have b1' := of_decide_eq_true b1
  have hp : ∀ (x : ByteArray) (y : Bool), (part 9 #[.string x, .bool y] 0).run Tryz.prog w = .ok (.string x) w ∧ (part 4 #[.string x, .bool y] 1).run Tryz.prog w = .ok (.bool y) w := fun x y => ⟨by simp [part], by simp [part]⟩
  have hs := fun (d : Nat) (x y : ByteArray) => run_equalIn_string (P := Tryz.prog) w d 9 x y h9
  have hb := fun (d : Nat) (x y : Bool) => run_equalIn_bool (P := Tryz.prog) w d 4 x y h4
  cases hx : (a.toList == c.toList) <;> cases hy : (b == d) <;> simp [Op.eqFields, a1', a2, a3, b1', b2, b3, hp, hs, hb, hx, hy]
/-- Names stand once. -/
def Once (cs : List E.Cell) : Prop := ∀ i j, i < cs.length → j < cs.length → nmAt cs i = nmAt cs j → i = j
/-- A value is written, and the revision. -/
theorem RefAt.changed {w : World} {S : Nat → Prop} {p : Plc} {d : Nat} {fault : Int} {opn : List ByteArray} {e : E.En} (h : RefAt w S p d fault opn e) (hd : Once e.cells) {i : Nat} (hi : i < e.cells.length) {v : E.V} (hv : e.vals (nmAt e.cells i) ≠ v) {x y : Value} (hx : x = .string (v.getD ⟨#[]⟩)) (hy : y = .bool v.isSome) :
    RefAt (((w.setCell ⟨p.bv, p.ov + i * 2, none⟩ x).setCell ⟨p.bv, p.ov + i * 2 + 1, none⟩ y).setCell ⟨p.g, p.o + 3, none⟩ (.int .i64 ((e.rev : Int) + 1))) S p d fault opn (E.change e (nmAt e.cells i) v) ∧
      Tch (fun k => k = p.g ∨ k = p.bv) w (((w.setCell ⟨p.bv, p.ov + i * 2, none⟩ x).setCell ⟨p.bv, p.ov + i * 2 + 1, none⟩ y).setCell ⟨p.g, p.o + 3, none⟩ (.int .i64 ((e.rev : Int) + 1))) := by
  subst hx
  subst hy
  obtain ⟨W1, hW1⟩ : ∃ W1, W1 = (w.setCell ⟨p.bv, p.ov + i * 2, none⟩ (.string (v.getD ⟨#[]⟩))).setCell ⟨p.bv, p.ov + i * 2 + 1, none⟩ (.bool v.isSome) := ⟨_, rfl⟩
  rw [← hW1]
  have T1 : Tch (fun k => k = p.bv) w W1 := by rw [hW1]; exact ((Tch.refl (fun k => k = p.bv) w).setCell (p := ⟨p.bv, p.ov + i * 2, none⟩) (fun _ => rfl) _).setCell (p := ⟨p.bv, p.ov + i * 2 + 1, none⟩) (fun _ => rfl) _
  have T2 : Tch (fun k => k = p.g) W1 (W1.setCell ⟨p.g, p.o + 3, none⟩ (.int .i64 ((e.rev : Int) + 1))) := (Tch.refl (fun k => k = p.g) W1).setCell (p := ⟨p.g, p.o + 3, none⟩) (fun _ => rfl) _
  have T : Tch (fun k => k = p.g ∨ k = p.bv) w (W1.setCell ⟨p.g, p.o + 3, none⟩ (.int .i64 ((e.rev : Int) + 1))) := (T1.mono fun _ _ h => .inr h).trans' T2 fun _ _ h => .inl h
  obtain ⟨n1, n2, n3⟩ := h.ne
  obtain ⟨o1, o2, o3⟩ := h.out
  have hS : ∀ k, S k → k < w.heap.size ∧ ¬ (k = p.g ∨ k = p.bv) := fun k hk => ⟨h.lt k hk, by rintro (rfl | rfl) <;> contradiction⟩
  refine ⟨?_, T⟩
  have hvr := (h.vals.set hi v)
  rw [← hW1] at hvr
  unfold E.change
  rw [if_neg hv]
  refine ⟨(h.row.tch T1 fun e => n1 e).setRev _, h.args.tch T hS, (hvr.tch T2 fun e => n1 e.symm).congr fun j hj => ?_, h.memos.tch T (by rintro (e | e); exact n2 e.symm; exact n3 e.symm) hS fun _ hk => hk, h.caps, h.ne, h.out, fun k hk => Nat.lt_of_lt_of_le (h.lt k hk) T.size⟩
  show E.putV e.vals (nmAt e.cells i) v (nmAt e.cells j) = if j = i then v else e.vals (nmAt e.cells j)
  unfold E.putV
  by_cases hj2 : j = i
  · subst hj2; rw [if_pos rfl, if_pos rfl]
  · rw [if_neg fun h => hj2 (hd j i hj hi h), if_neg hj2]
/-- What Set and Clear answer. -/
def RetR (p : Plc) (ft x : Int) (e : E.En) (S : Nat → Prop) (w : World) (ed : Ending) (w' : World) : Prop := ed = .returned (.int .i64 x) ∧ RefAt w' S p 0 ft [] e ∧ Tch (fun k => k = p.g ∨ k = p.bv) w w'
set_option maxRecDepth 100000 in
set_option maxHeartbeats 2000000 in
theorem change_any {w : World} {S : Nat → Prop} {p : Plc} {e : E.En} {ft : Int} (h : RefAt w S p 0 ft [] e) (hd : Once e.cells) (hr : e.rev < 4000000000000000000) {i : Nat} (hi : i < e.cells.length) {v : E.V} (hz : e.cells.length ≤ 1000) :
    Calls Tryz.prog 46 #[.pointer (some ⟨p.g, p.o, none⟩), .int .i64 i, .agg #[.string (v.getD ⟨#[]⟩), .bool v.isSome]] w fun ed w' => ed = .returned (.tuple #[]) ∧ RefAt w' S p 0 ft [] (E.change e (nmAt e.cells i) v) ∧ Tch (fun k => k = p.g ∨ k = p.bv) w w' := by
  obtain ⟨W1, hW1⟩ : ∃ W1, W1 = w.alloc (.cells #[.string (v.getD ⟨#[]⟩), .bool v.isSome] 82) := ⟨_, rfl⟩
  have X1 : Ext w W1 := by rw [hW1]; exact (Ext.refl w).alloc _
  have K1 : Hid (W1.heap[w.heap.size]? = some (.cells #[.string (v.getD ⟨#[]⟩), .bool v.isSome] 82 (0, 0))) := Lib.hid (by rw [hW1]; exact heap_alloc_new w _)
  have HX1 := Lib.hid X1
  have HH := Lib.hid (h.ext X1)
  obtain ⟨c0, c1, c2, c3, c4, c5⟩ := HH.out.row.cells
  obtain ⟨v0, v1⟩ := HH.out.vals.cells hi
  have b0 : W1.cell? ⟨w.heap.size, 0, none⟩ = some (.string (v.getD ⟨#[]⟩)) := by rw [new_off K1.out]; rfl
  have b1 : W1.cell? ⟨w.heap.size, 1, none⟩ = some (.bool v.isSome) := by rw [new_off K1.out]; rfl
  obtain ⟨L, hL⟩ : ∃ L, L = e.cells.length := ⟨_, rfl⟩
  rw [← hL] at c1 hi
  have hzl : L ≤ 1000 := by rw [hL]; exact hz
  clear hz
  have HLL := Lib.hid hL
  have hfe := found_eq (e.vals (nmAt e.cells i)) v
  have hpt := fun W => (parts90 W ((e.vals (nmAt e.cells i)).getD ⟨#[]⟩) (v.getD ⟨#[]⟩) (e.vals (nmAt e.cells i)).isSome v.isSome).1
  rw [hfe] at hpt
  have HCH := Lib.hid (fun (w2 : World) (h2 : RefAt w2 S p 0 ft [] e) (hi2 : i < e.cells.length) (hv : e.vals (nmAt e.cells i) ≠ v) x y hx hy => h2.changed hd hi2 hv (x := x) (y := y) hx hy)
  have HEQ : Hid (e.vals (nmAt e.cells i) = v → E.change e (nmAt e.cells i) v = e) := Lib.hid fun h => by unfold E.change; rw [if_pos h]
  have HZE := Lib.hid (show e.rev = e.rev from rfl)
  generalize E.change e (nmAt e.cells i) v = e' at *
  by_cases hv : e.vals (nmAt e.cells i) = v
  · rw [decide_eq_true hv] at hpt
    have HE := Lib.hid (HEQ.out hv)
    clear hfe h hL X1 hv
    generalize (e.vals (nmAt e.cells i)).getD ⟨#[]⟩ = oa at *
    generalize (e.vals (nmAt e.cells i)).isSome = ob at *
    generalize v.getD ⟨#[]⟩ = na at *
    generalize v.isSome = nb at *
    go_enter Tryz.func46, Tryz.ntmps46
    go_upto_region 1 with (fail)
    rw [← hW1]
    clear hW1
    go_quiet (fail)
    go_wp2_with fail
    go_end0
    exact ⟨rfl, by rw [HE.out]; exact HH.out.ext ((Ext.refl W1).drewN _), (HX1.out.drewN _).tch _⟩
  · rw [decide_eq_false hv] at hpt
    have HV := Lib.hid hv
    clear hfe h hL X1 hv
    generalize hoa : (e.vals (nmAt e.cells i)).getD ⟨#[]⟩ = oa at *
    generalize hob : (e.vals (nmAt e.cells i)).isSome = ob at *
    generalize hna : v.getD ⟨#[]⟩ = na at *
    generalize hnb : v.isSome = nb at *
    have HNA := Lib.hid hna
    have HNB := Lib.hid hnb
    clear hoa hob hna hnb
    go_enter Tryz.func46, Tryz.ntmps46
    go_upto_region 1 with (fail)
    rw [← hW1]
    clear hW1
    go_quiet (fail)
    go_upto_region 2 with (fail)
    obtain ⟨W2, hW2⟩ : ∃ W2, W2 = W1.drewN nq := ⟨_, rfl⟩
    rw [← hW2]
    have HH2 : Hid (RefAt W2 S p 0 ft [] e) := Lib.hid (by rw [hW2]; exact HH.out.ext ((Ext.refl W1).drewN nq))
    have HX2 : Hid (Ext w W2) := Lib.hid (by rw [hW2]; exact HX1.out.drewN nq)
    have K2 : Hid (W2.heap[w.heap.size]? = some (.cells #[.string na, .bool nb] 82 (0, 0))) := Lib.hid (by rw [hW2]; exact K1.out)
    clear hW2 c0 c1 c2 c3 c4 c5 v0 v1 b0 b1
    obtain ⟨c0, c1, c2, c3, c4, c5⟩ := HH2.out.row.cells
    rw [← HLL.out] at c1
    have hi2 : i < e.cells.length := by rw [← HLL.out]; exact hi
    obtain ⟨v0, v1⟩ := HH2.out.vals.cells hi2
    have g0 := HH2.out.vals.frozen (p.ov + i * 2)
    have g1 := HH2.out.vals.frozen (p.ov + i * 2 + 1)
    obtain ⟨x0, hx0⟩ : ∃ x0, W2.cell? ⟨p.bv, p.ov + i * 2, none⟩ = some x0 := ⟨_, v0⟩
    obtain ⟨x1, hx1⟩ : ∃ x1, W2.cell? ⟨p.bv, p.ov + i * 2 + 1, none⟩ = some x1 := ⟨_, v1⟩
    have HC2 := Lib.hid (HCH.out W2 HH2.out hi2 HV.out (.string na) (.bool nb) rfl rfl)
    have HR3 := Lib.hid ((HH2.out.row.tch ((((Tch.refl (fun k => k = p.bv) W2).setCell (p := ⟨p.bv, p.ov + i * 2, none⟩) (fun _ => rfl) (.string na)).setCell (p := ⟨p.bv, p.ov + i * 2 + 1, none⟩) (fun _ => rfl) (.bool nb))) fun e => HH2.out.ne.1 e))
    clear v0 v1 hi2
    obtain ⟨Φ, hΦ⟩ : ∃ Φ : World → Prop, ∀ w', Φ w' ↔ (w'.cell? ⟨p.g, p.o + 1, none⟩ = some (.slice (some ⟨p.bv, p.ov, none⟩) L p.cv) ∧ w'.cell? ⟨w.heap.size, 0, none⟩ = some (.string na) ∧ w'.cell? ⟨w.heap.size, 1, none⟩ = some (.bool nb)) := ⟨_, fun _ => Iff.rfl⟩
    have h0 : Φ W2.drew := (hΦ _).2 ⟨c1, by show W2.cell? _ = _; rw [new_off K2.out]; rfl, by show W2.cell? _ = _; rw [new_off K2.out]; rfl⟩
    have fx0 : ∀ x : Lat Φ, x.w'.cell? ⟨p.g, p.o + 1, none⟩ = some (.slice (some ⟨p.bv, p.ov, none⟩) L p.cv) := fun x => ((hΦ _).1 x.h).1
    have fx1 : ∀ x : Lat Φ, x.w'.cell? ⟨w.heap.size, 0, none⟩ = some (.string na) := fun x => ((hΦ _).1 x.h).2.1
    have fx2 : ∀ x : Lat Φ, x.w'.cell? ⟨w.heap.size, 1, none⟩ = some (.bool nb) := fun x => ((hΦ _).1 x.h).2.2
    have hne1 := Lat.some h0
    clear hΦ
    refine wp_region_tail 7 [] Φ h0 (by kernel_rfl) (by kernel_rfl) (by kernel_rfl) ?_
    simp only [List.take_succ_cons, List.take_zero, List.drop_succ_cons, List.drop_zero]
    iterate 7 (refine lex_pure rfl rfl rfl ?_; intro K hK; go_big_quiet_op; go_big_quiet_on)
    refine lex_nil ?_
    clear fx0 fx1 fx2 hne1 h0
    have hx0' : W2.drew.cell? ⟨p.bv, p.ov + i * 2, none⟩ = some x0 := hx0
    have hx1' : W2.drew.cell? ⟨p.bv, p.ov + i * 2 + 1, none⟩ = some x1 := hx1
    have g0' : W2.drew.frozen? ⟨p.bv, p.ov + i * 2, none⟩ = false := g0
    have g1' : W2.drew.frozen? ⟨p.bv, p.ov + i * 2 + 1, none⟩ = false := g1
    go_upto_region 3 with (fail)
    obtain ⟨W3, hW3⟩ : ∃ W3, W3 = (W2.setCell ⟨p.bv, p.ov + i * 2, none⟩ (.string na)).setCell ⟨p.bv, p.ov + i * 2 + 1, none⟩ (.bool nb) := ⟨_, rfl⟩
    rw [← hW3] at HC2 HR3 ⊢
    have r3 : W3.drew.cell? ⟨p.g, p.o + 3, none⟩ = some (.int .i64 e.rev) := HR3.out.cells.2.2.2.1
    have r4 : W3.drew.frozen? ⟨p.g, p.o + 3, none⟩ = false := HR3.out.frozen (p.o + 3)
    have hrv : (e.rev : Int) < 4000000000000000000 := by omega
    have hrv0 : (0 : Int) ≤ (e.rev : Int) := Int.natCast_nonneg _
    clear hW3 hx0 hx1 hx0' hx1' g0 g1 g0' g1' c0 c1 c2 c3 c4 c5
    generalize hre : (e.rev : Int) = rv at *
    clear hre
    go_wp2_with fail
    go_end0
    exact ⟨rfl, HC2.out.1.ext (Ext.refl _).drew, (HX2.out.tch _).trans (HC2.out.2.trans ((Ext.refl _).drew.tch _))⟩
end Go.Proofs.YtkeaoejgboefbaaGreatDoor

/- The reference's Set and Clear. -/
namespace Go.Proofs.YtkeaoejgboefbaaGreatDoor
open Go.RowKit Go.Maps

set_option maxRecDepth 100000 in
set_option maxHeartbeats 2000000 in
theorem refSet_any {w : World} {S : Nat → Prop} {p : Plc} {e : E.En} {ft : Int} (h : RefAt w S p 0 ft [] e) (hd : Once e.cells) (hr : e.rev < 4000000000000000000) (hz : e.cells.length ≤ 1000) {n s : ByteArray} (hs : s.size ≤ 9223372036854775807) :
    Calls Tryz.prog 30 #[.pointer (some ⟨p.g, p.o, none⟩), .string n, .string s] w (RetR p ft (E.setE e n s).1 (E.setE e n s).2 S w) := by
  obtain ⟨y, hy⟩ : ∃ y, y = (E.setE e n s).1 := ⟨_, rfl⟩
  obtain ⟨e', he⟩ : ∃ e', e' = (E.setE e n s).2 := ⟨_, rfl⟩
  rw [← hy, ← he]
  have HY := Lib.hid hy
  have HE := Lib.hid he
  have HH := Lib.hid h
  obtain ⟨c0, c1, c2, c3, c4, c5⟩ := h.row.cells
  have HFI := Lib.hid (refFind_any c0 h.args rfl n)
  have HCH := Lib.hid (fun i (hi : i < e.cells.length) => change_any h hd hr hi (v := (some s)) hz)
  obtain ⟨L, hL⟩ : ∃ L, L = e.cells.length := ⟨_, rfl⟩
  rw [← hL] at c0 hz
  have HL := Lib.hid hL
  clear hy he h hL c1 c2 c3 c4 c5
  go_enter Tryz.func30, Tryz.ntmps30
  go_wp2_with fail
  refine HFI.out.mono ?_
  rintro ed w1 ⟨rfl, r, rfl, hf⟩
  rcases hf with ⟨hf, rfl⟩ | ⟨i, hi, hn1, hf, rfl, _⟩
  · have hin : E.inputB e n = false := by unfold E.inputB; rw [hf]
    have HYs : Hid (y = 7) := Lib.hid (by rw [HY.out]; unfold E.setE; rw [if_pos hin])
    have HEs : Hid (e' = e) := Lib.hid (by rw [HE.out]; unfold E.setE; rw [if_pos hin])
    clear hin hf
    go_wp2_with fail
    go_ret
    exact ⟨by rw [HYs.out]; rfl, by rw [HEs.out]; exact HH.out, Tch.refl _ _⟩
  · obtain ⟨b, off, A2, k2, hAe, hbb, d0, d1, d2, d3, z1, z2, z3, z4⟩ := cell_get HH.out.args hi
    rw [hAe] at c0
    have hiL : i < L := by rw [HL.out]; exact hi
    have HI := Lib.hid hi
    have hnm : nmAt e.cells i = n := by rw [nmAt_get hi]; exact hn1
    have HNM := Lib.hid hnm
    have HOP := Lib.hid (show E.inputB e n = (e.cells[i].2.1 == 1) by unfold E.inputB; rw [hf]; rfl)
    clear hAe d0 d2 d3 z1 z3 z4 hn1 hf hnm
    generalize e.cells[i].2.1 = op at *
    by_cases ho : op = 1
    · have hin : ¬ E.inputB e n = false := by rw [HOP.out, ho]; decide
      subst ho
      by_cases hbig : 65536 < s.size
      · have HYs : Hid (y = 10) := Lib.hid (by rw [HY.out]; unfold E.setE; rw [if_neg hin, if_pos hbig])
        have HEs : Hid (e' = e) := Lib.hid (by rw [HE.out]; unfold E.setE; rw [if_neg hin, if_pos hbig])
        clear hin
        go_wp2_with fail
        go_ret
        exact ⟨by rw [HYs.out]; rfl, by rw [HEs.out]; exact HH.out, Tch.refl _ _⟩
      · have HYs : Hid (y = 0) := Lib.hid (by rw [HY.out]; unfold E.setE; rw [if_neg hin, if_neg hbig])
        have HEs : Hid (e' = E.change e n (some s)) := Lib.hid (by rw [HE.out]; unfold E.setE; rw [if_neg hin, if_neg hbig])
        have HC2 := Lib.hid (HCH.out i HI.out)
        clear hin
        go_wp2_with fail
        refine HC2.out.mono ?_
        rintro ed w2 ⟨rfl, hr2, ht2⟩
        go_wp2_with fail
        go_ret
        exact ⟨by rw [HYs.out]; rfl, by rw [HEs.out, ← HNM.out]; exact hr2, ht2⟩
    · have hin : E.inputB e n = false := by rw [HOP.out]; simpa using ho
      have hb1 : (op != 1) = true := by simpa using ho
      have HYs : Hid (y = 7) := Lib.hid (by rw [HY.out]; unfold E.setE; rw [if_pos hin])
      have HEs : Hid (e' = e) := Lib.hid (by rw [HE.out]; unfold E.setE; rw [if_pos hin])
      clear hin
      go_wp2_with fail
      go_ret
      exact ⟨by rw [HYs.out]; rfl, by rw [HEs.out]; exact HH.out, Tch.refl _ _⟩
set_option maxRecDepth 100000 in
set_option maxHeartbeats 2000000 in
theorem refClear_any {w : World} {S : Nat → Prop} {p : Plc} {e : E.En} {ft : Int} (h : RefAt w S p 0 ft [] e) (hd : Once e.cells) (hr : e.rev < 4000000000000000000) (hz : e.cells.length ≤ 1000) {n : ByteArray} :
    Calls Tryz.prog 31 #[.pointer (some ⟨p.g, p.o, none⟩), .string n] w (RetR p ft (E.clearE e n).1 (E.clearE e n).2 S w) := by
  obtain ⟨y, hy⟩ : ∃ y, y = (E.clearE e n).1 := ⟨_, rfl⟩
  obtain ⟨e', he⟩ : ∃ e', e' = (E.clearE e n).2 := ⟨_, rfl⟩
  rw [← hy, ← he]
  have HY := Lib.hid hy
  have HE := Lib.hid he
  have HH := Lib.hid h
  obtain ⟨c0, c1, c2, c3, c4, c5⟩ := h.row.cells
  have HFI := Lib.hid (refFind_any c0 h.args rfl n)
  have HCH := Lib.hid (fun i (hi : i < e.cells.length) => change_any h hd hr hi (v := none) hz)
  obtain ⟨L, hL⟩ : ∃ L, L = e.cells.length := ⟨_, rfl⟩
  rw [← hL] at c0 hz
  have HL := Lib.hid hL
  clear hy he h hL c1 c2 c3 c4 c5
  go_enter Tryz.func31, Tryz.ntmps31
  go_wp2_with fail
  refine HFI.out.mono ?_
  rintro ed w1 ⟨rfl, r, rfl, hf⟩
  rcases hf with ⟨hf, rfl⟩ | ⟨i, hi, hn1, hf, rfl, _⟩
  · have hin : E.inputB e n = false := by unfold E.inputB; rw [hf]
    have HYs : Hid (y = 7) := Lib.hid (by rw [HY.out]; unfold E.clearE; rw [if_pos hin])
    have HEs : Hid (e' = e) := Lib.hid (by rw [HE.out]; unfold E.clearE; rw [if_pos hin])
    clear hin hf
    go_wp2_with fail
    go_ret
    exact ⟨by rw [HYs.out]; rfl, by rw [HEs.out]; exact HH.out, Tch.refl _ _⟩
  · obtain ⟨b, off, A2, k2, hAe, hbb, d0, d1, d2, d3, z1, z2, z3, z4⟩ := cell_get HH.out.args hi
    rw [hAe] at c0
    have hiL : i < L := by rw [HL.out]; exact hi
    have HI := Lib.hid hi
    have hnm : nmAt e.cells i = n := by rw [nmAt_get hi]; exact hn1
    have HNM := Lib.hid hnm
    have HOP := Lib.hid (show E.inputB e n = (e.cells[i].2.1 == 1) by unfold E.inputB; rw [hf]; rfl)
    clear hAe d0 d2 d3 z1 z3 z4 hn1 hf hnm
    generalize e.cells[i].2.1 = op at *
    by_cases ho : op = 1
    · have hin : ¬ E.inputB e n = false := by rw [HOP.out, ho]; decide
      subst ho
      · have HYs : Hid (y = 0) := Lib.hid (by rw [HY.out]; unfold E.clearE; rw [if_neg hin])
        have HEs : Hid (e' = E.change e n none) := Lib.hid (by rw [HE.out]; unfold E.clearE; rw [if_neg hin])
        have HC2 := Lib.hid (HCH.out i HI.out)
        clear hin
        go_wp2_with fail
        refine HC2.out.mono ?_
        rintro ed w2 ⟨rfl, hr2, ht2⟩
        go_wp2_with fail
        go_ret
        exact ⟨by rw [HYs.out]; rfl, by rw [HEs.out, ← HNM.out]; exact hr2, ht2⟩
    · have hin : E.inputB e n = false := by rw [HOP.out]; simpa using ho
      have hb1 : (op != 1) = true := by simpa using ho
      have HYs : Hid (y = 7) := Lib.hid (by rw [HY.out]; unfold E.clearE; rw [if_pos hin])
      have HEs : Hid (e' = e) := Lib.hid (by rw [HE.out]; unfold E.clearE; rw [if_pos hin])
      clear hin
      go_wp2_with fail
      go_ret
      exact ⟨by rw [HYs.out]; rfl, by rw [HEs.out]; exact HH.out, Tch.refl _ _⟩
end Go.Proofs.YtkeaoejgboefbaaGreatDoor

/- The reference's pick and find. -/
namespace Go.Proofs.YtkeaoejgboefbaaGreatDoor
open Go.RowKit Go.Maps

def partsL (s : ByteArray) : List ByteArray := (Seg.segs 10 s.data.toList).map E.mk
/-- The loop's state: D is cut off, from place f on there was no line feed. -/
def cutSt (s : ByteArray) (D : List ByteArray) (f k : Nat) : Prop :=
  f ≤ k ∧ k ≤ s.data.toList.length ∧ (∀ j (_ : j < s.data.toList.length), f ≤ j → j < k → s.data.toList[j] ≠ 10) ∧ partsL s = D ++ (Seg.segs 10 (s.data.toList.drop f)).map E.mk ∧ D.length ≤ k ∧ ∀ x ∈ D, x.size ≤ s.size
theorem cut_start (s : ByteArray) : cutSt s [] 0 0 := ⟨Nat.le_refl _, Nat.zero_le _, fun _ _ _ h => absurd h (Nat.not_lt_zero _), rfl, Nat.zero_le _, fun _ h => absurd h List.not_mem_nil⟩
theorem cut_on {s : ByteArray} {D : List ByteArray} {f k : Nat} (h : cutSt s D f k) (hk : k < s.data.toList.length) (hc : s.data.toList[k] ≠ 10) : cutSt s D f (k + 1) := by
  obtain ⟨h1, h2, h3, h4, h5, h6⟩ := h
  refine ⟨by omega, by omega, fun j hj hfj hjk => ?_, h4, by omega, h6⟩
  by_cases e : j = k
  · subst e; exact hc
  · exact h3 j hj hfj (by omega)
theorem ext_size_le (s : ByteArray) (f k : Nat) : (s.extract f k).size ≤ s.size := by
  rw [ext_data, E.mk_size, List.length_take, List.length_drop, size_list]
  omega
theorem cut_hit {s : ByteArray} {D : List ByteArray} {f k : Nat} (h : cutSt s D f k) (hk : k < s.data.toList.length) (hc : s.data.toList[k] = 10) : cutSt s (D ++ [s.extract f k]) (k + 1) (k + 1) := by
  obtain ⟨h1, h2, h3, h4, h5, h6⟩ := h
  refine ⟨Nat.le_refl _, by omega, fun _ _ h6 h7 => by omega, ?_, by simp; omega, fun x hx => ?_⟩
  · rw [h4, Seg.segs_at 10 s.data.toList f k h1 hk h3 hc, ext_data]
    simp
  · rcases List.mem_append.1 hx with hx | hx
    · exact h6 x hx
    · rw [List.mem_singleton.1 hx]; exact ext_size_le s f k
theorem cut_end {s : ByteArray} {D : List ByteArray} {f : Nat} (h : cutSt s D f s.size) : partsL s = D ++ [s.extract f s.size] := by
  obtain ⟨h1, h2, h3, h4, h5, h6⟩ := h
  have hl : s.data.toList.length = s.size := by simp
  rw [h4, Seg.segs_end 10 s.data.toList f (fun j hj hfj => h3 j hj hfj (by omega)), ext_data, List.take_of_length_le (by simp)]
  rfl
/-- What is picked of some lines. -/
def hitB (t x : ByteArray) : Bool := Lib.contains x.data.toList t.data.toList
def pickOut (t : ByteArray) (D : List ByteArray) : ByteArray := E.mk (Lib.join ((D.filter (hitB t)).map (·.data.toList)) [10])
theorem join_snoc (sep : List UInt8) : ∀ (l : List (List UInt8)) (x : List UInt8), Lib.join (l ++ [x]) sep = if l = [] then x else Lib.join l sep ++ sep ++ x
  | [], x => by rw [if_pos rfl]; exact Lib.join_one x sep
  | y :: l, x => by
    rw [if_neg (by simp), List.cons_append, Lib.join_cons, Lib.join_cons]
    unfold Lib.joinTail
    simp
theorem mk_app (a b : List UInt8) : E.mk a ++ E.mk b = E.mk (a ++ b) := by
  apply ByteArray.ext
  apply Array.toList_inj.1
  rw [ByteArray.data_append, Array.toList_append]
  rfl
theorem pickOut_miss {t x : ByteArray} {D : List ByteArray} (h : hitB t x = false) : pickOut t (D ++ [x]) = pickOut t D ∧ (D ++ [x]).any (hitB t) = D.any (hitB t) := by
  unfold pickOut
  rw [List.filter_append, List.filter_cons, if_neg (by rw [h]; decide), List.filter_nil, List.append_nil, List.any_append, List.any_cons, List.any_nil, h]
  simp
theorem filter_any (p : ByteArray → Bool) (D : List ByteArray) : D.filter p = [] ↔ D.any p = false := by
  rw [List.filter_eq_nil_iff, List.any_eq_false]
theorem pickOut_first {t x : ByteArray} {D : List ByteArray} (h : hitB t x = true) (hn : D.any (hitB t) = false) : pickOut t (D ++ [x]) = pickOut t D ++ x ∧ (D ++ [x]).any (hitB t) = true := by
  have e := (filter_any _ D).2 hn
  unfold pickOut
  rw [List.filter_append, List.filter_cons, if_pos h, List.filter_nil, e, List.any_append, List.any_cons, h]
  refine ⟨?_, by simp⟩
  show E.mk (Lib.join [x.data.toList] [10]) = E.mk (Lib.join [] [10]) ++ x
  rw [Lib.join_one, Lib.join_nil, E.mk_self]
  apply ByteArray.ext
  apply Array.toList_inj.1
  rw [ByteArray.data_append, Array.toList_append]
  rfl
theorem pickOut_more {t x : ByteArray} {D : List ByteArray} (h : hitB t x = true) (hn : D.any (hitB t) = true) : pickOut t (D ++ [x]) = (pickOut t D ++ ⟨#[10]⟩) ++ x ∧ (D ++ [x]).any (hitB t) = true := by
  have e : D.filter (hitB t) ≠ [] := fun e => by rw [(filter_any _ D).1 e] at hn; cases hn
  unfold pickOut
  rw [List.filter_append, List.filter_cons, if_pos h, List.filter_nil, List.any_append, List.any_cons, h]
  refine ⟨?_, by simp⟩
  rw [List.map_append, List.map_cons, List.map_nil, join_snoc, if_neg (by simpa using e)]
  have h1 : (⟨#[10]⟩ : ByteArray) = E.mk [10] := rfl
  rw [h1, mk_app]
  conv => rhs; rw [← E.mk_self x, mk_app]
theorem pickOut_size (t : ByteArray) {s : ByteArray} {D : List ByteArray} (h : ∀ x ∈ D, x.size ≤ s.size) : (pickOut t D).size ≤ D.length * (s.size + 1) := by
  unfold pickOut
  rw [E.mk_size]
  have h1 := join_le s.size [10] ((D.filter (hitB t)).map (·.data.toList)) (by
    intro l hl
    obtain ⟨x, hx, rfl⟩ := List.mem_map.1 hl
    rw [size_list]; exact h x (List.mem_filter.1 hx).1)
  rw [List.length_map] at h1
  have h2 : (D.filter (hitB t)).length ≤ D.length := List.length_filter_le _ _
  have h3 : ([10] : List UInt8).length = 1 := rfl
  rw [h3, Nat.one_mul] at h1
  have h4 := Nat.mul_le_mul_right s.size h2
  have h5 : D.length * (s.size + 1) = D.length * s.size + D.length := by rw [Nat.mul_add, Nat.mul_one]
  omega
theorem pickB_out (s t : ByteArray) : E.pickB s t = pickOut t (partsL s) := by
  unfold E.pickB pickOut partsL
  congr 2
  induction Seg.segs 10 s.data.toList with
  | nil => rfl
  | cons a l ih =>
    rw [List.map_cons, List.filter_cons, List.filter_cons]
    have e : hitB t (E.mk a) = Lib.contains a t.data.toList := rfl
    rw [e]
    split
    · rw [List.map_cons, ← ih]; rfl
    · exact ih
set_option maxRecDepth 100000 in
set_option maxHeartbeats 4000000 in
theorem refPick_any (s t : ByteArray) (w : World) (hs : s.size ≤ 65536) (ht : t.size ≤ 65536) : Calls Tryz.prog 68 #[.string s, .string t] w fun e w' => e = .returned (.string (E.pickB s t)) ∧ w = w' := by
  have hl : s.data.toList.length = s.size := size_list s
  have HL := Lib.hid hl
  have HPB := Lib.hid (pickB_out s t)
  generalize E.pickB s t = R at *
  clear hl
  go_enter Tryz.func68, Tryz.ntmps68
  go_wp2_with fail
  go_loopw [5, 6, 7, 8] (fun o b f i wr => ∃ (D : List ByteArray) (fr k : Nat), fr ≤ k ∧ k ≤ s.size + 1 ∧ i = .int .i64 k ∧ f = .int .i64 fr ∧ b = .bool (!D.any (hitB t)) ∧ o = .string (pickOut t D) ∧ Hid (k ≤ s.size → cutSt s D fr k) ∧ Hid (k = s.size + 1 → partsL s = D) ∧ wr = w) (fun _ _ _ i _ => s.size + 1 - (intOf i).toNat)
  case atStart => exact ⟨[], 0, 0, Nat.le_refl _, Nat.zero_le _, rfl, rfl, rfl, rfl, (fun _ => cut_start s), (fun h => by omega), rfl⟩
  case round =>
    obtain ⟨D, fr, k, hfk, hk, rfl, rfl, rfl, rfl, HC, HD, rfl⟩ := hrel
    by_cases hle : k ≤ s.size
    · have hC := HC.out hle
      have HCC := Lib.hid hC
      have hDl : D.length ≤ k := hC.2.2.2.2.1
      have hsz := pickOut_size t hC.2.2.2.2.2
      have hmul : D.length * (s.size + 1) ≤ 65536 * 65537 := Nat.mul_le_mul (by omega) (by omega)
      have hsz2 : (pickOut t D).size ≤ 4295032832 := by omega
      clear hC hsz hmul
      have hxs := ext_size_le s fr k
      by_cases hcase : k < s.size ∧ ∃ h : k < s.size, s[k] ≠ 10
      · obtain ⟨hlt, _, hne⟩ := hcase
        have e1 : ((s[k].toNat : Int) == 10) = false := by
          rw [beq_eq_false_iff_ne]
          intro e
          refine hne (UInt8.toNat_inj.1 ?_)
          have : (10 : UInt8).toNat = 10 := rfl
          omega
        have hb255 : s[k].toNat ≤ 255 := by have := s[k].toNat_lt; omega
        have HN : Hid (cutSt s D fr (k + 1)) := Lib.hid (cut_on HCC.out (by rw [HL.out]; exact hlt) (by rw [Array.getElem_toList]; exact hne))
        clear hne
        go_wp2_with fail
        go_roundw
        case rel => exact ⟨D, fr, k + 1, by omega, by omega, by go_num, rfl, rfl, rfl, Lib.hid fun _ => HN.out, Lib.hid fun h => by omega, trivial⟩
        case measure => simp [intOf]; omega
      · have HX : Hid (Calls Tryz.prog 84 #[.string (s.extract fr k), .string t] wr fun e w' => e = .returned (.bool (hitB t (s.extract fr k))) ∧ wr = w') := Lib.hid (refContains_any _ _ _ (by omega) (by omega))
        have HN : Hid ((k + 1 ≤ s.size → cutSt s (D ++ [s.extract fr k]) (k + 1) (k + 1)) ∧ (k + 1 = s.size + 1 → partsL s = D ++ [s.extract fr k])) := Lib.hid ⟨fun h => by
          have hlt : k < s.size := by omega
          have h10 : s[k] = 10 := Classical.byContradiction fun h10 => hcase ⟨hlt, hlt, h10⟩
          exact cut_hit HCC.out (by rw [HL.out]; exact hlt) (by rw [Array.getElem_toList]; exact h10), fun h => by
          have hk' : k = s.size := by omega
          subst hk'
          exact cut_end HCC.out⟩
        have hskip : ∀ h : k < s.size, ((s[k].toNat : Int) == 10) = true := fun h => by
          have h10 : s[k] = 10 := Classical.byContradiction fun h10 => hcase ⟨h, h, h10⟩
          rw [h10]; rfl
        have HM := Lib.hid (@pickOut_miss t (s.extract fr k) D)
        have HF := Lib.hid (@pickOut_first t (s.extract fr k) D)
        have HR := Lib.hid (@pickOut_more t (s.extract fr k) D)
        clear hcase
        by_cases hlt : k < s.size
        · have e1 := hskip hlt
          have hb255 : s[k].toNat ≤ 255 := by have := s[k].toNat_lt; omega
          clear hskip
          generalize hx : s.extract fr k = x at *
          generalize hpo : pickOut t D = po at *
          generalize hany : D.any (hitB t) = an at *
          clear hpo hany
          cases hh : hitB t x with
          | false =>
            rw [hh] at HX
            have HQ := Lib.hid (HM.out hh)
            clear hh
            go_wp2_with fail
            refine HX.out.mono ?_
            rintro e w1 ⟨rfl, rfl⟩
            go_wp2_with fail
            go_roundw
            case rel => exact ⟨D ++ [x], k + 1, k + 1, Nat.le_refl _, by omega, by go_num, by go_num, by rw [HQ.out.2], by rw [HQ.out.1], Lib.hid HN.out.1, Lib.hid HN.out.2, trivial⟩
            case measure => simp [intOf]; omega
          | true =>
            rw [hh] at HX
            cases an with
            | false =>
              have HQ := Lib.hid (HF.out hh rfl)
              clear hh
              go_wp2_with fail
              refine HX.out.mono ?_
              rintro e w1 ⟨rfl, rfl⟩
              go_wp2_with fail
              go_roundw
              case rel => exact ⟨D ++ [x], k + 1, k + 1, Nat.le_refl _, by omega, by go_num, by go_num, by rw [HQ.out.2]; rfl, by rw [HQ.out.1], Lib.hid HN.out.1, Lib.hid HN.out.2, trivial⟩
              case measure => simp [intOf]; omega
            | true =>
              have HQ := Lib.hid (HR.out hh rfl)
              clear hh
              go_wp2_with fail
              refine HX.out.mono ?_
              rintro e w1 ⟨rfl, rfl⟩
              go_wp2_with fail
              go_roundw
              case rel => exact ⟨D ++ [x], k + 1, k + 1, Nat.le_refl _, by omega, by go_num, by go_num, by rw [HQ.out.2]; rfl, by rw [HQ.out.1], Lib.hid HN.out.1, Lib.hid HN.out.2, trivial⟩
              case measure => simp [intOf]; omega
        · have hkk : k = s.size := by omega
          subst hkk
          clear hskip
          generalize hx : s.extract fr s.size = x at *
          generalize hpo : pickOut t D = po at *
          generalize hany : D.any (hitB t) = an at *
          clear hpo hany
          cases hh : hitB t x with
          | false =>
            rw [hh] at HX
            have HQ := Lib.hid (HM.out hh)
            clear hh
            go_wp2_with fail
            refine HX.out.mono ?_
            rintro e w1 ⟨rfl, rfl⟩
            go_wp2_with fail
            go_roundw
            case rel => exact ⟨D ++ [x], s.size + 1, s.size + 1, Nat.le_refl _, by omega, by go_num, by go_num, by rw [HQ.out.2], by rw [HQ.out.1], Lib.hid HN.out.1, Lib.hid fun _ => HN.out.2 trivial, trivial⟩
            case measure => first | (simp [intOf]; done) | (simp [intOf]; omega)
          | true =>
            rw [hh] at HX
            cases an with
            | false =>
              have HQ := Lib.hid (HF.out hh rfl)
              clear hh
              go_wp2_with fail
              refine HX.out.mono ?_
              rintro e w1 ⟨rfl, rfl⟩
              go_wp2_with fail
              go_roundw
              case rel => exact ⟨D ++ [x], s.size + 1, s.size + 1, Nat.le_refl _, by omega, by go_num, by go_num, by rw [HQ.out.2]; rfl, by rw [HQ.out.1], Lib.hid HN.out.1, Lib.hid fun _ => HN.out.2 trivial, trivial⟩
              case measure => first | (simp [intOf]; done) | (simp [intOf]; omega)
            | true =>
              have HQ := Lib.hid (HR.out hh rfl)
              clear hh
              go_wp2_with fail
              refine HX.out.mono ?_
              rintro e w1 ⟨rfl, rfl⟩
              go_wp2_with fail
              go_roundw
              case rel => exact ⟨D ++ [x], s.size + 1, s.size + 1, Nat.le_refl _, by omega, by go_num, by go_num, by rw [HQ.out.2]; rfl, by rw [HQ.out.1], Lib.hid HN.out.1, Lib.hid fun _ => HN.out.2 trivial, trivial⟩
              case measure => first | (simp [intOf]; done) | (simp [intOf]; omega)
    · have hkk : k = s.size + 1 := by omega
      have hd := HD.out hkk
      have HE : Hid (R = pickOut t D) := Lib.hid (by rw [HPB.out, hd])
      clear hd
      go_wp2_with fail
      go_ret
      exact ⟨by rw [HE.out]; rfl, rfl⟩
end Go.Proofs.YtkeaoejgboefbaaGreatDoor

/- The reference's formulas: what is known on the way. -/
namespace Go.Proofs.YtkeaoejgboefbaaGreatDoor
open Go.RowKit Go.Maps

set_option maxRecDepth 100000 in
theorem info90 : (Tryz.prog.info? 82).map (·.size) = some 2 := by kernel_rfl
theorem found_setR {w : World} {g : Nat} {x y : Value} (h : w.heap[g]? = some (.cells #[x, y] 82 (0, 0))) (a b : Value) : ((w.setCell ⟨g, 0, none⟩ a).setCell ⟨g, 1, none⟩ b).heap[g]? = some (.cells #[a, b] 82 (0, 0)) := by
  have h1 := heap_setCell_cells h 0 a
  exact heap_setCell_cells h1 1 b
/-- The result lies in its cell. -/
theorem ret_foundR {fn : Func} {s : Nat} (h : fn.results = #[.cell s 82]) {R : Ending → World → Prop} {a : Act} {w : World} {g : Nat} {x y : Value} (hp : a.tmps.getD s undef = .pointer (some ⟨g, 0, none⟩)) (hg : w.heap[g]? = some (.cells #[x, y] 82 (0, 0))) (hd : a.defers = []) (hR : R (.returned (.agg #[x, y])) w) : bodyPost Tryz.prog fn R .ret a w :=
  bodyPost_ret (results_cell_row h a.tmps w g 82 #[x, y] (0, 0) _ hp hg Tryz.underlying82 rfl info90) hd hR
/-- A closure that reads cells. Q w q m u F: in world w the state is q, m reads were made, the reads lie in block u, all stands on F. -/
structure AsksR (ep rp : Value) (get : E.St → E.Nm → Except Int (E.V × E.St)) (X : Nat → Prop) (Q : World → Qs → Nat → Option Nat → (Nat → Prop) → Prop) : Prop where
  keep : ∀ {w w' q m u F} {Y : Nat → Prop}, Q w q m u F → Tch Y w w' → (∀ k, Y k → ¬ F k) → Q w' q m u F
  lt : ∀ {w q m u F}, Q w q m u F → ∀ k, F k → k < w.heap.size
  inX : ∀ {w q m u F}, Q w q m u F → ∀ k, X k → F k
  inU : ∀ {w q m F t}, Q w q m (some t) F → F t
  ask : ∀ {w q m u F} (n : ByteArray), Q w q m u F → m ≤ 90 → n.size ≤ 9223372036854775807 → Calls Tryz.prog 65 #[ep, .string n, rp] w fun ed w' =>
    ed = .returned (foundV (askQ get q n).1) ∧ ((askQ get q n).1.getD ⟨#[]⟩).size ≤ 65536 ∧ ∃ u' F', Turned X u u' F F' w w' ∧ Q w' (askQ get q n).2 (m + 1) u' F'
theorem AsksR.ext {ep rp : Value} {get : E.St → E.Nm → Except Int (E.V × E.St)} {X : Nat → Prop} {Q : World → Qs → Nat → Option Nat → (Nat → Prop) → Prop} (h : AsksR ep rp get X Q) {w w' : World} {q : Qs} {m : Nat} {u : Option Nat} {F : Nat → Prop} (he : Ext w w') (hq : Q w q m u F) : Q w' q m u F := h.keep hq (he.tch fun _ => False) fun _ h => h.elim
/-- A block of the call's own stays as it is. -/
theorem AsksR.stays {ep rp : Value} {get : E.St → E.Nm → Except Int (E.V × E.St)} {X : Nat → Prop} {Q : World → Qs → Nat → Option Nat → (Nat → Prop) → Prop} (h : AsksR ep rp get X Q) {w w' : World} {q : Qs} {m : Nat} {u u' : Option Nat} {F F' : Nat → Prop} (hq : Q w q m u F) (ht : Turned X u u' F F' w w') {k : Nat} {o : Obj} (hk : w.heap[k]? = some o) (hf : ¬ F k) : w'.heap[k]? = some o ∧ ¬ F' k := by
  have hl := (Array.getElem?_eq_some_iff.1 hk).1
  refine ⟨(ht.tch.block k hl ?_).trans hk, fun e => ?_⟩
  · rintro (e | e)
    · exact hf (h.inX hq k e)
    · subst e; exact hf (h.inU hq)
  · rcases ht.foot k e with e | e
    · exact hf e
    · omega
/-- formula on its way: its boxes, the closure's state, the arguments. -/
structure FlR (X SA : Nat → Prop) (Q : World → Qs → Nat → Option Nat → (Nat → Prop) → Prop) (u : Option Nat) (F : Nat → Prop) (w : World) (c0 : Array Value) (A : Option Addr) (k : Nat) (args : List ByteArray) (wr : World) (q : Qs) (m : Nat) (ur : Option Nat) (Fr : Nat → Prop) : Prop where
  b0 : wr.heap[w.heap.size]? = some (.cells c0 50 (0, 0))
  b1 : wr.heap[w.heap.size + 1]? = some (.cells #[.string ⟨#[]⟩, .bool false] 82 (0, 0))
  q : Q wr q m ur Fr
  t : Turned X u ur F Fr w wr
  n0 : ¬ Fr w.heap.size
  n1 : ¬ Fr (w.heap.size + 1)
  args : SliceAt strR wr SA A k args
  off : ∀ k, SA k → k < w.heap.size ∧ ¬ X k ∧ ur ≠ some k
section
variable {X SA : Nat → Prop} {Q : World → Qs → Nat → Option Nat → (Nat → Prop) → Prop} {ep rp : Value} {get : E.St → E.Nm → Except Int (E.V × E.St)} {u : Option Nat} {F : Nat → Prop} {w : World} {c0 : Array Value} {A : Option Addr} {k : Nat} {args : List ByteArray} {wr : World} {q : Qs} {m : Nat} {ur : Option Nat} {Fr : Nat → Prop}
theorem FlR.size (h : FlR X SA Q u F w c0 A k args wr q m ur Fr) : w.heap.size + 2 ≤ wr.heap.size := (Array.getElem?_eq_some_iff.1 h.b1).1
/-- New blocks, and writes on blocks of the call's own. -/
theorem FlR.wrote (ha : AsksR ep rp get X Q) (h : FlR X SA Q u F w c0 A k args wr q m ur Fr) {w2 : World} {Y : Nat → Prop} (he : Tch Y wr w2) (hY : ∀ k, Y k → ¬ Fr k ∧ w.heap.size + 2 ≤ k) : FlR X SA Q u F w c0 A k args w2 q m ur Fr where
  b0 := (he.block _ (Array.getElem?_eq_some_iff.1 h.b0).1 fun e => by have := (hY _ e).2; omega).trans h.b0
  b1 := (he.block _ (Array.getElem?_eq_some_iff.1 h.b1).1 fun e => by have := (hY _ e).2; omega).trans h.b1
  q := ha.keep h.q he fun k hk => (hY k hk).1
  t := h.t.wrote he fun i hi => by have := (hY i hi).2; omega
  n0 := h.n0
  n1 := h.n1
  args := h.args.tch he fun k hk => ⟨Nat.lt_of_lt_of_le (h.off k hk).1 h.t.tch.size, fun e => by have := (hY k e).2; have := (h.off k hk).1; omega⟩
  off := h.off
theorem FlR.ext (ha : AsksR ep rp get X Q) (h : FlR X SA Q u F w c0 A k args wr q m ur Fr) {w2 : World} (he : Ext wr w2) : FlR X SA Q u F w c0 A k args w2 q m ur Fr := h.wrote ha (he.tch fun _ => False) fun _ h => h.elim
theorem FlR.turned (ha : AsksR ep rp get X Q) (h : FlR X SA Q u F w c0 A k args wr q m ur Fr) {w2 : World} {q2 : Qs} {m2 : Nat} {u2 : Option Nat} {F2 : Nat → Prop} (ht : Turned X ur u2 Fr F2 wr w2) (hq : Q w2 q2 m2 u2 F2) : FlR X SA Q u F w c0 A k args w2 q2 m2 u2 F2 := by
  have k0 := ha.stays h.q ht h.b0 h.n0
  have k1 := ha.stays h.q ht h.b1 h.n1
  refine ⟨k0.1, k1.1, hq, h.t.trans ht, k0.2, k1.2, ?_, fun k hk => ?_⟩
  · refine h.args.tch ht.tch fun k hk => ?_
    obtain ⟨h1, h2, h3⟩ := h.off k hk
    exact ⟨Nat.lt_of_lt_of_le h1 h.t.tch.size, by rintro (e | e); exact h2 e; exact h3 e⟩
  · obtain ⟨h1, h2, h3⟩ := h.off k hk
    refine ⟨h1, h2, ?_⟩
    rcases ht.own with e | ⟨t, e, hl⟩
    · rw [e]; exact h3
    · rw [e]; intro e'; cases e'
      have := h.t.tch.size
      omega
/-- formula's boxes are made. -/
theorem FlR.start (ha : AsksR ep rp get X Q) (hq : Q w q m u F) (hs : SliceAt strR w SA A k args) (ho : ∀ k, SA k → k < w.heap.size ∧ ¬ X k ∧ u ≠ some k) :
    FlR X SA Q u F w c0 A k args ((w.alloc (.cells c0 50)).alloc (.cells #[.string ⟨#[]⟩, .bool false] 82)) q m u F := by
  have e1 : Ext w (w.alloc (.cells c0 50)) := (Ext.refl w).alloc _
  have e2 : Ext w ((w.alloc (.cells c0 50)).alloc (.cells #[.string ⟨#[]⟩, .bool false] 82)) := e1.alloc _
  refine ⟨heap_old (heap_alloc_new w _) _, ?_, ha.ext e2 hq, Ext.turned e2 (Turned.refl _ _ _ _), fun e => ?_, fun e => ?_, hs.tch (e2.tch fun _ => False) fun k hk => ⟨(ho k hk).1, fun e => e⟩, ho⟩
  · have := heap_alloc_new (w.alloc (.cells c0 50)) (.cells #[.string ⟨#[]⟩, .bool false] 82)
    rw [size_alloc'] at this
    exact this
  · have := ha.lt hq _ e; omega
  · have := ha.lt hq _ e; omega
/-- What was asked. -/
theorem FlR.ask (ha : AsksR ep rp get X Q) (h : FlR X SA Q u F w c0 A k args wr q m ur Fr) (hm : m ≤ 90) {n : ByteArray} (hn : n.size ≤ 9223372036854775807) : Calls Tryz.prog 65 #[ep, .string n, rp] wr fun ed w' =>
    ed = .returned (foundV (askQ get q n).1) ∧ ((askQ get q n).1.getD ⟨#[]⟩).size ≤ 65536 ∧ ∃ u' F', (∀ (i : Nat) (o : Obj), wr.heap[i]? = some o → ¬ Fr i → w'.heap[i]? = some o ∧ ¬ F' i) ∧ FlR X SA Q u F w c0 A k args w' (askQ get q n).2 (m + 1) u' F' := by
  refine (ha.ask n h.q hm hn).mono ?_
  rintro e w' ⟨h1, h2, u', F', h3, h4⟩
  exact ⟨h1, h2, u', F', fun i o hi hf => ha.stays h.q h3 hi hf, h.turned ha h3 h4⟩
/-- The result is stored. -/
theorem FlR.ends (ha : AsksR ep rp get X Q) (h : FlR X SA Q u F w c0 A k args wr q m ur Fr) (hm : m ≤ 90) {v : E.V} (hv : (v.getD ⟨#[]⟩).size ≤ 140737488355328) (x y : Value) : RetP X Q u F w (v, q) (.returned (foundV v)) ((wr.setCell ⟨w.heap.size + 1, 0, none⟩ x).setCell ⟨w.heap.size + 1, 1, none⟩ y) := by
  have ht : Tch (fun k => k = w.heap.size + 1) wr ((wr.setCell ⟨w.heap.size + 1, 0, none⟩ x).setCell ⟨w.heap.size + 1, 1, none⟩ y) := ((Tch.refl (fun k => k = w.heap.size + 1) wr).setCell (p := ⟨w.heap.size + 1, 0, none⟩) (fun _ => rfl) x).setCell (p := ⟨w.heap.size + 1, 1, none⟩) (fun _ => rfl) y
  exact ⟨rfl, hv, ur, Fr, m, hm, h.t.wrote ht fun i hi => by omega, ha.keep h.q ht fun k hk => by rw [hk]; exact h.n1⟩
end
end Go.Proofs.YtkeaoejgboefbaaGreatDoor

/- The reference's compute: a join. -/
namespace Go.Proofs.YtkeaoejgboefbaaGreatDoor
open Go.RowKit Go.Maps

theorem nil_app (s : ByteArray) : (⟨#[]⟩ : ByteArray) ++ s = s := by
  apply ByteArray.ext
  apply Array.toList_inj.1
  rw [ByteArray.data_append, Array.toList_append]
  rfl
/-- A join's text so far, and what follows. -/
theorem joinT_snoc (acc : List ByteArray) (s t : ByteArray) : E.joinT (acc ++ [s]) t = if acc = [] then s else (E.joinT acc t ++ t) ++ s := by
  unfold E.joinT
  rw [List.map_append, List.map_cons, List.map_nil, join_snoc]
  by_cases h : acc = []
  · subst h
    simp [E.mk_self]
  · rw [if_neg (by simpa using h), if_neg h]
    conv => rhs; rw [← E.mk_self t, ← E.mk_self s, mk_app, mk_app]
    rfl
set_option maxRecDepth 100000 in
set_option maxHeartbeats 4000000 in
theorem compute_join {X SA : Nat → Prop} {Q : World → Qs → Nat → Option Nat → (Nat → Prop) → Prop} {ep rp : Value} {get : E.St → E.Nm → Except Int (E.V × E.St)} (ha : AsksR ep rp get X Q) {u : Option Nat} {F : Nat → Prop} {w : World} {A : Option Addr} {k n : Nat} {nm tx : ByteArray} {args : List ByteArray} {q : Qs}
    (hq : Q w q 0 u F) (hs : SliceAt strR w SA A k args) (ho : ∀ k, SA k → k < w.heap.size ∧ ¬ X k ∧ u ≠ some k) (hn : n = args.length) (hl : n ≤ 8) (ht : tx.size ≤ 64) :
    Calls Tryz.prog 58 #[ep, .agg #[.string nm, .int .i64 2, .slice A n k, .string tx], rp] w (RetP X Q u F w (runQ get (E.joinP tx args []) q)) := by
  obtain ⟨c0, hc0⟩ : ∃ c0 : Array Value, c0 = #[.string nm, .int .i64 2, .slice A n k, .string tx] := ⟨_, rfl⟩
  obtain ⟨R, hR⟩ : ∃ R, R = runQ get (E.joinP tx args []) q := ⟨_, rfl⟩
  obtain ⟨W1, hW1⟩ : ∃ W1, W1 = ((w.alloc (.cells #[.string nm, .int .i64 2, .slice A n k, .string tx] 50)).alloc (.cells #[.string ⟨#[]⟩, .bool false] 82)) := ⟨_, rfl⟩
  have HF : Hid (FlR X SA Q u F w c0 A k args W1 q 0 u F) := Lib.hid (by rw [hW1, hc0]; exact FlR.start ha hq hs ho)
  rw [← hR]
  have HR := Lib.hid hR
  have HA := Lib.hid ha
  have HN := Lib.hid hn
  have HT := Lib.hid ht
  have HC0 := Lib.hid hc0
  have ac : ∀ i, W1.cell? ⟨w.heap.size, i, none⟩ = c0[i]? := fun i => new_off HF.out.b0 i
  have a1 : W1.cell? ⟨w.heap.size, 1, none⟩ = some (.int .i64 2) := by rw [ac, hc0]; rfl
  clear hR ha hn hc0 hq hs ho ac
  go_enter Tryz.func58, Tryz.ntmps58
  go_upto_region 1 with (fail)
  rw [← hW1]
  clear hW1
  go_wp2_with fail
  go_loopw [7, 8, 9] (fun v5 i _ wr => ∃ (j m : Nat) (qj : Qs) (ur : Option Nat) (Fr : Nat → Prop) (acc : List ByteArray), i = .int .i64 j ∧ j ≤ n ∧ v5 = .string (E.joinT acc tx) ∧ Hid (FlR X SA Q u F w c0 A k args wr qj m ur Fr) ∧ Hid (m ≤ j) ∧ Hid (acc.length = j) ∧ Hid (∀ s ∈ acc, s.size ≤ 65536) ∧ Hid (R = runQ get (E.joinP tx (args.drop j) acc) qj)) (fun _ i _ _ => n - (intOf i).toNat)
  case atStart => exact ⟨0, 0, q, u, F, [], rfl, Nat.zero_le _, rfl, HF, Lib.hid (Nat.le_refl _), Lib.hid rfl, Lib.hid (fun _ h => absurd h List.not_mem_nil), HR⟩
  case round =>
    obtain ⟨j, m, qj, ur, Fr, acc, rfl, hj, rfl, hf, hm, hacc, hsz, hrr⟩ := hrel
    have a2 : wr.cell? ⟨w.heap.size, 2, none⟩ = some (.slice A n k) := by rw [new_off hf.out.b0, HC0.out]; rfl
    have hjt : (E.joinT acc tx).size ≤ 140737488355328 := joinT_le (by rw [hacc.out]; omega) hsz.out HT.out
    have hjt2 : (E.joinT acc tx).size ≤ 800000 := by
      unfold E.joinT
      rw [E.mk_size]
      have h1 := join_le 65536 tx.data.toList (acc.map (·.data.toList)) (by
        intro l hl
        obtain ⟨s, hs1, rfl⟩ := List.mem_map.1 hl
        rw [size_list]; exact hsz.out s hs1)
      rw [List.length_map, size_list, hacc.out] at h1
      have h2 : tx.size * j ≤ 64 * 8 := Nat.mul_le_mul ht (by omega)
      have h3 : j * 65536 ≤ 8 * 65536 := Nat.mul_le_mul_right _ (by omega)
      omega
    by_cases hlt : j < n
    · have hjl : j < args.length := by have := HN.out; omega
      obtain ⟨b, off, hAe, hbb, d0, hz⟩ := str_get hf.out.args hjl
      subst hAe
      have hj8 : j ≤ 8 := by omega
      have hcall := Lib.hid (hf.out.ask HA.out (by have := hm.out; omega) hz)
      have HST : Hid (R = runQ get (joinK tx (args.drop (j + 1)) acc (askQ get qj args[j]).1) (askQ get qj args[j]).2) := Lib.hid (by
        rw [hrr.out, List.drop_eq_getElem_cons hjl]
        rfl)
      generalize args[j] = an at *
      generalize askQ get qj an = qa at *
      obtain ⟨v, q'⟩ := qa
      have HJS := Lib.hid (joinT_snoc acc)
      have HAE : Hid (acc = [] ↔ j = 0) := Lib.hid (by rw [← hacc.out]; exact List.length_eq_zero_iff.symm)
      generalize hjo : E.joinT acc tx = jo at *
      have HJO := Lib.hid hjo
      clear hjo hjt
      go_wp2_with fail
      refine hcall.out.mono ?_
      rintro e w1 ⟨rfl, h2, u', F', h3, h4⟩
      have HST' : Hid (R = runQ get (joinK tx (args.drop (j + 1)) acc v) q') := HST
      have h2' : (v.getD ⟨#[]⟩).size ≤ 65536 := h2
      have h4' : FlR X SA Q u F w c0 (some ⟨b, off, none⟩) k args w1 q' (m + 1) u' F' := h4
      have HF4 := Lib.hid h4'
      have HB3 := Lib.hid h2'
      clear HST h2 h4 h4' h3 h2' hcall d0 a2
      cases v with
      | none =>
        have HE : Hid (R = (none, q')) := HST'
        clear HST'
        rw [foundV_none]
        obtain ⟨W2, hW2⟩ : ∃ W2, W2 = w1.alloc (.cells #[.string ⟨#[]⟩, .bool false] 82) := ⟨_, rfl⟩
        have X2 : Ext w1 W2 := by rw [hW2]; exact (Ext.refl w1).alloc _
        have K8 : Hid (W2.heap[w1.heap.size]? = some (.cells #[.string ⟨#[]⟩, .bool false] 82 (0, 0))) := Lib.hid (by rw [hW2]; exact heap_alloc_new w1 _)
        have HF2 := Lib.hid (HF4.out.ext HA.out X2)
        have e1 : W2.cell? ⟨w1.heap.size, 1, none⟩ = some (.bool false) := by rw [new_off K8.out]; rfl
        have r0 : W2.cell? ⟨w.heap.size + 1, 0, none⟩ = some (.string ⟨#[]⟩) := by rw [new_off HF2.out.b1]; rfl
        have r1 : W2.cell? ⟨w.heap.size + 1, 1, none⟩ = some (.bool false) := by rw [new_off HF2.out.b1]; rfl
        have f0 := Lib.frozen_of_heap HF2.out.b1 0
        have f1 := Lib.frozen_of_heap HF2.out.b1 1
        clear X2 HB3
        go_upto_region 8 with (fail)
        rw [← hW2]
        clear hW2
        go_wp2_with fail
        exact ret_foundR Tryz.results58 rfl (found_setR HF2.out.b1 _ _) rfl (by rw [HE.out]; exact HF2.out.ends HA.out (v := none) (by have := hm.out; omega) (Nat.zero_le _) _ _)
      | some s =>
        have HE : Hid (R = runQ get (E.joinP tx (args.drop (j + 1)) (acc ++ [s])) q') := HST'
        clear HST'
        rw [foundV_some]
        obtain ⟨W2, hW2⟩ : ∃ W2, W2 = w1.alloc (.cells #[.string s, .bool true] 82) := ⟨_, rfl⟩
        have X2 : Ext w1 W2 := by rw [hW2]; exact (Ext.refl w1).alloc _
        have K8 : Hid (W2.heap[w1.heap.size]? = some (.cells #[.string s, .bool true] 82 (0, 0))) := Lib.hid (by rw [hW2]; exact heap_alloc_new w1 _)
        have HF2 := Lib.hid (HF4.out.ext HA.out X2)
        have e0 : W2.cell? ⟨w1.heap.size, 0, none⟩ = some (.string s) := by rw [new_off K8.out]; rfl
        have e1 : W2.cell? ⟨w1.heap.size, 1, none⟩ = some (.bool true) := by rw [new_off K8.out]; rfl
        have a3 : W2.cell? ⟨w.heap.size, 3, none⟩ = some (.string tx) := by rw [new_off HF2.out.b0, HC0.out]; rfl
        have hss : s.size ≤ 65536 := HB3.out
        have HREL : Hid (∀ wr, wr = W2 → ∃ (j' m' : Nat) (qj : Qs) (ur : Option Nat) (Fr : Nat → Prop) (acc' : List ByteArray), (.int .i64 ((j : Int) + 1) : Value) = .int .i64 j' ∧ j' ≤ n ∧ acc' = acc ++ [s] ∧ Hid (FlR X SA Q u F w c0 (some ⟨b, off, none⟩) k args wr qj m' ur Fr) ∧ Hid (m' ≤ j') ∧ Hid (acc'.length = j') ∧ Hid (∀ s ∈ acc', s.size ≤ 65536) ∧ Hid (R = runQ get (E.joinP tx (args.drop j') acc') qj)) := Lib.hid fun wr hwr => by
          subst hwr
          refine ⟨j + 1, m + 1, q', u', F', acc ++ [s], by simp, by omega, rfl, HF2, Lib.hid (Nat.succ_le_succ hm.out), Lib.hid (by rw [List.length_append, hacc.out]; rfl), Lib.hid fun x hx => ?_, HE⟩
          rcases List.mem_append.1 hx with hx | hx
          · exact hsz.out x hx
          · rw [List.mem_singleton.1 hx]; exact HB3.out
        clear X2
        go_upto_region 8 with (fail)
        rw [← hW2]
        clear hW2
        by_cases h0 : j = 0
        · have hnil := HAE.out.2 h0
          have HJN : Hid (E.joinT (acc ++ [s]) tx = s) := Lib.hid (by rw [HJS.out, if_pos hnil])
          have HJE : Hid (jo = ⟨#[]⟩) := Lib.hid (by rw [← HJO.out, hnil]; rfl)
          obtain rfl : jo = ⟨#[]⟩ := HJE.out
          subst h0
          go_wp2_with fail
          go_roundw
          case rel =>
            obtain ⟨j', m', qj, ur, Fr, acc', h1, h2, h3, h4⟩ := HREL.out _ rfl
            refine ⟨j', m', qj, ur, Fr, acc', by first | (rw [← h1]; done) | (rw [← h1]; go_num), h2, ?_, h4⟩
            rw [h3, HJN.out, nil_app]
          case measure => simp [intOf]; omega
        · have hj0 : 0 < j := by omega
          have HJN : Hid (E.joinT (acc ++ [s]) tx = (jo ++ tx) ++ s) := Lib.hid (by rw [HJS.out, if_neg fun h => h0 (HAE.out.1 h), HJO.out])
          clear h0
          go_wp2_with fail
          go_roundw
          case rel =>
            obtain ⟨j', m', qj, ur, Fr, acc', h1, h2, h3, h4⟩ := HREL.out _ rfl
            refine ⟨j', m', qj, ur, Fr, acc', by first | (rw [← h1]; done) | (rw [← h1]; go_num), h2, ?_, h4⟩
            rw [h3, HJN.out]
          case measure => simp [intOf]; omega
    · have hjn : j = n := by omega
      subst hjn
      have hd : args.drop j = [] := List.drop_eq_nil_of_le (by have := HN.out; omega)
      have HE : Hid (R = (some (E.joinT acc tx), qj)) := Lib.hid (by rw [hrr.out, hd]; rfl)
      have HJL := Lib.hid hjt
      generalize E.joinT acc tx = jt at *
      have r0 : wr.cell? ⟨w.heap.size + 1, 0, none⟩ = some (.string ⟨#[]⟩) := by rw [new_off hf.out.b1]; rfl
      have r1 : wr.cell? ⟨w.heap.size + 1, 1, none⟩ = some (.bool false) := by rw [new_off hf.out.b1]; rfl
      have f0 := Lib.frozen_of_heap hf.out.b1 0
      have f1 := Lib.frozen_of_heap hf.out.b1 1
      clear hd
      go_wp2_with fail
      exact ret_foundR Tryz.results58 rfl (found_setR hf.out.b1 _ _) rfl (by rw [HE.out]; exact hf.out.ends HA.out (v := some jt) (by have := hm.out; omega) HJL.out _ _)
end Go.Proofs.YtkeaoejgboefbaaGreatDoor
