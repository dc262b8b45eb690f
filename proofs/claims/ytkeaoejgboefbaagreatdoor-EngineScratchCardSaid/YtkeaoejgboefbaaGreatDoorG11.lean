/- The texts Jo Jp of the seat, joined. -/
import Derived.Test.YtkeaoejgboefbaaGreatDoorG10
import Derived.BigQuiet
/- The reference's value: the ways without a computation. -/
namespace Go.Proofs.YtkeaoejgboefbaaGreatDoor
open Go.RowKit Go.Maps

theorem isIn_one {c : E.Cell} (h : E.isIn c = true) : c.2.1 = 1 := beq_iff_eq.1 h
theorem isIn_not {c : E.Cell} (h : E.isIn c = false) : c.2.1 ≠ 1 := fun e => by
  have : E.isIn c = true := beq_iff_eq.2 e
  rw [h] at this
  cases this
theorem RLive.deadS {w : World} {S : Nat → Prop} {p : Plc} {C d : Nat} {e : E.En} {st : E.St} {opn : List ByteArray} (h : RLive w S p C d { e with st := st } opn) {x : Int} {w' : World} {cnt : Int} (hr : RRow w' p.g p.o p.pr p.A e.cells.length p.kc p.bv p.ov p.cv p.bm p.om p.cm e.rev cnt x) (ht : Tch (MvR p) w w') : RDead w' S p e x := by
  obtain ⟨h1, h2, h3, h4⟩ := h.dead hr ht
  exact ⟨h1, h2, h3, h4⟩
theorem found_none {cs : List E.Cell} {n : ByteArray} {r : Int} (h : FoundAt cs n r) (hc : E.findC cs n = none) : r = -1 := by
  rcases h with ⟨_, h⟩ | ⟨i, hi, _, h, _⟩
  · exact h
  · rw [hc] at h; cases h
theorem found_some {cs : List E.Cell} {n : ByteArray} {r : Int} {c : E.Cell} (h : FoundAt cs n r) (hc : E.findC cs n = some c) : ∃ i, ∃ hi : i < cs.length, cs[i].1 = n ∧ c = cs[i] ∧ r = i := by
  rcases h with ⟨h, _⟩ | ⟨i, hi, h1, h2, h3, _⟩
  · rw [hc] at h; cases h
  · rw [hc] at h2; exact ⟨i, hi, h1, Option.some.inj h2, h3⟩
set_option maxRecDepth 100000 in
set_option maxHeartbeats 8000000 in
theorem val_none {w : World} {S : Nat → Prop} {p : Plc} {C d : Nat} {e : E.En} {opn : List ByteArray} {st : E.St} (hL : RLive w S p C d { e with st := st } opn) (hz : e.cells.length ≤ 1000) {n : ByteArray} (hc : E.findC e.cells n = none) :
    Calls Tryz.prog 47 #[.pointer (some ⟨p.g, p.o, none⟩), .string n] w (RetOR w S p d e opn (.ok (none, st))) := by
  have HLW := Lib.hid hL.low
  have HLL := Lib.hid hL
  obtain ⟨W1, hW1⟩ : ∃ W1, W1 = w.alloc (.cells #[.string ⟨#[]⟩, .bool false] 82) := ⟨_, rfl⟩
  have X1 : Ext w W1 := by rw [hW1]; exact (Ext.refl w).alloc _
  have K1 : Hid (W1.heap[w.heap.size]? = some (.cells #[.string ⟨#[]⟩, .bool false] 82)) := Lib.hid (by rw [hW1]; exact heap_alloc_new w _)
  have HS1 : Hid (W1.heap.size = w.heap.size + 1) := Lib.hid (by rw [hW1]; simp)
  have HX1 := Lib.hid X1
  have HL1 := Lib.hid (hL.ext X1)
  obtain ⟨c0, c1, c2, c3, c4, c5⟩ := HL1.out.at'.row.cells
  have HFI := Lib.hid (refFind_any c0 HL1.out.at'.args rfl n)
  replace HFI : Hid (Calls Tryz.prog 45 #[.pointer (some ⟨p.g, p.o, none⟩), .string n] W1 fun ed w' => W1 = w' ∧ ∃ r : Int, ed = .returned (.int .i64 r) ∧ FoundAt e.cells n r) := HFI
  replace c0 : W1.cell? ⟨p.g, p.o, none⟩ = some (.slice p.A e.cells.length p.kc) := c0
  replace c1 : W1.cell? ⟨p.g, p.o + 1, none⟩ = some (.slice (some ⟨p.bv, p.ov, none⟩) e.cells.length p.cv) := c1
  replace c2 : W1.cell? ⟨p.g, p.o + 2, none⟩ = some (.slice (some ⟨p.bm, p.om, none⟩) e.cells.length p.cm) := c2
  replace c3 : W1.cell? ⟨p.g, p.o + 3, none⟩ = some (.int .i64 e.rev) := c3
  replace c5 : W1.cell? ⟨p.g, p.o + 5, none⟩ = some (.int .i64 0) := c5
  clear hL X1 c4
  have r0 : W1.cell? ⟨w.heap.size, 0, none⟩ = some (.string ⟨#[]⟩) := by rw [new_off K1.out]; rfl
  have r1 : W1.cell? ⟨w.heap.size, 1, none⟩ = some (.bool false) := by rw [new_off K1.out]; rfl
  have f0 := Lib.frozen_of_heap K1.out 0
  have f1 := Lib.frozen_of_heap K1.out 1
  go_enter Tryz.func47, Tryz.ntmps47
  go_upto_region 1 with (fail)
  rw [← hW1]
  clear hW1
  go_wp2_with fail
  refine HFI.out.mono ?_
  rintro ed w1 ⟨rfl, r, rfl, hf⟩
  obtain rfl := found_none hf hc
  clear hf hc HFI
  go_wp2_with fail
  exact ret_foundR Tryz.results47 rfl (found_setR K1.out _ _) rfl (RetOR.live HLW.out HX1.out HL1.out.at' (v := none) (Nat.zero_le _) _ _)
set_option maxRecDepth 100000 in
set_option maxHeartbeats 8000000 in
theorem val_input {w : World} {S : Nat → Prop} {p : Plc} {C d : Nat} {e : E.En} {opn : List ByteArray} {st : E.St} (hL : RLive w S p C d { e with st := st } opn) (hz : e.cells.length ≤ 1000) {n : ByteArray} {c : E.Cell} (hc : E.findC e.cells n = some c) (hi1 : E.isIn c = true) {v : E.V} (hv0 : e.vals n = v) (hv : (v.getD ⟨#[]⟩).size ≤ 65536) :
    Calls Tryz.prog 47 #[.pointer (some ⟨p.g, p.o, none⟩), .string n] w (RetOR w S p d e opn (.ok (v, st))) := by
  have HLW := Lib.hid hL.low
  have HLL := Lib.hid hL
  obtain ⟨W1, hW1⟩ : ∃ W1, W1 = w.alloc (.cells #[.string ⟨#[]⟩, .bool false] 82) := ⟨_, rfl⟩
  have X1 : Ext w W1 := by rw [hW1]; exact (Ext.refl w).alloc _
  have K1 : Hid (W1.heap[w.heap.size]? = some (.cells #[.string ⟨#[]⟩, .bool false] 82)) := Lib.hid (by rw [hW1]; exact heap_alloc_new w _)
  have HS1 : Hid (W1.heap.size = w.heap.size + 1) := Lib.hid (by rw [hW1]; simp)
  have HX1 := Lib.hid X1
  have HL1 := Lib.hid (hL.ext X1)
  obtain ⟨c0, c1, c2, c3, c4, c5⟩ := HL1.out.at'.row.cells
  have HFI := Lib.hid (refFind_any c0 HL1.out.at'.args rfl n)
  replace HFI : Hid (Calls Tryz.prog 45 #[.pointer (some ⟨p.g, p.o, none⟩), .string n] W1 fun ed w' => W1 = w' ∧ ∃ r : Int, ed = .returned (.int .i64 r) ∧ FoundAt e.cells n r) := HFI
  replace c0 : W1.cell? ⟨p.g, p.o, none⟩ = some (.slice p.A e.cells.length p.kc) := c0
  replace c1 : W1.cell? ⟨p.g, p.o + 1, none⟩ = some (.slice (some ⟨p.bv, p.ov, none⟩) e.cells.length p.cv) := c1
  replace c2 : W1.cell? ⟨p.g, p.o + 2, none⟩ = some (.slice (some ⟨p.bm, p.om, none⟩) e.cells.length p.cm) := c2
  replace c3 : W1.cell? ⟨p.g, p.o + 3, none⟩ = some (.int .i64 e.rev) := c3
  replace c5 : W1.cell? ⟨p.g, p.o + 5, none⟩ = some (.int .i64 0) := c5
  clear hL X1 c4
  have r0 : W1.cell? ⟨w.heap.size, 0, none⟩ = some (.string ⟨#[]⟩) := by rw [new_off K1.out]; rfl
  have r1 : W1.cell? ⟨w.heap.size, 1, none⟩ = some (.bool false) := by rw [new_off K1.out]; rfl
  have f0 := Lib.frozen_of_heap K1.out 0
  have f1 := Lib.frozen_of_heap K1.out 1
  go_enter Tryz.func47, Tryz.ntmps47
  go_upto_region 1 with (fail)
  rw [← hW1]
  clear hW1
  go_wp2_with fail
  refine HFI.out.mono ?_
  rintro ed w1 ⟨rfl, r, rfl, hf⟩
  obtain ⟨i, hi, hn1, rfl, rfl⟩ := found_some hf hc
  have hnm : nmAt e.cells i = n := by rw [nmAt_get hi]; exact hn1
  have HNM := Lib.hid hnm
  obtain ⟨b, off, A2, k2, hAe, hbb, d0, d1, d2, d3, z1, z2, z3, z4⟩ := cell_get HL1.out.at'.args hi
  replace d0 : W1.cell? ⟨b, off + i * 4, none⟩ = some (.string e.cells[i].1) := d0
  replace d1 : W1.cell? ⟨b, off + i * 4 + 1, none⟩ = some (.int .i64 e.cells[i].2.1) := d1
  replace hAe : p.A = some ⟨b, off, none⟩ := hAe
  have HAE := Lib.hid hAe
  rw [hAe] at c0
  have HI := Lib.hid hi
  have HN1 := Lib.hid hn1
  have HC := Lib.hid hc
  clear hf hAe hnm HFI d2 d3 z2 z4 z1 d0 hn1
  replace d1 : W1.cell? ⟨b, off + i * 4 + 1, none⟩ = some (.int .i64 1) := by rw [← isIn_one hi1]; exact d1
  obtain ⟨v0, v1⟩ := HL1.out.at'.vals.cells HI.out
  replace v0 : W1.cell? ⟨p.bv, p.ov + i * 2, none⟩ = some (.string ((e.vals (nmAt e.cells i)).getD ⟨#[]⟩)) := v0
  replace v1 : W1.cell? ⟨p.bv, p.ov + i * 2 + 1, none⟩ = some (.bool (e.vals (nmAt e.cells i)).isSome) := v1
  rw [HNM.out, hv0] at v0 v1
  clear hi1 hv0 z3 hc
  have HV := Lib.hid hv
  clear hv
  obtain ⟨L, hL⟩ : ∃ L, L = e.cells.length := ⟨_, rfl⟩
  rw [← hL] at c0 c1 c2 hz
  have hiL : i < L := by rw [hL]; exact HI.out
  have HLE := Lib.hid hL
  clear hL
  generalize hva : v.getD ⟨#[]⟩ = va at *
  generalize hvb : v.isSome = vb at *
  have HVA := Lib.hid hva
  have HVB := Lib.hid hvb
  clear hva hvb
  go_wp2_with fail
  refine ret_foundR Tryz.results47 rfl (found_setR K1.out _ _) rfl ?_
  rw [← HVA.out, ← HVB.out]
  exact RetOR.live HLW.out HX1.out HL1.out.at' (v := v) (by rw [HVA.out]; exact HV.out) _ _
set_option maxRecDepth 100000 in
set_option maxHeartbeats 8000000 in
theorem val_loop {w : World} {S : Nat → Prop} {p : Plc} {C d : Nat} {e : E.En} {opn : List ByteArray} {st : E.St} (hL : RLive w S p C d { e with st := st } opn) (hz : e.cells.length ≤ 1000) {n : ByteArray} {c : E.Cell} (hc : E.findC e.cells n = some c) (hi1 : E.isIn c = false) (ho : E.has opn n = true) :
    Calls Tryz.prog 47 #[.pointer (some ⟨p.g, p.o, none⟩), .string n] w (RetOR w S p d e opn (.error E.eLoop)) := by
  have HLW := Lib.hid hL.low
  have HLL := Lib.hid hL
  obtain ⟨W1, hW1⟩ : ∃ W1, W1 = w.alloc (.cells #[.string ⟨#[]⟩, .bool false] 82) := ⟨_, rfl⟩
  have X1 : Ext w W1 := by rw [hW1]; exact (Ext.refl w).alloc _
  have K1 : Hid (W1.heap[w.heap.size]? = some (.cells #[.string ⟨#[]⟩, .bool false] 82)) := Lib.hid (by rw [hW1]; exact heap_alloc_new w _)
  have HS1 : Hid (W1.heap.size = w.heap.size + 1) := Lib.hid (by rw [hW1]; simp)
  have HX1 := Lib.hid X1
  have HL1 := Lib.hid (hL.ext X1)
  obtain ⟨c0, c1, c2, c3, c4, c5⟩ := HL1.out.at'.row.cells
  have HFI := Lib.hid (refFind_any c0 HL1.out.at'.args rfl n)
  replace HFI : Hid (Calls Tryz.prog 45 #[.pointer (some ⟨p.g, p.o, none⟩), .string n] W1 fun ed w' => W1 = w' ∧ ∃ r : Int, ed = .returned (.int .i64 r) ∧ FoundAt e.cells n r) := HFI
  replace c0 : W1.cell? ⟨p.g, p.o, none⟩ = some (.slice p.A e.cells.length p.kc) := c0
  replace c1 : W1.cell? ⟨p.g, p.o + 1, none⟩ = some (.slice (some ⟨p.bv, p.ov, none⟩) e.cells.length p.cv) := c1
  replace c2 : W1.cell? ⟨p.g, p.o + 2, none⟩ = some (.slice (some ⟨p.bm, p.om, none⟩) e.cells.length p.cm) := c2
  replace c3 : W1.cell? ⟨p.g, p.o + 3, none⟩ = some (.int .i64 e.rev) := c3
  replace c5 : W1.cell? ⟨p.g, p.o + 5, none⟩ = some (.int .i64 0) := c5
  clear hL X1 c4
  have r0 : W1.cell? ⟨w.heap.size, 0, none⟩ = some (.string ⟨#[]⟩) := by rw [new_off K1.out]; rfl
  have r1 : W1.cell? ⟨w.heap.size, 1, none⟩ = some (.bool false) := by rw [new_off K1.out]; rfl
  have f0 := Lib.frozen_of_heap K1.out 0
  have f1 := Lib.frozen_of_heap K1.out 1
  go_enter Tryz.func47, Tryz.ntmps47
  go_upto_region 1 with (fail)
  rw [← hW1]
  clear hW1
  go_wp2_with fail
  refine HFI.out.mono ?_
  rintro ed w1 ⟨rfl, r, rfl, hf⟩
  obtain ⟨i, hi, hn1, rfl, rfl⟩ := found_some hf hc
  have hnm : nmAt e.cells i = n := by rw [nmAt_get hi]; exact hn1
  have HNM := Lib.hid hnm
  obtain ⟨b, off, A2, k2, hAe, hbb, d0, d1, d2, d3, z1, z2, z3, z4⟩ := cell_get HL1.out.at'.args hi
  replace d0 : W1.cell? ⟨b, off + i * 4, none⟩ = some (.string e.cells[i].1) := d0
  replace d1 : W1.cell? ⟨b, off + i * 4 + 1, none⟩ = some (.int .i64 e.cells[i].2.1) := d1
  replace hAe : p.A = some ⟨b, off, none⟩ := hAe
  have HAE := Lib.hid hAe
  rw [hAe] at c0
  have HI := Lib.hid hi
  have HN1 := Lib.hid hn1
  have HC := Lib.hid hc
  clear hf hAe hnm HFI d2 d3 z2 z4 z1 d0 hn1
  have hop : e.cells[i].2.1 ≠ 1 := isIn_not hi1
  have hop1 : (e.cells[i].2.1 == 1) = false := by rw [beq_eq_false_iff_ne]; exact hop
  generalize e.cells[i].2.1 = op at d1 hop hop1
  clear hi1 hop
  obtain ⟨us, hok, hul, hus⟩ := HL1.out.at'.memos.cells HI.out
  replace hok : MOk W1 S (E.has opn (nmAt e.cells i)) us (st.ms (nmAt e.cells i)) := hok
  rw [HNM.out, ho] at hok
  have m5 : W1.cell? ⟨p.bm, p.om + i * 6 + 5, none⟩ = some (.bool true) := by
    rw [hus 5 (by omega)]
    cases hm : st.ms n with
    | none => rw [hm] at hok; rw [show us = _ from hok]; rfl
    | some m => rw [hm] at hok; obtain ⟨_, _, _, A, k, h4, _⟩ := hok; rw [h4]; rfl
  have fg := HL1.out.at'.row.frozen (p.o + 5)
  clear hok hul hus hc z3
  obtain ⟨L, hL⟩ : ∃ L, L = e.cells.length := ⟨_, rfl⟩
  rw [← hL] at c0 c1 c2 hz
  have hiL : i < L := by rw [hL]; exact HI.out
  have HLE := Lib.hid hL
  clear hL
  go_wp2_with fail
  obtain ⟨l1, l2, l5⟩ := HLW.out
  obtain ⟨W3, hW3⟩ : ∃ W3, W3 = W1.setCell ⟨p.g, p.o + 5, none⟩ (.int .i64 12) := ⟨_, rfl⟩
  rw [← hW3]
  have hgl := l1 p.g (.inl rfl)
  have T3 : Tch (fun k => k = p.g) W1 W3 := by rw [hW3]; exact (Tch.refl (fun k => k = p.g) W1).setCell (p := ⟨p.g, p.o + 5, none⟩) (fun _ => rfl) _
  have K3 : W3.heap[w.heap.size]? = some (.cells #[.string ⟨#[]⟩, .bool false] 82 (0, 0)) := (T3.block _ (Array.getElem?_eq_some_iff.1 K1.out).1 (by omega)).trans K1.out
  have hY : Tch (fun k => k = w.heap.size) W3 ((W3.setCell ⟨w.heap.size, 0, none⟩ (.string ⟨#[]⟩)).setCell ⟨w.heap.size, 1, none⟩ (.bool false)) := ((Tch.refl (fun k => k = w.heap.size) W3).setCell (p := ⟨w.heap.size, 0, none⟩) (fun _ => rfl) (.string ⟨#[]⟩)).setCell (p := ⟨w.heap.size, 1, none⟩) (fun _ => rfl) (.bool false)
  have T4 : Tch (MvR p) w W3 := (HX1.out.tch (MvR p)).trans (T3.mono fun k _ hk => .inl hk)
  have D3 : RDead W3 S p e 12 := HLL.out.deadS (by rw [hW3]; exact HL1.out.at'.row.setFault 12) T4
  exact ret_foundR Tryz.results47 rfl (found_setR K3 _ _) rfl ⟨T4.trans' hY fun i hi e => by omega, rfl, by decide, D3.tch hY fun k hk => ⟨by omega, fun hs => by have := l5 _ hs; omega⟩⟩
set_option maxRecDepth 100000 in
set_option maxHeartbeats 8000000 in
theorem val_kept {w : World} {S : Nat → Prop} {p : Plc} {C d : Nat} {e : E.En} {opn : List ByteArray} {st : E.St} (hL : RLive w S p C d { e with st := st } opn) (hz : e.cells.length ≤ 1000) {n : ByteArray} {c : E.Cell} (hc : E.findC e.cells n = some c) (hi1 : E.isIn c = false) (ho : E.has opn n = false) {m : E.Memo} (hm : st.ms n = some m) (hat : m.at' = e.rev) :
    Calls Tryz.prog 47 #[.pointer (some ⟨p.g, p.o, none⟩), .string n] w (RetOR w S p d e opn (.ok (m.res, st))) := by
  have HLW := Lib.hid hL.low
  have HLL := Lib.hid hL
  obtain ⟨W1, hW1⟩ : ∃ W1, W1 = w.alloc (.cells #[.string ⟨#[]⟩, .bool false] 82) := ⟨_, rfl⟩
  have X1 : Ext w W1 := by rw [hW1]; exact (Ext.refl w).alloc _
  have K1 : Hid (W1.heap[w.heap.size]? = some (.cells #[.string ⟨#[]⟩, .bool false] 82)) := Lib.hid (by rw [hW1]; exact heap_alloc_new w _)
  have HS1 : Hid (W1.heap.size = w.heap.size + 1) := Lib.hid (by rw [hW1]; simp)
  have HX1 := Lib.hid X1
  have HL1 := Lib.hid (hL.ext X1)
  obtain ⟨c0, c1, c2, c3, c4, c5⟩ := HL1.out.at'.row.cells
  have HFI := Lib.hid (refFind_any c0 HL1.out.at'.args rfl n)
  replace HFI : Hid (Calls Tryz.prog 45 #[.pointer (some ⟨p.g, p.o, none⟩), .string n] W1 fun ed w' => W1 = w' ∧ ∃ r : Int, ed = .returned (.int .i64 r) ∧ FoundAt e.cells n r) := HFI
  replace c0 : W1.cell? ⟨p.g, p.o, none⟩ = some (.slice p.A e.cells.length p.kc) := c0
  replace c1 : W1.cell? ⟨p.g, p.o + 1, none⟩ = some (.slice (some ⟨p.bv, p.ov, none⟩) e.cells.length p.cv) := c1
  replace c2 : W1.cell? ⟨p.g, p.o + 2, none⟩ = some (.slice (some ⟨p.bm, p.om, none⟩) e.cells.length p.cm) := c2
  replace c3 : W1.cell? ⟨p.g, p.o + 3, none⟩ = some (.int .i64 e.rev) := c3
  replace c5 : W1.cell? ⟨p.g, p.o + 5, none⟩ = some (.int .i64 0) := c5
  clear hL X1 c4
  go_enter Tryz.func47, Tryz.ntmps47
  go_upto_region 1 with (fail)
  rw [← hW1]
  clear hW1
  go_wp2_with fail
  refine HFI.out.mono ?_
  rintro ed w1 ⟨rfl, r, rfl, hf⟩
  obtain ⟨i, hi, hn1, rfl, rfl⟩ := found_some hf hc
  have hnm : nmAt e.cells i = n := by rw [nmAt_get hi]; exact hn1
  have HNM := Lib.hid hnm
  obtain ⟨b, off, A2, k2, hAe, hbb, d0, d1, d2, d3, z1, z2, z3, z4⟩ := cell_get HL1.out.at'.args hi
  replace d0 : W1.cell? ⟨b, off + i * 4, none⟩ = some (.string e.cells[i].1) := d0
  replace d1 : W1.cell? ⟨b, off + i * 4 + 1, none⟩ = some (.int .i64 e.cells[i].2.1) := d1
  replace hAe : p.A = some ⟨b, off, none⟩ := hAe
  have HAE := Lib.hid hAe
  rw [hAe] at c0
  have HI := Lib.hid hi
  have HN1 := Lib.hid hn1
  have HC := Lib.hid hc
  clear hf hAe hnm HFI d2 d3 z2 z4 z1 d0 hn1
  have hop : e.cells[i].2.1 ≠ 1 := isIn_not hi1
  have hop1 : (e.cells[i].2.1 == 1) = false := by rw [beq_eq_false_iff_ne]; exact hop
  generalize e.cells[i].2.1 = op at d1 hop hop1
  clear hi1 hop
  obtain ⟨us, hok, hul, hus⟩ := HL1.out.at'.memos.cells HI.out
  replace hok : MOk W1 S (E.has opn (nmAt e.cells i)) us (st.ms (nmAt e.cells i)) := hok
  rw [HNM.out] at hok
  rw [hm] at hok
  obtain ⟨z5, z6, z7, Am, km, hue, hsm⟩ := hok
  have HZ5 := Lib.hid z5
  have HSM := Lib.hid hsm
  rw [hue] at hus
  have m0 := hus 0 (by omega)
  have m1 := hus 1 (by omega)
  have m2 := hus 2 (by omega)
  have m3 := hus 3 (by omega)
  have m4 := hus 4 (by omega)
  have m5 := hus 5 (by omega)
  rw [ho] at m5
  replace m0 : W1.cell? ⟨p.bm, p.om + i * 6, none⟩ = some (.bool true) := m0
  replace m1 : W1.cell? ⟨p.bm, p.om + i * 6 + 1, none⟩ = some (.int .i64 m.at') := m1
  replace m2 : W1.cell? ⟨p.bm, p.om + i * 6 + 2, none⟩ = some (.string (m.res.getD ⟨#[]⟩)) := m2
  replace m3 : W1.cell? ⟨p.bm, p.om + i * 6 + 3, none⟩ = some (.bool m.res.isSome) := m3
  replace m4 : W1.cell? ⟨p.bm, p.om + i * 6 + 4, none⟩ = some (.slice Am m.reads.length km) := m4
  replace m5 : W1.cell? ⟨p.bm, p.om + i * 6 + 5, none⟩ = some (.bool false) := m5
  clear hue hsm hus hul
  generalize hma : m.res.getD ⟨#[]⟩ = ma at *
  generalize hmb : m.res.isSome = mb at *
  have HMA := Lib.hid hma
  have HMB := Lib.hid hmb
  clear hma hmb
  have hrevz : ((m.at' : Int) == (e.rev : Int)) = true := by rw [hat]; simp
  generalize hri : (m.at' : Int) = ri at *
  clear hat hri hc z3 hm
  obtain ⟨L, hL⟩ : ∃ L, L = e.cells.length := ⟨_, rfl⟩
  rw [← hL] at c0 c1 c2 hz
  have hiL : i < L := by rw [hL]; exact HI.out
  have HLE := Lib.hid hL
  clear hL
  go_upto_region 10 with (fail)
  obtain ⟨W2, hW2⟩ : ∃ W2, W2 = W1.alloc (.cells #[.bool true, .int .i64 ri, .string ma, .bool mb, .slice Am m.reads.length km, .bool false] 119) := ⟨_, rfl⟩
  rw [← hW2]
  have X2 : Ext W1 W2 := by rw [hW2]; exact (Ext.refl W1).alloc _
  have K2 : Hid (W2.heap[w.heap.size]? = some (.cells #[.string ⟨#[]⟩, .bool false] 82)) := Lib.hid ((X2.block _ (Array.getElem?_eq_some_iff.1 K1.out).1).trans K1.out)
  have KB : Hid (W2.heap[W1.heap.size]? = some (.cells #[.bool true, .int .i64 ri, .string ma, .bool mb, .slice Am m.reads.length km, .bool false] 119 (0, 0))) := Lib.hid (by rw [hW2]; exact heap_alloc_new W1 _)
  have HX2 := Lib.hid (HX1.out.trans X2)
  have HL2 := Lib.hid (HL1.out.ext X2)
  have q0 : W2.cell? ⟨W1.heap.size, 0, none⟩ = some (.bool true) := by rw [new_off KB.out]; rfl
  have q1 : W2.cell? ⟨W1.heap.size, 1, none⟩ = some (.int .i64 ri) := by rw [new_off KB.out]; rfl
  have q2 : W2.cell? ⟨W1.heap.size, 2, none⟩ = some (.string ma) := by rw [new_off KB.out]; rfl
  have q3 : W2.cell? ⟨W1.heap.size, 3, none⟩ = some (.bool mb) := by rw [new_off KB.out]; rfl
  have g3 : W2.cell? ⟨p.g, p.o + 3, none⟩ = some (.int .i64 e.rev) := X2.keepc c3
  have r0 : W2.cell? ⟨w.heap.size, 0, none⟩ = some (.string ⟨#[]⟩) := by rw [new_off K2.out]; rfl
  have r1 : W2.cell? ⟨w.heap.size, 1, none⟩ = some (.bool false) := by rw [new_off K2.out]; rfl
  have f0 := Lib.frozen_of_heap K2.out 0
  have f1 := Lib.frozen_of_heap K2.out 1
  clear X2 hW2 c0 c1 c2 c3 c5 d1 m0 m1 m2 m3 m4 m5
  go_quiet (fail)
  go_wp2_with fail
  refine ret_foundR Tryz.results47 rfl (found_setR (show (W2.drewN _).heap[w.heap.size]? = _ from K2.out) _ _) rfl ?_
  rw [← HMA.out, ← HMB.out]
  exact RetOR.live HLW.out (HX2.out.drewN _) (HL2.out.at'.ext ((Ext.refl W2).drewN _)) (v := m.res) (by rw [HMA.out]; exact HZ5.out) _ _
end Go.Proofs.YtkeaoejgboefbaaGreatDoor

/- The reference's value: a first computation. -/
namespace Go.Proofs.YtkeaoejgboefbaaGreatDoor
open Go.RowKit Go.Maps

set_option maxRecDepth 100000 in
set_option maxHeartbeats 8000000 in
theorem val_new {w : World} {S : Nat → Prop} {p : Plc} {C d : Nat} {e : E.En} {opn : List ByteArray} {st : E.St} (hL : RLive w S p C d { e with st := st } opn) (hz : e.cells.length ≤ 1000) {n : ByteArray} {c : E.Cell} (hc : E.findC e.cells n = some c) (hi1 : E.isIn c = false) (ho : E.has opn n = false) (hfb : E.formedB c = true) (hon : Once e.cells) (hd : d ≤ 3000) (hC : C ≤ 4000000000000000000) (hrev : e.rev < 4000000000000000000) {get : E.St → E.Nm → Except Int (E.V × E.St)} (hm : st.ms n = none) (hget : GetIsR p C (d + 1) e (n :: opn) get) :
    Calls Tryz.prog 47 #[.pointer (some ⟨p.g, p.o, none⟩), .string n] w (RetOR w S p d e opn (E.comp e.rev E.form get st n c)) := by
  have HFB := Lib.hid hfb
  have HII := Lib.hid hi1
  have HON := Lib.hid hon
  have HO := Lib.hid ho
  have HGT := Lib.hid hget
  have HZE := Lib.hid hz
  have HLW := Lib.hid hL.low
  have HLL := Lib.hid hL
  obtain ⟨W1, hW1⟩ : ∃ W1, W1 = w.alloc (.cells #[.string ⟨#[]⟩, .bool false] 82) := ⟨_, rfl⟩
  have X1 : Ext w W1 := by rw [hW1]; exact (Ext.refl w).alloc _
  have K1 : Hid (W1.heap[w.heap.size]? = some (.cells #[.string ⟨#[]⟩, .bool false] 82)) := Lib.hid (by rw [hW1]; exact heap_alloc_new w _)
  have HS1 : Hid (W1.heap.size = w.heap.size + 1) := Lib.hid (by rw [hW1]; simp)
  have HX1 := Lib.hid X1
  have HL1 := Lib.hid (hL.ext X1)
  obtain ⟨c0, c1, c2, c3, c4, c5⟩ := HL1.out.at'.row.cells
  have HFI := Lib.hid (refFind_any c0 HL1.out.at'.args rfl n)
  replace HFI : Hid (Calls Tryz.prog 45 #[.pointer (some ⟨p.g, p.o, none⟩), .string n] W1 fun ed w' => W1 = w' ∧ ∃ r : Int, ed = .returned (.int .i64 r) ∧ FoundAt e.cells n r) := HFI
  replace c0 : W1.cell? ⟨p.g, p.o, none⟩ = some (.slice p.A e.cells.length p.kc) := c0
  replace c1 : W1.cell? ⟨p.g, p.o + 1, none⟩ = some (.slice (some ⟨p.bv, p.ov, none⟩) e.cells.length p.cv) := c1
  replace c2 : W1.cell? ⟨p.g, p.o + 2, none⟩ = some (.slice (some ⟨p.bm, p.om, none⟩) e.cells.length p.cm) := c2
  replace c3 : W1.cell? ⟨p.g, p.o + 3, none⟩ = some (.int .i64 e.rev) := c3
  replace c5 : W1.cell? ⟨p.g, p.o + 5, none⟩ = some (.int .i64 0) := c5
  clear hL X1 c4
  go_enter Tryz.func47, Tryz.ntmps47
  go_upto_region 1 with (fail)
  rw [← hW1]
  clear hW1
  go_wp2_with fail
  refine HFI.out.mono ?_
  rintro ed w1 ⟨rfl, r, rfl, hf⟩
  obtain ⟨i, hi, hn1, rfl, rfl⟩ := found_some hf hc
  have hnm : nmAt e.cells i = n := by rw [nmAt_get hi]; exact hn1
  have HNM := Lib.hid hnm
  obtain ⟨b, off, A2, k2, hAe, hbb, d0, d1, d2, d3, z1, z2, z3, z4⟩ := cell_get HL1.out.at'.args hi
  replace d0 : W1.cell? ⟨b, off + i * 4, none⟩ = some (.string e.cells[i].1) := d0
  replace d1 : W1.cell? ⟨b, off + i * 4 + 1, none⟩ = some (.int .i64 e.cells[i].2.1) := d1
  replace hAe : p.A = some ⟨b, off, none⟩ := hAe
  have HAE := Lib.hid hAe
  rw [hAe] at c0
  have HI := Lib.hid hi
  have HN1 := Lib.hid hn1
  have HC := Lib.hid hc
  clear hf hAe hnm HFI d2 d3 z2 z4 z1 d0 hn1
  have hop : e.cells[i].2.1 ≠ 1 := isIn_not hi1
  have hop1 : (e.cells[i].2.1 == 1) = false := by rw [beq_eq_false_iff_ne]; exact hop
  generalize e.cells[i].2.1 = op at d1 hop hop1
  clear hi1 hop
  obtain ⟨us, hok, hul, hus⟩ := HL1.out.at'.memos.cells HI.out
  replace hok : MOk W1 S (E.has opn (nmAt e.cells i)) us (st.ms (nmAt e.cells i)) := hok
  rw [HNM.out] at hok
  have HRC := Lib.hid (show E.comp e.rev E.form get st n e.cells[i] = match E.runP get (E.form e.cells[i]) st [] with
    | .error x => .error x
    | .ok (v, rs, S') => if E.big v then .error E.eLarge else .ok (v, ⟨E.put S'.ms n ⟨v, rs, e.rev⟩, S'.cnt + 1⟩) from rfl)
  generalize E.comp e.rev E.form get st n e.cells[i] = R at *
  have HAT : Hid (∀ m, st.ms n = some m → m.at' ≠ e.rev) := Lib.hid fun m h => by rw [hm] at h; cases h
  rw [hm] at hok
  have hue : us = _ := hok
  rw [hue] at hus
  have m0 := hus 0 (by omega)
  have m1 := hus 1 (by omega)
  have m2 := hus 2 (by omega)
  have m3 := hus 3 (by omega)
  have m4 := hus 4 (by omega)
  have m5 := hus 5 (by omega)
  rw [ho] at m5
  replace m0 : W1.cell? ⟨p.bm, p.om + i * 6, none⟩ = some (.bool false) := m0
  replace m1 : W1.cell? ⟨p.bm, p.om + i * 6 + 1, none⟩ = some (.int .i64 0) := m1
  replace m2 : W1.cell? ⟨p.bm, p.om + i * 6 + 2, none⟩ = some (.string ⟨#[]⟩) := m2
  replace m3 : W1.cell? ⟨p.bm, p.om + i * 6 + 3, none⟩ = some (.bool false) := m3
  replace m4 : W1.cell? ⟨p.bm, p.om + i * 6 + 4, none⟩ = some (.slice none 0 0) := m4
  replace m5 : W1.cell? ⟨p.bm, p.om + i * 6 + 5, none⟩ = some (.bool false) := m5
  clear hue hus hul hok hc z3 hm hget hon hfb
  obtain ⟨L, hL⟩ : ∃ L, L = e.cells.length := ⟨_, rfl⟩
  rw [← hL] at c0 c1 c2 hz
  have hiL : i < L := by rw [hL]; exact HI.out
  have HLE := Lib.hid hL
  clear hL
  go_upto_region 10 with (fail)
  obtain ⟨W2, hW2⟩ : ∃ W2, W2 = W1.alloc (.cells #[.bool false, .int .i64 0, .string ⟨#[]⟩, .bool false, .slice none 0 0, .bool false] 119) := ⟨_, rfl⟩
  rw [← hW2]
  have X2 : Ext W1 W2 := by rw [hW2]; exact (Ext.refl W1).alloc _
  have K2 : Hid (W2.heap[w.heap.size]? = some (.cells #[.string ⟨#[]⟩, .bool false] 82)) := Lib.hid ((X2.block _ (Array.getElem?_eq_some_iff.1 K1.out).1).trans K1.out)
  have KB : Hid (W2.heap[W1.heap.size]? = some (.cells #[.bool false, .int .i64 0, .string ⟨#[]⟩, .bool false, .slice none 0 0, .bool false] 119 (0, 0))) := Lib.hid (by rw [hW2]; exact heap_alloc_new W1 _)
  have HX2 := Lib.hid (HX1.out.trans X2)
  have HL2 := Lib.hid (HL1.out.ext X2)
  have q0 : W2.cell? ⟨W1.heap.size, 0, none⟩ = some (.bool false) := by rw [new_off KB.out]; rfl
  clear hW2
  go_quiet (fail)
  obtain ⟨W3, hW3⟩ : ∃ W3, W3 = W2.drewN nq := ⟨_, rfl⟩
  rw [← hW3]
  have X3 : Ext W2 W3 := by rw [hW3]; exact (Ext.refl W2).drewN nq
  have HL3 := Lib.hid (HL2.out.ext X3)
  have HX3 := Lib.hid (HX2.out.trans X3)
  have K3 : Hid (W3.heap[w.heap.size]? = some (.cells #[.string ⟨#[]⟩, .bool false] 82 (0, 0))) := Lib.hid (by rw [hW3]; exact K2.out)
  have KB3 : Hid (W3.heap[W1.heap.size]? = some (.cells #[.bool false, .int .i64 0, .string ⟨#[]⟩, .bool false, .slice none 0 0, .bool false] 119 (0, 0))) := Lib.hid (by rw [hW3]; exact KB.out)
  have e2 := X3.keepc (X2.keepc c2)
  have e5 := X3.keepc (X2.keepc m5)
  have fm := HL3.out.at'.memos.frozen (p.om + i * 6 + 5)
  clear X2 X3 hW3 c0 c1 c2 c3 c5 d1 m0 m1 m2 m3 m4 m5 q0
  go_upto_region 13 with (fail)
  obtain ⟨W4, hW4⟩ : ∃ W4, W4 = W3.setCell ⟨p.bm, p.om + i * 6 + 5, none⟩ (.bool true) := ⟨_, rfl⟩
  rw [← hW4]
  obtain ⟨l1, l2, l5⟩ := HLW.out
  have hs1 := HS1.out
  have hbl := l1 p.bm (.inr rfl)
  have T4 : Tch (fun k => k = p.bm) W3 W4 := by rw [hW4]; exact (Tch.refl (fun k => k = p.bm) W3).setCell (p := ⟨p.bm, p.om + i * 6 + 5, none⟩) (fun _ => rfl) _
  have HL4 : Hid (RLive W4 S p C d { e with st := st } (n :: opn)) := Lib.hid (by
    obtain ⟨n1, n2, n3⟩ := HL3.out.at'.ne
    obtain ⟨o1, o2, o3⟩ := HL3.out.at'.out
    have hS : ∀ k, S k → k < W3.heap.size ∧ ¬ k = p.bm := fun k hk => ⟨HL3.out.at'.lt k hk, fun e => o3 (e ▸ hk)⟩
    obtain ⟨U, hI, hU⟩ := HL3.out.inv
    refine ⟨⟨HL3.out.at'.row.tch T4 n2, HL3.out.at'.args.tch T4 hS, HL3.out.at'.vals.tch T4 n3, ?_, HL3.out.at'.caps, HL3.out.at'.ne, HL3.out.at'.out, fun k hk => Nat.lt_of_lt_of_le (HL3.out.at'.lt k hk) T4.size⟩, U, inv_open hI HAT.out, hU⟩
    rw [hW4]
    refine HL3.out.at'.memos.mark HI.out ?_ (fun j hj hji => ?_) (fun k hk => ⟨(hS k hk).1, (hS k hk).2⟩)
    · show E.has (n :: opn) (nmAt e.cells i) = true
      rw [HNM.out, E.has_iff]; exact List.mem_cons_self
    · show E.has (n :: opn) (nmAt e.cells j) = E.has opn (nmAt e.cells j)
      have hne : nmAt e.cells j ≠ n := fun h => hji (HON.out j i hj HI.out (h.trans HNM.out.symm))
      unfold E.has
      rw [List.any_cons, decide_eq_false (fun h => hne h.symm), Bool.false_or])
  have HRS : Hid (W4.heap[w.heap.size]? = some (.cells #[.string ⟨#[]⟩, .bool false] 82 (0, 0))) := Lib.hid ((T4.block _ (Array.getElem?_eq_some_iff.1 K3.out).1 (by omega)).trans K3.out)
  have HBX : Hid (W4.heap[W1.heap.size]? = some (.cells #[.bool false, .int .i64 0, .string ⟨#[]⟩, .bool false, .slice none 0 0, .bool false] 119 (0, 0))) := Lib.hid ((T4.block _ (Array.getElem?_eq_some_iff.1 KB3.out).1 (by omega)).trans KB3.out)
  have HTW : Hid (Tch (MvR p) w W4) := Lib.hid ((HX3.out.tch _).trans (T4.mono fun k _ hk => .inr hk))
  clear hW4 T4 l1 l2 l5 hs1 hbl e2 e5 fm
  have b0 : W4.cell? ⟨W1.heap.size, 0, none⟩ = some (.bool false) := by rw [new_off HBX.out]; rfl
  go_wp2_with fail
  go_loopw [7, 8] (fun v7 v8 wr => v7 = .bool false ∧ v8 = .int .i64 0 ∧ wr = W4) (fun _ _ _ => 0)
  case atStart => exact ⟨rfl, rfl, rfl⟩
  case round =>
    obtain ⟨rfl, rfl, hwr⟩ := hrel
    have HW : Hid (RLive wr S p C d { e with st := st } (n :: opn)) := Lib.hid (by rw [hwr]; exact HL4.out)
    rw [← hwr] at HRS HBX HTW
    have HSN : Hid ((∀ k, S k → S k) ∧ ∀ k, S k → S k ∨ w.heap.size + 2 ≤ k) := Lib.hid ⟨fun k hk => hk, fun k hk => .inl hk⟩
    clear hwr b0
    obtain ⟨U, hIU, hUc⟩ := HW.out.inv
    have hUl := inv_few hIU
    have hcn : ((st.cnt : Int) + d) ≤ 4000000000000010000 := by
      have h1 : st.cnt ≤ C + U.length := hUc
      have h2 : U.length ≤ e.cells.length := hUl
      have h3 : e.cells.length ≤ 1000 := HZE.out
      omega
    have hcn0 : (0 : Int) ≤ ((st.cnt : Int) + d) := by omega
    have g4 : wr.cell? ⟨p.g, p.o + 4, none⟩ = some (.int .i64 ((st.cnt : Int) + d)) := HW.out.at'.row.cells.2.2.2.2.1
    have g5 : wr.cell? ⟨p.g, p.o + 5, none⟩ = some (.int .i64 0) := HW.out.at'.row.cells.2.2.2.2.2
    have fg4 := HW.out.at'.row.frozen (p.o + 4)
    clear hIU hUc hUl
    generalize hcne : ((st.cnt : Int) + d) = cn at *
    have HCN := Lib.hid hcne
    clear hcne
    go_upto_region 20 with (fail)
    obtain ⟨Wa, hWa⟩ : ∃ Wa, Wa = (wr).setCell ⟨p.g, p.o + 4, none⟩ (.int .i64 (cn + 1)) := ⟨_, rfl⟩
    rw [← hWa]
    obtain ⟨l1, l2, l5⟩ := HLW.out
    have hs1 := HS1.out
    have hgl := l1 p.g (.inl rfl)
    have hbl := l1 p.bm (.inr rfl)
    have Ta : Tch (fun k => k = p.g) (wr) Wa := by rw [hWa]; exact (Tch.refl (fun k => k = p.g) _).setCell (p := ⟨p.g, p.o + 4, none⟩) (fun _ => rfl) _
    have HWa : Hid (RLive Wa S p C (d + 1) { e with st := st } (n :: opn)) := Lib.hid (by
      obtain ⟨n1, n2, n3⟩ := HW.out.at'.ne
      obtain ⟨o1, o2, o3⟩ := HW.out.at'.out
      have hS : ∀ k, S k → k < (wr).heap.size ∧ ¬ k = p.g := fun k hk => ⟨HW.out.at'.lt k hk, fun e => o1 (e ▸ hk)⟩
      refine ⟨⟨?_, HW.out.at'.args.tch Ta hS, HW.out.at'.vals.tch Ta fun e => n1 e.symm, HW.out.at'.memos.tch Ta (fun e => n2 e.symm) hS fun _ hk => hk, HW.out.at'.caps, HW.out.at'.ne, HW.out.at'.out, fun k hk => Nat.lt_of_lt_of_le (HW.out.at'.lt k hk) Ta.size⟩, HW.out.inv⟩
      have := HW.out.at'.row.setCnt (cn + 1)
      rw [← hWa] at this
      have e1 : ((st.cnt : Int) + ((d + 1 : Nat) : Int)) = cn + 1 := by rw [← HCN.out]; omega
      show RRow Wa p.g p.o p.pr p.A e.cells.length p.kc p.bv p.ov p.cv p.bm p.om p.cm e.rev ((st.cnt : Int) + ((d + 1 : Nat) : Int)) 0
      rw [e1]
      exact this)
    have HBa : Hid (Wa.heap[W1.heap.size]? = some (.cells #[.bool false, .int .i64 0, .string ⟨#[]⟩, .bool false, .slice none 0 0, .bool false] 119 (0, 0))) := Lib.hid ((Ta.block _ (Array.getElem?_eq_some_iff.1 HBX.out).1 (by omega)).trans HBX.out)
    have HRa : Hid (Wa.heap[w.heap.size]? = some (.cells #[.string ⟨#[]⟩, .bool false] 82 (0, 0))) := Lib.hid ((Ta.block _ (Array.getElem?_eq_some_iff.1 HRS.out).1 (by omega)).trans HRS.out)
    have HTa : Hid (Tch (MvR p) w Wa) := Lib.hid (HTW.out.trans (Ta.mono fun k _ hk => .inl hk))
    clear hWa Ta g4 g5 fg4 l1 l2 l5 hgl hbl hs1
    have w4 : Wa.cell? ⟨W1.heap.size, 4, none⟩ = some (.slice none 0 0) := by rw [new_off HBa.out]; rfl
    have fw4 := Lib.frozen_of_heap HBa.out 4
    go_upto_region 21 with (fail)
    obtain ⟨Wb, hWb⟩ : ∃ Wb, Wb = Wa.setCell ⟨W1.heap.size, 4, none⟩ (.slice none 0 0) := ⟨_, rfl⟩
    rw [← hWb]
    obtain ⟨l1, l2, l5⟩ := HLW.out
    have hs1 := HS1.out
    have hgl := l1 p.g (.inl rfl)
    have hbl := l1 p.bm (.inr rfl)
    have Tb : Tch (fun k => k = W1.heap.size) Wa Wb := by rw [hWb]; exact (Tch.refl (fun k => k = W1.heap.size) Wa).setCell (p := ⟨W1.heap.size, 4, none⟩) (fun _ => rfl) _
    have hmbS : ¬ S W1.heap.size := fun hs => by
      rcases HSN.out.2 _ hs with h | h
      · have := l5 _ h; omega
      · omega
    have hmbM : ¬ MvR p W1.heap.size := fun e => by have := l1 _ e; omega
    have HWb : Hid (RLive Wb S p C (d + 1) { e with st := st } (n :: opn)) := Lib.hid (HWa.out.tch Tb fun k hk => by subst hk; exact ⟨hmbM, by omega, hmbS⟩)
    have HBb : Hid (Wb.heap[W1.heap.size]? = some (.cells #[.bool false, .int .i64 0, .string ⟨#[]⟩, .bool false, .slice none 0 0, .bool false] 119 (0, 0))) := Lib.hid (by rw [hWb]; exact heap_setCell_cells HBa.out 4 _)
    have HRb : Hid (Wb.heap[w.heap.size]? = some (.cells #[.string ⟨#[]⟩, .bool false] 82 (0, 0))) := Lib.hid ((Tb.block _ (Array.getElem?_eq_some_iff.1 HRa.out).1 (by omega)).trans HRa.out)
    have HTb : Hid (Tch (MvR p) w Wb) := Lib.hid (HTa.out.trans' Tb fun i hi e => by omega)
    have hbs : W1.heap.size < Wb.heap.size := (Array.getElem?_eq_some_iff.1 HBb.out).1
    have HMB := Lib.hid (show W1.heap.size < Wb.heap.size ∧ ¬ MvR p W1.heap.size ∧ W1.heap.size ≠ p.bv ∧ ¬ S W1.heap.size from ⟨hbs, hmbM, by omega, hmbS⟩)
    have hq0 : Wb.heap.size ≤ Wb.heap.size ∧ QCR Wb S p C (d + 1) e (n :: opn) W1.heap.size (.bool false) (.int .i64 0) (.string ⟨#[]⟩) (.bool false) (.bool false) Wb (.ok (st, [])) 0 none (footR p W1.heap.size S none) :=
      ⟨Nat.le_refl _, S, .slice none 0 0, [], rfl, ⟨HBb.out, OwnAt.nil _ _ _ _, by simp [Value.ownBlock]⟩, rfl, rfl, (fun t ht => by cases ht), (fun k hk => hk), (fun k hk => .inl hk), HWb.out.at'.lt, (fun r hr => by cases hr), HWb.out.at'.args, rfl, HWb.out⟩
    obtain ⟨bb, ob', A3, k3, hAe3, hbb3, y0, y1, y2, y3, t1, t2, hz3, t4⟩ := cell_get HWb.out.at'.args HI.out
    have e3 : bb = b ∧ ob' = off := by
      have := HAE.out.symm.trans hAe3
      injection this with h
      injection h with h1 h2
      exact ⟨h1.symm, h2.symm⟩
    obtain ⟨rfl, rfl⟩ := e3
    have HFC := Lib.hid (refCompute_any (asksR_compute (a0 := .bool false) (a1 := .int .i64 0) (a2 := .string ⟨#[]⟩) (a3 := .bool false) (a5 := .bool false) HGT.out HWb.out HMB.out) HFB.out HII.out hq0 hz3 (fun k hk => ⟨HWb.out.at'.lt k hk, by rintro (e | e); exact (HWb.out.mv hk).2 e; exact hmbS (e ▸ hk), by simp⟩))
    have HRN := Lib.hid (runQ_is get (E.form e.cells[i]) st [])
    have x0 := HWb.out.at'.row.cells.1
    rw [show ({ e with st := st } : E.En).cells.length = L from HLE.out.symm, HAE.out] at x0
    unfold cellV at HFC
    have y0' : Wb.cell? ⟨bb, ob' + i * 4, none⟩ = some (.string e.cells[i].1) := y0
    have y1' : Wb.cell? ⟨bb, ob' + i * 4 + 1, none⟩ = some (.int .i64 e.cells[i].2.1) := y1
    have y2' : Wb.cell? ⟨bb, ob' + i * 4 + 2, none⟩ = some (.slice A3 e.cells[i].2.2.1.length k3) := y2
    have y3' : Wb.cell? ⟨bb, ob' + i * 4 + 3, none⟩ = some (.string e.cells[i].2.2.2) := y3
    clear y0 y1 y2 y3 t1 t2 t4 hz3 hq0 hAe3 hWb Tb hmbS hmbM hbs l1 l2 l5 hgl hbl hs1 w4 fw4
    generalize hrq : runQ get (E.form e.cells[i]) (.ok (st, [])) = rq at *
    clear hrq
    obtain ⟨v0, q0⟩ := rq
    generalize hrun : E.runP get (E.form e.cells[i]) st [] = run at *
    have HRUN := Lib.hid hrun
    clear hrun
    generalize e.cells[i].1 = cnm at *
    generalize e.cells[i].2.1 = cop at *
    generalize e.cells[i].2.2.1.length = cln at *
    generalize e.cells[i].2.2.2 = ctx at *
    go_wp2_with fail
    refine HFC.out.mono ?_
    rintro ed w1 ⟨rfl, hsz, u', F', mm, hmm, ht, hw0, S', v, rs, rfl, hq⟩
    have hstay : ∀ j o, Wb.heap[j]? = some o → w.heap.size ≤ j → j ≠ W1.heap.size → w1.heap[j]? = some o := fun j o hj h1 h2 => (ht.tch.block j (Array.getElem?_eq_some_iff.1 hj).1 (by
      rintro ((h | h) | h)
      · have := HLW.out.1 _ h; omega
      · exact h2 h
      · cases h)).trans hj
    have hs1 := HS1.out
    have HR1 := Lib.hid (hstay _ _ HRb.out (Nat.le_refl _) (by omega))
    have HT1 : Hid (Tch (MvR p) w w1) := Lib.hid (HTb.out.trans' ht.tch fun j hj h => by
      rcases h with (h | h) | h
      · exact h
      · omega
      · cases h)
    have HQ : Hid (QCoreR Wb S p C (d + 1) e (n :: opn) W1.heap.size (.bool false) (.int .i64 0) (.string ⟨#[]⟩) (.bool false) (.bool false) w1 q0 mm u' S' v rs) := Lib.hid hq
    have HZ0 : Hid ((v0.getD ⟨#[]⟩).size ≤ 140737488355328) := Lib.hid hsz
    have HMM := Lib.hid hmm
    clear hstay ht hw0 hq hsz hmm hs1 y0' y1' y2' y3' x0
    have hfv : foundV (v0, q0).1 = .agg #[.string (v0.getD ⟨#[]⟩), .bool v0.isSome] := rfl
    rw [hfv]
    obtain ⟨a, ha⟩ : ∃ a, a = v0.getD ⟨#[]⟩ := ⟨_, rfl⟩
    obtain ⟨bo, hb⟩ : ∃ bo, bo = v0.isSome := ⟨_, rfl⟩
    rw [← ha, ← hb]
    have HAA := Lib.hid ha
    have HBB := Lib.hid hb
    clear hfv ha hb
    have KX1 := Lib.hid HQ.out.rds.heap
    have w2 : w1.cell? ⟨W1.heap.size, 2, none⟩ = some (.string ⟨#[]⟩) := by rw [new_off KX1.out]; rfl
    have w3 : w1.cell? ⟨W1.heap.size, 3, none⟩ = some (.bool false) := by rw [new_off KX1.out]; rfl
    have fw2 := Lib.frozen_of_heap KX1.out 2
    have fw3 := Lib.frozen_of_heap KX1.out 3
    go_upto_region 22 with (fail)
    obtain ⟨Wc, hWc⟩ : ∃ Wc, Wc = (w1.setCell ⟨W1.heap.size, 2, none⟩ (.string a)).setCell ⟨W1.heap.size, 3, none⟩ (.bool bo) := ⟨_, rfl⟩
    rw [← hWc]
    obtain ⟨l1, l2, l5⟩ := HLW.out
    have hs1 := HS1.out
    have Tc : Tch (fun k => k = W1.heap.size) w1 Wc := by rw [hWc]; exact ((Tch.refl (fun k => k = W1.heap.size) w1).setCell (p := ⟨W1.heap.size, 2, none⟩) (fun _ => rfl) _).setCell (p := ⟨W1.heap.size, 3, none⟩) (fun _ => rfl) _
    have KXc : Hid (Wc.heap[W1.heap.size]? = some (.cells #[.bool false, .int .i64 0, .string a, .bool bo, v, .bool false] 119 (0, 0))) := Lib.hid (by rw [hWc]; exact heap_setCell_cells (heap_setCell_cells KX1.out 2 _) 3 _)
    have HRc := Lib.hid ((Tc.block _ (Array.getElem?_eq_some_iff.1 HR1.out).1 (by omega)).trans HR1.out)
    have HTc : Hid (Tch (MvR p) w Wc) := Lib.hid (HT1.out.trans' Tc fun j hj h => by omega)
    have HTC := Lib.hid Tc
    have q2 : Wc.cell? ⟨W1.heap.size, 2, none⟩ = some (.string a) := by rw [new_off KXc.out]; rfl
    have r0 : Wc.cell? ⟨w.heap.size, 0, none⟩ = some (.string ⟨#[]⟩) := by rw [new_off HRc.out]; rfl
    have r1 : Wc.cell? ⟨w.heap.size, 1, none⟩ = some (.bool false) := by rw [new_off HRc.out]; rfl
    have f0 := Lib.frozen_of_heap HRc.out 0
    have f1 := Lib.frozen_of_heap HRc.out 1
    have hmbm : ¬ MvR p W1.heap.size := HMB.out.2.1
    have hba2 : a.size ≤ 140737488355328 := by rw [HAA.out]; exact HZ0.out
    clear hWc w2 w3 fw2 fw3 l1 l2 l5 Tc hs1
    cases run with
    | error x =>
      have HE : Hid (R = .error x) := HRC
      have hq1 : q0 = .error x := HRN.out
      subst hq1
      obtain ⟨hx0, hd0⟩ := HQ.out.st
      have HDX := Lib.hid (hd0.tch HTC.out fun k hk => by subst hk; exact ⟨fun h => hmbm (.inl h), fun hs => HMB.out.2.2.2 hs⟩)
      have HX0 := Lib.hid hx0
      have hx1 : (x == 0) = false := by rw [beq_eq_false_iff_ne]; exact hx0
      have hx2 : (x != 0) = true := by rw [bne, hx1]; rfl
      obtain ⟨cnt, hrow⟩ := HDX.out.row
      have c5 := hrow.cells.2.2.2.2.2
      clear hd0 hx0 hrow
      by_cases hba : 65536 < a.size
      · go_wp2_with fail
        have hY : Tch (fun k => k = w.heap.size) Wc ((Wc.setCell ⟨w.heap.size, 0, none⟩ (.string ⟨#[]⟩)).setCell ⟨w.heap.size, 1, none⟩ (.bool false)) := ((Tch.refl (fun k => k = w.heap.size) Wc).setCell (p := ⟨w.heap.size, 0, none⟩) (fun _ => rfl) _).setCell (p := ⟨w.heap.size, 1, none⟩) (fun _ => rfl) _
        obtain ⟨l1, l2, l5⟩ := HLW.out
        have hgl := l1 p.g (.inl rfl)
        refine ret_foundR Tryz.results47 rfl (found_setR HRc.out _ _) rfl ⟨HTc.out.trans' hY fun i hi e => by omega, ?_⟩
        rw [HE.out]
        exact ⟨rfl, HX0.out, HDX.out.tch hY fun k hk => ⟨by omega, fun hs => by have := l5 _ hs; omega⟩⟩
      · go_wp2_with fail
        have hY : Tch (fun k => k = w.heap.size) Wc ((Wc.setCell ⟨w.heap.size, 0, none⟩ (.string ⟨#[]⟩)).setCell ⟨w.heap.size, 1, none⟩ (.bool false)) := ((Tch.refl (fun k => k = w.heap.size) Wc).setCell (p := ⟨w.heap.size, 0, none⟩) (fun _ => rfl) _).setCell (p := ⟨w.heap.size, 1, none⟩) (fun _ => rfl) _
        obtain ⟨l1, l2, l5⟩ := HLW.out
        have hgl := l1 p.g (.inl rfl)
        refine ret_foundR Tryz.results47 rfl (found_setR HRc.out _ _) rfl ⟨HTc.out.trans' hY fun i hi e => by omega, ?_⟩
        rw [HE.out]
        exact ⟨rfl, HX0.out, HDX.out.tch hY fun k hk => ⟨by omega, fun hs => by have := l5 _ hs; omega⟩⟩
    | ok rr =>
      obtain ⟨v1, rs1, st1⟩ := rr
      have h1 : (v0, q0) = (v1, Except.ok (st1, rs1)) := HRN.out
      obtain ⟨rfl, rfl⟩ := Prod.mk.inj h1
      replace HRC : Hid (R = if E.big v0 then .error E.eLarge else .ok (v0, ⟨E.put st1.ms n ⟨v0, rs1, e.rev⟩, st1.cnt + 1⟩)) := HRC
      obtain ⟨hrs, hlv⟩ := HQ.out.st
      subst hrs
      have hmbS' : ¬ S' W1.heap.size := fun hs => by
        rcases HQ.out.sup _ hs with h | h
        · exact HMB.out.2.2.2 h
        · have := HMB.out.1; omega
      have HLc := Lib.hid (hlv.tch HTC.out fun k hk => by subst hk; exact ⟨hmbm, HMB.out.2.2.1, hmbS'⟩)
      have HMS' := Lib.hid hmbS'
      clear h1 hlv hmbS'
      have c5 : Wc.cell? ⟨p.g, p.o + 5, none⟩ = some (.int .i64 0) := HLc.out.at'.row.cells.2.2.2.2.2
      by_cases hbg : E.big v0 = true
      · have HE : Hid (R = .error E.eLarge) := Lib.hid (by rw [HRC.out, if_pos hbg])
        have hbs : 65536 < a.size := by
          rw [HAA.out]
          cases v0 with
          | none => cases hbg
          | some s => exact of_decide_eq_true hbg
        have fc5 := HLc.out.at'.row.frozen (p.o + 5)
        clear hbg
        go_upto_region 24 with (fail)
        obtain ⟨Wd, hWd⟩ : ∃ Wd, Wd = Wc.setCell ⟨p.g, p.o + 5, none⟩ (.int .i64 10) := ⟨_, rfl⟩
        rw [← hWd]
        obtain ⟨l1, l2, l5⟩ := HLW.out
        have hgl := l1 p.g (.inl rfl)
        have Td : Tch (fun k => k = p.g) Wc Wd := by rw [hWd]; exact (Tch.refl (fun k => k = p.g) Wc).setCell (p := ⟨p.g, p.o + 5, none⟩) (fun _ => rfl) _
        have HRd := Lib.hid ((Td.block _ (Array.getElem?_eq_some_iff.1 HRc.out).1 (by omega)).trans HRc.out)
        have HTd : Hid (Tch (MvR p) w Wd) := Lib.hid (HTc.out.trans (Td.mono fun k _ hk => .inl hk))
        have hrd := HLc.out.at'.row.setFault 10
        rw [← hWd] at hrd
        have HDd : Hid (RDead Wd S p e 10) := Lib.hid (HLL.out.deadS hrd HTd.out)
        have d5 : Wd.cell? ⟨p.g, p.o + 5, none⟩ = some (.int .i64 10) := hrd.cells.2.2.2.2.2
        have HX0 : Hid ((10 : Int) ≠ 0) := Lib.hid (by decide)
        clear hWd Td hrd l1 l2 l5 hgl r0 r1 f0 f1 q2 c5 fc5
        have r0 : Wd.cell? ⟨w.heap.size, 0, none⟩ = some (.string ⟨#[]⟩) := by rw [new_off HRd.out]; rfl
        have r1 : Wd.cell? ⟨w.heap.size, 1, none⟩ = some (.bool false) := by rw [new_off HRd.out]; rfl
        have f0 := Lib.frozen_of_heap HRd.out 0
        have f1 := Lib.frozen_of_heap HRd.out 1
        go_wp2_with fail
        have hY : Tch (fun k => k = w.heap.size) Wd ((Wd.setCell ⟨w.heap.size, 0, none⟩ (.string ⟨#[]⟩)).setCell ⟨w.heap.size, 1, none⟩ (.bool false)) := ((Tch.refl (fun k => k = w.heap.size) Wd).setCell (p := ⟨w.heap.size, 0, none⟩) (fun _ => rfl) _).setCell (p := ⟨w.heap.size, 1, none⟩) (fun _ => rfl) _
        obtain ⟨l1, l2, l5⟩ := HLW.out
        have hgl := l1 p.g (.inl rfl)
        refine ret_foundR Tryz.results47 rfl (found_setR HRd.out _ _) rfl ⟨HTd.out.trans' hY fun i hi e => by omega, ?_⟩
        rw [HE.out]
        exact ⟨rfl, HX0.out, HDd.out.tch hY fun k hk => ⟨by omega, fun hs => by have := l5 _ hs; omega⟩⟩
      · have HE : Hid (R = .ok (v0, ⟨E.put st1.ms n ⟨v0, rs1, e.rev⟩, st1.cnt + 1⟩)) := Lib.hid (by rw [HRC.out, if_neg hbg])
        have hba : a.size ≤ 65536 := by
          rw [HAA.out]
          cases v0 with
          | none => exact Nat.zero_le _
          | some s =>
            have : ¬ (65536 < s.size) := fun h => hbg (decide_eq_true h)
            exact Nat.le_of_not_lt this
        have HBA := Lib.hid hba
        have HRL : Hid (rs1.length ≤ 100) := Lib.hid (by have h1 := HQ.out.len; have h2 := HMM.out; omega)
        obtain ⟨A5, k5, hve, hsv⟩ := reads_sliceR (HQ.out.rds.own.keep (w' := Wc) fun j hj hl => HTC.out.block j hl fun h => HQ.out.rds.ne (by rw [hj, h])) rfl HQ.out.sz
        have hown : ∀ j, v.ownBlock = some j → Wb.heap.size ≤ j ∧ ¬ S' j ∧ j < Wc.heap.size := fun j hj => ⟨(HQ.out.hi j (HQ.out.own ▸ hj)).1, (HQ.out.hi j (HQ.out.own ▸ hj)).2, Nat.lt_of_lt_of_le (own_at_lt HQ.out.rds.own hj) HTC.out.size⟩
        obtain ⟨l1, l2, l5⟩ := HLW.out
        have hs1 := HS1.out
        have hbs := HMB.out.1
        have hgl := l1 p.g (.inl rfl)
        have hbl := l1 p.bm (.inr rfl)
        obtain ⟨o1, o2, o3⟩ := HLc.out.at'.out
        have HAX := Lib.hid (HLc.out.at'.sub (S2 := fun k => S' k ∨ v.ownBlock = some k) (fun k hk => .inl hk) (fun k hk => by
          rcases hk with h | h
          · exact HLc.out.at'.lt k h
          · exact (hown k h).2.2) ⟨by
          rintro (h | h)
          · exact o1 h
          · have := (hown _ h).1; omega, by
          rintro (h | h)
          · exact o2 h
          · have := (hown _ h).1; omega, by
          rintro (h | h)
          · exact o3 h
          · have := (hown _ h).1; omega⟩)
        have HSV : Hid (SliceAt readR Wc (fun k => S' k ∨ v.ownBlock = some k) A5 k5 rs1) := Lib.hid (hsv.keep (fun k hk => .inr hk) fun _ _ => rfl)
        have HSX : Hid ((∀ k, S k → (fun k => S' k ∨ v.ownBlock = some k) k) ∧ ∀ k, (fun k => S' k ∨ v.ownBlock = some k) k → S k ∨ w.heap.size + 2 ≤ k) := Lib.hid ⟨fun k hk => .inl (HQ.out.sub k (HSN.out.1 k hk)), fun k hk => by
          rcases hk with h | h
          · rcases HQ.out.sup k h with h | h
            · exact HSN.out.2 k h
            · exact .inr (by omega)
          · exact .inr (by have := (hown k h).1; omega)⟩
        rw [hve] at KXc
        clear hbg hve hsv hown l1 l2 l5 hs1 hbs hgl hbl o1 o2 o3 c5
        have c5 : Wc.cell? ⟨p.g, p.o + 5, none⟩ = some (.int .i64 0) := HAX.out.row.cells.2.2.2.2.2
        have c3 : Wc.cell? ⟨p.g, p.o + 3, none⟩ = some (.int .i64 e.rev) := HAX.out.row.cells.2.2.2.1
        have p0 : Wc.cell? ⟨W1.heap.size, 0, none⟩ = some (.bool false) := by rw [new_off KXc.out]; rfl
        have p1 : Wc.cell? ⟨W1.heap.size, 1, none⟩ = some (.int .i64 0) := by rw [new_off KXc.out]; rfl
        have p5 : Wc.cell? ⟨W1.heap.size, 5, none⟩ = some (.bool false) := by rw [new_off KXc.out]; rfl
        have fp0 := Lib.frozen_of_heap KXc.out 0
        have fp1 := Lib.frozen_of_heap KXc.out 1
        have fp5 := Lib.frozen_of_heap KXc.out 5
        go_upto_region 27 with (fail)
        obtain ⟨We, hWe⟩ : ∃ We, We = ((Wc.setCell ⟨W1.heap.size, 0, none⟩ (.bool true)).setCell ⟨W1.heap.size, 1, none⟩ (.int .i64 e.rev)).setCell ⟨W1.heap.size, 5, none⟩ (.bool false) := ⟨_, rfl⟩
        rw [← hWe]
        obtain ⟨l1, l2, l5⟩ := HLW.out
        have hs1 := HS1.out
        have hgl := l1 p.g (.inl rfl)
        have hbl := l1 p.bm (.inr rfl)
        have Te : Tch (fun k => k = W1.heap.size) Wc We := by rw [hWe]; exact (((Tch.refl (fun k => k = W1.heap.size) Wc).setCell (p := ⟨W1.heap.size, 0, none⟩) (fun _ => rfl) _).setCell (p := ⟨W1.heap.size, 1, none⟩) (fun _ => rfl) _).setCell (p := ⟨W1.heap.size, 5, none⟩) (fun _ => rfl) _
        have KXe : Hid (We.heap[W1.heap.size]? = some (.cells #[.bool true, .int .i64 e.rev, .string a, .bool bo, .slice A5 rs1.length k5, .bool false] 119 (0, 0))) := Lib.hid (by rw [hWe]; exact heap_setCell_cells (heap_setCell_cells (heap_setCell_cells KXc.out 0 _) 1 _) 5 _)
        have HRe : Hid (We.heap[w.heap.size]? = some (.cells #[.string ⟨#[]⟩, .bool false] 82 (0, 0))) := Lib.hid ((Te.block _ (Array.getElem?_eq_some_iff.1 HRc.out).1 (by omega)).trans HRc.out)
        have HTe : Hid (Tch (MvR p) w We) := Lib.hid (HTc.out.trans' Te fun j hj h => by omega)
        have hmbx : ¬ (fun k => S' k ∨ v.ownBlock = some k) W1.heap.size := fun hs => by
          rcases HSX.out.2 _ hs with h | h
          · have := l5 _ h; omega
          · omega
        have HAe := Lib.hid (HAX.out.tch Te fun k hk => by subst hk; exact ⟨by omega, by omega, by omega, hmbx⟩)
        have HSVe := Lib.hid (HSV.out.tch Te fun k hk => ⟨HAX.out.lt k hk, fun h => hmbx (h ▸ hk)⟩)
        obtain ⟨ux, hokx, hulx, husx⟩ := HAe.out.memos.cells HI.out
        have hex : ∀ j, j < 6 → ∃ x, We.cell? ⟨p.bm, p.om + i * 6 + j, none⟩ = some x := fun j hj => ⟨ux[j]'(by omega), by rw [husx j hj, List.getElem?_eq_getElem]⟩
        obtain ⟨y0, hy0⟩ := hex 0 (by omega)
        obtain ⟨y1, hy1⟩ := hex 1 (by omega)
        obtain ⟨y2, hy2⟩ := hex 2 (by omega)
        obtain ⟨y3, hy3⟩ := hex 3 (by omega)
        obtain ⟨y4, hy4⟩ := hex 4 (by omega)
        obtain ⟨y5, hy5⟩ := hex 5 (by omega)
        have hy0 : We.cell? ⟨p.bm, p.om + i * 6, none⟩ = some y0 := hy0
        have z0 := HAe.out.memos.frozen (p.om + i * 6)
        have z1 := HAe.out.memos.frozen (p.om + i * 6 + 1)
        have z2 := HAe.out.memos.frozen (p.om + i * 6 + 2)
        have z3 := HAe.out.memos.frozen (p.om + i * 6 + 3)
        have z4 := HAe.out.memos.frozen (p.om + i * 6 + 4)
        have z5 := HAe.out.memos.frozen (p.om + i * 6 + 5)
        have k2 : We.cell? ⟨p.g, p.o + 2, none⟩ = some (.slice (some ⟨p.bm, p.om, none⟩) L p.cm) := by rw [HLE.out]; exact HAe.out.row.cells.2.2.1
        clear hWe Te c5 c3 p0 p1 p5 fp0 fp1 fp5 hokx hulx husx hex hmbx hs1 hgl hbl l1 l2 l5
        obtain ⟨Φ, hΦ⟩ : ∃ Φ : World → Prop, ∀ w', Φ w' ↔ (w'.cell? ⟨p.g, p.o + 2, none⟩ = some (.slice (some ⟨p.bm, p.om, none⟩) L p.cm) ∧ w'.cell? ⟨W1.heap.size, 0, none⟩ = some (.bool true) ∧ w'.cell? ⟨W1.heap.size, 1, none⟩ = some (.int .i64 e.rev) ∧ w'.cell? ⟨W1.heap.size, 2, none⟩ = some (.string a) ∧ w'.cell? ⟨W1.heap.size, 3, none⟩ = some (.bool bo) ∧ w'.cell? ⟨W1.heap.size, 4, none⟩ = some (.slice A5 rs1.length k5) ∧ w'.cell? ⟨W1.heap.size, 5, none⟩ = some (.bool false)) := ⟨_, fun _ => Iff.rfl⟩
        have h0 : Φ We.drew := (hΦ _).2 ⟨k2, by show We.cell? _ = _; rw [new_off KXe.out]; rfl, by show We.cell? _ = _; rw [new_off KXe.out]; rfl, by show We.cell? _ = _; rw [new_off KXe.out]; rfl, by show We.cell? _ = _; rw [new_off KXe.out]; rfl, by show We.cell? _ = _; rw [new_off KXe.out]; rfl, by show We.cell? _ = _; rw [new_off KXe.out]; rfl⟩
        have fx0 : ∀ x : Lat Φ, x.w'.cell? ⟨p.g, p.o + 2, none⟩ = some (.slice (some ⟨p.bm, p.om, none⟩) L p.cm) := fun x => ((hΦ _).1 x.h).1
        have fx1 : ∀ x : Lat Φ, x.w'.cell? ⟨W1.heap.size, 0, none⟩ = some (.bool true) := fun x => ((hΦ _).1 x.h).2.1
        have fx2 : ∀ x : Lat Φ, x.w'.cell? ⟨W1.heap.size, 1, none⟩ = some (.int .i64 e.rev) := fun x => ((hΦ _).1 x.h).2.2.1
        have fx3 : ∀ x : Lat Φ, x.w'.cell? ⟨W1.heap.size, 2, none⟩ = some (.string a) := fun x => ((hΦ _).1 x.h).2.2.2.1
        have fx4 : ∀ x : Lat Φ, x.w'.cell? ⟨W1.heap.size, 3, none⟩ = some (.bool bo) := fun x => ((hΦ _).1 x.h).2.2.2.2.1
        have fx5 : ∀ x : Lat Φ, x.w'.cell? ⟨W1.heap.size, 4, none⟩ = some (.slice A5 rs1.length k5) := fun x => ((hΦ _).1 x.h).2.2.2.2.2.1
        have fx6 : ∀ x : Lat Φ, x.w'.cell? ⟨W1.heap.size, 5, none⟩ = some (.bool false) := fun x => ((hΦ _).1 x.h).2.2.2.2.2.2
        have hne1 := Lat.some h0
        clear hΦ k2
        refine wp_region_tail 7 [] Φ h0 (by kernel_rfl) (by kernel_rfl) (by kernel_rfl) ?_
        simp only [List.take_succ_cons, List.take_zero, List.drop_succ_cons, List.drop_zero]
        iterate 7 (refine lex_pure rfl rfl rfl ?_; intro K hK; go_big_quiet_op; go_big_quiet_on)
        refine lex_nil ?_
        clear fx0 fx1 fx2 fx3 fx4 fx5 fx6 hne1 h0
        obtain ⟨Wf, hWf⟩ : ∃ Wf, Wf = We.drew := ⟨_, rfl⟩
        rw [← hWf]
        have hy0 : Wf.cell? ⟨p.bm, p.om + i * 6, none⟩ = some y0 := by rw [hWf]; exact hy0
        have hy1 : Wf.cell? ⟨p.bm, p.om + i * 6 + 1, none⟩ = some y1 := by rw [hWf]; exact hy1
        have hy2 : Wf.cell? ⟨p.bm, p.om + i * 6 + 2, none⟩ = some y2 := by rw [hWf]; exact hy2
        have hy3 : Wf.cell? ⟨p.bm, p.om + i * 6 + 3, none⟩ = some y3 := by rw [hWf]; exact hy3
        have hy4 : Wf.cell? ⟨p.bm, p.om + i * 6 + 4, none⟩ = some y4 := by rw [hWf]; exact hy4
        have hy5 : Wf.cell? ⟨p.bm, p.om + i * 6 + 5, none⟩ = some y5 := by rw [hWf]; exact hy5
        have z0 : Wf.frozen? ⟨p.bm, p.om + i * 6, none⟩ = false := by rw [hWf]; exact z0
        have z1 : Wf.frozen? ⟨p.bm, p.om + i * 6 + 1, none⟩ = false := by rw [hWf]; exact z1
        have z2 : Wf.frozen? ⟨p.bm, p.om + i * 6 + 2, none⟩ = false := by rw [hWf]; exact z2
        have z3 : Wf.frozen? ⟨p.bm, p.om + i * 6 + 3, none⟩ = false := by rw [hWf]; exact z3
        have z4 : Wf.frozen? ⟨p.bm, p.om + i * 6 + 4, none⟩ = false := by rw [hWf]; exact z4
        have z5 : Wf.frozen? ⟨p.bm, p.om + i * 6 + 5, none⟩ = false := by rw [hWf]; exact z5
        have HWF : Hid (Ext We Wf) := Lib.hid (by rw [hWf]; exact (Ext.refl We).drew)
        have HAf := Lib.hid (HAe.out.ext HWF.out)
        have HSVf := Lib.hid (HSVe.out.tch (HWF.out.tch fun _ => False) fun k hk => ⟨HAe.out.lt k hk, fun h => h⟩)
        have KXf := Lib.hid ((HWF.out.block _ (Array.getElem?_eq_some_iff.1 KXe.out).1).trans KXe.out)
        have HRf := Lib.hid ((HWF.out.block _ (Array.getElem?_eq_some_iff.1 HRe.out).1).trans HRe.out)
        have HTf := Lib.hid (HTe.out.trans (HWF.out.tch _))
        clear hWf
        go_upto_region 28 with (fail)
        obtain ⟨Wg, hWg⟩ : ∃ Wg, Wg = Wf.setCells p.bm (p.om + i * 6) [.bool true, .int .i64 e.rev, .string a, .bool bo, .slice A5 rs1.length k5, .bool false] := ⟨_, rfl⟩
        have hnest : (((((Wf.setCell ⟨p.bm, p.om + i * 6, none⟩ (.bool true)).setCell ⟨p.bm, p.om + i * 6 + 1, none⟩ (.int .i64 e.rev)).setCell ⟨p.bm, p.om + i * 6 + 2, none⟩ (.string a)).setCell ⟨p.bm, p.om + i * 6 + 3, none⟩ (.bool bo)).setCell ⟨p.bm, p.om + i * 6 + 4, none⟩ (.slice A5 rs1.length k5)).setCell ⟨p.bm, p.om + i * 6 + 5, none⟩ (.bool false) = Wg := by rw [hWg]; rfl
        rw [hnest]
        have HWR : Hid (RefAt Wg (fun k => S' k ∨ v.ownBlock = some k) p d 0 opn { e with st := ⟨E.put st1.ms n ⟨v0, rs1, e.rev⟩, st1.cnt + 1⟩ } ∧ Tch (fun k => k = p.bm) Wf Wg) := Lib.hid (by
          rw [hWg]
          exact RefAt.written (d' := d + 1) HAf.out HON.out HI.out HNM.out HO.out (v := v0) (rs := rs1) (A := A5) (k := k5) (cnt := st1.cnt + 1) (by rw [HAA.out, HBB.out]) HSVf.out (by rw [← HAA.out]; exact HBA.out) HRL.out hrev (by first | rfl | omega))
        obtain ⟨l1, l2, l5⟩ := HLW.out
        have hs1 := HS1.out
        have hbl := l1 p.bm (.inr rfl)
        have KXg : Hid (Wg.heap[W1.heap.size]? = some (.cells #[.bool true, .int .i64 e.rev, .string a, .bool bo, .slice A5 rs1.length k5, .bool false] 119 (0, 0))) := Lib.hid ((HWR.out.2.block _ (Array.getElem?_eq_some_iff.1 KXf.out).1 (by omega)).trans KXf.out)
        have HRg : Hid (Wg.heap[w.heap.size]? = some (.cells #[.string ⟨#[]⟩, .bool false] 82 (0, 0))) := Lib.hid ((HWR.out.2.block _ (Array.getElem?_eq_some_iff.1 HRf.out).1 (by omega)).trans HRf.out)
        have HTg : Hid (Tch (MvR p) w Wg) := Lib.hid (HTf.out.trans (HWR.out.2.mono fun k _ hk => .inr hk))
        clear hnest hWg hy0 hy1 hy2 hy3 hy4 hy5 z0 z1 z2 z3 z4 z5 l1 l2 l5 hs1 hbl r0 r1 f0 f1 q2
        have q2 : Wg.cell? ⟨W1.heap.size, 2, none⟩ = some (.string a) := by rw [new_off KXg.out]; rfl
        have q3 : Wg.cell? ⟨W1.heap.size, 3, none⟩ = some (.bool bo) := by rw [new_off KXg.out]; rfl
        have r0 : Wg.cell? ⟨w.heap.size, 0, none⟩ = some (.string ⟨#[]⟩) := by rw [new_off HRg.out]; rfl
        have r1 : Wg.cell? ⟨w.heap.size, 1, none⟩ = some (.bool false) := by rw [new_off HRg.out]; rfl
        have f0 := Lib.frozen_of_heap HRg.out 0
        have f1 := Lib.frozen_of_heap HRg.out 1
        go_wp2_with fail
        have hY : Tch (fun k => k = w.heap.size) Wg ((Wg.setCell ⟨w.heap.size, 0, none⟩ (.string a)).setCell ⟨w.heap.size, 1, none⟩ (.bool bo)) := ((Tch.refl (fun k => k = w.heap.size) Wg).setCell (p := ⟨w.heap.size, 0, none⟩) (fun _ => rfl) _).setCell (p := ⟨w.heap.size, 1, none⟩) (fun _ => rfl) _
        obtain ⟨l1, l2, l5⟩ := HLW.out
        have hgl := l1 p.g (.inl rfl)
        have hbl := l1 p.bm (.inr rfl)
        refine ret_foundR Tryz.results47 rfl (found_setR HRg.out _ _) rfl ⟨HTg.out.trans' hY fun i hi e => by omega, ?_⟩
        rw [HE.out]
        refine ⟨by rw [HAA.out, HBB.out]; rfl, by rw [← HAA.out]; exact HBA.out, _, HWR.out.1.tch hY (fun k hk => ?_), HSX.out.1, fun k hk => ?_⟩
        · subst hk
          refine ⟨by omega, by omega, by omega, fun hs => ?_⟩
          rcases HSX.out.2 _ hs with h | h
          · have := l5 _ h; omega
          · omega
        · rcases HSX.out.2 k hk with h | h
          · exact .inl h
          · exact .inr (by omega)
end Go.Proofs.YtkeaoejgboefbaaGreatDoor
