/- The texts If of the seat, joined. -/
import Derived.Test.YtfbhchpbflaphaaGreatDoorG16
/- licitref11.Args.member, licitref11.Resolve. -/
namespace Go.Proofs.YtfbhchpbflaphaaGreatDoor
open Go.RowKit Go.Maps Go.ChangeMaps

theorem hit_cases {E : L.Env} {x : ByteArray} {u m : Nat} (h : L.hit E x = .unit u m) : (m = 0 ∧ u < E.objs.length) ∨ ∃ i, ∃ _ : i < E.mems.length, m = i + 1 ∧ u = E.objs.length + i := by
  have hs := L.scan_all x E.objs
  unfold L.hit at h
  cases hsc : L.scanO x E.objs 0 (-1) (-1) with
  | none => rw [hsc] at h; cases h
  | some p =>
    obtain ⟨e, w⟩ := p
    rw [hsc] at h hs
    obtain ⟨he, hw⟩ := hs
    simp only at h
    by_cases hp : 0 ≤ L.pick e w
    · rw [if_pos hp] at h
      cases h
      refine .inl ⟨rfl, ?_⟩
      unfold L.pick at hp ⊢
      by_cases h0 : 0 ≤ e
      · rw [if_pos h0] at hp ⊢
        rcases he with ⟨rfl, _⟩ | ⟨n, hn, rfl, _⟩
        · omega
        · rw [Int.toNat_natCast]; exact hn
      · rw [if_neg h0] at hp ⊢
        rcases hw with ⟨rfl, _⟩ | ⟨n, hn, rfl, _⟩
        · omega
        · rw [Int.toNat_natCast]; exact hn
    · rw [if_neg hp] at h
      unfold L.later at h
      cases hm : E.mems.findIdx? (L.isDef x) with
      | some i =>
        rw [hm] at h
        cases h
        obtain ⟨hi, _⟩ := List.findIdx?_eq_some_iff_getElem.1 hm
        exact .inr ⟨i, hi, rfl, rfl⟩
      | none =>
        rw [hm] at h
        cases hl : E.libs.findIdx? (L.isIn x) with
        | some j => rw [hl] at h; cases h
        | none => rw [hl] at h; cases h
/-- A member comes back. -/
def RetMb (B : Nat → Prop) (w : World) (m : C.Mem) (e : Ending) (w' : World) : Prop := Ext w w' ∧ ∃ SA sc SB sd, e = .returned (.agg #[.string m.1, .slice SA m.2.1.length sc, .slice SB m.2.2.length sd]) ∧ SliceAt symR w' B SA sc m.2.1 ∧ SliceAt secR w' B SB sd m.2.2
theorem size69 : (Tryz.prog.info? 69).map (·.size) = some 3 := by kernel_rfl
/-- The member is put into the result's cells. -/
theorem ret_mb {fn : Func} (h : fn.results = #[.cell 4 69]) {a : Act} {w wr : World} {g : Nat} {m : C.Mem} {SA SB : Option Addr} {tl ul sc sd : Nat} {o0 o1 o2 : Value} {B : Nat → Prop} (hBw : ∀ k, B k → k < w.heap.size) (hx : Ext w wr) (hg : w.heap.size ≤ g) (hr : wr.heap[g]? = some (.cells #[o0, o1, o2] 69 (0, 0))) (hp : a.tmps.getD 4 undef = .pointer (some ⟨g, 0, none⟩)) (hd : a.defers = [])
    (hA : SliceAt symR w B SA sc m.2.1) (hB : SliceAt secR w B SB sd m.2.2) (htl : tl = m.2.1.length) (hul : ul = m.2.2.length) {s : ByteArray} (hs : s = m.1) :
    bodyPost Tryz.prog fn (RetMb B w m) .ret a (((wr.setCell ⟨g, 0, none⟩ (.string s)).setCell ⟨g, 1, none⟩ (.slice SA tl sc)).setCell ⟨g, 2, none⟩ (.slice SB ul sd)) := by
  subst htl hul hs
  have hr2 := heap_setCell_cells (heap_setCell_cells (heap_setCell_cells hr 0 (.string m.1)) 1 (.slice SA m.2.1.length sc)) 2 (.slice SB m.2.2.length sd)
  have hT : Tch (fun i => i = g) wr (((wr.setCell ⟨g, 0, none⟩ (.string m.1)).setCell ⟨g, 1, none⟩ (.slice SA m.2.1.length sc)).setCell ⟨g, 2, none⟩ (.slice SB m.2.2.length sd)) := ((grown_tch (grownBy_setCell wr ⟨g, 0, none⟩ _)).trans (grown_tch (grownBy_setCell _ ⟨g, 1, none⟩ _))).trans (grown_tch (grownBy_setCell _ ⟨g, 2, none⟩ _))
  have hE := ((hx.tch fun _ => False).trans' hT fun i hi e => absurd hi (by omega)).ext fun _ _ h => h
  exact bodyPost_ret (results_cell_row h a.tmps _ g 69 _ (0, 0) _ hp hr2 Tryz.underlying69 rfl size69) hd ⟨hE, SA, sc, SB, sd, rfl, hA.keep (fun _ h => h) fun k hk => hE.block k (hBw k hk), hB.keep (fun _ h => h) fun k hk => hE.block k (hBw k hk)⟩
set_option maxRecDepth 8000 in
set_option maxHeartbeats 2000000 in
theorem member_obj (objs : List C.Mem) (A : Option Addr) (a n k : Nat) (vm vl : Value) (f1 f2 f3 f4 : Int) (w : World) (hn : n = objs.length) (B : Nat → Prop) (hBw : ∀ k, B k → k < w.heap.size) (hA : SliceAt memR w B A a objs) (hk : k < objs.length) (hn2 : n ≤ 100000) (hvm : ∃ B x c, vm = .slice B x c) (hvl : ∃ B x c, vl = .slice B x c) :
    Calls Tryz.prog 55 #[.agg #[.slice A n a, vm, vl], .agg #[.int .i64 (k : Int), .int .i64 f1, .int .i64 f2, .int .i64 f3, .int .i64 f4]] w (RetMb B w objs[k]) := by
  obtain ⟨mb, mo, s, TA, tc, TB, td, rfl, hbo, hms, hss, hTA, hTB, m0, m1, m2⟩ := mem_getB hA hk
  obtain ⟨B1, x1, c1, rfl⟩ := hvm
  obtain ⟨B2, x2, c2, rfl⟩ := hvl
  have HBW := Lib.hid hBw
  have hkn : k < n := by omega
  obtain ⟨tl, htl⟩ : ∃ tl, tl = objs[k].2.1.length := ⟨_, rfl⟩
  obtain ⟨ul, hul⟩ : ∃ ul, ul = objs[k].2.2.length := ⟨_, rfl⟩
  rw [← htl] at m1
  rw [← hul] at m2
  obtain ⟨W1, hW1⟩ : ∃ W1, W1 = ((w.alloc (.cells #[.slice (some ⟨mb, mo, none⟩) n a, .slice B1 x1 c1, .slice B2 x2 c2] 109)).alloc (.cells #[.int .i64 (k : Int), .int .i64 f1, .int .i64 f2, .int .i64 f3, .int .i64 f4] 117)).alloc (.cells #[.string ⟨#[]⟩, .slice none 0 0, .slice none 0 0] 69) := ⟨_, rfl⟩
  have E1 : Ext w W1 := by rw [hW1]; exact (((Ext.refl w).alloc _).alloc _).alloc _
  have hsz1 : (w.alloc (.cells #[.slice (some ⟨mb, mo, none⟩) n a, .slice B1 x1 c1, .slice B2 x2 c2] 109)).heap.size = w.heap.size + 1 := by simp
  have hsz2 : ((w.alloc (.cells #[.slice (some ⟨mb, mo, none⟩) n a, .slice B1 x1 c1, .slice B2 x2 c2] 109)).alloc (.cells #[.int .i64 (k : Int), .int .i64 f1, .int .i64 f2, .int .i64 f3, .int .i64 f4] 117)).heap.size = w.heap.size + 2 := by simp
  have hb0 : W1.heap[w.heap.size]? = some (.cells #[.slice (some ⟨mb, mo, none⟩) n a, .slice B1 x1 c1, .slice B2 x2 c2] 109 (0, 0)) := by rw [hW1]; exact ((((Ext.refl (w.alloc _)).alloc _).alloc _).block _ (by simp)).trans (heap_alloc_new w _)
  have hb1 : W1.heap[w.heap.size + 1]? = some (.cells #[.int .i64 (k : Int), .int .i64 f1, .int .i64 f2, .int .i64 f3, .int .i64 f4] 117 (0, 0)) := by rw [hW1]; exact (((Ext.refl ((w.alloc _).alloc _)).alloc _).block _ (by simp)).trans (by rw [← hsz1]; exact heap_alloc_new _ _)
  have hb2 : W1.heap[w.heap.size + 2]? = some (.cells #[.string ⟨#[]⟩, .slice none 0 0, .slice none 0 0] 69 (0, 0)) := by rw [hW1, ← hsz2]; exact heap_alloc_new _ _
  have c0 : W1.cell? ⟨w.heap.size, 0, none⟩ = _ := cell_of_row W1 _ 0 _ _ _ hb0
  have d0 : W1.cell? ⟨w.heap.size + 1, 0, none⟩ = _ := cell_of_row W1 _ 0 _ _ _ hb1
  have r0 : W1.cell? ⟨w.heap.size + 2, 0, none⟩ = _ := cell_of_row W1 _ 0 _ _ _ hb2
  have r1 : W1.cell? ⟨w.heap.size + 2, 1, none⟩ = _ := cell_of_row W1 _ 1 _ _ _ hb2
  have r2 : W1.cell? ⟨w.heap.size + 2, 2, none⟩ = _ := cell_of_row W1 _ 2 _ _ _ hb2
  have k0 := Lib.frozen_of_heap hb2 0
  have k1 := Lib.frozen_of_heap hb2 1
  have k2 := Lib.frozen_of_heap hb2 2
  have m0' := E1.keepc m0
  have m1' := E1.keepc m1
  have m2' := E1.keepc m2
  have HW1 := Lib.hid hW1
  have HE1 := Lib.hid E1
  have HB2 := Lib.hid hb2
  have HTA := Lib.hid hTA
  have HTB := Lib.hid hTB
  have HTL := Lib.hid htl
  have HUL := Lib.hid hul
  have HMS := Lib.hid hms
  clear hn hA hBw hbo hms hss hTA hTB m0 m1 m2 htl hul hW1 E1 hsz1 hsz2 hb0 hb1 hb2
  go_enter Tryz.func55, Tryz.ntmps55
  go_upto_region 1 with (fail)
  rw [← HW1.out]
  go_wp2_with fail
  exact ret_mb rfl HBW.out HE1.out (by omega) HB2.out rfl rfl HTA.out HTB.out HTL.out HUL.out HMS.out.symm
set_option maxRecDepth 8000 in
set_option maxHeartbeats 2000000 in
theorem member_mem (mems : List C.Mem) (M : Option Addr) (mc mm k : Nat) (vo vl : Value) (f2 f3 f4 : Int) (w : World) (hn : mm = mems.length) (B : Nat → Prop) (hBw : ∀ k, B k → k < w.heap.size) (hA : SliceAt memR w B M mc mems) (hk : k < mems.length) (hn2 : mm ≤ 100000) (hvo : ∃ B x c, vo = .slice B x c) (hvl : ∃ B x c, vl = .slice B x c) :
    Calls Tryz.prog 55 #[.agg #[vo, .slice M mm mc, vl], .agg #[.int .i64 (-1), .int .i64 (k : Int), .int .i64 f2, .int .i64 f3, .int .i64 f4]] w (RetMb B w mems[k]) := by
  obtain ⟨mb, mo, s, TA, tc, TB, td, rfl, hbo, hms, hss, hTA, hTB, m0, m1, m2⟩ := mem_getB hA hk
  obtain ⟨B1, x1, c1, rfl⟩ := hvo
  obtain ⟨B2, x2, c2, rfl⟩ := hvl
  have HBW := Lib.hid hBw
  have hkn : k < mm := by omega
  obtain ⟨tl, htl⟩ : ∃ tl, tl = mems[k].2.1.length := ⟨_, rfl⟩
  obtain ⟨ul, hul⟩ : ∃ ul, ul = mems[k].2.2.length := ⟨_, rfl⟩
  rw [← htl] at m1
  rw [← hul] at m2
  obtain ⟨W1, hW1⟩ : ∃ W1, W1 = ((w.alloc (.cells #[.slice B1 x1 c1, .slice (some ⟨mb, mo, none⟩) mm mc, .slice B2 x2 c2] 109)).alloc (.cells #[.int .i64 (-1), .int .i64 (k : Int), .int .i64 f2, .int .i64 f3, .int .i64 f4] 117)).alloc (.cells #[.string ⟨#[]⟩, .slice none 0 0, .slice none 0 0] 69) := ⟨_, rfl⟩
  have E1 : Ext w W1 := by rw [hW1]; exact (((Ext.refl w).alloc _).alloc _).alloc _
  have hsz1 : (w.alloc (.cells #[.slice B1 x1 c1, .slice (some ⟨mb, mo, none⟩) mm mc, .slice B2 x2 c2] 109)).heap.size = w.heap.size + 1 := by simp
  have hsz2 : ((w.alloc (.cells #[.slice B1 x1 c1, .slice (some ⟨mb, mo, none⟩) mm mc, .slice B2 x2 c2] 109)).alloc (.cells #[.int .i64 (-1), .int .i64 (k : Int), .int .i64 f2, .int .i64 f3, .int .i64 f4] 117)).heap.size = w.heap.size + 2 := by simp
  have hb0 : W1.heap[w.heap.size]? = some (.cells #[.slice B1 x1 c1, .slice (some ⟨mb, mo, none⟩) mm mc, .slice B2 x2 c2] 109 (0, 0)) := by rw [hW1]; exact ((((Ext.refl (w.alloc _)).alloc _).alloc _).block _ (by simp)).trans (heap_alloc_new w _)
  have hb1 : W1.heap[w.heap.size + 1]? = some (.cells #[.int .i64 (-1), .int .i64 (k : Int), .int .i64 f2, .int .i64 f3, .int .i64 f4] 117 (0, 0)) := by rw [hW1]; exact (((Ext.refl ((w.alloc _).alloc _)).alloc _).block _ (by simp)).trans (by rw [← hsz1]; exact heap_alloc_new _ _)
  have hb2 : W1.heap[w.heap.size + 2]? = some (.cells #[.string ⟨#[]⟩, .slice none 0 0, .slice none 0 0] 69 (0, 0)) := by rw [hW1, ← hsz2]; exact heap_alloc_new _ _
  have c1' : W1.cell? ⟨w.heap.size, 1, none⟩ = _ := cell_of_row W1 _ 1 _ _ _ hb0
  have d0 : W1.cell? ⟨w.heap.size + 1, 0, none⟩ = _ := cell_of_row W1 _ 0 _ _ _ hb1
  have d1 : W1.cell? ⟨w.heap.size + 1, 1, none⟩ = _ := cell_of_row W1 _ 1 _ _ _ hb1
  have r0 : W1.cell? ⟨w.heap.size + 2, 0, none⟩ = _ := cell_of_row W1 _ 0 _ _ _ hb2
  have r1 : W1.cell? ⟨w.heap.size + 2, 1, none⟩ = _ := cell_of_row W1 _ 1 _ _ _ hb2
  have r2 : W1.cell? ⟨w.heap.size + 2, 2, none⟩ = _ := cell_of_row W1 _ 2 _ _ _ hb2
  have k0 := Lib.frozen_of_heap hb2 0
  have k1 := Lib.frozen_of_heap hb2 1
  have k2 := Lib.frozen_of_heap hb2 2
  have m0' := E1.keepc m0
  have m1' := E1.keepc m1
  have m2' := E1.keepc m2
  have HW1 := Lib.hid hW1
  have HE1 := Lib.hid E1
  have HB2 := Lib.hid hb2
  have HTA := Lib.hid hTA
  have HTB := Lib.hid hTB
  have HTL := Lib.hid htl
  have HUL := Lib.hid hul
  have HMS := Lib.hid hms
  clear hn hA hBw hbo hms hss hTA hTB m0 m1 m2 htl hul hW1 E1 hsz1 hsz2 hb0 hb1 hb2
  go_enter Tryz.func55, Tryz.ntmps55
  go_upto_region 1 with (fail)
  rw [← HW1.out]
  go_wp2_with fail
  exact ret_mb rfl HBW.out HE1.out (by omega) HB2.out rfl rfl HTA.out HTB.out HTL.out HUL.out HMS.out.symm

set_option maxRecDepth 8000 in
set_option maxHeartbeats 4000000 in
theorem refResolve_any (x : ByteArray) (objs : List C.Mem) (sh : List L.Shelf) (libs : List L.Libr) (A B D : Option Addr) (a b d n m q : Nat) (w : World) (hn : n = objs.length) (hA : SliceAt memR w (Old w) A a objs) (hm : m = sh.length) (hB : SliceAt shelfR w (Old w) B b sh) (hq : q = libs.length) (hD : SliceAt librR w (Old w) D d libs)
    (hC : CaseOk objs sh libs) (hx : x.size ≤ 9223372036854775807) :
    Calls Tryz.prog 19 #[.string x, .slice A n a, .slice B m b, .slice D q d] w (Al (resV (L.resolveL okN okP x objs sh libs)) w) := by
  have hn2 : n ≤ 100000 := by have := hC.no; omega
  have hq2 : q ≤ 100000 := by have := hC.nl; omega
  obtain ⟨E, hE⟩ : ∃ E, E = L.envOf objs sh libs := ⟨_, rfl⟩
  have hmm2 : E.mems.length ≤ 100000 := by
    have h1 := hC.few
    have h2 : (L.envOf objs sh libs).units.length = objs.length + (L.memsOf sh).length := by unfold L.Env.units L.envOf; simp
    rw [hE]
    show (L.memsOf sh).length ≤ _
    omega
  have HMK := Lib.hid (Make_any objs sh libs A B D a b d n m q w hn hA hm hB hq hD hC)
  have HNM := Lib.hid (fun W => refName_any x W hx)
  have HU : Hid (L.validB okN okP objs sh libs = true → ∀ m ∈ E.units, m.2.1.length ≤ 128) := fun hv m hm => by
    rw [hE] at hm
    exact (L.check_parts (L.valid_units hv libs m hm)).1
  have HN : Hid (n = E.objs.length) := by rw [hE]; exact hn
  have HA : Hid (SliceAt memR w (Old w) A a E.objs) := by rw [hE]; exact hA
  have HQ : Hid (q = E.libs.length) := by rw [hE]; exact hq
  have HD : Hid (SliceAt librR w (Old w) D d E.libs) := by rw [hE]; exact hD
  have hml : L.memsOf sh = E.mems := by rw [hE]; rfl
  rw [hml] at HMK
  have HMM := Lib.hid hmm2
  have HX := Lib.hid hx
  obtain ⟨R, hR⟩ : ∃ R, R = L.resolveL okN okP x objs sh libs := ⟨_, rfl⟩
  rw [← hR]
  unfold L.resolveL at hR
  have hnm : okN x = K.name x.data.toList := rfl
  rw [hnm, ← hE] at hR
  have hlb : E.libs = libs := by rw [hE]; rfl
  generalize L.validB okN okP objs sh libs = V at HMK hR HU
  rw [← hlb] at hR
  generalize K.name x.data.toList = N at HNM hR
  clear hn hA hm hB hq hD hC hx hnm hE hlb hml hmm2
  cases V with
  | false =>
    have hR' : resV R = .tuple #[.string ⟨#[]⟩, .bool false, .int .i64 1] := by rw [hR]; rfl
    have HR := Lib.hid hR'
    clear hR hR' HU
    go_enter Tryz.func19, Tryz.ntmps19
    go_wp2_with fail
    refine HMK.out.mono ?_
    rintro _ w1 ⟨e1, MA, mk, mc, rfl, _⟩
    go_wp2_with fail
    go_ret3
    exact ⟨by rw [HR.out]; rfl, e1.alloc _⟩
  | true =>
    cases N with
    | false =>
      have hR' : resV R = .tuple #[.string ⟨#[]⟩, .bool false, .int .i64 1] := by rw [hR]; rfl
      have HR := Lib.hid hR'
      clear hR hR' HU
      go_enter Tryz.func19, Tryz.ntmps19
      go_wp2_with fail
      refine HMK.out.mono ?_
      rintro _ w1 ⟨e1, MA, mk, mc, rfl, _⟩
      go_wp2_with fail
      refine (HNM.out _).mono ?_
      rintro _ w2 ⟨rfl, e2⟩
      go_wp2_with fail
      go_ret3
      exact ⟨by rw [HR.out]; rfl, (e1.alloc _).trans e2⟩
    | true =>
      rw [Bool.and_self, if_pos rfl] at hR
      have HR := Lib.hid hR
      have HUU := Lib.hid (HU.out rfl)
      clear hR HU
      go_enter Tryz.func19, Tryz.ntmps19
      go_wp2_with fail
      refine HMK.out.mono ?_
      rintro _ w1 ⟨e1, MA, mk, mc, rfl, hown⟩
      obtain ⟨A', c', hsl, hmo⟩ := (hown rfl).slice
      obtain ⟨rfl, rfl, rfl⟩ : MA = A' ∧ mk = E.mems.length ∧ mc = c' := by cases hsl; exact ⟨rfl, rfl, rfl⟩
      have hMO : SliceAt memR w1 (Old w1) MA mc E.mems := hmo.keep (fun b hb => by
        rcases hb with hb | hb
        · exact Nat.lt_of_lt_of_le hb e1.size
        · exact ((hown rfl).lt hb).2) fun _ _ => rfl
      obtain ⟨mm, hmm⟩ : ∃ mm, mm = E.mems.length := ⟨_, rfl⟩
      rw [← hmm]
      obtain ⟨W2, hW2⟩ : ∃ W2, W2 = w1.alloc (.cells #[.slice A n a, .slice MA mm mc, .slice D q d] 109) := ⟨_, rfl⟩
      obtain ⟨ab, hab⟩ : ∃ ab, ab = w1.heap.size := ⟨_, rfl⟩
      have E2 : Ext w1 W2 := by rw [hW2]; exact (Ext.refl w1).alloc _
      have hb2 : W2.heap[ab]? = some (.cells #[.slice A n a, .slice MA mm mc, .slice D q d] 109 (0, 0)) := by rw [hW2, hab]; exact heap_alloc_new w1 _
      have HB2 := Lib.hid hb2
      have HX2 := Lib.hid (e1.trans E2)
      have HMO := Lib.hid (hMO.ext E2)
      have HM9 := Lib.hid hmm
      have HAB := Lib.hid hab
      clear e1 hown hsl hmo hMO hmm E2 hb2 hab
      go_upto_region 2 with (fail)
      rw [← hW2, ← HAB.out]
      clear hW2
      go_wp2_with fail
      refine (HNM.out _).mono ?_
      rintro _ w3 ⟨rfl, e3⟩
      have hb3 := (e3.block _ (Array.getElem?_eq_some_iff.1 HB2.out).1).trans HB2.out
      have HX3 := Lib.hid (HX2.out.trans e3)
      have HMO3 := Lib.hid (HMO.out.ext e3)
      have c0 : w3.cell? ⟨ab, 0, none⟩ = _ := cell_of_row w3 _ 0 _ _ _ hb3
      have c1 : w3.cell? ⟨ab, 1, none⟩ = _ := cell_of_row w3 _ 1 _ _ _ hb3
      have c2 : w3.cell? ⟨ab, 2, none⟩ = _ := cell_of_row w3 _ 2 _ _ _ hb3
      have HB3 := Lib.hid hb3
      have HRS := Lib.hid (rResolve_any E A MA D a mc d n mm q x w3 HN.out (HA.out.ext HX3.out) HM9.out HMO3.out HQ.out (HD.out.ext HX3.out) HUU.out hn2 (by have := HM9.out; have := HMM.out; omega) hq2 HX.out)
      clear e3 hb3
      go_wp2_with fail
      refine HRS.out.mono ?_
      rintro e w4 ⟨e4, rfl⟩
      have HX4 := Lib.hid (HX3.out.trans e4)
      have HMO4 := Lib.hid (HMO3.out.ext e4)
      have HB4 := Lib.hid ((e4.block _ (Array.getElem?_eq_some_iff.1 HB3.out).1).trans HB3.out)
      clear e4 c0 c1 c2
      cases hhit : L.hit E x with
      | twice =>
        have hR' : resV R = .tuple #[.string ⟨#[]⟩, .bool false, .int .i64 6] := by rw [HR.out, hhit]; rfl
        have HR2 := Lib.hid hR'
        clear hR' hhit
        unfold foundH fndV
        go_wp2_with fail
        go_ret3
        exact ⟨by rw [HR2.out]; rfl, HX4.out.alloc _⟩
      | unknown =>
        have hR' : resV R = .tuple #[.string ⟨#[]⟩, .bool false, .int .i64 8] := by rw [HR.out, hhit]; rfl
        have HR2 := Lib.hid hR'
        clear hR' hhit
        unfold foundH fndV
        go_wp2_with fail
        go_ret3
        exact ⟨by rw [HR2.out]; rfl, HX4.out.alloc _⟩
      | lib j =>
        have hj := L.hit_lib hhit
        have hR' : resV R = .tuple #[.string ((E.libs[j]?.map (·.1)).getD ⟨#[]⟩), .bool true, .int .i64 0] := by rw [HR.out, hhit]; rfl
        have HR2 := Lib.hid hR'
        obtain ⟨lb, lo, rfl, hy1, hy2, x0, hy3⟩ := lib_get HD.out hj
        have hjq : j < q := by rw [HQ.out]; exact hj
        have hname : (E.libs[j]?.map (·.1)).getD ⟨#[]⟩ = E.libs[j].1 := by rw [List.getElem?_eq_getElem hj]; rfl
        rw [hname] at HR2
        generalize E.libs[j].1 = nm at x0 HR2 hy2
        obtain ⟨j1, hj1⟩ : ∃ j1 : Int, j1 = ((j + 1 : Nat) : Int) := ⟨_, rfl⟩
        have hfh : foundH E (.lib j) = ((-1, -1, (j : Int), (E.mems.length : Int), j1), 0) := by rw [hj1]; rfl
        clear hj1
        rw [hfh]
        unfold fndV
        simp only
        obtain ⟨W5, hW5⟩ : ∃ W5, W5 = w4.alloc (.cells #[.int .i64 (-1), .int .i64 (-1), .int .i64 (j : Int), .int .i64 (E.mems.length : Int), .int .i64 j1] 117) := ⟨_, rfl⟩
        obtain ⟨pb, hpb⟩ : ∃ pb, pb = w4.heap.size := ⟨_, rfl⟩
        have E5 : Ext w4 W5 := by rw [hW5]; exact (Ext.refl w4).alloc _
        have hb5 : W5.heap[pb]? = some (.cells #[.int .i64 (-1), .int .i64 (-1), .int .i64 (j : Int), .int .i64 (E.mems.length : Int), .int .i64 j1] 117 (0, 0)) := by rw [hW5, hpb]; exact heap_alloc_new w4 _
        have p2 : W5.cell? ⟨pb, 2, none⟩ = _ := cell_of_row W5 pb 2 _ _ _ hb5
        have HX5 := Lib.hid (HX4.out.trans E5)
        have x0' := HX5.out.keepc x0
        have HPB := Lib.hid hpb
        clear hR' hhit hy1 hy2 hy3 x0 hname hfh E5 hb5 hpb hj
        go_upto_region 5 with (fail)
        rw [← hW5, ← HPB.out]
        clear hW5
        go_wp2_with fail
        go_ret3
        exact ⟨by rw [HR2.out]; rfl, HX5.out⟩
      | unit u m0 =>
        have hR' : resV R = .tuple #[.string (E.name u), .bool false, .int .i64 0] := by rw [HR.out, hhit]; rfl
        have HR2 := Lib.hid hR'
        rcases hit_cases hhit with ⟨rfl, hu⟩ | ⟨i, hi, rfl, rfl⟩
        · have hfh : foundH E (.unit u 0) = (((u : Int), -1, -1, 0, 0), 0) := rfl
          rw [hfh]
          unfold fndV
          simp only
          have hname : E.name u = E.objs[u].1 := by unfold L.Env.name; rw [L.units_left hu]; rfl
          rw [hname] at HR2
          obtain ⟨W5, hW5⟩ : ∃ W5, W5 = w4.alloc (.cells #[.int .i64 (u : Int), .int .i64 (-1), .int .i64 (-1), .int .i64 0, .int .i64 0] 117) := ⟨_, rfl⟩
          obtain ⟨pb, hpb⟩ : ∃ pb, pb = w4.heap.size := ⟨_, rfl⟩
          have E5 : Ext w4 W5 := by rw [hW5]; exact (Ext.refl w4).alloc _
          have hb5 : W5.heap[pb]? = some (.cells #[.int .i64 (u : Int), .int .i64 (-1), .int .i64 (-1), .int .i64 0, .int .i64 0] 117 (0, 0)) := by rw [hW5, hpb]; exact heap_alloc_new w4 _
          have p0 : W5.cell? ⟨pb, 0, none⟩ = _ := cell_of_row W5 pb 0 _ _ _ hb5
          have p1 : W5.cell? ⟨pb, 1, none⟩ = _ := cell_of_row W5 pb 1 _ _ _ hb5
          have p2 : W5.cell? ⟨pb, 2, none⟩ = _ := cell_of_row W5 pb 2 _ _ _ hb5
          have p3 : W5.cell? ⟨pb, 3, none⟩ = _ := cell_of_row W5 pb 3 _ _ _ hb5
          have p4 : W5.cell? ⟨pb, 4, none⟩ = _ := cell_of_row W5 pb 4 _ _ _ hb5
          have hb6 := (E5.block _ (Array.getElem?_eq_some_iff.1 HB4.out).1).trans HB4.out
          have c0 : W5.cell? ⟨ab, 0, none⟩ = _ := cell_of_row W5 _ 0 _ _ _ hb6
          have c1 : W5.cell? ⟨ab, 1, none⟩ = _ := cell_of_row W5 _ 1 _ _ _ hb6
          have c2 : W5.cell? ⟨ab, 2, none⟩ = _ := cell_of_row W5 _ 2 _ _ _ hb6
          have HX5 := Lib.hid (HX4.out.trans E5)
          have HPB := Lib.hid hpb
          have HMB := Lib.hid (member_obj E.objs A a n u (.slice MA mm mc) (.slice D q d) (-1) (-1) 0 0 W5 HN.out (Old W5) (fun _ h => h) (HA.out.ext HX5.out) hu hn2 ⟨_, _, _, rfl⟩ ⟨_, _, _, rfl⟩)
          obtain ⟨me, hme⟩ : ∃ me, me = E.objs[u] := ⟨_, rfl⟩
          rw [← hme] at HMB HR2
          clear hR' hhit hname hfh E5 hb5 hpb hb6 hme hu
          go_upto_region 5 with (fail)
          rw [← hW5, ← HPB.out]
          clear hW5
          go_wp2_with fail
          refine HMB.out.mono ?_
          rintro e w6 ⟨e6, SA, sc, SB, sd, rfl, _, _⟩
          have hfd : ∀ W : World, (Instr.field 69 (.agg #[.string me.1, .slice SA me.2.1.length sc, .slice SB me.2.2.length sd]) 0).run Tryz.prog W = .ok (.string me.1) W := fun _ => by kernel_rfl
          go_wp2_with fail
          go_ret3
          exact ⟨by rw [HR2.out]; rfl, HX5.out.trans e6⟩
        · obtain ⟨j1, hj1⟩ : ∃ j1 : Int, j1 = ((i + 1 : Nat) : Int) := ⟨_, rfl⟩
          have hfh : foundH E (.unit (E.objs.length + i) (i + 1)) = ((-1, (i : Int), -1, j1, 0), 0) := by rw [hj1]; rfl
          clear hj1
          rw [hfh]
          unfold fndV
          simp only
          have hname : E.name (E.objs.length + i) = E.mems[i].1 := by unfold L.Env.name; rw [L.units_right hi]; rfl
          rw [hname] at HR2
          obtain ⟨W5, hW5⟩ : ∃ W5, W5 = w4.alloc (.cells #[.int .i64 (-1), .int .i64 (i : Int), .int .i64 (-1), .int .i64 j1, .int .i64 0] 117) := ⟨_, rfl⟩
          obtain ⟨pb, hpb⟩ : ∃ pb, pb = w4.heap.size := ⟨_, rfl⟩
          have E5 : Ext w4 W5 := by rw [hW5]; exact (Ext.refl w4).alloc _
          have hb5 : W5.heap[pb]? = some (.cells #[.int .i64 (-1), .int .i64 (i : Int), .int .i64 (-1), .int .i64 j1, .int .i64 0] 117 (0, 0)) := by rw [hW5, hpb]; exact heap_alloc_new w4 _
          have p0 : W5.cell? ⟨pb, 0, none⟩ = _ := cell_of_row W5 pb 0 _ _ _ hb5
          have p1 : W5.cell? ⟨pb, 1, none⟩ = _ := cell_of_row W5 pb 1 _ _ _ hb5
          have p2 : W5.cell? ⟨pb, 2, none⟩ = _ := cell_of_row W5 pb 2 _ _ _ hb5
          have p3 : W5.cell? ⟨pb, 3, none⟩ = _ := cell_of_row W5 pb 3 _ _ _ hb5
          have p4 : W5.cell? ⟨pb, 4, none⟩ = _ := cell_of_row W5 pb 4 _ _ _ hb5
          have hb6 := (E5.block _ (Array.getElem?_eq_some_iff.1 HB4.out).1).trans HB4.out
          have c0 : W5.cell? ⟨ab, 0, none⟩ = _ := cell_of_row W5 _ 0 _ _ _ hb6
          have c1 : W5.cell? ⟨ab, 1, none⟩ = _ := cell_of_row W5 _ 1 _ _ _ hb6
          have c2 : W5.cell? ⟨ab, 2, none⟩ = _ := cell_of_row W5 _ 2 _ _ _ hb6
          have HX5 := Lib.hid (HX4.out.trans E5)
          have HPB := Lib.hid hpb
          have HMB := Lib.hid (member_mem E.mems MA mc mm i (.slice A n a) (.slice D q d) (-1) j1 0 W5 HM9.out (Old W5) (fun _ h => h) (HMO4.out.ext E5) hi (by have := HM9.out; have := HMM.out; omega) ⟨_, _, _, rfl⟩ ⟨_, _, _, rfl⟩)
          obtain ⟨me, hme⟩ : ∃ me, me = E.mems[i] := ⟨_, rfl⟩
          rw [← hme] at HMB HR2
          clear hR' hhit hname hfh E5 hb5 hpb hb6 hme hi
          go_upto_region 5 with (fail)
          rw [← hW5, ← HPB.out]
          clear hW5
          go_wp2_with fail
          refine HMB.out.mono ?_
          rintro e w6 ⟨e6, SA, sc, SB, sd, rfl, _, _⟩
          have hfd : ∀ W : World, (Instr.field 69 (.agg #[.string me.1, .slice SA me.2.1.length sc, .slice SB me.2.2.length sd]) 0).run Tryz.prog W = .ok (.string me.1) W := fun _ => by kernel_rfl
          go_wp2_with fail
          go_ret3
          exact ⟨by rw [HR2.out]; rfl, HX5.out.trans e6⟩
end Go.Proofs.YtfbhchpbflaphaaGreatDoor
