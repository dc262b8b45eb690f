/- The texts Kf of the seat, joined. -/
import Derived.Test.YtkeaoejgboefbaaDoorG13
/- licitlaw56.start. -/
namespace Go.Proofs.YtkeaoejgboefbaaDoor
open Go.RowKit Go.Maps

/-- What start answers. -/
def RetStart (w : World) (cs : List E.Cell) (ed : Ending) (w' : World) : Prop := Ext w w' ∧
  ((E.newErr cs ≠ 0 ∧ ed = .returned (.tuple #[.pointer none, .bool true])) ∨
   (E.newErr cs = 0 ∧ ∃ g D, ed = .returned (.tuple #[.pointer (some ⟨g, 0, none⟩), .bool true]) ∧ BothAt w' w.heap.size D g (E.fresh cs)))
/-- The two are joined. -/
theorem start_made {w w1 w3 w4 W5 : World} {cs : List E.Cell} {A : Option Addr} {n kc bv bm : Nat} {S : Nat → Prop} (hA : SliceAt cellR w (Old w) A kc cs) (hn : n = cs.length)
    (x1 : Ext w w1) (hv : VRow w1 bv 0 n fun _ => none) (hm : MRow w1 (Old w) bm 0 n (fun _ => none) fun _ => false) (l1 : w.heap.size ≤ bv) (l2 : w.heap.size ≤ bm) (hne : bv ≠ bm)
    (x3 : Ext w1 w3) (hf : Fresh w3 S cs w4) (x5 : Ext w4 W5) (hr : W5.heap[w4.heap.size]? = some (.cells #[.pointer (some ⟨w3.heap.size + 3, 0, none⟩), .slice A n kc, .slice (some ⟨bv, 0, none⟩) n n, .slice (some ⟨bm, 0, none⟩) n n, .int .i64 0, .int .i64 0, .int .i64 0] 42 (0, 0))) :
    BothAt W5 w.heap.size (fun k => w.heap.size ≤ k ∧ k < W5.heap.size) w4.heap.size (E.fresh cs) := by
  subst hn
  have x15 : Ext w1 W5 := (x3.trans hf.ext).trans x5
  have x05 := x1.trans x15
  have s1 := x1.size
  have s3 := x3.size
  have s4 := hf.ext.size
  have s5 := x5.size
  have lg : w4.heap.size < W5.heap.size := (Array.getElem?_eq_some_iff.1 hr).1
  have lbv := hv.lt
  have lbm := hm.lt
  have lr := hf.row.lt
  refine ⟨S, Old w, w3.heap.size + 3, w3.heap.size, w3.heap.size + 1, w3.heap.size + 2, ⟨w4.heap.size, 1, fun _ => some (.pointer (some ⟨w3.heap.size + 3, 0, none⟩)), A, kc, bv, 0, cs.length, bm, 0, cs.length⟩, 0, ⟨rfl, rfl, rfl⟩, hf.engAt.ext x5, ?_, fun k hk => hk, ⟨⟨by omega, by omega⟩, ⟨by omega, by omega⟩, ⟨by omega, by omega⟩, ⟨by omega, by omega⟩, ⟨by omega, by omega⟩, ⟨l1, by show bv < _; omega⟩, ⟨l2, by show bm < _; omega⟩⟩, fun k hk => ?_, fun k hk => .inr hk, fun k hk => ?_, ?_⟩
  · refine ⟨⟨_, 42, hr, rfl, rfl, rfl, rfl, rfl, rfl, fun i hi => ?_⟩, hA.keep (fun _ h => h) fun k hk => x05.block k hk, hv.tch (x15.tch fun _ => False) (fun h => h), hm.tch (x15.tch fun _ => False) (fun h => h) (fun k hk => ⟨Nat.lt_of_lt_of_le hk s1, fun h => h⟩) fun _ hk => hk, ⟨Nat.le_refl _, Nat.le_refl _⟩, ⟨by show w4.heap.size ≠ bv; omega, by show w4.heap.size ≠ bm; omega, hne⟩, ⟨fun h => by have h : w4.heap.size < w.heap.size := h; omega, fun h => by have h : bv < w.heap.size := h; omega, fun h => by have h : bm < w.heap.size := h; omega⟩, fun k hk => Nat.lt_of_lt_of_le hk x05.size⟩
    have hi : i < 1 := hi
    obtain rfl : i = 0 := by omega
    rfl
  · have := hf.sup k hk
    omega
  · have hk : k = w4.heap.size ∨ k = bv ∨ k = bm := hk
    refine ⟨by omega, by omega, by omega, by omega, fun hs => ?_⟩
    have := hf.sup k hs
    omega
  · refine ⟨fun h => ?_, fun h => ?_, fun h => ?_⟩
    · have h : w3.heap.size + 3 < w.heap.size := h
      omega
    · have h : w3.heap.size + 1 < w.heap.size := h
      omega
    · have h : w3.heap.size + 2 < w.heap.size := h
      omega
set_option maxRecDepth 100000 in
set_option maxHeartbeats 2000000 in
theorem start_any {w : World} {A : Option Addr} {kc n : Nat} {cs : List E.Cell} (hA : SliceAt cellR w (Old w) A kc cs) (hn : n = cs.length) (harg : ∀ c ∈ cs, c.2.2.1.length ≤ 1000) (hl : n ≤ 1000000) :
    Calls Tryd.prog 11 #[.slice A n kc] w (RetStart w cs) := by
  have HRN := Lib.hid (refNew_any hA hn harg)
  have HCP := Lib.hid (fun W (h : Ext w W) => cp_any (hA.ext h) hn harg hl)
  have HNW := Lib.hid (fun (W : World) (A' : Option Addr) (k' n' : Nat) (h1 : SliceAt cellR W (Old W) A' k' cs) (h2 : n' = cs.length) => New_any h1 h2 harg)
  have HA := Lib.hid hA
  have HN := Lib.hid hn
  clear hA hn harg hl
  go_enter Tryd.func11, Tryd.ntmps11
  go_wp2_with fail
  refine HRN.out.mono ?_
  rintro ed w1 ⟨x1, hr⟩
  have HX1 := Lib.hid x1
  clear x1
  rcases hr with ⟨h0, rfl⟩ | ⟨h0, bv, bm, rfl, l1, l2, hne, hv, hm⟩
  · have H0 := Lib.hid h0
    have hx1 : (E.newErr cs == 0) = false := by rw [beq_eq_false_iff_ne]; exact h0
    have hx2 : (E.newErr cs != 0) = true := by rw [bne, hx1]; rfl
    obtain ⟨x, hx⟩ : ∃ x, x = E.newErr cs := ⟨_, rfl⟩
    have HX := Lib.hid hx
    rw [← hx] at hx1 hx2 ⊢
    clear h0 hx
    go_upto_region 2 with (fail)
    obtain ⟨W2, hW2⟩ : ∃ W2, W2 = w1.alloc (.cells #[.slice none 0 0, .slice none 0 0, .slice none 0 0, .int .i64 0, .int .i64 0, .int .i64 0] 40) := ⟨_, rfl⟩
    rw [← hW2]
    have HX2 : Hid (Ext w W2) := Lib.hid (by rw [hW2]; exact HX1.out.alloc _)
    clear hW2
    go_wp2_with fail
    refine (HCP.out _ HX2.out).mono ?_
    rintro ed w3 ⟨A', k', n', hn', rfl, hs', x3⟩
    have HX3 := Lib.hid (HX2.out.trans x3)
    have HN3 := Lib.hid (HNW.out w3 A' k' n' hs' hn')
    clear hn' hs' x3
    go_wp2_with fail
    refine HN3.out.mono ?_
    rintro ed w4 ⟨x4, hr⟩
    rcases hr with ⟨_, rfl⟩ | ⟨h1, _⟩
    · have HX4 := Lib.hid (HX3.out.trans x4)
      rw [← HX.out]
      clear x4
      go_wp2_with fail
      go_ret2
      exact ⟨HX4.out, .inl ⟨H0.out, rfl⟩⟩
    · exact absurd h1 H0.out
  · have H0 := Lib.hid h0
    have HB := Lib.hid (And.intro l1 (And.intro l2 (And.intro hne (And.intro hv hm))))
    clear h0 l1 l2 hne hv hm
    go_upto_region 2 with (fail)
    obtain ⟨W2, hW2⟩ : ∃ W2, W2 = w1.alloc (.cells #[.slice A n kc, .slice (some ⟨bv, 0, none⟩) n n, .slice (some ⟨bm, 0, none⟩) n n, .int .i64 0, .int .i64 0, .int .i64 0] 40) := ⟨_, rfl⟩
    rw [← hW2]
    have HX2 : Hid (Ext w1 W2) := Lib.hid (by rw [hW2]; exact (Ext.refl w1).alloc _)
    have K2 : Hid (W2.heap[w1.heap.size]? = some (.cells #[.slice A n kc, .slice (some ⟨bv, 0, none⟩) n n, .slice (some ⟨bm, 0, none⟩) n n, .int .i64 0, .int .i64 0, .int .i64 0] 40 (0, 0))) := Lib.hid (by rw [hW2]; exact heap_alloc_new w1 _)
    clear hW2
    go_wp2_with fail
    refine (HCP.out _ (HX1.out.trans HX2.out)).mono ?_
    rintro ed w3 ⟨A', k', n', hn', rfl, hs', x3⟩
    have HX3 := Lib.hid (HX2.out.trans x3)
    have HX23 := Lib.hid x3
    have HN3 := Lib.hid (HNW.out w3 A' k' n' hs' hn')
    clear hn' hs' x3
    go_wp2_with fail
    refine HN3.out.mono ?_
    rintro ed w4 ⟨x4, hr⟩
    rcases hr with ⟨h1, _⟩ | ⟨_, rfl, S, hf⟩
    · exact absurd H0.out h1
    · have HF := Lib.hid hf
      have HX24 := Lib.hid (HX23.out.trans x4)
      have K4 : Hid (w4.heap[w1.heap.size]? = some (.cells #[.slice A n kc, .slice (some ⟨bv, 0, none⟩) n n, .slice (some ⟨bm, 0, none⟩) n n, .int .i64 0, .int .i64 0, .int .i64 0] 40 (0, 0))) := Lib.hid ((HX24.out.block _ (Array.getElem?_eq_some_iff.1 K2.out).1).trans K2.out)
      have r0 : w4.cell? ⟨w1.heap.size, 0, none⟩ = some (.slice A n kc) := by rw [new_off K4.out]; rfl
      have r1 : w4.cell? ⟨w1.heap.size, 1, none⟩ = some (.slice (some ⟨bv, 0, none⟩) n n) := by rw [new_off K4.out]; rfl
      have r2 : w4.cell? ⟨w1.heap.size, 2, none⟩ = some (.slice (some ⟨bm, 0, none⟩) n n) := by rw [new_off K4.out]; rfl
      have r3 : w4.cell? ⟨w1.heap.size, 3, none⟩ = some (.int .i64 0) := by rw [new_off K4.out]; rfl
      have r4 : w4.cell? ⟨w1.heap.size, 4, none⟩ = some (.int .i64 0) := by rw [new_off K4.out]; rfl
      have r5 : w4.cell? ⟨w1.heap.size, 5, none⟩ = some (.int .i64 0) := by rw [new_off K4.out]; rfl
      clear hf x4
      go_wp2_with fail
      go_ret2
      obtain ⟨l1, l2, hne, hv, hm⟩ := HB.out
      refine ⟨?_, .inr ⟨H0.out, _, _, rfl, start_made HA.out HN.out HX1.out hv hm l1 l2 hne HX3.out HF.out ((Ext.refl _).alloc _) (heap_alloc_new _ _)⟩⟩
      exact ((HX1.out.trans HX3.out).trans HF.out.ext).alloc _
end Go.Proofs.YtkeaoejgboefbaaDoor
