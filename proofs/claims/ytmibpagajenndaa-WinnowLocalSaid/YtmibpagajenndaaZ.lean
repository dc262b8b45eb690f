/- The walk of WinnowLocal. -/
import Derived.Test.YtmibpagajenndaaY
namespace Go.Proofs.Ytmibpagajenndaa
open Go.RowKit

theorem W.lst_shift (g g' : Nat → Int) (a : Nat) : ∀ k, (∀ j, j < k → g (a + j) = g' j) → W.lst g a k = a + W.lst g' 0 k
  | 0, _ => by simp [W.lst]
  | k + 1, h => by
    have ih := W.lst_shift g g' a k fun j hj => h j (by omega)
    have hk := h k (by omega)
    rw [W.lst, W.lst, ih, hk, Nat.zero_add]
    rcases Nat.eq_zero_or_pos k with e | e
    · subst e
      simp only [W.lst, Nat.add_zero]
      split <;> split <;> rfl
    · have hb := W.lst_spec g' 0 k e
      rw [h _ (by omega)]
      split <;> rfl
theorem gt_mid (a m c : List Int) (j : Nat) (h : j < m.length) : gt (a ++ m ++ c) (a.length + j) = gt m j := by
  unfold gt
  rw [List.getD_eq_getElem?_getD, List.getD_eq_getElem?_getD, List.getElem?_append_left (by rw [List.length_append]; omega), List.getElem?_append_right (by omega), Nat.add_sub_cancel_left]
/-- The selected place of the window at the start of the middle part. -/
theorem lst_mid (a m c : List Int) (q : Nat) (h : q ≤ m.length) : W.lst (gt (a ++ m ++ c)) a.length q = a.length + W.lst (gt m) 0 q :=
  W.lst_shift _ _ _ _ fun j hj => gt_mid a m c j (by omega)

theorem eg42 (args : Array Value) (w : World) : (callFunc 42 args).run Try.prog w = .ok (.enter 42 args) w := enters_of Try.func42 (by kernel_rfl) rfl args w
def inT (T : List Int) (x : Int) : Bool := T.contains x
theorem contains_is (T : List Int) (b o c L : Nat) (x : Int) (w : World) (hL : L = T.length) (hL2 : L ≤ 8192) (hc : ∀ j, j < L → w.cell? ⟨b, o + j, none⟩ = some (.int .i64 (gt T j))) :
    Calls Try.prog 38 #[.slice (some ⟨b, o, none⟩) L c, .int .i64 x] w fun e w' => e = .returned (.bool (inT T x)) ∧ w = w' := by
  subst hL
  refine (Try.slices_Contains_int b o _ c T x w (Nat.le_refl _) (by omega) (fun j hj => by rw [hc j hj, ← gt_get _ _ hj]; simp [List.getD, hj])).mono ?_
  rintro e w' ⟨rfl, rfl⟩
  rw [List.take_length]
  exact ⟨rfl, rfl⟩
def midP (T : List Int) (na nc nb : Nat) (x : Int) : Bool := decide ((na : Int) ≤ x) && decide (x < (na : Int) + nc) && inT T (x - na + nb)

set_option maxHeartbeats 400000 in
theorem mid_walk (T : List Int) (b o cy L : Nat) (pa pc py pb : Addr) (Aa Ac Ab : Option Addr) (na nc nb ca cc cb : Nat) (x : Int) (w : World) (hL : L = T.length) (hL2 : L ≤ 8192) (hc : ∀ j, j < L → w.cell? ⟨b, o + j, none⟩ = some (.int .i64 (gt T j)))
    (hna : na ≤ 100) (hnc : nc ≤ 100) (hnb : nb ≤ 100)
    (h1 : w.cell? pa = some (.slice Aa na ca)) (h2 : w.cell? pc = some (.slice Ac nc cc)) (h3 : w.cell? py = some (.slice (some ⟨b, o, none⟩) L cy)) (h4 : w.cell? pb = some (.slice Ab nb cb)) :
    Calls Try.prog 42 #[.int .i64 x, .pointer (some pa), .pointer (some pc), .pointer (some py), .pointer (some pb)] w (Qu (.bool (midP T na nc nb x)) w) := by
  obtain ⟨B, hB⟩ : ∃ B, B = midP T na nc nb x := ⟨_, rfl⟩
  rw [← hB]
  unfold midP at hB
  have HB := Lib.hid hB
  have HC := Lib.hid hc
  have HL := Lib.hid hL
  clear hB hc hL
  by_cases e1 : (na : Int) ≤ x
  · by_cases e2 : x < (na : Int) + nc
    · have hsub : IntKind.i64.wrap (x - (na : Int)) = x - na := IntWalk.i64_in _ (by omega)
      have hadd : IntKind.i64.wrap (x - (na : Int) + (nb : Int)) = x - na + nb := IntWalk.i64_in _ (by omega)
      obtain ⟨C, hC⟩ : ∃ C, C = inT T (x - na + nb) := ⟨_, rfl⟩
      have hv : B = C := by rw [HB.out, hC]; simp [e1, e2]
      have HCC := Lib.hid hC
      subst hv
      clear hC
      go_enter Try.func42, Try.ntmps42
      go_wp2_with (go_at_call 38; refine (contains_is T b o _ L _ _ HL.out hL2 HC.out).mono ?_; rw [← HCC.out]; rintro e w1 ⟨rfl, rfl⟩)
      go_ret
      exact ⟨rfl, Dr.refl _⟩
    · have hv : B = false := by rw [HB.out]; simp [e2]
      subst hv
      go_enter Try.func42, Try.ntmps42
      go_wp2_with fail
      go_ret
      exact ⟨rfl, Dr.refl _⟩
  · have hv : B = false := by rw [HB.out]; simp [e1]
    subst hv
    go_enter Try.func42, Try.ntmps42
    go_wp2_with fail
    go_ret
    exact ⟨rfl, Dr.refl _⟩

theorem boxes3 {w w1 : World} {x y z : Value} {t : TypeId} (h : Ext (((w.alloc (.cells #[x] t)).alloc (.cells #[y] t)).alloc (.cells #[z] t)) w1) :
    w1.cell? ⟨w.heap.size, 0, none⟩ = some x ∧ w1.cell? ⟨w.heap.size + 1, 0, none⟩ = some y ∧ w1.cell? ⟨w.heap.size + 1 + 1, 0, none⟩ = some z ∧ Ext w w1 := by
  have e1 : (w.alloc (.cells #[x] t)).heap.size = w.heap.size + 1 := by simp
  have e2 : ((w.alloc (.cells #[x] t)).alloc (.cells #[y] t)).heap.size = w.heap.size + 1 + 1 := by simp
  refine ⟨h.keepc (alloc_keepc _ (alloc_keepc _ (cell_new w #[x] t 0))), h.keepc (alloc_keepc _ ?_), h.keepc ?_, ((((Ext.refl w).alloc _).alloc _).alloc _).trans h⟩
  · rw [← e1]; exact cell_new _ #[y] t 0
  · rw [← e2]; exact cell_new _ #[z] t 0

/-- Three parts. -/
def p3 {α : Type} (a b c : α) : Nat → α
  | 0 => a
  | 1 => b
  | _ => c
theorem cat3 (a b c : List Int) : cat (p3 a b c) 3 = a ++ b ++ c := by simp [cat, p3]

set_option maxHeartbeats 400000 in
theorem Concat3 (a b c : List Int) (A B C : Option Addr) (ca cb cc k g : Nat) (w : World) (h : a.length ≤ 60 ∧ b.length ≤ 60 ∧ c.length ≤ 60)
    (h0 : w.cell? ⟨g, 0, none⟩ = some (.slice A a.length ca)) (h1 : w.cell? ⟨g, 1, none⟩ = some (.slice B b.length cb)) (h2 : w.cell? ⟨g, 2, none⟩ = some (.slice C c.length cc))
    (hA : IntsAt w A a.length a) (hB : IntsAt w B b.length b) (hC : IntsAt w C c.length c) :
    Calls Try.prog 40 #[.slice (some ⟨g, 0, none⟩) 3 k] w fun e w' => ∃ v, e = .returned v ∧ OwnInts w' w.heap.size v (a ++ b ++ c) ∧ Ext w w' := by
  have := Concat_walk (p3 a b c) (p3 A B C) (p3 ca cb cc) 3 g k w (by omega) (fun k => by
      match k with
      | 0 => exact h.1
      | 1 => exact h.2.1
      | k + 2 => exact h.2.2) (fun k hk => by
      match k, hk with
      | 0, _ => exact h0
      | 1, _ => exact h1
      | 2, _ => exact h2) (fun k hk => by
      match k, hk with
      | 0, _ => exact hA
      | 1, _ => exact hB
      | 2, _ => exact hC)
  rwa [cat3] at this

theorem Concat3n (a b c : List Int) (A B C : Option Addr) (ca cb cc k g na nb nc : Nat) (w : World) (ha : na = a.length) (hb : nb = b.length) (hc : nc = c.length) (h : na ≤ 60 ∧ nb ≤ 60 ∧ nc ≤ 60) (hg : g = w.heap.size)
    (hA : IntsAt w A na a) (hB : IntsAt w B nb b) (hC : IntsAt w C nc c) :
    Calls Try.prog 40 #[.slice (some ⟨g, 0, none⟩) 3 k] (w.alloc (.cells #[.slice A na ca, .slice B nb cb, .slice C nc cc] 22)) fun e w' => ∃ A' c', e = .returned (.slice A' (na + nb + nc) c') ∧ IntsAt w' A' (na + nb + nc) (a ++ b ++ c) ∧ Ext w w' := by
  subst ha hb hc hg
  have he : Ext w (w.alloc (.cells #[.slice A a.length ca, .slice B b.length cb, .slice C c.length cc] 22)) := (Ext.refl w).alloc _
  refine (Concat3 a b c A B C ca cb cc k w.heap.size _ h (cell_new _ _ _ 0) (cell_new _ _ _ 1) (cell_new _ _ _ 2) (hA.ext he) (hB.ext he) (hC.ext he)).mono ?_
  rintro e w' ⟨v, rfl, o, d⟩
  obtain ⟨A', c', e', i'⟩ := IntsAt.of_own o
  rw [List.length_append, List.length_append] at e' i'
  exact ⟨A', c', by rw [e'], i', he.trans d⟩
theorem sel_mid (a m c : List Int) (q N : Nat) (hq : 1 ≤ q) (hm : q ≤ m.length) (hN : N = a.length + m.length + c.length) :
    ∃ T L, selI (a ++ m ++ c) q (N + 1 - q) = T ∧ L = T.length ∧ 0 < L ∧ L ≤ N + 1 - q ∧ (((a.length + W.lst (gt m) 0 q : Nat) : Int) ∈ T) ∧ W.lst (gt m) 0 q < q := by
  refine ⟨_, _, rfl, rfl, ?_, selI_len _ _ _ hq, ?_, ?_⟩
  · rw [show N + 1 - q = N - q + 1 by omega]; exact selI_pos _ _ _ hq
  · rw [← lst_mid a m c q hm]; exact selI_has _ _ _ _ hq (by omega)
  · have := W.lst_spec (gt m) 0 q hq; omega
theorem mid_there {T U : List Int} {na nc nb m q : Nat} (h1 : ((na + m : Nat) : Int) ∈ T) (h2 : ((nb + m : Nat) : Int) ∈ U) (hm : m < q) (hq : q ≤ nc) : ∃ j, j < T.length ∧ midP U na nc nb (gt T j) = true := by
  obtain ⟨j, hj, e⟩ := List.getElem_of_mem h1
  refine ⟨j, hj, ?_⟩
  rw [← gt_get _ _ hj, e]
  clear e h1
  unfold midP inT
  rw [show ((na + m : Nat) : Int) - (na : Int) + (nb : Int) = ((nb + m : Nat) : Int) by omega]
  rw [List.contains_iff_mem.2 h2, Bool.and_true, Bool.and_eq_true, decide_eq_true_eq, decide_eq_true_eq]
  omega

set_option maxRecDepth 4000 in
set_option maxHeartbeats 1000000 in
theorem winnowLocal_walk (v0 v1 v2 v3 v4 v5 : Value) (a0 a1 a2 a3 a4 : List Int) (a5 : Int) {w : World} (r0 : (sliceR (intR .i64)).val w a0 v0) (r1 : (sliceR (intR .i64)).val w a1 v1) (r2 : (sliceR (intR .i64)).val w a2 v2) (r3 : (sliceR (intR .i64)).val w a3 v3) (r4 : (sliceR (intR .i64)).val w a4 v4) (r5 : (intR .u8).val w a5 v5) :
    Calls Try.prog 12 #[v0, v1, v2, v3, v4, v5] w (Al (.bool true) w) := by
  obtain ⟨A0, c0, rfl, hA0⟩ := val_slice r0
  obtain ⟨A1, c1, rfl, hA1⟩ := val_slice r1
  obtain ⟨A2, c2, rfl, hA2⟩ := val_slice r2
  obtain ⟨A3, c3, rfl, hA3⟩ := val_slice r3
  obtain ⟨A4, c4, rfl, hA4⟩ := val_slice r4
  obtain ⟨rfl, hw5⟩ := val_int r5
  clear r0 r1 r2 r3 r4 r5
  have b5 := wf_u8 hw5
  have i0 := IntsAt.of_slice hA0
  have i1 := IntsAt.of_slice hA1
  have i2 := IntsAt.of_slice hA2
  have i3 := IntsAt.of_slice hA3
  have i4 := IntsAt.of_slice hA4
  obtain ⟨q, hq⟩ : ∃ q : Nat, 1 + a5 % 12 = (q : Int) := ⟨(1 + a5 % 12).toNat, by omega⟩
  have hq1 : 1 ≤ q := by omega
  have hq2 : q ≤ 12 := by omega
  obtain ⟨n0, hn0⟩ : ∃ n, n = a0.length := ⟨_, rfl⟩
  obtain ⟨n1, hn1⟩ : ∃ n, n = a1.length := ⟨_, rfl⟩
  obtain ⟨n2, hn2⟩ : ∃ n, n = a2.length := ⟨_, rfl⟩
  obtain ⟨n3, hn3⟩ : ∃ n, n = a3.length := ⟨_, rfl⟩
  obtain ⟨n4, hn4⟩ : ∃ n, n = a4.length := ⟨_, rfl⟩
  rw [← hn0] at i0 ⊢
  rw [← hn1] at i1 ⊢
  rw [← hn2] at i2 ⊢
  rw [← hn3] at i3 ⊢
  rw [← hn4] at i4 ⊢
  have HN : Hid (n0 = a0.length ∧ n1 = a1.length ∧ n2 = a2.length ∧ n3 = a3.length ∧ n4 = a4.length) := ⟨hn0, hn1, hn2, hn3, hn4⟩
  have HI : Hid (IntsAt w A0 n0 a0 ∧ IntsAt w A1 n1 a1 ∧ IntsAt w A2 n2 a2 ∧ IntsAt w A3 n3 a3 ∧ IntsAt w A4 n4 a4) := ⟨i0, i1, i2, i3, i4⟩
  have hb : n0 ≤ 9223372036854775807 ∧ n1 ≤ 9223372036854775807 ∧ n2 ≤ 9223372036854775807 ∧ n3 ≤ 9223372036854775807 ∧ n4 ≤ 9223372036854775807 := ⟨hn0 ▸ i0.2.1, hn1 ▸ i1.2.1, hn2 ▸ i2.2.1, hn3 ▸ i3.2.1, hn4 ▸ i4.2.1⟩
  clear hn0 hn1 hn2 hn3 hn4 i0 i1 i2 i3 i4 hA0 hA1 hA2 hA3 hA4 hw5
  by_cases hall : n0 ≤ 60 ∧ n1 ≤ 60 ∧ n3 ≤ 60 ∧ n4 ≤ 60 ∧ n2 ≤ 60 ∧ q ≤ n2
  · obtain ⟨g0, g1, g3, g4, g2, gq⟩ := hall
    go_enter Try.func12, Try.ntmps12
    go_wp2_with (go_at_call 14; refine (awake25 _).mono ?_; rintro e w1 ⟨rfl, d0⟩; obtain ⟨x0, x1, x2, d1⟩ := boxes3 d0; clear d0)
    obtain ⟨T1, L1, hT1, hL1, p1, le1, m1, lt1⟩ := sel_mid a0 a2 a3 q (n0 + n2 + n3) hq1 (by have := HN.out; omega) (by have := HN.out; omega)
    obtain ⟨T2, L2, hT2, hL2, p2, le2, m2, lt2⟩ := sel_mid a1 a2 a4 q (n1 + n2 + n4) hq1 (by have := HN.out; omega) (by have := HN.out; omega)
    have hx := mid_there (nc := n2) m1 m2 lt1 gq
    rw [← hL1, ← HN.out.1, ← HN.out.2.1] at hx
    have HX := Lib.hid hx
    have HT1 := Lib.hid hT1
    have HT2 := Lib.hid hT2
    have HL1 := Lib.hid hL1
    have HL2 := Lib.hid hL2
    clear hx hT1 hT2 hL1 hL2 m1 m2 lt1 lt2
    refine (Concat3n a0 a2 a3 _ _ _ _ _ _ _ _ _ _ _ _ HN.out.1 HN.out.2.2.1 HN.out.2.2.2.1 ⟨g0, g2, g3⟩ rfl (HI.out.1.ext d1) (HI.out.2.2.1.ext d1) (HI.out.2.2.2.1.ext d1)).mono ?_
    rintro e w2 ⟨B1, k1, rfl, i1, d2⟩
    go_wp2_with fail
    refine (Select_nat _ _ _ _ _ _ _ (by first | rfl | exact hq) i1 hq1 (by omega) (by omega)).mono ?_
    rw [HT1.out]
    rintro e w3 ⟨v3, rfl, o3, d3⟩
    obtain ⟨B3, k3, e3, i3⟩ := IntsAt.of_own o3
    rw [← HL1.out] at e3 i3
    obtain rfl := e3
    have d03 : Ext w1 w3 := d2.trans d3
    have y0 := d03.keepc x0
    have y1 := d03.keepc x1
    have y2 := d03.keepc x2
    clear x0 x1 x2
    have H03 := Lib.hid (d1.trans d03)
    clear d03
    go_wp2_with fail
    refine (Concat3n a1 a2 a4 _ _ _ _ _ _ _ _ _ _ _ _ HN.out.2.1 HN.out.2.2.1 HN.out.2.2.2.2 ⟨g1, g2, g4⟩ rfl (HI.out.2.1.ext H03.out) (HI.out.2.2.1.ext H03.out) (HI.out.2.2.2.2.ext H03.out)).mono ?_
    rintro e w4 ⟨B4, k4, rfl, i4, d4⟩
    go_wp2_with fail
    refine (Select_nat _ _ _ _ _ _ _ (by first | rfl | exact hq) i4 hq1 (by omega) (by omega)).mono ?_
    rw [HT2.out]
    rintro e w5 ⟨v5, rfl, o5, d5⟩
    obtain ⟨B5, k5, e5, i5⟩ := IntsAt.of_own o5
    rw [← HL2.out] at e5 i5
    obtain rfl := e5
    have d35 : Ext w3 w5 := d4.trans d5
    have z0 := d35.keepc y0
    have z1 := d35.keepc y1
    have z2 := d35.keepc y2
    have i3' := i3.ext d35
    obtain ⟨b3, o3', rfl, hc3⟩ := i3'.gcell p1
    obtain ⟨b5', o5', rfl, hc5⟩ := i5.gcell p2
    have HC3 := Lib.hid hc3
    have HC5 := Lib.hid hc5
    clear y0 y1 y2 hc3 hc5 i3 i3' i5 o3 o5
    have H05 := Lib.hid (H03.out.trans d35)
    clear d35
    go_wp2_with fail
    refine (ContainsFunc_yes T1 b3 o3' k3 L1 42 _ (midP T2 n0 n2 n1) _ eg42 (by omega) (fun j hj => alloc_keepc _ (HC3.out j hj)) (fun x w' hd => ?_) HX.out).mono ?_
    · exact mid_walk T2 b5' o5' k5 L2 ⟨w.heap.size, 0, none⟩ ⟨w.heap.size + 1 + 1, 0, none⟩ ⟨w5.heap.size, 0, none⟩ ⟨w.heap.size + 1, 0, none⟩ _ _ _ n0 n2 n1 _ _ _ x w' HL2.out (by omega) (fun j hj => hd.keepc (alloc_keepc _ (HC5.out j hj))) (by omega) (by omega) (by omega)
        (hd.keepc (alloc_keepc _ z0)) (hd.keepc (alloc_keepc _ z2)) (hd.keepc (cell_new _ _ _ 0)) (hd.keepc (alloc_keepc _ z1))
    rintro e w6 ⟨rfl, d6⟩
    go_wp2_with fail
    go_ret
    exact ⟨rfl, (H05.out.alloc _).dr d6⟩
  · have hno : 60 < n0 ∨ 60 < n1 ∨ 60 < n3 ∨ 60 < n4 ∨ 60 < n2 ∨ n2 < q := by omega
    clear hall
    go_enter Try.func12, Try.ntmps12
    go_wp2_with (go_at_call 14; refine (awake25 _).mono ?_; rintro e w1 ⟨rfl, d0⟩; obtain ⟨x0, x1, x2, d1⟩ := boxes3 d0; clear d0)
    all_goals first | (exfalso; omega) | (go_ret; exact ⟨rfl, d1⟩)

end Go.Proofs.Ytmibpagajenndaa
