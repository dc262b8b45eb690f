/- The walk of WinnowComplete: the cases that end early. -/
import Derived.Test.YtmibpagajenndaaDoorPo
import Derived.RegionTactic
import Derived.BigRegion
namespace Go.Proofs.YtmibpagajenndaaDoor
open Go.RowKit

theorem rem4 (x : Int) (_ : 0 ≤ x ∧ x ≤ 255) : ∃ k : Nat, 1 ≤ k ∧ k ≤ 4 ∧ 1 + x % 4 = (k : Int) := by
  exact ⟨(x % 4).toNat + 1, by omega, by omega, by omega⟩

set_option maxRecDepth 100000 in
set_option maxHeartbeats 1000000 in
theorem complete_few (pa pb : ByteArray) (a b : List (ByteArray × Int)) (A B : Option Addr) (ca cb na nb : Nat) (x2 x3 x4 x5 m : Int) (w : World) (hna : na = a.length) (hnb : nb = b.length) (hpa : pa.size ≤ 9223372036854775807) (hpb : pb.size ≤ 9223372036854775807)
    (hA : SliceAt lexR w (Old w) A ca a) (hB : SliceAt lexR w (Old w) B cb b) (h4 : 0 ≤ x4 ∧ x4 ≤ 255) (h5 : 0 ≤ x5 ∧ x5 ≤ 255) (hm : w.cell? ⟨0, 0, none⟩ = some (.int .i64 m))
    (h : ¬ (fewB a = true ∧ fewB b = true ∧ pa.size ≤ 200 ∧ pb.size ≤ 200 ∧ textB pa a = true ∧ textB pb b = true)) :
    Calls Tryd.prog 5 #[.agg #[.string pa, .slice A na ca], .agg #[.string pb, .slice B nb cb], .int .u8 x2, .int .u8 x3, .int .u8 x4, .int .u8 x5] w (Al (.bool true) w) := by
  obtain ⟨fa, hfa⟩ : ∃ f, fewB a = f := ⟨_, rfl⟩
  obtain ⟨fb, hfb⟩ : ∃ f, fewB b = f := ⟨_, rfl⟩
  obtain ⟨ta, hta⟩ : ∃ f, textB pa a = f := ⟨_, rfl⟩
  obtain ⟨tb, htb⟩ : ∃ f, textB pb b = f := ⟨_, rfl⟩
  have FA := Lib.hid (Few_at a A ca na fa w hna hA hfa)
  have FB := Lib.hid (Few_at b B cb nb fb w hnb hB hfb)
  have VA : Hid (fa = true → pa.size ≤ 200 → ∀ w', Ext w w' → Calls Tryd.prog 16 #[.agg #[.string pa, .slice A na ca]] w' (Al (.bool ta) w')) := fun h1 h2 w' hw => by
    subst hfa
    exact hta ▸ Valid_any pa a A ca na m w' hna (by omega) (hA.ext hw) (by have := few_len h1; omega) (fun x hx => by have := few_words h1 x hx; omega) (hw.keepc hm)
  have VB : Hid (fb = true → pb.size ≤ 200 → ∀ w', Ext w w' → Calls Tryd.prog 16 #[.agg #[.string pb, .slice B nb cb]] w' (Al (.bool tb) w')) := fun h1 h2 w' hw => by
    subst hfb
    exact htb ▸ Valid_any pb b B cb nb m w' hnb (by omega) (hB.ext hw) (by have := few_len h1; omega) (fun x hx => by have := few_words h1 x hx; omega) (hw.keepc hm)
  rw [hfa, hfb, hta, htb] at h
  obtain ⟨k, hk1, hk2, hk⟩ := rem4 x4 h4
  obtain ⟨q, hq1, hq2, hq⟩ := rem4 x5 h5
  clear hfa hfb hta htb hA hB hna hnb hm
  have hh : fa = false ∨ (fa = true ∧ fb = false) ∨ (fa = true ∧ fb = true ∧ 200 < pa.size) ∨ (fa = true ∧ fb = true ∧ ¬ 200 < pa.size ∧ 200 < pb.size) ∨
      (fa = true ∧ fb = true ∧ ¬ 200 < pa.size ∧ ¬ 200 < pb.size ∧ ta = false) ∨ (fa = true ∧ fb = true ∧ ¬ 200 < pa.size ∧ ¬ 200 < pb.size ∧ ta = true ∧ tb = false) := by
    cases fa <;> cases fb <;> cases ta <;> cases tb <;> simp at h ⊢ <;> omega
  clear h
  rcases hh with rfl | ⟨rfl, rfl⟩ | ⟨rfl, rfl, h1⟩ | ⟨rfl, rfl, h1, h2⟩ | ⟨rfl, rfl, h1, h2, rfl⟩ | ⟨rfl, rfl, h1, h2, rfl, rfl⟩
  all_goals
    go_enter Tryd.func5, Tryd.ntmps5
    go_wp2_with fail
    refine (awake25 _).mono ?_
    rintro e w1 ⟨rfl, d1⟩
    obtain ⟨b0, b1, b2, b3, e1⟩ := boxes2 d1
    clear d1
    have a0 := alloc_keepc (.cells #[.int .i64 (k : Int)] 3) b0
    have a1 := alloc_keepc (.cells #[.int .i64 (k : Int)] 3) b1
    have a2 := alloc_keepc (.cells #[.int .i64 (k : Int)] 3) b2
    have a3 := alloc_keepc (.cells #[.int .i64 (k : Int)] 3) b3
    have e2 := e1.alloc (.cells #[.int .i64 (k : Int)] 3)
    clear b0 b1 b2 b3
    go_wp2_with fail
    refine (FA.out _ e2).mono ?_
    rintro e w' ⟨rfl, rfl⟩
    go_wp2_with fail
  · go_ret
    exact ⟨rfl, e2⟩
  all_goals
    refine (FB.out _ e2).mono ?_
    rintro e w' ⟨rfl, rfl⟩
    go_wp2_with fail
  · go_ret
    exact ⟨rfl, e2⟩
  · go_ret
    exact ⟨rfl, e2⟩
  · go_ret
    exact ⟨rfl, e2⟩
  all_goals
    refine (VA.out (by trivial) (by omega) _ e2).mono ?_
    rintro e w2 ⟨rfl, d2⟩
    have f0 := d2.keepc a0
    have f1 := d2.keepc a1
    have f2 := d2.keepc a2
    have f3 := d2.keepc a3
    have e3 := e2.trans d2
    clear a0 a1 a2 a3
    go_wp2_with fail
  · go_ret
    exact ⟨rfl, e3⟩
  · refine (VB.out (by trivial) (by omega) _ e3).mono ?_
    rintro e w3 ⟨rfl, d3⟩
    go_wp2_with fail
    go_ret
    exact ⟨rfl, e3.trans d3⟩

theorem two_new (w3 : World) (x y : Value) : ((w3.alloc (.cells #[x] 3)).alloc (.cells #[y] 3)).drew.cell? ⟨w3.heap.size, 0, none⟩ = some x ∧ ((w3.alloc (.cells #[x] 3)).alloc (.cells #[y] 3)).drew.cell? ⟨w3.heap.size + 1, 0, none⟩ = some y ∧ Ext w3 ((w3.alloc (.cells #[x] 3)).alloc (.cells #[y] 3)).drew := by
  refine ⟨alloc_keepc (.cells #[y] 3) (cell_new w3 #[x] 3 0), ?_, (((Ext.refl w3).alloc _).alloc _).drew⟩
  have e : (w3.alloc (.cells #[x] 3)).heap.size = w3.heap.size + 1 := by simp
  have := cell_new (w3.alloc (.cells #[x] 3)) #[y] 3 0
  rwa [e] at this
theorem guar_is (k v : Nat) (h1 : 1 ≤ k ∧ k ≤ 4) (h2 : 1 ≤ v ∧ v ≤ 4) (w : World) : Calls Tryd.prog 13 #[.int .i64 (k : Int), .int .i64 (v : Int)] w fun e w' => e = .returned (.tuple #[.int .i64 ((k : Int) + v - 1), .int .i64 0]) ∧ w = w' := by
  have h := Guarantee_any (k : Int) (v : Int) w
  have e1 : okW (k : Int) = true := by simp [okW]; omega
  have e2 : okW (v : Int) = true := by simp [okW]; omega
  unfold guarV guarE at h
  rw [e1, e2] at h
  exact h

theorem col_bd (b : List (Int × Int)) (h lo hi : Int) : ∀ m, (∀ j, j < m → lo ≤ pp b j ∧ pp b j ≤ hi) → ∀ x ∈ col b h m, lo ≤ x ∧ x ≤ hi
  | 0, _, x, hx => by simp [col] at hx
  | m + 1, hb, x, hx => by
    rw [col, List.mem_append] at hx
    rcases hx with hx | hx
    · exact col_bd b h lo hi m (fun j hj => hb j (by omega)) x hx
    · split at hx
      · rw [List.mem_singleton] at hx
        rw [hx]
        exact hb m (by omega)
      · simp at hx
theorem prs_bd (a b : List (Int × Int)) (m : Nat) (lo hi : Int) (hb : ∀ j, j < m → lo ≤ pp b j ∧ pp b j ≤ hi) : ∀ n, (∀ j, j < n → lo ≤ pp a j ∧ pp a j ≤ hi) → ∀ z ∈ prs a b m n, (lo ≤ z.1 ∧ z.1 ≤ hi) ∧ lo ≤ z.2 ∧ z.2 ≤ hi
  | 0, _, z, hz => by simp [prs] at hz
  | n + 1, ha, z, hz => by
    rw [prs, List.mem_append] at hz
    rcases hz with hz | hz
    · exact prs_bd a b m lo hi hb n (fun j hj => ha j (by omega)) z hz
    · obtain ⟨y, hy, rfl⟩ := List.mem_map.1 hz
      exact ⟨ha n (by omega), col_bd b _ lo hi m hb y hy⟩
theorem prs_at (l : List (Int × Int)) (lo hi : Int) (h : ∀ z ∈ l, (lo ≤ z.1 ∧ z.1 ≤ hi) ∧ lo ≤ z.2 ∧ z.2 ≤ hi) (j : Nat) (hj : j < l.length) : (lo ≤ hh l j ∧ hh l j ≤ hi) ∧ lo ≤ pp l j ∧ pp l j ≤ hi := by
  have := h l[j] (List.getElem_mem hj)
  rwa [hh_get l j hj, pp_get l j hj] at this
/-- What is known of the fingerprints of a text. -/
structure Fps (l : List (ByteArray × Int)) (k : Nat) (L : List (Int × Int)) : Prop where
  len : L.length ≤ 40
  ord : ordB L = true
  wf : PrWf L
  run : ∀ j, j < L.length → ∃ t : Nat, pp L j = (t : Int) ∧ t + k ≤ l.length ∧ hh L j = M.hash (texts ((l.drop t).take k))
theorem fps (l : List (ByteArray × Int)) (k : Nat) (q : Int) (h1 : 1 ≤ k) (h2 : k ≤ 4) (hl : l.length ≤ 40) : Fps l k (fpL l (k : Int) q) where
  len := by rw [fp_len]; exact Nat.le_trans (Nat.le_trans (sel_le _ _) (grams_le _ _)) hl
  ord := fp_ord _ _ _
  wf := fp_wf l k q h1 (by omega) hl
  run := fun j hj => by
    obtain ⟨a, b, c⟩ := fp_run l k q j h1 (by omega) hj
    exact ⟨(pp (fpL l (k : Int) q) j).toNat, by omega, b, c⟩

set_option maxRecDepth 100000 in
set_option maxHeartbeats 4000000 in
theorem complete_main (pa pb : ByteArray) (a b : List (ByteArray × Int)) (A B : Option Addr) (ca cb na nb : Nat) (x2 x3 x4 x5 m : Int) (w : World) (hna : na = a.length) (hnb : nb = b.length) (hpa : pa.size ≤ 200) (hpb : pb.size ≤ 200)
    (hA : SliceAt lexR w (Old w) A ca a) (hB : SliceAt lexR w (Old w) B cb b) (h2 : 0 ≤ x2 ∧ x2 ≤ 255) (h3 : 0 ≤ x3 ∧ x3 ≤ 255) (h4 : 0 ≤ x4 ∧ x4 ≤ 255) (h5 : 0 ≤ x5 ∧ x5 ≤ 255) (hm : w.cell? ⟨0, 0, none⟩ = some (.int .i64 m))
    (hfa : fewB a = true) (hfb : fewB b = true) (hta : textB pa a = true) (htb : textB pb b = true) :
    Calls Tryd.prog 5 #[.agg #[.string pa, .slice A na ca], .agg #[.string pb, .slice B nb cb], .int .u8 x2, .int .u8 x3, .int .u8 x4, .int .u8 x5] w (Al (.bool true) w) := by
  have FA := Lib.hid (Few_at a A ca na true w hna hA hfa)
  have FB := Lib.hid (Few_at b B cb nb true w hnb hB hfb)
  have la := few_len hfa
  have lb := few_len hfb
  rw [← hna] at la
  rw [← hnb] at lb
  have wa : ∀ x ∈ a, x.1.size ≤ 9000000 := fun x hx => by have := few_words hfa x hx; omega
  have wb : ∀ x ∈ b, x.1.size ≤ 9000000 := fun x hx => by have := few_words hfb x hx; omega
  have VA := Lib.hid (fun w' (h : Ext w w') => hta ▸ Valid_any pa a A ca na m w' hna (by omega) (hA.ext h) (by omega) wa (h.keepc hm))
  have VB := Lib.hid (fun w' (h : Ext w w') => htb ▸ Valid_any pb b B cb nb m w' hnb (by omega) (hB.ext h) (by omega) wb (h.keepc hm))
  obtain ⟨p, hp, hpn⟩ := rem_pos x2 na h2.1
  obtain ⟨q, hq, hqn⟩ := rem_pos x3 nb h3.1
  have COM := Lib.hid (fun (w' : World) (h : Ext w w') => Common_any pa pb a b A B ca cb na nb p q m w' hna hnb (by omega) (by omega) (hA.ext h) (hB.ext h) (by omega) (by omega) wa wb (h.keepc hm) hpn hqn)
  obtain ⟨k, hk1, hk2, hk⟩ := rem4 x4 h4
  obtain ⟨v, hv1, hv2, hv⟩ := rem4 x5 h5
  have ok : okW (k : Int) = true := by simp [okW]; omega
  have ov : okW (v : Int) = true := by simp [okW]; omega
  have HPA := Lib.hid (fun w' (h : Ext w w') => Prints_main pa a A ca na k v m w' hna (by omega) (hA.ext h) (by omega) wa (h.keepc hm) hta ok ov)
  have HPB := Lib.hid (fun w' (h : Ext w w') => Prints_main pb b B cb nb k v m w' hnb (by omega) (hB.ext h) (by omega) wb (h.keepc hm) htb ok ov)
  have FPA := Lib.hid (fps a k v hk1 hk2 (by omega))
  have FPB := Lib.hid (fps b k v hk1 hk2 (by omega))
  have HC := Lib.hid (fun n => complete a b p q n k v hk1 (by omega) hv1 (by omega))
  generalize fpL a (k : Int) (v : Int) = L1 at HPA FPA HC
  generalize fpL b (k : Int) (v : Int) = L2 at HPB FPB HC
  have HA := Lib.hid hA
  have HB := Lib.hid hB
  have HNA := Lib.hid hna
  have HNB := Lib.hid hnb
  have HP := Lib.hid hp
  have HQ := Lib.hid hq
  have hca : na ≤ ca ∧ ca ≤ 9223372036854775807 := ⟨by have := hA.1; omega, hA.2.1⟩
  have hcb : nb ≤ cb ∧ cb ≤ 9223372036854775807 := ⟨by have := hB.1; omega, hB.2.1⟩
  clear hfa hfb hta htb hA hB hna hnb hm wa wb hp hq ok ov
  go_enter Tryd.func5, Tryd.ntmps5
  go_wp2_with fail
  refine (awake25 _).mono ?_
  rintro e w1 ⟨rfl, d1⟩
  obtain ⟨b0, b1, b2, b3, e1⟩ := boxes2 d1
  clear d1
  have a0 := alloc_keepc (.cells #[.int .i64 (k : Int)] 3) b0
  have a1 := alloc_keepc (.cells #[.int .i64 (k : Int)] 3) b1
  have a2 := alloc_keepc (.cells #[.int .i64 (k : Int)] 3) b2
  have a3 := alloc_keepc (.cells #[.int .i64 (k : Int)] 3) b3
  have a4 := cell_new w1 #[.int .i64 (k : Int)] 3 0
  have a4' : (w1.alloc (.cells #[.int .i64 (k : Int)] 3)).cell? ⟨w1.heap.size, 0, none⟩ = some (.int .i64 (k : Int)) := a4
  have e2 := e1.alloc (.cells #[.int .i64 (k : Int)] 3)
  clear b0 b1 b2 b3 a4
  go_wp2_with fail
  refine (FA.out _ e2).mono ?_
  rintro e w' ⟨rfl, rfl⟩
  go_wp2_with fail
  refine (FB.out _ e2).mono ?_
  rintro e w' ⟨rfl, rfl⟩
  go_wp2_with fail
  refine (VA.out _ e2).mono ?_
  rintro e w2 ⟨rfl, d2⟩
  have b0 := d2.keepc a0
  have b1 := d2.keepc a1
  have b2 := d2.keepc a2
  have b3 := d2.keepc a3
  have b4 := d2.keepc a4'
  have e3 := e2.trans d2
  clear a0 a1 a2 a3 a4'
  go_wp2_with fail
  refine (VB.out _ e3).mono ?_
  rintro e w3 ⟨rfl, d3⟩
  have c0 := d3.keepc b0
  have c1 := d3.keepc b1
  have c2 := d3.keepc b2
  have c3 := d3.keepc b3
  have c4 := d3.keepc b4
  have e4 := e3.trans d3
  clear b0 b1 b2 b3 b4
  have k1 : IntKind.i64.wrap ((na : Int) + 1) = (na : Int) + 1 := IntWalk.i64_in _ (by omega)
  have k2 : IntKind.i64.wrap ((nb : Int) + 1) = (nb : Int) + 1 := IntWalk.i64_in _ (by omega)
  have k3 : IntKind.i64.wrap x2 = x2 := IntWalk.i64_in _ (by omega)
  have k4 : IntKind.i64.wrap x3 = x3 := IntWalk.i64_in _ (by omega)
  have hp := HP.out
  have hq := HQ.out
  have z1 : ¬ ((na : Int) + 1 = 0) := by omega
  have z2 : ¬ ((nb : Int) + 1 = 0) := by omega
  have f1 : ∀ x, (w3.alloc (.cells #[x] 3)).cell? ⟨w.heap.size, 1, none⟩ = some (.slice A na ca) := fun x => alloc_keepc _ c1
  have f3 : ∀ x, (w3.alloc (.cells #[x] 3)).cell? ⟨w.heap.size + 1, 1, none⟩ = some (.slice B nb cb) := fun x => alloc_keepc _ c3
  have g1 : ∀ x y, ((w3.alloc (.cells #[x] 3)).alloc (.cells #[y] 3)).cell? ⟨w.heap.size, 1, none⟩ = some (.slice A na ca) := fun x y => alloc_keepc _ (f1 x)
  have g3 : ∀ x y, ((w3.alloc (.cells #[x] 3)).alloc (.cells #[y] 3)).cell? ⟨w.heap.size + 1, 1, none⟩ = some (.slice B nb cb) := fun x y => alloc_keepc _ (f3 x)
  go_wp2_with fail
  go_region
  all_goals
    clear z1 z2 f1 f3 g1 g3 k1 k2 k3 k4 hp hq hk hv
  all_goals
    first
      | (obtain ⟨w4, hw4⟩ : ∃ W : World, W = ((w3.alloc (.cells #[.int .i64 (p : Int)] 3)).alloc (.cells #[.int .i64 (q : Int)] 3)).drew := ⟨_, rfl⟩
         rw [← hw4]
         obtain ⟨cp, cq, d4⟩ := two_new w3 (.int .i64 (p : Int)) (.int .i64 (q : Int)))
      | (obtain ⟨w4, hw4⟩ : ∃ W : World, W = ((w3.alloc (.cells #[.int .i64 (q : Int)] 3)).alloc (.cells #[.int .i64 (p : Int)] 3)).drew := ⟨_, rfl⟩
         rw [← hw4]
         obtain ⟨cq, cp, d4⟩ := two_new w3 (.int .i64 (q : Int)) (.int .i64 (p : Int)))
    rw [← hw4] at cp cq d4
    clear hw4
  all_goals
    have b0 := d4.keepc c0
    have b1 := d4.keepc c1
    have b2 := d4.keepc c2
    have b3 := d4.keepc c3
    have b4 := d4.keepc c4
    have e5 := e4.trans d4
    clear c0 c1 c2 c3 c4
    go_wp2_with fail
    refine (COM.out _ e5).mono ?_
    rintro e w5 ⟨n, rfl, hn1, hn2, hrun, d5⟩
    have c0 := alloc_keepc (.cells #[.int .i64 (n : Int)] 3) (d5.keepc b0)
    have c1 := alloc_keepc (.cells #[.int .i64 (n : Int)] 3) (d5.keepc b1)
    have c2 := alloc_keepc (.cells #[.int .i64 (n : Int)] 3) (d5.keepc b2)
    have c3 := alloc_keepc (.cells #[.int .i64 (n : Int)] 3) (d5.keepc b3)
    have c4 := alloc_keepc (.cells #[.int .i64 (n : Int)] 3) (d5.keepc b4)
    have p5 := alloc_keepc (.cells #[.int .i64 (n : Int)] 3) (d5.keepc cp)
    have q5 := alloc_keepc (.cells #[.int .i64 (n : Int)] 3) (d5.keepc cq)
    have n5' := cell_new w5 #[.int .i64 (n : Int)] 3 0
    have n5 : (w5.alloc (.cells #[.int .i64 (n : Int)] 3)).cell? ⟨w5.heap.size, 0, none⟩ = some (.int .i64 (n : Int)) := n5'
    have e6 : Ext w (w5.alloc (.cells #[.int .i64 (n : Int)] 3)) := (e5.trans d5).alloc _
    have hn3 : p + n ≤ na := by have := HNA.out; omega
    have hn4 : q + n ≤ nb := by have := HNB.out; omega
    have HRUN := Lib.hid hrun
    clear b0 b1 b2 b3 b4 cp cq n5' hrun hn1 hn2
    go_wp2_with fail
    refine (guar_is k v ⟨hk1, hk2⟩ ⟨hv1, hv2⟩ _).mono ?_
    rintro e w' ⟨rfl, rfl⟩
    go_wp2_with fail
  all_goals
    first
      | (go_ret; exact ⟨rfl, e6⟩)
      | skip
  all_goals
    have hge : (k : Int) + (v : Int) - 1 ≤ (n : Int) := by assumption
    have hany := HC.out n HRUN.out (by omega) (by rw [← HNA.out]; exact hn3) (by rw [← HNB.out]; exact hn4)
    have HANY := Lib.hid hany
    clear hge hany HC HRUN
    refine (HPA.out _ e6).mono ?_
    rintro e w6 ⟨v6, rfl, o6, d6⟩
    obtain ⟨A6, c6, rfl, i6⟩ := PrAt.of_prs o6
    have b0 := d6.keepc c0
    have b1 := d6.keepc c1
    have b2 := d6.keepc c2
    have b3 := d6.keepc c3
    have b4 := d6.keepc c4
    have p6 := d6.keepc p5
    have q6 := d6.keepc q5
    have n6 := d6.keepc n5
    have e7 := e6.trans d6
    have I6 := Lib.hid i6
    clear c0 c1 c2 c3 c4 p5 q5 n5 i6 o6
    go_wp2_with fail
    refine (HPB.out _ e7).mono ?_
    rintro e w7 ⟨v7, rfl, o7, d7⟩
    obtain ⟨A7, c7, rfl, i7⟩ := PrAt.of_prs o7
    have c0 := d7.keepc b0
    have c1 := d7.keepc b1
    have c4 := d7.keepc b4
    have p7 := d7.keepc p6
    have q7 := d7.keepc q6
    have n7 := d7.keepc n6
    have e8 := e7.trans d7
    have SH := Lib.hid (Shared_ord L1 L2 A6 A7 c6 c7 _ _ w7 (I6.out.ext d7) i7 FPA.out.wf FPB.out.wf (Nat.le_trans FPA.out.len (by omega)) (Nat.le_trans FPB.out.len (by omega)) FPA.out.ord FPB.out.ord)
    have I7 := Lib.hid (I6.out.ext d7)
    have hbd := fun j (hj : j < L1.length) => (FPA.out.run j hj)
    have hbp : ∀ z ∈ prs L1 L2 L2.length L1.length, ((0 : Int) ≤ z.1 ∧ z.1 ≤ 10000) ∧ (0 : Int) ≤ z.2 ∧ z.2 ≤ 10000 :=
      prs_bd L1 L2 L2.length 0 10000 (fun j hj => by obtain ⟨t, h, h', _⟩ := FPB.out.run j hj; have := HNB.out; omega) L1.length (fun j hj => by obtain ⟨t, h, h', _⟩ := FPA.out.run j hj; have := HNA.out; omega)
    have HBP := Lib.hid hbp
    clear hbp hbd b0 b1 b2 b3 b4 p6 q6 n6 i7 o7 I6
    obtain ⟨PR, hPR⟩ : ∃ PR, PR = prs L1 L2 L2.length L1.length := ⟨_, rfl⟩
    rw [← hPR] at SH HBP HANY
    clear hPR
    have hl1 : L1.length ≤ 40 := FPA.out.len
    obtain ⟨N1, hN1⟩ : ∃ N, N = L1.length := ⟨_, rfl⟩
    rw [← hN1] at SH I7 hl1 ⊢
    have HN1 := Lib.hid hN1
    generalize L2.length = N2 at SH ⊢
    clear hN1
    go_wp2_with fail
    have hsh := SH.out
    by_cases h1024 : PR.length ≤ 1024
    · rw [if_pos h1024, if_pos h1024] at hsh
      refine hsh.mono ?_
      rintro e w8 ⟨v8, rfl, o8, d8⟩
      obtain ⟨A8, c8, rfl, i8⟩ := PrAt.of_own o8
      have b0 := d8.keepc c0
      have b1 := d8.keepc c1
      have b4 := d8.keepc c4
      have p8 := d8.keepc p7
      have q8 := d8.keepc q7
      have n8 := d8.keepc n7
      have e9 := e8.trans d8
      have I6 := Lib.hid (I7.out.ext d8)
      have I8 := Lib.hid i8
      have HPL := Lib.hid h1024
      clear hsh SH h1024 c0 c1 c4 p7 q7 n7 o8 i8 I7
      go_wp2_with fail
      go_loopw [164] (fun i wr => ∃ j : Nat, j ≤ N1 ∧ i = .int .i64 j ∧ Ext w8 wr) (fun i _ => N1 - (intOf i).toNat)
      case atStart => exact ⟨0, Nat.zero_le _, rfl, Ext.refl _⟩
      case round =>
        obtain ⟨j, hj, rfl, hd⟩ := hrel
        by_cases hlt : j < N1
        · obtain ⟨bb, oo, rfl, hcs⟩ := I6.out.2.2 (by omega)
          obtain ⟨t, ht1, ht2, ht3⟩ := FPA.out.run j (by rw [← HN1.out]; exact hlt)
          have x0 := hd.keepc (hcs j hlt).1
          have x1 := hd.keepc (hcs j hlt).2
          rw [ht3] at x0
          rw [ht1] at x1
          rw [← HNA.out] at ht2
          obtain ⟨A', sa, hA'⟩ := run_slice_part (P := Tryd.prog) (i := t) (j := t + k) 22 Tryd.underlying22 (fun w' => by kernel_rfl) HA.out HNA.out (by omega) ht2
          rw [Int.natCast_add, Nat.add_sub_cancel_left] at sa
          rw [Nat.add_sub_cancel_left] at hA'
          have hlA : k = ((a.drop t).take k).length := by simp; have := HNA.out; omega
          have HH := Lib.hid (fun (w' : World) (h : Ext w w') => Hash_n _ A' (ca - t) k w' hlA.symm (hA'.ext h))
          generalize M.hash (texts ((a.drop t).take k)) = hv at HH x0
          have j1 : IntKind.i64.wrap ((t : Int) + (k : Int)) = (t : Int) + (k : Int) := IntWalk.i64_in _ (by omega)
          have j2 : decide ((t : Int) < 0) = false := decide_eq_false (by omega)
          have j3 : decide ((na : Int) < (t : Int) + (k : Int)) = false := decide_eq_false (by omega)
          have j4 : (hv != hv) = false := by simp
          have dr : Ext w8 (wr.alloc (.cells #[.int .i64 hv, .int .i64 (t : Int)] 38)).drew := (hd.alloc _).drew
          have y0' := cell_new wr #[.int .i64 hv, .int .i64 (t : Int)] 38 0
          have y1' := cell_new wr #[.int .i64 hv, .int .i64 (t : Int)] 38 1
          obtain ⟨Φ, hΦ⟩ : ∃ Φ : World → Prop, ∀ x, Φ x ↔ Ext (wr.alloc (.cells #[.int .i64 hv, .int .i64 (t : Int)] 38)).drew x := ⟨_, fun _ => Iff.rfl⟩
          have h0 : Φ (wr.alloc (.cells #[.int .i64 hv, .int .i64 (t : Int)] 38)).drew := (hΦ _).2 (Ext.refl _)
          have fx0 : ∀ x : Lat Φ, x.w'.cell? ⟨wr.heap.size, 0, none⟩ = some (.int .i64 hv) := fun x => ((hΦ _).1 x.h).keepc y0'
          have fx1 : ∀ x : Lat Φ, x.w'.cell? ⟨wr.heap.size, 1, none⟩ = some (.int .i64 (t : Int)) := fun x => ((hΦ _).1 x.h).keepc y1'
          have fx2 : ∀ x : Lat Φ, x.w'.cell? ⟨w1.heap.size, 0, none⟩ = some (.int .i64 (k : Int)) := fun x => (dr.trans ((hΦ _).1 x.h)).keepc b4
          have fx3 : ∀ x : Lat Φ, x.w'.cell? ⟨w.heap.size, 1, none⟩ = some (.slice A na ca) := fun x => (dr.trans ((hΦ _).1 x.h)).keepc b1
          have HΦ := Lib.hid hΦ
          have hne := Lat.some h0
          have DR := Lib.hid dr
          have ho := hA'.2.1
          clear hΦ hcs y0' y1' hlA hA' ht1 ht3 dr
          go_wp2_with fail
          refine wp_region_lat [25] Φ h0 (by kernel_rfl) (by kernel_rfl) (by kernel_rfl) ?_
          repeat (refine lex_pure rfl rfl rfl ?_; intro K hK; go_big_quiet_op; go_big_quiet_on)
          refine lex_eff rfl ?_
          go_wp2_with fail
          refine (HH.out _ (e9.trans DR.out)).mono ?_
          rintro e w10 ⟨rfl, d10⟩
          go_wp2_with fail
          refine ⟨⟨⟨w10, (HΦ.out _).2 d10⟩, rfl⟩, ?_⟩
          repeat (refine lex_pure rfl rfl rfl ?_; intro K hK; go_big_quiet_op; go_big_quiet_on)
          refine lex_nil ?_
          go_wp2_with fail
          go_roundw
          case rel => exact ⟨j + 1, by omega, by go_num, DR.out.trans d10⟩
          case measure => simp [intOf]; omega
        · have i8 := I8.out.ext hd
          have g1 := hd.keepc p8
          have g2 := hd.keepc q8
          have g3 := hd.keepc b4
          have g4 := hd.keepc n8
          have CP := Lib.hid (ContainsPairs PR A8 c8 _ 19 #[.pointer (some ⟨_, 0, none⟩), .pointer (some ⟨_, 0, none⟩), .pointer (some ⟨_, 0, none⟩), .pointer (some ⟨_, 0, none⟩)] (hitB p q k n) wr eg19 (by have := HPL.out; omega) i8
            (fun j hj w' hw => hit_any _ _ p q k n _ _ _ _ w' (hw.keepc g1) (hw.keepc g2) (hw.keepc g3) (hw.keepc g4) (prs_at PR 0 10000 HBP.out j hj).1 (prs_at PR 0 10000 HBP.out j hj).2 (by omega) (by omega) (by omega) (by omega)))
          rw [HANY.out] at CP
          clear i8 g1 g2 g3 g4
          go_wp2_with fail
          refine CP.out.mono ?_
          rintro e w11 ⟨rfl, d11⟩
          go_wp2_with fail
          go_ret
          exact ⟨rfl, (e9.trans hd).trans d11⟩
    · rw [if_neg h1024, if_neg h1024] at hsh
      refine hsh.mono ?_
      rintro e w8 ⟨v8, rfl, o8, d8⟩
      clear hsh SH h1024
      go_wp2_with fail
      go_ret
      exact ⟨rfl, e8.trans d8⟩

end Go.Proofs.YtmibpagajenndaaDoor
