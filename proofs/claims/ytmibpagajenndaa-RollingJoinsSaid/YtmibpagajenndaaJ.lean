/- The walks of RollingMoves and RollingField. -/
import Derived.Test.YtmibpagajenndaaI
import Derived.Test.YtmibpagajenndaaPrime
namespace Go.Proofs.Ytmibpagajenndaa
open Go.RowKit

theorem joinV_form (a b n : Int) : ∃ x e, joinV a b n = .tuple #[.int .i64 x, .int .i64 e] := by
  unfold joinV; split <;> exact ⟨_, _, rfl⟩
theorem rollV_form (h : Int) (o i : List UInt8) (k : Int) : ∃ x e, rollV h o i k = .tuple #[.int .i64 x, .int .i64 e] := by
  unfold rollV; split <;> exact ⟨_, _, rfl⟩

set_option maxHeartbeats 800000 in
theorem rollingMoves_walk (v0 v1 v2 v3 v4 v5 : Value) (a0 a1 a2 : Int) (a3 a4 : ByteArray) (a5 : Int) {w : World} (r0 : (intR .i64).val w a0 v0) (r1 : (intR .i64).val w a1 v1) (r2 : (intR .i64).val w a2 v2)
    (r3 : strR.val w a3 v3) (r4 : strR.val w a4 v4) (r5 : (intR .i64).val w a5 v5) : Calls Try.prog 9 #[v0, v1, v2, v3, v4, v5] w (Al (.bool true) w) := by
  obtain ⟨rfl, _⟩ := val_int r0
  obtain ⟨rfl, _⟩ := val_int r1
  obtain ⟨rfl, _⟩ := val_int r2
  obtain ⟨rfl, hs3⟩ := val_str r3
  obtain ⟨rfl, hs4⟩ := val_str r4
  obtain ⟨rfl, _⟩ := val_int r5
  clear r0 r1 r2 r3 r4 r5
  obtain ⟨x, ex, hj⟩ := joinV_form a0 a1 a2
  obtain ⟨y, ey, hr⟩ := rollV_form a0 a3.data.toList a4.data.toList a5
  have J := Lib.hid hj
  have R := Lib.hid hr
  clear hj hr
  by_cases h3 : 100 < a3.size
  · go_enter Try.func9, Try.ntmps9
    go_wp2_with (go_at_call 20; refine (awake24 _).mono ?_; rintro e w1 ⟨rfl, d1⟩)
    go_ret
    exact ⟨rfl, d1⟩
  · by_cases h4 : 100 < a4.size
    · go_enter Try.func9, Try.ntmps9
      go_wp2_with (go_at_call 20; refine (awake24 _).mono ?_; rintro e w1 ⟨rfl, d1⟩)
      go_ret
      exact ⟨rfl, d1⟩
    · go_enter Try.func9, Try.ntmps9
      go_wp2_with (first | (go_at_call 20; refine (awake24 _).mono ?_; rintro e w1 ⟨rfl, d1⟩) | (go_at_call 28; refine (Join_any _ _ _ _).mono ?_; rw [J.out]; rintro e w' ⟨rfl, rfl⟩) | (go_at_call 34; refine (refJoin_any _ _ _ _).mono ?_; rw [J.out]; rintro e w' ⟨rfl, rfl⟩) | (go_at_call 35; refine (Roll_q _ _ _ _ _ hs3 hs4).mono ?_; rw [R.out]; rintro e w2 ⟨rfl, d2⟩) | (go_at_call 36; refine (refRoll_q _ _ _ _ _ hs3 hs4).mono ?_; rw [R.out]; rintro e w3 ⟨rfl, d3⟩))
      go_ret
      exact ⟨rfl, (d1.dr d2).dr d3⟩

def isRes (n : Int) : Prop := 0 ≤ n ∧ n < 2305843009213693951
theorem mulS_res {a b : Int} (ha : isRes a) (hb : isRes b) : mulS a b = a * b % 2305843009213693951 := if_pos ⟨ha, hb⟩
theorem Mul_is {a b : Int} (x : Int) (w : World) (h : mulS a b = x) : Calls Try.prog 23 #[.int .i64 a, .int .i64 b] w fun e w' => e = .returned (.int .i64 x) ∧ w = w' := h ▸ Mul_any a b w
theorem Pow_is {a : Int} (x : Int) (w : World) (h : powS a = x) : Calls Try.prog 25 #[.int .i64 a] w fun e w' => e = .returned (.int .i64 x) ∧ w = w' := h ▸ Power_any a w
theorem Res_yes {a : Int} (w : World) (h : isRes a) : Calls Try.prog 30 #[.int .i64 a] w fun e w' => e = .returned (.bool true) ∧ w = w' :=
  (refResidue_any a w).mono fun _ _ ⟨h1, h2⟩ => ⟨by rw [h1, decide_eq_true (show 0 ≤ a ∧ a < 2305843009213693951 from h)], h2⟩
theorem Res_no {a : Int} (w : World) (h : ¬ isRes a) : Calls Try.prog 30 #[.int .i64 a] w fun e w' => e = .returned (.bool false) ∧ w = w' :=
  (refResidue_any a w).mono fun _ _ ⟨h1, h2⟩ => ⟨by rw [h1, decide_eq_false (show ¬ (0 ≤ a ∧ a < 2305843009213693951) from h)], h2⟩
theorem mulS_out {a b : Int} (h : ¬ (isRes a ∧ isRes b)) : mulS a b = 0 := if_neg h

set_option maxHeartbeats 2000000 in
theorem field_no (a0 a1 a2 a3 a4 : Int) (w : World) (hn : ¬ (isRes a0 ∧ isRes a1 ∧ isRes a2)) :
    Calls Try.prog 7 #[.int .i64 a0, .int .i64 a1, .int .i64 a2, .int .u8 a3, .int .u8 a4] w (Al (.bool true) w) := by
  by_cases h0 : isRes a0
  · by_cases h1 : isRes a1
    · have h2 : ¬ isRes a2 := fun h => hn ⟨h0, h1, h⟩
      by_cases hz : mulS a0 a1 = 0
      · have H0 := Lib.hid h0
        have H1 := Lib.hid h1
        have H2 := Lib.hid h2
        clear h0 h1 h2 hn
        have HZ := Lib.hid hz
        clear hz
        go_enter Try.func7, Try.ntmps7
        go_wp2_with fail
        refine (awake24 _).mono ?_; rintro e w1 ⟨rfl, d1⟩
        go_wp2_with fail
        refine (Res_yes _ H0.out).mono ?_; rintro e w' ⟨rfl, rfl⟩
        go_wp2_with fail
        refine (Res_yes _ H1.out).mono ?_; rintro e w' ⟨rfl, rfl⟩
        go_wp2_with fail
        refine (Res_no _ H2.out).mono ?_; rintro e w' ⟨rfl, rfl⟩
        go_wp2_with fail
        refine (Mul_is 0 _ HZ.out).mono ?_; rintro e w' ⟨rfl, rfl⟩
        go_wp2_with fail
        go_ret
        exact ⟨rfl, d1⟩
      · have H0 := Lib.hid h0
        have H1 := Lib.hid h1
        have H2 := Lib.hid h2
        clear h0 h1 h2 hn
        have hz' : (mulS a0 a1 == 0) = false := by simpa using hz
        go_enter Try.func7, Try.ntmps7
        go_wp2_with fail
        refine (awake24 _).mono ?_; rintro e w1 ⟨rfl, d1⟩
        go_wp2_with fail
        refine (Res_yes _ H0.out).mono ?_; rintro e w' ⟨rfl, rfl⟩
        go_wp2_with fail
        refine (Res_yes _ H1.out).mono ?_; rintro e w' ⟨rfl, rfl⟩
        go_wp2_with fail
        refine (Res_no _ H2.out).mono ?_; rintro e w' ⟨rfl, rfl⟩
        go_wp2_with fail
        refine (Mul_any _ _ _).mono ?_; rintro e w' ⟨rfl, rfl⟩
        go_wp2_with fail
        refine (Res_yes _ H0.out).mono ?_; rintro e w' ⟨rfl, rfl⟩
        go_wp2_with fail
        refine (Res_yes _ H1.out).mono ?_; rintro e w' ⟨rfl, rfl⟩
        go_wp2_with fail
        go_ret
        exact ⟨rfl, d1⟩
    · have HZ := Lib.hid (mulS_out (fun h => h1 h.2 : ¬ (isRes a0 ∧ isRes a1)))
      have H0 := Lib.hid h0
      have H1 := Lib.hid h1
      clear h0 h1 hn
      go_enter Try.func7, Try.ntmps7
      go_wp2_with fail
      refine (awake24 _).mono ?_; rintro e w1 ⟨rfl, d1⟩
      go_wp2_with fail
      refine (Res_yes _ H0.out).mono ?_; rintro e w' ⟨rfl, rfl⟩
      go_wp2_with fail
      refine (Res_no _ H1.out).mono ?_; rintro e w' ⟨rfl, rfl⟩
      go_wp2_with fail
      refine (Mul_is 0 _ HZ.out).mono ?_; rintro e w' ⟨rfl, rfl⟩
      go_wp2_with fail
      go_ret
      exact ⟨rfl, d1⟩
  · have HZ := Lib.hid (mulS_out (fun h => h0 h.1 : ¬ (isRes a0 ∧ isRes a1)))
    have H0 := Lib.hid h0
    clear h0 hn
    go_enter Try.func7, Try.ntmps7
    go_wp2_with fail
    refine (awake24 _).mono ?_; rintro e w1 ⟨rfl, d1⟩
    go_wp2_with fail
    refine (Res_no _ H0.out).mono ?_; rintro e w' ⟨rfl, rfl⟩
    go_wp2_with fail
    refine (Mul_is 0 _ HZ.out).mono ?_; rintro e w' ⟨rfl, rfl⟩
    go_wp2_with fail
    go_ret
    exact ⟨rfl, d1⟩

theorem isRes_mod (x : Int) : isRes (x % 2305843009213693951) := by unfold isRes; omega
theorem assoc_mod (a b c : Int) : a * b % 2305843009213693951 * c % 2305843009213693951 = a * (b * c % 2305843009213693951) % 2305843009213693951 := by
  rw [M.emod_mul_left, M.emod_mul_right, Int.mul_assoc]
theorem distr_mod (a b c : Int) : a * ((b + c) % 2305843009213693951) % 2305843009213693951 = (a * b % 2305843009213693951 + a * c % 2305843009213693951) % 2305843009213693951 := by
  rw [M.emod_mul_right, M.emod_add_left, M.emod_add_right, Int.mul_add]
theorem powS_nat (n : Int) (h0 : 0 ≤ n) (h1 : n ≤ 8192) : powS n = M.pw 1000003 n.toNat := if_pos ⟨h0, h1⟩

set_option maxHeartbeats 4000000 in
theorem field_yes (a0 a1 a2 a3 a4 : Int) (w : World) (h0 : isRes a0) (h1 : isRes a1) (h2 : isRes a2) (h3 : 0 ≤ a3 ∧ a3 ≤ 255) (h4 : 0 ≤ a4 ∧ a4 ≤ 255) :
    Calls Try.prog 7 #[.int .i64 a0, .int .i64 a1, .int .i64 a2, .int .u8 a3, .int .u8 a4] w (Al (.bool true) w) := by
  obtain ⟨p, hp⟩ : ∃ p, p = a0 * a1 % 2305843009213693951 := ⟨_, rfl⟩
  obtain ⟨q, hq⟩ : ∃ q, q = p * a2 % 2305843009213693951 := ⟨_, rfl⟩
  obtain ⟨r, hr⟩ : ∃ r, r = a1 * a2 % 2305843009213693951 := ⟨_, rfl⟩
  obtain ⟨t, ht⟩ : ∃ t, t = a0 * a2 % 2305843009213693951 := ⟨_, rfl⟩
  have hpr : isRes p := hp ▸ isRes_mod _
  have hqr : isRes q := hq ▸ isRes_mod _
  have hrr : isRes r := hr ▸ isRes_mod _
  have htr : isRes t := ht ▸ isRes_mod _
  have c1 := Lib.hid (show mulS a0 a1 = p by rw [mulS_res h0 h1, hp])
  have c2 := Lib.hid (show mulS a1 a0 = p by rw [mulS_res h1 h0, hp, Int.mul_comm])
  have c3 := Lib.hid (show mulS p a2 = q by rw [mulS_res hpr h2, hq])
  have c4 := Lib.hid (show mulS a1 a2 = r by rw [mulS_res h1 h2, hr])
  have c5 := Lib.hid (show mulS a0 r = q by rw [mulS_res h0 hrr, hq, hp, hr, assoc_mod])
  have c6 := Lib.hid (show mulS a0 1 = a0 by rw [mulS_res h0 (by unfold isRes; omega), Int.mul_one, Int.emod_eq_of_lt h0.1 h0.2])
  have c7 := Lib.hid (show mulS a0 ((a1 + a2) % 2305843009213693951) = (p + t) % 2305843009213693951 by rw [mulS_res h0 (isRes_mod _), hp, ht, distr_mod])
  have c8 := Lib.hid (show mulS a0 a2 = t by rw [mulS_res h0 h2, ht])
  have hz : p = 0 ↔ a0 = 0 ∨ a1 = 0 := by rw [hp]; exact Prime.no_zero h0 h1
  obtain ⟨x, hx⟩ : ∃ x, x = powS a3 := ⟨_, rfl⟩
  obtain ⟨y, hy⟩ : ∃ y, y = powS a4 := ⟨_, rfl⟩
  obtain ⟨z, hzz⟩ : ∃ z, z = powS (a3 + a4) := ⟨_, rfl⟩
  have c9 := Lib.hid hx.symm
  have c10 := Lib.hid hy.symm
  have c11 := Lib.hid hzz.symm
  have c12 := Lib.hid (show mulS x y = z by
    rw [mulS_res (hx ▸ powS_range _) (hy ▸ powS_range _), hx, hy, hzz, powS_nat _ (by omega) (by omega), powS_nat _ (by omega) (by omega), powS_nat _ (by omega) (by omega), M.pw_add']
    congr 1; omega)
  have b0 : 0 ≤ a0 ∧ a0 < 2305843009213693951 := h0
  have b1 : 0 ≤ a1 ∧ a1 < 2305843009213693951 := h1
  have b2 : 0 ≤ a2 ∧ a2 < 2305843009213693951 := h2
  have b3 : 0 ≤ p ∧ p < 2305843009213693951 := hpr
  have b4 : 0 ≤ t ∧ t < 2305843009213693951 := htr
  have H0 := Lib.hid h0
  have H1 := Lib.hid h1
  have H2 := Lib.hid h2
  have H3 := Lib.hid hpr
  clear h0 h1 h2 hp hq hr ht hpr hqr hrr htr hx hy hzz
  have key : ∃ u0 u1 u2 : Bool, (a0 == 0) = u0 ∧ (a1 == 0) = u1 ∧ (p == 0) = u2 ∧ u2 = (u0 || u1) := by
    refine ⟨_, _, _, rfl, rfl, rfl, ?_⟩
    rw [Bool.eq_iff_iff]
    simpa using hz
  clear hz
  obtain ⟨u0, u1, u2, k0, k1, k2, k3⟩ := key
  subst k3
  cases u0 <;> cases u1 <;> first | (replace k2 : (p == 0) = true := k2) | (replace k2 : (p == 0) = false := k2)
  all_goals
    go_enter Try.func7, Try.ntmps7
    go_wp2_with fail
    refine (awake24 _).mono ?_; rintro e w1 ⟨rfl, d1⟩
    go_wp2_with fail
    refine (Res_yes _ H0.out).mono ?_; rintro e w' ⟨rfl, rfl⟩
    go_wp2_with fail
    refine (Res_yes _ H1.out).mono ?_; rintro e w' ⟨rfl, rfl⟩
    go_wp2_with fail
    refine (Res_yes _ H2.out).mono ?_; rintro e w' ⟨rfl, rfl⟩
    go_wp2_with fail
    refine (Mul_is p _ c1.out).mono ?_; rintro e w' ⟨rfl, rfl⟩
    go_wp2_with fail
    refine (Res_yes _ H3.out).mono ?_; rintro e w' ⟨rfl, rfl⟩
    go_wp2_with fail
    refine (Mul_is p _ c2.out).mono ?_; rintro e w' ⟨rfl, rfl⟩
    go_wp2_with fail
    refine (Mul_is q _ c3.out).mono ?_; rintro e w' ⟨rfl, rfl⟩
    go_wp2_with fail
    refine (Mul_is r _ c4.out).mono ?_; rintro e w' ⟨rfl, rfl⟩
    go_wp2_with fail
    refine (Mul_is q _ c5.out).mono ?_; rintro e w' ⟨rfl, rfl⟩
    go_wp2_with fail
    refine (Mul_is a0 _ c6.out).mono ?_; rintro e w' ⟨rfl, rfl⟩
    go_wp2_with fail
    refine (Mul_is _ _ c7.out).mono ?_; rintro e w' ⟨rfl, rfl⟩
    go_wp2_with fail
    refine (Mul_is t _ c8.out).mono ?_; rintro e w' ⟨rfl, rfl⟩
    go_wp2_with fail
    refine (Pow_is x _ c9.out).mono ?_; rintro e w' ⟨rfl, rfl⟩
    go_wp2_with fail
    refine (Pow_is y _ c10.out).mono ?_; rintro e w' ⟨rfl, rfl⟩
    go_wp2_with fail
    refine (Mul_is z _ c12.out).mono ?_; rintro e w' ⟨rfl, rfl⟩
    go_wp2_with fail
    refine (Pow_is z _ c11.out).mono ?_; rintro e w' ⟨rfl, rfl⟩
    go_wp2_with fail
    go_ret
    exact ⟨ret_bool (by simp), d1⟩

theorem rollingField_walk (v0 v1 v2 v3 v4 : Value) (a0 a1 a2 a3 a4 : Int) {w : World} (r0 : (intR .i64).val w a0 v0) (r1 : (intR .i64).val w a1 v1) (r2 : (intR .i64).val w a2 v2)
    (r3 : (intR .u8).val w a3 v3) (r4 : (intR .u8).val w a4 v4) : Calls Try.prog 7 #[v0, v1, v2, v3, v4] w (Al (.bool true) w) := by
  obtain ⟨rfl, _⟩ := val_int r0
  obtain ⟨rfl, _⟩ := val_int r1
  obtain ⟨rfl, _⟩ := val_int r2
  obtain ⟨rfl, h3⟩ := val_int r3
  obtain ⟨rfl, h4⟩ := val_int r4
  by_cases h : isRes a0 ∧ isRes a1 ∧ isRes a2
  · exact field_yes _ _ _ _ _ _ h.1 h.2.1 h.2.2 (wf_u8 h3) (wf_u8 h4)
  · exact field_no _ _ _ _ _ _ h

end Go.Proofs.Ytmibpagajenndaa
