/- The walk of RollingRolls. -/
import Derived.Test.YtmibpagajenndaaK
namespace Go.Proofs.Ytmibpagajenndaa
open Go.RowKit

theorem Grams_m (l : List (ByteArray × Int)) (A : Option Addr) (c m : Nat) (w : World) (hA : SliceAt lexR w (Old w) A c l) (hl : l.length ≤ 8192) (hm : m ≤ 11) :
    Calls Try.prog 39 #[.slice A l.length c, .int .i64 (1 + (m : Int))] w (RetInts w (grams l (1 + m) (l.length - m)) 0) := by
  have h := Grams_any l A c (1 + (m : Int)) w hA hl
  have e1 : gramsL l (1 + (m : Int)) = grams l (1 + m) (l.length - m) := by
    unfold gramsL
    rw [if_pos (by omega), show (1 + (m : Int)).toNat = 1 + m by omega, show l.length + 1 - (1 + m) = l.length - m by omega]
  have e2 : gramsE (1 + (m : Int)) = 0 := if_pos (by omega)
  rw [e1, e2] at h
  exact h
theorem grams_get (l : List (ByteArray × Int)) (k : Nat) : ∀ (n i : Nat) (h : i < (grams l k n).length), (grams l k n)[i] = M.hash (texts ((l.drop i).take k))
  | 0, i, h => absurd h (Nat.not_lt_zero _)
  | n + 1, i, h => by
    have hl := grams_length l k n
    simp only [grams]
    by_cases hi : i < n
    · rw [List.getElem_append_left (by omega)]
      exact grams_get l k n i (by omega)
    · have : i = n := by rw [grams_length] at h; omega
      subst this
      rw [List.getElem_append_right (by omega)]
      simp [hl]
theorem Roll_is {h : Int} {o i : ByteArray} {k : Int} (v : Value) (w : World) (ho : o.size ≤ 9223372036854775807) (hi : i.size ≤ 9223372036854775807) (hv : rollV h o.data.toList i.data.toList k = v) :
    Calls Try.prog 35 #[.int .i64 h, .string o, .string i, .int .i64 k] w (Qu v w) := hv ▸ Roll_q h o i k w ho hi

set_option maxHeartbeats 1000000 in
theorem rolls_ne (l : List (ByteArray × Int)) (b off c m : Nat) (a1 : Int) (w : World) (hA : SliceAt lexR w (Old w) (some ⟨b, off, none⟩) c l) (hf : fewB l = true) (h1 : 0 ≤ a1 ∧ a1 ≤ 255) (hm : a1 % 12 = (m : Int)) (hm2 : m ≤ 11) (hml : m < l.length) :
    Calls Try.prog 11 #[.slice (some ⟨b, off, none⟩) l.length c, .int .u8 a1] w (Al (.bool true) w) := by
  have hl := few_len hf
  have hlc := hA.1
  have hcc := hA.2.1
  have hgl := grams_length l (1 + m) (l.length - m)
  have ht : (((l.length - m : Nat) : Int) != max 0 ((l.length : Int) - (1 + (m : Int)) + 1)) = false := by simp; omega
  have HF := Lib.hid hf
  have HA := Lib.hid hA
  have HGL := Lib.hid hgl
  clear hf hA hgl
  have hb : b < w.heap.size := by
    obtain ⟨b', off', e, h, _⟩ := HA.out.2.2 (by intro h; rw [h] at hml; simp at hml)
    cases e; exact h
  have hrow : ∀ k (h : k < l.length), w.cell? ⟨b, off + k * 2, none⟩ = some (.string l[k].1) ∧ w.cell? ⟨b, off + k * 2 + 1, none⟩ = some (.int .i64 l[k].2) ∧ l[k].1.size ≤ 9223372036854775807 := by
    intro k h
    obtain ⟨b', off', e, _, hr⟩ := HA.out.2.2 (by intro h; rw [h] at hml; simp at hml)
    cases e
    exact lex_cells hr k h
  have HROW := Lib.hid hrow
  clear hrow
  go_enter Try.func11, Try.ntmps11
  go_wp2_with (first | (go_at_call 20; refine (awake24 _).mono ?_; rintro e w1 ⟨rfl, d1⟩) | (go_at_call 27; refine (Few_is l _ _ true _ (HA.out.ext d1) HF.out).mono ?_; rintro e w' ⟨rfl, rfl⟩))
  refine (Grams_m l _ _ m _ (HA.out.ext d1) (by omega) hm2).mono ?_
  rintro e w2 ⟨v2, rfl, o2, d2⟩
  obtain ⟨A2, c2, e2, i2⟩ := IntsAt.of_own o2
  obtain ⟨b2, o2', rfl, hc2⟩ := i2.2.2 (by intro h; have := HGL.out; rw [h] at this; simp at this; omega)
  rw [e2, HGL.out]
  go_wp2_with fail
  have hgc := fun (k : Nat) (h : k < l.length - m) => show w2.cell? ⟨b2, o2' + k, none⟩ = some (.int .i64 (M.hash (texts ((l.drop k).take (1 + m))))) by
    have := hc2 k (by rw [HGL.out]; exact h)
    rwa [grams_get] at this
  have HG := Lib.hid hgc
  clear hgc hc2 i2 o2
  go_loopw [41] (fun i wr => ∃ k : Nat, k ≤ l.length - m ∧ i = .int .i64 k ∧ Ext w2 wr) (fun i _ => l.length - (intOf i).toNat)
  case atStart => exact ⟨0, Nat.zero_le _, rfl, Ext.refl _⟩
  case round =>
    obtain ⟨k, hk, rfl, hd⟩ := hrel
    by_cases hlt : k < l.length - m
    · have g0 := HG.out k hlt
      have hcut := fun (w' : World) (he : Ext w w') => (HA.out.ext he).cut k (k + (1 + m)) (by omega) (by omega) (some ⟨b, off + k * 2, none⟩) (fun _ _ _ e => by cases e; rfl)
      have hcl : ((l.drop k).take (k + (1 + m) - k)).length = 1 + m := by simp; omega
      simp only [Nat.add_sub_cancel_left] at hcut hcl
      have HC := Lib.hid hcut
      have HCL := Lib.hid hcl
      clear hcut hcl
      have dw : Ext w wr := (d1.trans d2).trans hd
      have fx0 : ∀ x : Lat (Ext wr), x.w'.cell? ⟨b2, o2' + k, none⟩ = some (.int .i64 (M.hash (texts ((l.drop k).take (1 + m))))) := fun x => (hd.trans x.h).keepc g0
      have g0' := hd.keepc g0
      clear g0
      have hne1 := Lat.some (Φ := Ext wr) ((Ext.refl wr).drew)
      go_wp2_with fail
      refine wp_region_lat [10] (Ext wr) ((Ext.refl wr).drew) (by kernel_rfl) (by kernel_rfl) (by kernel_rfl) ?_
      repeat (refine lex_pure rfl rfl rfl ?_; intro K hK; go_big_quiet_op; go_big_quiet_on)
      refine lex_eff rfl ?_
      go_wp2_with fail
      refine (Hash_n _ _ _ _ _ HCL.out (HC.out _ dw.drew)).mono ?_
      rintro e w3 ⟨rfl, d3⟩
      have e3 : Ext wr w3 := (Ext.refl wr).drew.trans d3
      go_wp2_with fail
      refine ⟨⟨⟨_, e3⟩, rfl⟩, ?_⟩
      repeat (refine lex_pure rfl rfl rfl ?_; intro K hK; go_big_quiet_op; go_big_quiet_on)
      refine lex_nil ?_
      have g3 := e3.keepc g0'
      by_cases hk0 : k = 0
      · subst hk0
        go_wp2_with fail
        go_roundw
        case rel => exact ⟨1, by omega, rfl, hd.trans e3⟩
        case measure => simp [intOf]; omega
      · have hk1 : 0 < k := by omega
        have hkz : ((k : Int) == 0) = false := by simp; omega
        have g4 := HG.out (k - 1) (by omega)
        obtain ⟨p0, _, p2⟩ := HROW.out (k - 1) (by omega)
        obtain ⟨q0, _, q2⟩ := HROW.out (k + m) (by omega)
        have dw3 : Ext w w3 := dw.trans e3
        have hrl := hash_roll l (k - 1) (1 + m) (by omega) (by omega)
        have hrv : rollV (M.hash (texts ((l.drop (k - 1)).take (1 + m)))) (l[k - 1]'(by omega)).1.data.toList (l[k + m]'(by omega)).1.data.toList (1 + (m : Int)) = .tuple #[.int .i64 (M.hash (texts ((l.drop k).take (1 + m)))), .int .i64 0] := by
          have hr := M.hash_range (texts ((l.drop (k - 1)).take (1 + m)))
          unfold rollV
          rw [if_pos (by simp only [rollOk, decide_eq_true_eq]; omega), show (1 + (m : Int) - 1).toNat = 1 + m - 1 by omega]
          have e5 : l[k - 1 + (1 + m)]'(by omega) = l[k + m]'(by omega) := by congr 1; omega
          rw [e5, show k - 1 + 1 = k by omega] at hrl
          rw [hrl]
        have HRV := Lib.hid hrv
        clear hrl hrv
        go_wp2_with fail
        have fy0 : ∀ x : Lat (Ext w3), x.w'.cell? ⟨b2, o2' + (k - 1), none⟩ = some (.int .i64 (M.hash (texts ((l.drop (k - 1)).take (1 + m))))) := fun x => ((hd.trans e3).trans x.h).keepc g4
        have fy1 : ∀ x : Lat (Ext w3), x.w'.cell? ⟨b, off + (k - 1) * 2, none⟩ = some (.string (l[k - 1]'(by omega)).1) := fun x => (dw3.trans x.h).keepc p0
        rw [show (⟨b, off + (k + m) * 2, none⟩ : Addr) = ⟨b, off + (k + (1 + m) - 1) * 2, none⟩ by congr 3; omega] at q0
        have fy2 : ∀ x : Lat (Ext w3), x.w'.cell? ⟨b, off + (k + (1 + m) - 1) * 2, none⟩ = some (.string (l[k + m]'(by omega)).1) := fun x => (dw3.trans x.h).keepc q0
        have hne2 := Lat.some (Φ := Ext w3) ((Ext.refl w3).drew)
        refine wp_region_lat [20] (Ext w3) ((Ext.refl w3).drew) (by kernel_rfl) (by kernel_rfl) (by kernel_rfl) ?_
        repeat (refine lex_pure rfl rfl rfl ?_; intro K hK; go_big_quiet_op; go_big_quiet_on)
        refine lex_eff rfl ?_
        go_wp2_with fail
        refine (Roll_is _ _ p2 q2 HRV.out).mono ?_
        rintro e w4 ⟨rfl, d4⟩
        have e4 : Ext w3 w4 := ((Ext.refl w3).drew).dr d4
        go_wp2_with fail
        refine ⟨⟨⟨_, e4⟩, rfl⟩, ?_⟩
        repeat (refine lex_pure rfl rfl rfl ?_; intro K hK; go_big_quiet_op; go_big_quiet_on)
        refine lex_nil ?_
        have g5 := (e3.trans e4).keepc g0'
        go_wp2_with fail
        go_roundw
        case rel => exact ⟨k + 1, by omega, by go_num, (hd.trans e3).trans e4⟩
        case measure => simp [intOf]; omega
    · go_wp2_with fail
      go_ret
      exact ⟨rfl, (d1.trans d2).trans hd⟩

set_option maxHeartbeats 1000000 in
/-- Fewer words than a run has: no hash. -/
theorem rolls_few (l : List (ByteArray × Int)) (A : Option Addr) (c m : Nat) (a1 : Int) (w : World) (hA : SliceAt lexR w (Old w) A c l) (hf : fewB l = true) (h1 : 0 ≤ a1 ∧ a1 ≤ 255) (hm : a1 % 12 = (m : Int)) (hm2 : m ≤ 11) (hml : l.length ≤ m) :
    Calls Try.prog 11 #[.slice A l.length c, .int .u8 a1] w (Al (.bool true) w) := by
  have hl := few_len hf
  have hlc := hA.1
  have hcc := hA.2.1
  have ht : ((0 : Int) != max 0 ((l.length : Int) - (1 + (m : Int)) + 1)) = false := by simp; omega
  have HF := Lib.hid hf
  have HA := Lib.hid hA
  clear hf hA
  go_enter Try.func11, Try.ntmps11
  go_wp2_with (first | (go_at_call 20; refine (awake24 _).mono ?_; rintro e w1 ⟨rfl, d1⟩) | (go_at_call 27; refine (Few_is l _ _ true _ (HA.out.ext d1) HF.out).mono ?_; rintro e w' ⟨rfl, rfl⟩))
  refine (Grams_m l _ _ m _ (HA.out.ext d1) (by omega) hm2).mono ?_
  rintro e w2 ⟨v2, rfl, o2, d2⟩
  rw [show l.length - m = 0 by omega] at o2
  obtain ⟨A2, c2, e2, i2⟩ := IntsAt.of_own o2
  rw [e2, show (grams l (1 + m) 0).length = 0 from rfl]
  clear e2 i2 o2
  go_wp2_with fail
  refine wp_loop_rounds 1 ?_
  rw [rounds_succ]
  go_wp2_with fail
  go_ret
  exact ⟨rfl, d1.trans d2⟩

theorem rollingRolls_walk (v0 v1 : Value) (a0 : List (ByteArray × Int)) (a1 : Int) {w : World} (r0 : (sliceR lexR).val w a0 v0) (r1 : (intR .u8).val w a1 v1) :
    Calls Try.prog 11 #[v0, v1] w (Al (.bool true) w) := by
  obtain ⟨A, c, rfl, hA⟩ := val_slice r0
  obtain ⟨rfl, h1⟩ := val_int r1
  have h1 := wf_u8 h1
  obtain ⟨m, hm⟩ := Int.eq_ofNat_of_zero_le (show 0 ≤ a1 % 12 by omega)
  by_cases hf : fewB a0 = true
  · by_cases hml : m < a0.length
    · obtain ⟨b, off, rfl, _⟩ := hA.2.2 (by rintro rfl; simp at hml)
      exact rolls_ne a0 b off c m a1 w hA hf h1 hm (by omega) hml
    · exact rolls_few a0 A c m a1 w hA hf h1 hm (by omega) (by omega)
  · have hf' : fewB a0 = false := by simpa using hf
    go_enter Try.func11, Try.ntmps11
    go_wp2_with (first | (go_at_call 20; refine (awake24 _).mono ?_; rintro e w1 ⟨rfl, d1⟩) | (go_at_call 27; refine (Few_is a0 _ _ false _ (hA.ext d1) hf').mono ?_; rintro e w' ⟨rfl, rfl⟩))
    go_ret
    exact ⟨rfl, d1⟩

end Go.Proofs.Ytmibpagajenndaa
