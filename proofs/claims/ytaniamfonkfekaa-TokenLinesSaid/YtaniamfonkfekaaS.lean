/- Contract of the reference's Tokens; the walk of TokenLines. -/
import Derived.Test.YtaniamfonkfekaaR
namespace Go.Proofs.Ytaniamfonkfekaa
open Go.RowKit Go.Lib

theorem refNext_v (s : ByteArray) (v : Value) (w : World) (h0 : 0 < s.size) (hs : s.size ≤ 9223372036854775807) (h : nextV s = v) : Calls Try.prog 23 #[.string s] w (Al v w) := h ▸ refNext_any s w h0 hs

set_option maxRecDepth 4000 in
set_option maxHeartbeats 1000000 in
theorem refTokens_any (s : ByteArray) (w : World) (hs : s.size ≤ 65536) : Calls Try.prog 11 #[.string s] w (RetToks w (K.tk s.data.toList [])) := by
  obtain ⟨R, hR⟩ : ∃ R, R = K.tk s.data.toList [] := ⟨_, rfl⟩
  rw [← hR]
  obtain ⟨i0, hi, hz0, hz1, hz2⟩ := info_parts tok_info
  have HR := Lib.hid hR
  clear hR
  go_enter Try.func11, Try.ntmps11
  go_wp2_with fail
  go_loopw [4, 5] (fun v i wr => ∃ (k : Nat) (acc : List Tk) (A : Option Addr) (n c : Nat), k ≤ s.size ∧ n ≤ 256 ∧ Hid (n = acc.length) ∧ i = .int .i64 k ∧ v = .slice A n c ∧ OwnAt wr w.heap.size 38 2 v n (toks acc) ∧ Hid (K.tk (s.data.toList.drop k) acc = R) ∧ Ext w wr) (fun _ i _ => s.size - (intOf i).toNat)
  case atStart => exact ⟨0, [], none, 0, 0, Nat.zero_le _, by omega, rfl, rfl, rfl, own_toks_nil _ _, HR.out.symm, Ext.refl _⟩
  case round =>
    obtain ⟨k, acc, A, n, c, hk, hn, HN, rfl, rfl, hown, HT, hd⟩ := hrel
    by_cases hks : k < s.size
    · have hb0 : s[k].toNat ≤ 255 := by have := s[k].toNat_lt; omega
      have p3 : s.data.toList.drop k = s[k] :: s.data.toList.drop (k + 1) := by
        rw [List.drop_eq_getElem_cons (by rw [size_list]; exact hks)]
        rfl
      by_cases hbl : s[k] = 32
      · have e1 : ((s[k].toNat : Int) == 32) = true := by rw [hbl]; rfl
        have HT2 : Hid (K.tk (s.data.toList.drop (k + 1)) acc = R) := by
          have := HT.out
          rw [p3, hbl, K.tk_blank] at this
          exact this
        clear p3 hbl
        go_wp2_with fail
        go_roundw
        case rel => exact ⟨k + 1, acc, A, n, c, by omega, hn, HN, by go_num, rfl, hown, HT2, hd⟩
        case measure => simp [intOf]; omega
      · have e1 : ((s[k].toNat : Int) == 32) = false := by
          have : s[k].toNat ≠ 32 := fun h => hbl (UInt8.toNat.inj h)
          simp; omega
        by_cases hf : n = 256
        · have HT2 : Hid (([], 10) = R) := by
            have := HT.out
            rw [p3, K.tk_full _ _ _ hbl (by rw [← HN.out]; exact hf)] at this
            exact this
          have e2 : ((n : Int) == 256) = true := by simp; omega
          clear p3 hbl hf
          go_wp2_with fail
          go_ret2
          exact ⟨_, by rw [← HT2.out]; rfl, by rw [← HT2.out]; exact own_toks_nil _ _, hd⟩
        · have e2 : ((n : Int) == 256) = false := by simp; omega
          have hn2 : n < 256 := by omega
          obtain ⟨x, hx⟩ : ∃ x, x = s.extract k s.size := ⟨_, rfl⟩
          have hxl : x.data.toList = s.data.toList.drop k := by rw [hx, Lib.extract_data, List.take_of_length_le (by simp)]
          have hxs : x.size = s.size - k := by rw [← size_list, hxl, List.length_drop, size_list]
          obtain ⟨kd, m, er, hnx⟩ : ∃ k m er, K.nxt x.data.toList = (k, m, er) := ⟨_, _, _, rfl⟩
          have hv := nextV_of hnx
          rw [hxl] at hnx
          by_cases he : er = 0
          · subst he
            have hml := K.nxt_len (s.data.toList.drop k) (by rw [hnx])
            rw [hnx, List.length_drop, size_list] at hml
            have htx : x.extract 0 m = str ((s.data.toList.drop k).take m) := by rw [ext_str, hxl]
            have HT2 : Hid (K.tk (s.data.toList.drop (k + m)) (acc ++ [(kd, x.extract 0 m)]) = R) := by
              have := HT.out
              rw [p3, K.tk_step _ _ _ hbl (by rw [← HN.out]; exact hf) (by rw [← p3, hnx]), ← p3, hnx, ← htx, List.drop_drop] at this
              exact this
            obtain ⟨hm1, hm2⟩ : 0 < m ∧ m ≤ s.size - k := hml
            have hes : (x.extract 0 m).size = m := by rw [ByteArray.size_extract]; omega
            rw [hx] at hv HT2 hes
            have HV := Lib.hid hv
            obtain ⟨t, ht⟩ : ∃ t, t = (s.extract k s.size).extract 0 m := ⟨_, rfl⟩
            rw [← ht] at HV HT2 hes
            clear p3 hbl hf hnx ht hv htx hxl hxs hx
            go_wp2_with fail
            refine (refNext_v _ _ _ (by rw [ByteArray.size_extract]; omega) (by rw [ByteArray.size_extract]; omega) HV.out).mono ?_
            rintro e w1 ⟨rfl, d1⟩
            have hown1 := hown.ext d1
            go_wp2_with (at_builtin; refine wpList_append_ownAt _ rfl (.tmp 34) (.tmp 36) 23 rfl w.heap.size 38 i0 (.agg #[.int .i64 0, .string ⟨#[]⟩]) 2 24 Try.underlying23 hi hz0 hz1 hz2 rfl (by decide) _ _ _ rfl ((hown1.alloc _).alloc _) ⟨w1.heap.size + 1, 0, none⟩ 1 1 (toks [(kd, t)]) rfl rfl (cells_new_tok2 w1 _ [(kd, t)]) (toks_one _) (by unfold maxLen; omega) (by omega) (by have := hd.size; have := d1.size; simp; omega) (by decide) ?_; intro v2 w2 hown2 hg2 _ _; have hc1 := grown_keepc hg2 (alloc_keepc _ (cell_new w1 #[.int .i64 kd, .string t] 38 1)) (fun e => absurd (own_lt hown1 e) (Nat.lt_irrefl _)))
            go_roundw
            case rel =>
              obtain ⟨A2, c2, rfl⟩ := own_form hown2
              exact ⟨k + m, acc ++ [(kd, t)], A2, n + 1, c2, by omega, by omega, by unfold Hid; rw [List.length_append]; have := HN.out; simp; omega, by first | rfl | go_num | (rw [hes]; go_num), rfl, by rw [toks_append]; exact hown2, HT2, ((((hd.trans d1).alloc _).alloc _).grown (hown1) hg2)⟩
            case measure => simp [intOf]; omega
          · have HT2 : Hid (([], er) = R) := by
              have := HT.out
              rw [p3, K.tk_err _ _ _ hbl (by rw [← HN.out]; exact hf) (by rw [← p3, hnx]; exact he), ← p3, hnx] at this
              exact this
            have t1 : (er != 0) = true := by simpa using he
            rw [hx] at hv
            have HV := Lib.hid hv
            clear p3 hbl hf hnx he hv hxl hxs hx
            go_wp2_with fail
            refine (refNext_v _ _ _ (by rw [ByteArray.size_extract]; omega) (by rw [ByteArray.size_extract]; omega) HV.out).mono ?_
            rintro e w1 ⟨rfl, d1⟩
            go_wp2_with fail
            go_ret2
            exact ⟨_, by rw [← HT2.out]; rfl, by rw [← HT2.out]; exact own_toks_nil _ _, (hd.trans d1).alloc _⟩
    · have he : s.data.toList.drop k = [] := List.drop_eq_nil_of_le (by rw [size_list]; omega)
      have HT2 : Hid ((acc, 0) = R) := by have := HT.out; rw [he, K.tk_nil] at this; exact this
      clear he
      go_wp2_with fail
      go_ret2
      exact ⟨_, by rw [← HT2.out]; rfl, by rw [← HT2.out]; unfold OwnToks; rw [← HN.out]; exact hown, hd⟩

set_option maxRecDepth 4000 in
set_option maxHeartbeats 1000000 in
theorem tokenLines_walk (v0 : Value) (a0 : ByteArray) {w : World} (r0 : strR.val w a0 v0) : Calls Try.prog 3 #[v0] w (Al (.bool true) w) := by
  obtain ⟨rfl, hs⟩ := val_str r0
  clear r0
  by_cases h0 : 2000 < a0.size
  · go_enter Try.func3, Try.ntmps3
    go_wp2_with (go_at_call 9; refine (awake05 _).mono ?_; rintro e w1 ⟨rfl, d1⟩)
    go_ret
    exact ⟨rfl, d1⟩
  · obtain ⟨x, e0, hx⟩ : ∃ x e, K.tk a0.data.toList [] = (x, e) := ⟨_, _, rfl⟩
    have hxs := K.tk_sizes a0.data.toList [] 9223372036854775807 (by rw [size_list]; omega) (by simp)
    rw [hx] at hxs
    have HX := Lib.hid hx
    have HXS := Lib.hid hxs
    clear hx hxs
    go_enter Try.func3, Try.ntmps3
    go_wp2_with (go_at_call 9; refine (awake05 _).mono ?_; rintro e w1 ⟨rfl, d1⟩)
    refine (Tokens_r a0 _ _ HX.out (by omega)).mono ?_
    rintro e w2 ⟨v2, rfl, o2, d2⟩
    go_wp2_with fail
    refine (refTokens_any a0 _ (by omega)).mono ?_
    rw [HX.out]
    rintro e w3 ⟨v3, rfl, o3, d3⟩
    obtain ⟨A2, c2, rfl, i2⟩ := ToksAt.of_own (o2.ext d3) HXS.out
    obtain ⟨A3, c3, rfl, i3⟩ := ToksAt.of_own o3 HXS.out
    have HI2 := Lib.hid i2
    have HI3 := Lib.hid i3
    clear i2 i3 o2 o3
    go_wp2_with fail
    refine (Same_any x x _ _ _ _ _ _ _ HI2.out HI3.out).mono ?_
    rw [show K.same x x = true by simp [K.same]]
    rintro e w4 ⟨rfl, d4⟩
    go_wp2_with fail
    go_ret
    exact ⟨by simp, ((d1.trans d2).trans d3).dr d4⟩
end Go.Proofs.Ytaniamfonkfekaa
