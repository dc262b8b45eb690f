/- Contract of token's next. -/
import Derived.Test.YtaniamfonkfekaaDoorB
namespace Go.Proofs.YtaniamfonkfekaaDoor
open Go.RowKit Go.Lib

def tokV (k : Int) (t : ByteArray) : Value := .agg #[.int .i64 k, .string t]
def nextV (s : ByteArray) : Value := .tuple #[tokV (K.nxt s.data.toList).1 (s.extract 0 (K.nxt s.data.toList).2.1), .int .i64 (K.nxt s.data.toList).2.2]
theorem nextV_of {s : ByteArray} {k : Int} {n : Nat} {e : Int} (h : K.nxt s.data.toList = (k, n, e)) : nextV s = .tuple #[.agg #[.int .i64 k, .string (s.extract 0 n)], .int .i64 e] := by
  unfold nextV tokV
  rw [h]
theorem extract_none (s : ByteArray) : s.extract 0 0 = ⟨#[]⟩ := by rw [ByteArray.extract_same]; rfl
theorem nextV_err {s : ByteArray} {e : Int} (h : K.nxt s.data.toList = (0, 0, e)) : nextV s = .tuple #[.agg #[.int .i64 0, .string ⟨#[]⟩], .int .i64 e] := by
  rw [nextV_of h, extract_none]

theorem Number_x (s : ByteArray) (n : Nat) (w : World) (hs : s.size ≤ 9223372036854775807) :
    Calls Tryd.prog 9 #[.string (s.extract 0 n)] w (Al (.tuple #[.int .u32 ((K.number (s.data.toList.take n)).1 : Nat), .int .i64 (K.number (s.data.toList.take n)).2]) w) := by
  have h := Number_any (s.extract 0 n) w (by have := ByteArray.size_extract (a := s) (b := 0) (e := n); omega)
  have e : (s.extract 0 n).data.toList = s.data.toList.take n := by rw [Lib.extract_data]; simp
  rwa [e] at h
theorem letter_is (n : Int) (b : Bool) (w : World) (h : K.letterN n = b) : Calls Tryd.prog 19 #[.int .i32 n] w fun e w' => e = .returned (.bool b) ∧ w = w' := h ▸ letter_any n w
theorem digit_is (n : Int) (b : Bool) (w : World) (h : K.digitN n = b) : Calls Tryd.prog 20 #[.int .i32 n] w fun e w' => e = .returned (.bool b) ∧ w = w' := h ▸ digit_any n w

theorem box2 {w w1 : World} {a b : Value} {T : TypeId} (h : Ext (w.alloc (.cells #[a, b] T)) w1) :
    w1.cell? ⟨w.heap.size, 0, none⟩ = some a ∧ w1.cell? ⟨w.heap.size, 1, none⟩ = some b ∧ w1.frozen? ⟨w.heap.size, 0, none⟩ = false ∧ w1.frozen? ⟨w.heap.size, 1, none⟩ = false ∧ w.heap.size < w1.heap.size := by
  have hs : w.heap.size < (w.alloc (.cells #[a, b] T)).heap.size := by simp
  refine ⟨?_, ?_, ?_, ?_, Nat.lt_of_lt_of_le hs h.size⟩
  · rw [h.cell hs]; exact cell_new _ _ _ 0
  · rw [h.cell hs]; exact cell_new _ _ _ 1
  · rw [Below.frozen h hs]; simp
  · rw [Below.frozen h hs]; simp
theorem box2_ext {w w1 : World} {a b : Value} {T : TypeId} (h : Ext (w.alloc (.cells #[a, b] T)) w1) : Ext w w1 := ((Ext.refl w).alloc _).trans h

theorem nxt_eq (s : ByteArray) (h0 : 0 < s.size) : K.nxt s.data.toList =
    if K.letterN s[0].toNat = true then (if 32 < K.run true s.data.toList then (0, 0, 2) else (1, K.run true s.data.toList, 0))
    else if K.digitN s[0].toNat = true then
      (if (K.number (s.data.toList.take (K.run false s.data.toList))).2 ≠ 0 then (0, 0, (K.number (s.data.toList.take (K.run false s.data.toList))).2)
       else if ((s.data.toList.drop (K.run false s.data.toList)).head?.map K.letter).getD false = true then (0, 0, 4) else (2, K.run false s.data.toList, 0))
    else if K.sym s.data.toList = 0 then (0, 0, 4) else (3, K.sym s.data.toList, 0) := by
  obtain ⟨p1, p2, p3⟩ := str_pos s h0
  generalize hl : s.data.toList = l at *
  rw [p3]
  rfl

set_option maxRecDepth 4000 in
set_option maxHeartbeats 1000000 in
theorem next_any (s : ByteArray) (w : World) (h0 : 0 < s.size) (hs : s.size ≤ 9223372036854775807) : Calls Tryd.prog 12 #[.string s] w (Al (nextV s) w) := by
  have hx := nxt_eq s h0
  have hl : s.data.toList.length = s.size := by simp
  have hb0 : s[0].toNat ≤ 255 := by have := s[0].toNat_lt; omega
  by_cases hlt : K.letterN s[0].toNat = true
  · rw [if_pos hlt] at hx
    obtain ⟨n, hn⟩ : ∃ n, n = K.run true s.data.toList := ⟨_, rfl⟩
    have hns : n ≤ s.size := by have := K.run_le true s.data.toList; omega
    rw [← hn] at hx
    have HL := Lib.hid hlt
    have HN := Lib.hid hn
    clear hlt hn hl
    by_cases h32 : 32 < n
    · rw [if_pos h32] at hx
      have HV := Lib.hid (nextV_err hx)
      clear hx
      go_enter Tryd.func12, Tryd.ntmps12
      go_wp2_with (first | (go_at_call 19; refine (letter_is _ _ _ HL.out).mono ?_; rintro e w' ⟨rfl, rfl⟩) | (go_at_call 16; refine (run_any _ _ _).mono ?_; rw [← HN.out]; rintro e w1 ⟨rfl, d1⟩; obtain ⟨c0, c1, f0, f1, hsz⟩ := box2 d1))
      exact bodyPost_ret (v := .tuple #[.agg #[.int .i64 0, .string ⟨#[]⟩], .int .i64 2]) (by simp [results, Tryd.results12, go_sem, c0, c1]) rfl ⟨by rw [HV.out], ((box2_ext d1).setCell (Nat.le_refl _) _).setCell (Nat.le_refl _) _⟩
    · rw [if_neg h32] at hx
      have HV := Lib.hid (nextV_of hx)
      clear hx
      go_enter Tryd.func12, Tryd.ntmps12
      go_wp2_with (first | (go_at_call 19; refine (letter_is _ _ _ HL.out).mono ?_; rintro e w' ⟨rfl, rfl⟩) | (go_at_call 16; refine (run_any _ _ _).mono ?_; rw [← HN.out]; rintro e w1 ⟨rfl, d1⟩; obtain ⟨c0, c1, f0, f1, hsz⟩ := box2 d1))
      exact bodyPost_ret (v := .tuple #[.agg #[.int .i64 1, .string (s.extract 0 n)], .int .i64 0]) (by simp [results, Tryd.results12, go_sem, c0, c1]) rfl ⟨by rw [HV.out], ((box2_ext d1).setCell (Nat.le_refl _) _).setCell (Nat.le_refl _) _⟩
  · have hltf : K.letterN s[0].toNat = false := by simpa using hlt
    rw [if_neg hlt] at hx
    by_cases hdg : K.digitN s[0].toNat = true
    · rw [if_pos hdg] at hx
      obtain ⟨n, hn⟩ : ∃ n, n = K.run false s.data.toList := ⟨_, rfl⟩
      have hns : n ≤ s.size := by have := K.run_le false s.data.toList; omega
      rw [← hn] at hx
      obtain ⟨v, e0, hve⟩ : ∃ v e0, K.number (s.data.toList.take n) = (v, e0) := ⟨_, _, rfl⟩
      rw [hve] at hx
      have HL := Lib.hid hltf
      have HD := Lib.hid hdg
      have HN := Lib.hid hn
      have HVE := Lib.hid hve
      have hgd : Hid (((s.data.toList.drop n).head?.map K.letter).getD false = if h : n < s.size then K.letterN s[n].toNat else false) := by
        unfold Hid
        split
        · rename_i h
          rw [List.drop_eq_getElem_cons (by omega)]
          rfl
        · rw [List.drop_eq_nil_of_le (by omega)]
          rfl
      clear hlt hltf hdg hn hve
      by_cases he : e0 = 0
      · subst he
        rw [if_neg (by simp)] at hx
        by_cases hlt : n < s.size
        · have hbn : s[n].toNat ≤ 255 := by have := s[n].toNat_lt; omega
          rw [hgd.out, dif_pos hlt] at hx
          by_cases hl2 : K.letterN s[n].toNat = true
          · rw [if_pos hl2] at hx
            have HV := Lib.hid (nextV_err hx)
            have HL2 := Lib.hid hl2
            clear hx hl2 hl
            go_enter Tryd.func12, Tryd.ntmps12
            go_wp2_with fail
            refine (letter_is _ _ _ HL.out).mono ?_
            rintro e w' ⟨rfl, rfl⟩
            go_wp2_with (first | (go_at_call 20; refine (digit_is _ _ _ HD.out).mono ?_; rintro e w' ⟨rfl, rfl⟩) | (go_at_call 16; refine (run_any _ _ _).mono ?_; rw [← HN.out]; rintro e w1 ⟨rfl, d1⟩))
            refine (Number_x _ _ _ hs).mono ?_
            rw [HVE.out]
            rintro e w2 ⟨rfl, d2⟩
            have d3 := Ext.trans d1 d2
            obtain ⟨c0, c1, f0, f1, hsz⟩ := box2 d3
            go_wp2_with fail
            refine (letter_is _ _ _ HL2.out).mono ?_
            rintro e w' ⟨rfl, rfl⟩
            go_wp2_with fail
            exact bodyPost_ret (v := .tuple #[.agg #[.int .i64 0, .string ⟨#[]⟩], .int .i64 4]) (by simp [results, Tryd.results12, go_sem, c0, c1]) rfl ⟨by rw [HV.out], ((box2_ext d3).setCell (Nat.le_refl _) _).setCell (Nat.le_refl _) _⟩
          · have hl2f : K.letterN s[n].toNat = false := by simpa using hl2
            rw [if_neg hl2] at hx
            have HV := Lib.hid (nextV_of hx)
            have HL2 := Lib.hid hl2f
            clear hx hl2 hl2f hl
            go_enter Tryd.func12, Tryd.ntmps12
            go_wp2_with fail
            refine (letter_is _ _ _ HL.out).mono ?_
            rintro e w' ⟨rfl, rfl⟩
            go_wp2_with (first | (go_at_call 20; refine (digit_is _ _ _ HD.out).mono ?_; rintro e w' ⟨rfl, rfl⟩) | (go_at_call 16; refine (run_any _ _ _).mono ?_; rw [← HN.out]; rintro e w1 ⟨rfl, d1⟩))
            refine (Number_x _ _ _ hs).mono ?_
            rw [HVE.out]
            rintro e w2 ⟨rfl, d2⟩
            have d3 := Ext.trans d1 d2
            obtain ⟨c0, c1, f0, f1, hsz⟩ := box2 d3
            go_wp2_with fail
            refine (letter_is _ _ _ HL2.out).mono ?_
            rintro e w' ⟨rfl, rfl⟩
            go_wp2_with fail
            exact bodyPost_ret (v := .tuple #[.agg #[.int .i64 2, .string (s.extract 0 n)], .int .i64 0]) (by simp [results, Tryd.results12, go_sem, c0, c1]) rfl ⟨by rw [HV.out], ((box2_ext d3).setCell (Nat.le_refl _) _).setCell (Nat.le_refl _) _⟩
        · rw [hgd.out, dif_neg hlt, if_neg (by simp)] at hx
          have HV := Lib.hid (nextV_of hx)
          clear hx hl
          go_enter Tryd.func12, Tryd.ntmps12
          go_wp2_with fail
          refine (letter_is _ _ _ HL.out).mono ?_
          rintro e w' ⟨rfl, rfl⟩
          go_wp2_with (first | (go_at_call 20; refine (digit_is _ _ _ HD.out).mono ?_; rintro e w' ⟨rfl, rfl⟩) | (go_at_call 16; refine (run_any _ _ _).mono ?_; rw [← HN.out]; rintro e w1 ⟨rfl, d1⟩))
          refine (Number_x _ _ _ hs).mono ?_
          rw [HVE.out]
          rintro e w2 ⟨rfl, d2⟩
          have d3 := Ext.trans d1 d2
          obtain ⟨c0, c1, f0, f1, hsz⟩ := box2 d3
          go_wp2_with fail
          exact bodyPost_ret (v := .tuple #[.agg #[.int .i64 2, .string (s.extract 0 n)], .int .i64 0]) (by simp [results, Tryd.results12, go_sem, c0, c1]) rfl ⟨by rw [HV.out], ((box2_ext d3).setCell (Nat.le_refl _) _).setCell (Nat.le_refl _) _⟩
      · rw [if_pos he] at hx
        have HV := Lib.hid (nextV_err hx)
        have t1 : (e0 != 0) = true := by simpa using he
        clear hx hl he
        go_enter Tryd.func12, Tryd.ntmps12
        go_wp2_with fail
        refine (letter_is _ _ _ HL.out).mono ?_
        rintro e w' ⟨rfl, rfl⟩
        go_wp2_with (first | (go_at_call 20; refine (digit_is _ _ _ HD.out).mono ?_; rintro e w' ⟨rfl, rfl⟩) | (go_at_call 16; refine (run_any _ _ _).mono ?_; rw [← HN.out]; rintro e w1 ⟨rfl, d1⟩))
        refine (Number_x _ _ _ hs).mono ?_
        rw [HVE.out]
        rintro e w2 ⟨rfl, d2⟩
        have d3 := Ext.trans d1 d2
        obtain ⟨c0, c1, f0, f1, hsz⟩ := box2 d3
        go_wp2_with fail
        exact bodyPost_ret (v := .tuple #[.agg #[.int .i64 0, .string ⟨#[]⟩], .int .i64 e0]) (by simp [results, Tryd.results12, go_sem, c0, c1]) rfl ⟨by rw [HV.out], ((box2_ext d3).setCell (Nat.le_refl _) _).setCell (Nat.le_refl _) _⟩
    · have hdgf : K.digitN s[0].toNat = false := by simpa using hdg
      rw [if_neg hdg] at hx
      obtain ⟨m, hm⟩ : ∃ m, m = K.sym s.data.toList := ⟨_, rfl⟩
      rw [← hm] at hx
      have HL := Lib.hid hltf
      have HD := Lib.hid hdgf
      have HM := Lib.hid hm
      have hll : (s.extract 0 m).toList = s.data.toList.take m := by rw [ByteArray.toList_eq, Lib.extract_data]; simp
      clear hlt hltf hdg hdgf hm
      by_cases h0m : m = 0
      · rw [if_pos h0m] at hx
        have HV := Lib.hid (nextV_err hx)
        have t1 : (s.extract 0 m).toList.isEmpty = true := by rw [hll, h0m]; simp
        have t2 : (s.extract 0 m).toList = [] := by rw [hll, h0m]; simp
        clear hx hl hll h0m
        go_enter Tryd.func12, Tryd.ntmps12
        go_wp2_with (first | (go_at_call 19; refine (letter_is _ _ _ HL.out).mono ?_; rintro e w' ⟨rfl, rfl⟩) | (go_at_call 20; refine (digit_is _ _ _ HD.out).mono ?_; rintro e w' ⟨rfl, rfl⟩) | (go_at_call 21; refine (symbol_any _ _ h0).mono ?_; rw [← HM.out]; rintro e w' ⟨rfl, rfl⟩))
        exact bodyPost_ret (v := .tuple #[.agg #[.int .i64 0, .string ⟨#[]⟩], .int .i64 4]) (by simp [results, Tryd.results12, go_sem]) rfl ⟨by rw [HV.out], (Ext.refl _).alloc _⟩
      · rw [if_neg h0m] at hx
        have HV := Lib.hid (nextV_of hx)
        have t1 : (s.extract 0 m).toList.isEmpty = false := by
          rw [hll]
          cases hc : s.data.toList with
          | nil => rw [hc] at hl; simp at hl; omega
          | cons a l =>
            cases m with
            | zero => exact absurd rfl h0m
            | succ m => rfl
        have t2 : ¬ (s.extract 0 m).toList = [] := by intro h; rw [h] at t1; cases t1
        clear hx hl hll h0m
        go_enter Tryd.func12, Tryd.ntmps12
        go_wp2_with (first | (go_at_call 19; refine (letter_is _ _ _ HL.out).mono ?_; rintro e w' ⟨rfl, rfl⟩) | (go_at_call 20; refine (digit_is _ _ _ HD.out).mono ?_; rintro e w' ⟨rfl, rfl⟩) | (go_at_call 21; refine (symbol_any _ _ h0).mono ?_; rw [← HM.out]; rintro e w' ⟨rfl, rfl⟩))
        exact bodyPost_ret (v := .tuple #[.agg #[.int .i64 3, .string (s.extract 0 m)], .int .i64 0]) (by simp [results, Tryd.results12, go_sem]) rfl ⟨by rw [HV.out], (Ext.refl _).alloc _⟩
end Go.Proofs.YtaniamfonkfekaaDoor
