/- Contracts of token's letter, digit, run, symbol. -/
import Derived.Test.YtaniamfonkfekaaDoorLex
import Derived.Test.YtaniamfonkfekaaDoorP
import Derived.Test.YtaniamfonkfekaaDoorShelf
namespace Go.Proofs.YtaniamfonkfekaaDoor
open Go.RowKit Go.Lib

theorem letter_any (n : Int) (w : World) : Calls Tryd.prog 19 #[.int .i32 n] w fun e w' => e = .returned (.bool (K.letterN n)) ∧ w = w' := by
  have hv : Hid (K.letterN n = (decide (97 ≤ n ∧ n ≤ 122) || decide (n = 95))) := rfl
  go_enter Tryd.func19, Tryd.ntmps19
  go_wp2
  all_goals
    go_ret
    exact ⟨ret_bool (by rw [hv.out, Bool.eq_iff_iff]; simp; try omega), rfl⟩
theorem digit_any (n : Int) (w : World) : Calls Tryd.prog 20 #[.int .i32 n] w fun e w' => e = .returned (.bool (K.digitN n)) ∧ w = w' := by
  have hv : Hid (K.digitN n = decide (48 ≤ n ∧ n ≤ 57)) := rfl
  go_enter Tryd.func20, Tryd.ntmps20
  go_wp2
  all_goals
    go_ret
    exact ⟨ret_bool (by rw [hv.out, Bool.eq_iff_iff]; simp; try omega), rfl⟩

theorem indexByte_pos (l : List UInt8) (c : UInt8) : 0 ≤ Lib.indexByte l c ↔ l.contains c = true := by
  induction l with
  | nil => simp [Lib.indexByte]
  | cons b l ih =>
    have hge := Lib.indexByte_ge l c
    unfold Lib.indexByte
    rw [List.contains_cons]
    by_cases hbc : b = c
    · subst hbc; simp
    · have h1 : (b == c) = false := by simpa using hbc
      have h2 : (c == b) = false := by simpa using fun h => hbc h.symm
      rw [h1, h2, if_neg (by simp), Bool.false_or, ← ih]
      by_cases h3 : Lib.indexByte l c = -1
      · simp [h3]
      · have h4 : (Lib.indexByte l c == -1) = false := by simpa using h3
        rw [h4, if_neg (by simp)]
        constructor <;> intro h <;> omega
theorem index_yes (c : UInt8) (w : World) (h : K.isChar c = true) : Calls Tryd.prog 29 #[.string ⟨#[124, 94, 38, 60, 62, 43, 45, 42, 47, 37, 126, 33, 40, 41, 44, 61]⟩, .int .u8 (c.toNat : Int)] w fun e w' => (∃ z : Int, e = .returned (.int .i64 z) ∧ 0 ≤ z) ∧ w = w' :=
  (Tryd.strings_IndexByte ⟨#[124, 94, 38, 60, 62, 43, 45, 42, 47, 37, 126, 33, 40, 41, 44, 61]⟩ (c.toNat : Int) w).mono fun e w' ⟨he, hw⟩ => ⟨⟨_, he, by
    rw [indexByte_pos, Int.toNat_natCast, Nat.toUInt8_eq, UInt8.ofNat_toNat]
    exact h⟩, hw.symm⟩
theorem index_no (c : UInt8) (w : World) (h : K.isChar c = false) : Calls Tryd.prog 29 #[.string ⟨#[124, 94, 38, 60, 62, 43, 45, 42, 47, 37, 126, 33, 40, 41, 44, 61]⟩, .int .u8 (c.toNat : Int)] w fun e w' => (∃ z : Int, e = .returned (.int .i64 z) ∧ z < 0) ∧ w = w' :=
  (Tryd.strings_IndexByte ⟨#[124, 94, 38, 60, 62, 43, 45, 42, 47, 37, 126, 33, 40, 41, 44, 61]⟩ (c.toNat : Int) w).mono fun e w' ⟨he, hw⟩ => ⟨⟨_, he, by
    rcases Int.lt_or_le (Lib.indexByte [124, 94, 38, 60, 62, 43, 45, 42, 47, 37, 126, 33, 40, 41, 44, 61] c) 0 with h1 | h1
    · simpa using h1
    · rw [indexByte_pos] at h1
      have : K.isChar c = true := h1
      rw [h] at this
      cases this⟩, hw.symm⟩

theorem str_pos (s : ByteArray) (h : 0 < s.size) : ¬ s.toList = [] ∧ s.toList.isEmpty = false ∧ s.data.toList = s[0] :: s.data.toList.drop 1 := by
  have hl : s.data.toList.length = s.size := by simp
  refine ⟨fun e => ?_, ?_, ?_⟩
  · rw [ByteArray.toList_eq] at e; rw [e] at hl; simp at hl; omega
  · rw [ByteArray.toList_eq]
    cases he : s.data.toList with
    | nil => rw [he] at hl; simp at hl; omega
    | cons a l => rfl
  · have := List.drop_eq_getElem_cons (l := s.data.toList) (i := 0) (by omega)
    rw [List.drop_zero] at this
    exact this

set_option maxHeartbeats 1000000 in
theorem symbol_any (s : ByteArray) (w : World) (h0 : 0 < s.size) : Calls Tryd.prog 21 #[.string s] w fun e w' => e = .returned (.string (s.extract 0 (K.sym s.data.toList))) ∧ w = w' := by
  obtain ⟨p1, p2, p3⟩ := str_pos s h0
  have hl : s.data.toList.length = s.size := by simp
  have hx : (s.extract 0 2).toList = s.data.toList.take 2 := by rw [ByteArray.toList_eq, Lib.extract_data]; rfl
  have hs : K.sym s.data.toList = if K.syms2.contains (s.data.toList.take 2) then 2 else if K.isChar s[0] then 1 else 0 := by
    rw [p3]; rfl
  by_cases h2 : K.syms2.contains (s.data.toList.take 2) = true
  · rw [if_pos h2] at hs
    have hm : s.data.toList.take 2 ∈ K.syms2 := by simpa using h2
    have hlen : 1 < s.size := by
      have : (s.data.toList.take 2).length = 2 := by
        simp only [K.syms2, List.mem_cons, List.not_mem_nil, or_false] at hm
        rcases hm with h | h | h | h | h | h | h | h <;> rw [h] <;> rfl
      rw [List.length_take] at this
      omega
    rw [hs]
    clear hs h2 hl p3
    simp only [K.syms2, List.mem_cons, List.not_mem_nil, or_false] at hm
    rcases hm with h | h | h | h | h | h | h | h
    all_goals
      rw [h] at hx
      clear h
      go_enter Tryd.func21, Tryd.ntmps21
      go_wp2
      go_ret
      exact ⟨rfl, rfl⟩
  · have h2' : K.syms2.contains (s.data.toList.take 2) = false := by simpa using h2
    rw [if_neg h2] at hs
    have hne : ∀ c ∈ K.syms2, ((s.extract 0 2).toList == c) = false := fun c hc => by
      rw [hx, beq_eq_false_iff_ne]
      rintro rfl
      rw [List.contains_eq_mem, decide_eq_false_iff_not] at h2'
      exact h2' hc
    have n1 := hne [124, 124] (by decide)
    have n2 := hne [38, 38] (by decide)
    have n3 := hne [61, 61] (by decide)
    have n4 := hne [33, 61] (by decide)
    have n5 := hne [60, 61] (by decide)
    have n6 := hne [62, 61] (by decide)
    have n7 := hne [60, 60] (by decide)
    have n8 := hne [62, 62] (by decide)
    have HS := Lib.hid hs
    clear hne hx hl h2 h2' p3 hs
    by_cases hc : K.isChar s[0] = true
    · have hs2 : Hid (K.sym s.data.toList = 1) := by rw [if_pos hc] at HS; exact HS
      have HC := Lib.hid hc
      clear hc HS
      by_cases h1 : 1 < s.size
      all_goals
        go_enter Tryd.func21, Tryd.ntmps21
        go_wp2_with (go_at_call 29; refine (index_yes _ _ HC.out).mono ?_; rintro e w' ⟨⟨z, rfl, hz⟩, rfl⟩)
        go_ret
        exact ⟨by rw [hs2.out]; rfl, rfl⟩
    · have hs2 : Hid (K.sym s.data.toList = 0) := by rw [if_neg hc] at HS; exact HS
      have HC := Lib.hid (show K.isChar s[0] = false by simpa using hc)
      clear hc HS
      by_cases h1 : 1 < s.size
      all_goals
        go_enter Tryd.func21, Tryd.ntmps21
        go_wp2_with (go_at_call 29; refine (index_no _ _ HC.out).mono ?_; rintro e w' ⟨⟨z, rfl, hz⟩, rfl⟩)
        go_ret
        exact ⟨by rw [hs2.out, ByteArray.extract_same]; rfl, rfl⟩

theorem run1_pred (b : Bool) (B : Nat) (w : World) (hB : B < w.heap.size) (hc : w.cell? ⟨B, 0, none⟩ = some (.bool b)) :
    PredAt Tryd.prog 27 #[.pointer (some ⟨B, 0, none⟩)] encR (fun r => !K.wordN b (r : Int)) w := by
  intro W x hb
  have hc' := (hb.cell (p := ⟨B, 0, none⟩) hB).trans hc
  have hv : Hid (K.wordN b (x : Int) = (K.digitN x || (b && K.letterN x))) := rfl
  unfold FnGives
  obtain ⟨d, hd⟩ : ∃ d, K.digitN x = d := ⟨_, rfl⟩
  obtain ⟨l, hl⟩ : ∃ l, K.letterN x = l := ⟨_, rfl⟩
  cases d <;> cases b
  all_goals
    go_enter Tryd.func27, Tryd.ntmps27
    go_wp2_with (first | (go_at_call 20; refine (digit_any _ _).mono ?_; rw [hd]; rintro e w' ⟨rfl, rfl⟩) | (go_at_call 19; refine (letter_any _ _).mono ?_; rw [hl]; rintro e w' ⟨rfl, rfl⟩))
    go_ret
    exact ⟨ret_bool (by rw [hv.out, hd]; try (rw [hl]); try simp), 0, rfl⟩

theorem run_any (s : ByteArray) (b : Bool) (w : World) : Calls Tryd.prog 16 #[.string s, .bool b] w (Al (.int .i64 (K.run b s.data.toList : Nat)) w) := by
  have hle := K.run_le b s.data.toList
  have hl : s.data.toList.length = s.size := by simp
  rw [hl] at hle
  have hi := K.idxFunc_run b (fun r => !K.wordN b (r : Int)) (fun _ => rfl) s
  have eg := enters_of Tryd.func27 (by kernel_rfl) rfl
  have hC := fun (W : World) (hB : w.heap.size < W.heap.size) (hc : W.cell? ⟨w.heap.size, 0, none⟩ = some (.bool b)) => Tryd.strings_IndexFunc 27 #[.pointer (some ⟨w.heap.size, 0, none⟩)] eg (fun r => !K.wordN b (r : Int)) s W (run1_pred b w.heap.size W hB hc)
  have HC := Lib.hid hC
  clear hC
  by_cases hr : K.run b s.data.toList = s.size
  · rw [if_pos hr] at hi
    have HI := Lib.hid hi
    have HR := Lib.hid hr
    clear hi hr hl
    go_enter Tryd.func16, Tryd.ntmps16
    go_wp2_with (go_at_call 26; refine (HC.out _ (by simp) (cell_new _ _ _ 0)).mono ?_; rw [HI.out]; rintro e w' ⟨rfl, hb⟩)
    go_ret
    exact ⟨ret_int (by rw [HR.out]), ((Ext.refl w).alloc _).trans hb⟩
  · rw [if_neg hr] at hi
    have HI := Lib.hid hi
    clear hi hl
    go_enter Tryd.func16, Tryd.ntmps16
    go_wp2_with (go_at_call 26; refine (HC.out _ (by simp) (cell_new _ _ _ 0)).mono ?_; rw [HI.out]; rintro e w' ⟨rfl, hb⟩)
    go_ret
    exact ⟨rfl, ((Ext.refl w).alloc _).trans hb⟩

end Go.Proofs.YtaniamfonkfekaaDoor
