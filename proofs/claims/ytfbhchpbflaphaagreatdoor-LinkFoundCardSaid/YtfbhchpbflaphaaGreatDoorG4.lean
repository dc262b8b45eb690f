/- The texts TkA TkB TkC TkD TkE TkF TkJ TkN Pa Pb Pc Ph Seg of the seat, joined. -/
import Derived.Test.YtfbhchpbflaphaaGreatDoorG3
import Derived.Laws.RangeString
import Derived.WalkMore
import Derived.Deep.LoopGhost
import Derived.Lib.CountLaws
import Derived.Lib.Replace
import Derived.Lib.SplitLaws
import Derived.Laws.RangeAny
import Derived.Shelf.GgClosure.StringsIndexFunc
/- Contracts of token's letter, digit, run, symbol. -/
namespace Go.Proofs.YtfbhchpbflaphaaGreatDoor
open Go.RowKit Go.Lib

theorem letter_any (n : Int) (w : World) : Calls Tryz.prog 133 #[.int .i32 n] w fun e w' => e = .returned (.bool (K.letterN n)) ∧ w = w' := by
  have hv : Hid (K.letterN n = (decide (97 ≤ n ∧ n ≤ 122) || decide (n = 95))) := rfl
  go_enter Tryz.func133, Tryz.ntmps133
  go_wp2
  all_goals
    go_ret
    exact ⟨ret_bool (by rw [hv.out, Bool.eq_iff_iff]; simp; try omega), rfl⟩
theorem digit_any (n : Int) (w : World) : Calls Tryz.prog 135 #[.int .i32 n] w fun e w' => e = .returned (.bool (K.digitN n)) ∧ w = w' := by
  have hv : Hid (K.digitN n = decide (48 ≤ n ∧ n ≤ 57)) := rfl
  go_enter Tryz.func135, Tryz.ntmps135
  go_wp2
  all_goals
    go_ret
    exact ⟨ret_bool (by rw [hv.out, Bool.eq_iff_iff]; simp; try omega), rfl⟩

theorem indexByte_pos (l : List UInt8) (c : UInt8) : 0 ≤ Lib.indexByte l c ↔ l.contains c = true := by
  induction l with
  | nil => simp [Lib.indexByte]
  | cons b l ih =>
    have hge := Lib.indexByte_ge l c
    unfold Lib.indexByte
    rw [List.contains_cons]
    by_cases hbc : b = c
    · subst hbc; simp
    · have h1 : (b == c) = false := by simpa using hbc
      have h2 : (c == b) = false := by simpa using fun h => hbc h.symm
      rw [h1, h2, if_neg (by simp), Bool.false_or, ← ih]
      by_cases h3 : Lib.indexByte l c = -1
      · simp [h3]
      · have h4 : (Lib.indexByte l c == -1) = false := by simpa using h3
        rw [h4, if_neg (by simp)]
        constructor <;> intro h <;> omega
theorem index_yes (c : UInt8) (w : World) (h : K.isChar c = true) : Calls Tryz.prog 146 #[.string ⟨#[124, 94, 38, 60, 62, 43, 45, 42, 47, 37, 126, 33, 40, 41, 44, 61]⟩, .int .u8 (c.toNat : Int)] w fun e w' => (∃ z : Int, e = .returned (.int .i64 z) ∧ 0 ≤ z) ∧ w = w' :=
  (Tryz.strings_IndexByte ⟨#[124, 94, 38, 60, 62, 43, 45, 42, 47, 37, 126, 33, 40, 41, 44, 61]⟩ (c.toNat : Int) w).mono fun e w' ⟨he, hw⟩ => ⟨⟨_, he, by
    rw [indexByte_pos, Int.toNat_natCast, Nat.toUInt8_eq, UInt8.ofNat_toNat]
    exact h⟩, hw.symm⟩
theorem index_no (c : UInt8) (w : World) (h : K.isChar c = false) : Calls Tryz.prog 146 #[.string ⟨#[124, 94, 38, 60, 62, 43, 45, 42, 47, 37, 126, 33, 40, 41, 44, 61]⟩, .int .u8 (c.toNat : Int)] w fun e w' => (∃ z : Int, e = .returned (.int .i64 z) ∧ z < 0) ∧ w = w' :=
  (Tryz.strings_IndexByte ⟨#[124, 94, 38, 60, 62, 43, 45, 42, 47, 37, 126, 33, 40, 41, 44, 61]⟩ (c.toNat : Int) w).mono fun e w' ⟨he, hw⟩ => ⟨⟨_, he, by
    rcases Int.lt_or_le (Lib.indexByte [124, 94, 38, 60, 62, 43, 45, 42, 47, 37, 126, 33, 40, 41, 44, 61] c) 0 with h1 | h1
    · simpa using h1
    · rw [indexByte_pos] at h1
      have : K.isChar c = true := h1
      rw [h] at this
      cases this⟩, hw.symm⟩

theorem str_pos (s : ByteArray) (h : 0 < s.size) : ¬ s.toList = [] ∧ s.toList.isEmpty = false ∧ s.data.toList = s[0] :: s.data.toList.drop 1 := by
  have hl : s.data.toList.length = s.size := by simp
  refine ⟨fun e => ?_, ?_, ?_⟩
  · rw [ByteArray.toList_eq] at e; rw [e] at hl; simp at hl; omega
  · rw [ByteArray.toList_eq]
    cases he : s.data.toList with
    | nil => rw [he] at hl; simp at hl; omega
    | cons a l => rfl
  · have := List.drop_eq_getElem_cons (l := s.data.toList) (i := 0) (by omega)
    rw [List.drop_zero] at this
    exact this

set_option maxHeartbeats 1000000 in
theorem symbol_any (s : ByteArray) (w : World) (h0 : 0 < s.size) : Calls Tryz.prog 137 #[.string s] w fun e w' => e = .returned (.string (s.extract 0 (K.sym s.data.toList))) ∧ w = w' := by
  obtain ⟨p1, p2, p3⟩ := str_pos s h0
  have hl : s.data.toList.length = s.size := by simp
  have hx : (s.extract 0 2).toList = s.data.toList.take 2 := by rw [ByteArray.toList_eq, Lib.extract_data]; rfl
  have hs : K.sym s.data.toList = if K.syms2.contains (s.data.toList.take 2) then 2 else if K.isChar s[0] then 1 else 0 := by
    rw [p3]; rfl
  by_cases h2 : K.syms2.contains (s.data.toList.take 2) = true
  · rw [if_pos h2] at hs
    have hm : s.data.toList.take 2 ∈ K.syms2 := by simpa using h2
    have hlen : 1 < s.size := by
      have : (s.data.toList.take 2).length = 2 := by
        simp only [K.syms2, List.mem_cons, List.not_mem_nil, or_false] at hm
        rcases hm with h | h | h | h | h | h | h | h <;> rw [h] <;> rfl
      rw [List.length_take] at this
      omega
    rw [hs]
    clear hs h2 hl p3
    simp only [K.syms2, List.mem_cons, List.not_mem_nil, or_false] at hm
    rcases hm with h | h | h | h | h | h | h | h
    all_goals
      rw [h] at hx
      clear h
      go_enter Tryz.func137, Tryz.ntmps137
      go_wp2
      go_ret
      exact ⟨rfl, rfl⟩
  · have h2' : K.syms2.contains (s.data.toList.take 2) = false := by simpa using h2
    rw [if_neg h2] at hs
    have hne : ∀ c ∈ K.syms2, ((s.extract 0 2).toList == c) = false := fun c hc => by
      rw [hx, beq_eq_false_iff_ne]
      rintro rfl
      rw [List.contains_eq_mem, decide_eq_false_iff_not] at h2'
      exact h2' hc
    have n1 := hne [124, 124] (by decide)
    have n2 := hne [38, 38] (by decide)
    have n3 := hne [61, 61] (by decide)
    have n4 := hne [33, 61] (by decide)
    have n5 := hne [60, 61] (by decide)
    have n6 := hne [62, 61] (by decide)
    have n7 := hne [60, 60] (by decide)
    have n8 := hne [62, 62] (by decide)
    have HS := Lib.hid hs
    clear hne hx hl h2 h2' p3 hs
    by_cases hc : K.isChar s[0] = true
    · have hs2 : Hid (K.sym s.data.toList = 1) := by rw [if_pos hc] at HS; exact HS
      have HC := Lib.hid hc
      clear hc HS
      by_cases h1 : 1 < s.size
      all_goals
        go_enter Tryz.func137, Tryz.ntmps137
        go_wp2_with (go_at_call 146; refine (index_yes _ _ HC.out).mono ?_; rintro e w' ⟨⟨z, rfl, hz⟩, rfl⟩)
        go_ret
        exact ⟨by rw [hs2.out]; rfl, rfl⟩
    · have hs2 : Hid (K.sym s.data.toList = 0) := by rw [if_neg hc] at HS; exact HS
      have HC := Lib.hid (show K.isChar s[0] = false by simpa using hc)
      clear hc HS
      by_cases h1 : 1 < s.size
      all_goals
        go_enter Tryz.func137, Tryz.ntmps137
        go_wp2_with (go_at_call 146; refine (index_no _ _ HC.out).mono ?_; rintro e w' ⟨⟨z, rfl, hz⟩, rfl⟩)
        go_ret
        exact ⟨by rw [hs2.out, ByteArray.extract_same]; rfl, rfl⟩

theorem run1_pred (b : Bool) (B : Nat) (w : World) (hB : B < w.heap.size) (hc : w.cell? ⟨B, 0, none⟩ = some (.bool b)) :
    PredAt Tryz.prog 145 #[.pointer (some ⟨B, 0, none⟩)] encR (fun r => !K.wordN b (r : Int)) w := by
  intro W x hb
  have hc' := (hb.cell (p := ⟨B, 0, none⟩) hB).trans hc
  have hv : Hid (K.wordN b (x : Int) = (K.digitN x || (b && K.letterN x))) := rfl
  unfold FnGives
  obtain ⟨d, hd⟩ : ∃ d, K.digitN x = d := ⟨_, rfl⟩
  obtain ⟨l, hl⟩ : ∃ l, K.letterN x = l := ⟨_, rfl⟩
  cases d <;> cases b
  all_goals
    go_enter Tryz.func145, Tryz.ntmps145
    go_wp2_with (first | (go_at_call 135; refine (digit_any _ _).mono ?_; rw [hd]; rintro e w' ⟨rfl, rfl⟩) | (go_at_call 133; refine (letter_any _ _).mono ?_; rw [hl]; rintro e w' ⟨rfl, rfl⟩))
    go_ret
    exact ⟨ret_bool (by rw [hv.out, hd]; try (rw [hl]); try simp), 0, rfl⟩

theorem run_any (s : ByteArray) (b : Bool) (w : World) : Calls Tryz.prog 134 #[.string s, .bool b] w (Al (.int .i64 (K.run b s.data.toList : Nat)) w) := by
  have hle := K.run_le b s.data.toList
  have hl : s.data.toList.length = s.size := by simp
  rw [hl] at hle
  have hi := K.idxFunc_run b (fun r => !K.wordN b (r : Int)) (fun _ => rfl) s
  have eg := enters_of Tryz.func145 (by kernel_rfl) rfl
  have hC := fun (W : World) (hB : w.heap.size < W.heap.size) (hc : W.cell? ⟨w.heap.size, 0, none⟩ = some (.bool b)) => Tryz.strings_IndexFunc 145 #[.pointer (some ⟨w.heap.size, 0, none⟩)] eg (fun r => !K.wordN b (r : Int)) s W (run1_pred b w.heap.size W hB hc)
  have HC := Lib.hid hC
  clear hC
  by_cases hr : K.run b s.data.toList = s.size
  · rw [if_pos hr] at hi
    have HI := Lib.hid hi
    have HR := Lib.hid hr
    clear hi hr hl
    go_enter Tryz.func134, Tryz.ntmps134
    go_wp2_with (go_at_call 144; refine (HC.out _ (by simp) (cell_new _ _ _ 0)).mono ?_; rw [HI.out]; rintro e w' ⟨rfl, hb⟩)
    go_ret
    exact ⟨ret_int (by rw [HR.out]), ((Ext.refl w).alloc _).trans hb⟩
  · rw [if_neg hr] at hi
    have HI := Lib.hid hi
    clear hi hl
    go_enter Tryz.func134, Tryz.ntmps134
    go_wp2_with (go_at_call 144; refine (HC.out _ (by simp) (cell_new _ _ _ 0)).mono ?_; rw [HI.out]; rintro e w' ⟨rfl, hb⟩)
    go_ret
    exact ⟨rfl, ((Ext.refl w).alloc _).trans hb⟩

end Go.Proofs.YtfbhchpbflaphaaGreatDoor

/- Contract of token's Number. -/
namespace Go.Proofs.YtfbhchpbflaphaaGreatDoor
open Go.RowKit Go.Lib

theorem numOk_iff (s : ByteArray) (h0 : 0 < s.size) : K.numOk s.data.toList = (decide (K.run false s.data.toList = s.size) && !(decide (1 < s.size) && decide ((s[0].toNat : Int) = 48))) := by
  obtain ⟨p1, p2, p3⟩ := str_pos s h0
  have hl : s.data.toList.length = s.size := by simp
  have h1 : s.data.toList ≠ [] := by rw [p3]; simp
  have h2 : (s.data.toList[0]? = some 48) ↔ ((s[0].toNat : Int) = 48) := by
    rw [p3]
    simp only [List.getElem?_cons_zero, Option.some.injEq]
    constructor
    · intro h; rw [h]; rfl
    · intro h
      apply UInt8.toNat.inj
      have : s[0].toNat = 48 := by omega
      rw [this]; rfl
  unfold K.numOk
  rw [hl]
  simp only [h1, ne_eq, not_false_eq_true, decide_true, Bool.true_and, h2]

set_option maxHeartbeats 1000000 in
theorem Number_any (s : ByteArray) (w : World) (hs : s.size ≤ 9223372036854775807) :
    Calls Tryz.prog 136 #[.string s] w (Al (.tuple #[.int .u32 ((K.number s.data.toList).1 : Nat), .int .i64 (K.number s.data.toList).2]) w) := by
  have hl : s.data.toList.length = s.size := by simp
  by_cases h0 : 0 < s.size
  · obtain ⟨p1, p2, p3⟩ := str_pos s h0
    have hok := numOk_iff s h0
    by_cases hr : K.run false s.data.toList = s.size
    · have e1 : ((K.run false s.data.toList : Int) != (s.size : Int)) = false := by rw [hr]; simp
      have HE1 := Lib.hid e1
      by_cases h1 : 1 < s.size ∧ (s[0].toNat : Int) = 48
      · have hn : Hid (K.number s.data.toList = (0, 4)) := by
          unfold Hid K.number
          rw [if_neg]
          rw [hok]
          simp [h1]
        have e2 : ((s[0].toNat : Int) == 48) = true := by simpa using h1.2
        have e3 : 1 < s.size := h1.1
        have HR := Lib.hid hr
        clear h1 hok hl p3 hr e1
        go_enter Tryz.func136, Tryz.ntmps136
        go_wp2_with (go_at_call 134; refine (run_any _ _ _).mono ?_; rw [HR.out]; rintro e w1 ⟨rfl, d1⟩)
        go_ret2
        exact ⟨by rw [hn.out]; rfl, d1⟩
      · have hok' : K.numOk s.data.toList = true := by
          rw [hok]
          simp only [hr, decide_true, Bool.true_and]
          rcases Decidable.em (1 < s.size) with h3 | h3
          · have : ¬ (s[0].toNat : Int) = 48 := fun h => h1 ⟨h3, h⟩
            simp [this]
          · simp [h3]
        have hn : Hid (K.number s.data.toList = if 4294967295 < K.val s.data.toList then (0, 3) else (K.val s.data.toList, 0)) := by
          unfold Hid K.number
          rw [if_pos hok']
        have hdig : Hid (∀ k (h : k < s.size), 48 ≤ s[k].toNat ∧ s[k].toNat ≤ 57) := by
          intro k h
          have := K.runWithin false s.data.toList k (by omega) (by omega)
          have e : s.data.toList[k]'(by omega) = s[k] := rfl
          rw [e] at this
          simp [K.word, K.wordN, K.digitN] at this
          omega
        have hts : Hid (∀ k (h : k < s.size), K.val (s.data.toList.take (k + 1)) = 10 * K.val (s.data.toList.take k) + (s[k].toNat - 48)) := by
          intro k h
          rw [List.take_succ_eq_append_getElem (by omega), K.val_snoc]
          rfl
        have hvt : Hid (∀ k, K.val (s.data.toList.take k) ≤ K.val s.data.toList) := fun k => K.val_take _ _
        have hv0 : Hid (K.val (s.data.toList.take 0) = 0) := rfl
        have hall : Hid (s.data.toList.take s.size = s.data.toList) := List.take_of_length_le (by omega)
        have HR := Lib.hid hr
        clear hok hok' hl p3 hr e1
        by_cases h3 : 1 < s.size
        all_goals
          first
            | have e2 : ((s[0].toNat : Int) == 48) = false := by simp; omega
            | skip
          go_enter Tryz.func136, Tryz.ntmps136
          go_wp2_with (go_at_call 134; refine (run_any _ _ _).mono ?_; rw [HR.out]; rintro e w1 ⟨rfl, d1⟩)
          go_loopw [4] (fun n wr => ∃ k : Nat, k ≤ s.size ∧ K.val (s.data.toList.take k) ≤ 4294967295 ∧ n = .int .u64 ((K.val (s.data.toList.take k) : Nat) : Int) ∧ wr = w1.iter s k) (fun _ wr => s.size - wr.iterPos w1.heap.size)
          case atStart => exact ⟨0, Nat.zero_le _, by rw [hv0.out]; omega, by rw [hv0.out]; rfl, rfl⟩
          case round =>
            obtain ⟨k, hk, hvk, rfl, rfl⟩ := hrel
            by_cases hlt : k < s.size
            · obtain ⟨g1, g2⟩ := hdig.out k hlt
              have hnx := fun ty => run_next_ascii (P := Tryz.prog) w1 s k ty hlt (by omega)
              have hst := hts.out k hlt
              generalize K.val (s.data.toList.take k) = v at *
              generalize s[k].toNat = c at *
              have HST := Lib.hid hst
              clear hst
              have HVT := hvt.out (k + 1)
              by_cases hbig : 4294967295 < 10 * v + (c - 48)
              · go_wp2_with fail
                go_ret2
                exact ⟨by rw [hn.out, if_pos (by have := HST.out; omega)]; rfl, d1.alloc _⟩
              · go_wp2_with fail
                go_roundw
                case rel => exact ⟨k + 1, by omega, by rw [HST.out]; omega, by rw [HST.out]; exact congrArg (Value.int .u64) (by omega), rfl⟩
                case measure => simp; omega
            · obtain rfl : k = s.size := by omega
              have hnx := fun ty => run_next_end (P := Tryz.prog) w1 s s.size ty hlt
              rw [hall.out] at hvk ⊢
              go_wp2_with fail
              go_ret2
              exact ⟨by rw [hn.out, if_neg (by omega)]; rfl, d1.alloc _⟩
    · have hn : Hid (K.number s.data.toList = (0, 4)) := by
        unfold Hid K.number
        rw [if_neg]
        rw [hok]
        simp [hr]
      have e1 : ((K.run false s.data.toList : Int) != (s.size : Int)) = true := by simp; omega
      clear hok hl p3 hr
      go_enter Tryz.func136, Tryz.ntmps136
      go_wp2_with (go_at_call 134; refine (run_any _ _ _).mono ?_; rintro e w1 ⟨rfl, d1⟩)
      go_ret2
      exact ⟨by rw [hn.out]; rfl, d1⟩
  · have he : s.data.toList = [] := List.eq_nil_of_length_eq_zero (by omega)
    have hn : Hid (K.number s.data.toList = (0, 4)) := by rw [he]; rfl
    have e1 : s.toList.isEmpty = true := by rw [ByteArray.toList_eq, he]; rfl
    clear he hl
    go_enter Tryz.func136, Tryz.ntmps136
    go_wp2
    go_ret2
    exact ⟨by rw [hn.out]; rfl, Ext.refl _⟩
end Go.Proofs.YtfbhchpbflaphaaGreatDoor

/- Contract of token's next. -/
namespace Go.Proofs.YtfbhchpbflaphaaGreatDoor
open Go.RowKit Go.Lib

def tokV (k : Int) (t : ByteArray) : Value := .agg #[.int .i64 k, .string t]
def nextV (s : ByteArray) : Value := .tuple #[tokV (K.nxt s.data.toList).1 (s.extract 0 (K.nxt s.data.toList).2.1), .int .i64 (K.nxt s.data.toList).2.2]
theorem nextV_of {s : ByteArray} {k : Int} {n : Nat} {e : Int} (h : K.nxt s.data.toList = (k, n, e)) : nextV s = .tuple #[.agg #[.int .i64 k, .string (s.extract 0 n)], .int .i64 e] := by
  unfold nextV tokV
  rw [h]
theorem extract_none (s : ByteArray) : s.extract 0 0 = ⟨#[]⟩ := by rw [ByteArray.extract_same]; rfl
theorem nextV_err {s : ByteArray} {e : Int} (h : K.nxt s.data.toList = (0, 0, e)) : nextV s = .tuple #[.agg #[.int .i64 0, .string ⟨#[]⟩], .int .i64 e] := by
  rw [nextV_of h, extract_none]

theorem Number_x (s : ByteArray) (n : Nat) (w : World) (hs : s.size ≤ 9223372036854775807) :
    Calls Tryz.prog 136 #[.string (s.extract 0 n)] w (Al (.tuple #[.int .u32 ((K.number (s.data.toList.take n)).1 : Nat), .int .i64 (K.number (s.data.toList.take n)).2]) w) := by
  have h := Number_any (s.extract 0 n) w (by have := ByteArray.size_extract (a := s) (b := 0) (e := n); omega)
  have e : (s.extract 0 n).data.toList = s.data.toList.take n := by rw [Lib.extract_data]; simp
  rwa [e] at h
theorem letter_is (n : Int) (b : Bool) (w : World) (h : K.letterN n = b) : Calls Tryz.prog 133 #[.int .i32 n] w fun e w' => e = .returned (.bool b) ∧ w = w' := h ▸ letter_any n w
theorem digit_is (n : Int) (b : Bool) (w : World) (h : K.digitN n = b) : Calls Tryz.prog 135 #[.int .i32 n] w fun e w' => e = .returned (.bool b) ∧ w = w' := h ▸ digit_any n w

theorem box2 {w w1 : World} {a b : Value} {T : TypeId} (h : Ext (w.alloc (.cells #[a, b] T)) w1) :
    w1.cell? ⟨w.heap.size, 0, none⟩ = some a ∧ w1.cell? ⟨w.heap.size, 1, none⟩ = some b ∧ w1.frozen? ⟨w.heap.size, 0, none⟩ = false ∧ w1.frozen? ⟨w.heap.size, 1, none⟩ = false ∧ w.heap.size < w1.heap.size := by
  have hs : w.heap.size < (w.alloc (.cells #[a, b] T)).heap.size := by simp
  refine ⟨?_, ?_, ?_, ?_, Nat.lt_of_lt_of_le hs h.size⟩
  · rw [h.cell hs]; exact cell_new _ _ _ 0
  · rw [h.cell hs]; exact cell_new _ _ _ 1
  · rw [Below.frozen h hs]; simp
  · rw [Below.frozen h hs]; simp
theorem box2_ext {w w1 : World} {a b : Value} {T : TypeId} (h : Ext (w.alloc (.cells #[a, b] T)) w1) : Ext w w1 := ((Ext.refl w).alloc _).trans h

theorem nxt_eq (s : ByteArray) (h0 : 0 < s.size) : K.nxt s.data.toList =
    if K.letterN s[0].toNat = true then (if 32 < K.run true s.data.toList then (0, 0, 2) else (1, K.run true s.data.toList, 0))
    else if K.digitN s[0].toNat = true then
      (if (K.number (s.data.toList.take (K.run false s.data.toList))).2 ≠ 0 then (0, 0, (K.number (s.data.toList.take (K.run false s.data.toList))).2)
       else if ((s.data.toList.drop (K.run false s.data.toList)).head?.map K.letter).getD false = true then (0, 0, 4) else (2, K.run false s.data.toList, 0))
    else if K.sym s.data.toList = 0 then (0, 0, 4) else (3, K.sym s.data.toList, 0) := by
  obtain ⟨p1, p2, p3⟩ := str_pos s h0
  generalize hl : s.data.toList = l at *
  rw [p3]
  rfl

set_option maxRecDepth 4000 in
set_option maxHeartbeats 1000000 in
theorem next_any (s : ByteArray) (w : World) (h0 : 0 < s.size) (hs : s.size ≤ 9223372036854775807) : Calls Tryz.prog 111 #[.string s] w (Al (nextV s) w) := by
  have hx := nxt_eq s h0
  have hl : s.data.toList.length = s.size := by simp
  have hb0 : s[0].toNat ≤ 255 := by have := s[0].toNat_lt; omega
  by_cases hlt : K.letterN s[0].toNat = true
  · rw [if_pos hlt] at hx
    obtain ⟨n, hn⟩ : ∃ n, n = K.run true s.data.toList := ⟨_, rfl⟩
    have hns : n ≤ s.size := by have := K.run_le true s.data.toList; omega
    rw [← hn] at hx
    have HL := Lib.hid hlt
    have HN := Lib.hid hn
    clear hlt hn hl
    by_cases h32 : 32 < n
    · rw [if_pos h32] at hx
      have HV := Lib.hid (nextV_err hx)
      clear hx
      go_enter Tryz.func111, Tryz.ntmps111
      go_wp2_with (first | (go_at_call 133; refine (letter_is _ _ _ HL.out).mono ?_; rintro e w' ⟨rfl, rfl⟩) | (go_at_call 134; refine (run_any _ _ _).mono ?_; rw [← HN.out]; rintro e w1 ⟨rfl, d1⟩; obtain ⟨c0, c1, f0, f1, hsz⟩ := box2 d1))
      exact bodyPost_ret (v := .tuple #[.agg #[.int .i64 0, .string ⟨#[]⟩], .int .i64 2]) (by simp [results, Tryz.results111, go_sem, c0, c1]) rfl ⟨by rw [HV.out], ((box2_ext d1).setCell (Nat.le_refl _) _).setCell (Nat.le_refl _) _⟩
    · rw [if_neg h32] at hx
      have HV := Lib.hid (nextV_of hx)
      clear hx
      go_enter Tryz.func111, Tryz.ntmps111
      go_wp2_with (first | (go_at_call 133; refine (letter_is _ _ _ HL.out).mono ?_; rintro e w' ⟨rfl, rfl⟩) | (go_at_call 134; refine (run_any _ _ _).mono ?_; rw [← HN.out]; rintro e w1 ⟨rfl, d1⟩; obtain ⟨c0, c1, f0, f1, hsz⟩ := box2 d1))
      exact bodyPost_ret (v := .tuple #[.agg #[.int .i64 1, .string (s.extract 0 n)], .int .i64 0]) (by simp [results, Tryz.results111, go_sem, c0, c1]) rfl ⟨by rw [HV.out], ((box2_ext d1).setCell (Nat.le_refl _) _).setCell (Nat.le_refl _) _⟩
  · have hltf : K.letterN s[0].toNat = false := by simpa using hlt
    rw [if_neg hlt] at hx
    by_cases hdg : K.digitN s[0].toNat = true
    · rw [if_pos hdg] at hx
      obtain ⟨n, hn⟩ : ∃ n, n = K.run false s.data.toList := ⟨_, rfl⟩
      have hns : n ≤ s.size := by have := K.run_le false s.data.toList; omega
      rw [← hn] at hx
      obtain ⟨v, e0, hve⟩ : ∃ v e0, K.number (s.data.toList.take n) = (v, e0) := ⟨_, _, rfl⟩
      rw [hve] at hx
      have HL := Lib.hid hltf
      have HD := Lib.hid hdg
      have HN := Lib.hid hn
      have HVE := Lib.hid hve
      have hgd : Hid (((s.data.toList.drop n).head?.map K.letter).getD false = if h : n < s.size then K.letterN s[n].toNat else false) := by
        unfold Hid
        split
        · rename_i h
          rw [List.drop_eq_getElem_cons (by omega)]
          rfl
        · rw [List.drop_eq_nil_of_le (by omega)]
          rfl
      clear hlt hltf hdg hn hve
      by_cases he : e0 = 0
      · subst he
        rw [if_neg (by simp)] at hx
        by_cases hlt : n < s.size
        · have hbn : s[n].toNat ≤ 255 := by have := s[n].toNat_lt; omega
          rw [hgd.out, dif_pos hlt] at hx
          by_cases hl2 : K.letterN s[n].toNat = true
          · rw [if_pos hl2] at hx
            have HV := Lib.hid (nextV_err hx)
            have HL2 := Lib.hid hl2
            clear hx hl2 hl
            go_enter Tryz.func111, Tryz.ntmps111
            go_wp2_with fail
            refine (letter_is _ _ _ HL.out).mono ?_
            rintro e w' ⟨rfl, rfl⟩
            go_wp2_with (first | (go_at_call 135; refine (digit_is _ _ _ HD.out).mono ?_; rintro e w' ⟨rfl, rfl⟩) | (go_at_call 134; refine (run_any _ _ _).mono ?_; rw [← HN.out]; rintro e w1 ⟨rfl, d1⟩))
            refine (Number_x _ _ _ hs).mono ?_
            rw [HVE.out]
            rintro e w2 ⟨rfl, d2⟩
            have d3 := Ext.trans d1 d2
            obtain ⟨c0, c1, f0, f1, hsz⟩ := box2 d3
            go_wp2_with fail
            refine (letter_is _ _ _ HL2.out).mono ?_
            rintro e w' ⟨rfl, rfl⟩
            go_wp2_with fail
            exact bodyPost_ret (v := .tuple #[.agg #[.int .i64 0, .string ⟨#[]⟩], .int .i64 4]) (by simp [results, Tryz.results111, go_sem, c0, c1]) rfl ⟨by rw [HV.out], ((box2_ext d3).setCell (Nat.le_refl _) _).setCell (Nat.le_refl _) _⟩
          · have hl2f : K.letterN s[n].toNat = false := by simpa using hl2
            rw [if_neg hl2] at hx
            have HV := Lib.hid (nextV_of hx)
            have HL2 := Lib.hid hl2f
            clear hx hl2 hl2f hl
            go_enter Tryz.func111, Tryz.ntmps111
            go_wp2_with fail
            refine (letter_is _ _ _ HL.out).mono ?_
            rintro e w' ⟨rfl, rfl⟩
            go_wp2_with (first | (go_at_call 135; refine (digit_is _ _ _ HD.out).mono ?_; rintro e w' ⟨rfl, rfl⟩) | (go_at_call 134; refine (run_any _ _ _).mono ?_; rw [← HN.out]; rintro e w1 ⟨rfl, d1⟩))
            refine (Number_x _ _ _ hs).mono ?_
            rw [HVE.out]
            rintro e w2 ⟨rfl, d2⟩
            have d3 := Ext.trans d1 d2
            obtain ⟨c0, c1, f0, f1, hsz⟩ := box2 d3
            go_wp2_with fail
            refine (letter_is _ _ _ HL2.out).mono ?_
            rintro e w' ⟨rfl, rfl⟩
            go_wp2_with fail
            exact bodyPost_ret (v := .tuple #[.agg #[.int .i64 2, .string (s.extract 0 n)], .int .i64 0]) (by simp [results, Tryz.results111, go_sem, c0, c1]) rfl ⟨by rw [HV.out], ((box2_ext d3).setCell (Nat.le_refl _) _).setCell (Nat.le_refl _) _⟩
        · rw [hgd.out, dif_neg hlt, if_neg (by simp)] at hx
          have HV := Lib.hid (nextV_of hx)
          clear hx hl
          go_enter Tryz.func111, Tryz.ntmps111
          go_wp2_with fail
          refine (letter_is _ _ _ HL.out).mono ?_
          rintro e w' ⟨rfl, rfl⟩
          go_wp2_with (first | (go_at_call 135; refine (digit_is _ _ _ HD.out).mono ?_; rintro e w' ⟨rfl, rfl⟩) | (go_at_call 134; refine (run_any _ _ _).mono ?_; rw [← HN.out]; rintro e w1 ⟨rfl, d1⟩))
          refine (Number_x _ _ _ hs).mono ?_
          rw [HVE.out]
          rintro e w2 ⟨rfl, d2⟩
          have d3 := Ext.trans d1 d2
          obtain ⟨c0, c1, f0, f1, hsz⟩ := box2 d3
          go_wp2_with fail
          exact bodyPost_ret (v := .tuple #[.agg #[.int .i64 2, .string (s.extract 0 n)], .int .i64 0]) (by simp [results, Tryz.results111, go_sem, c0, c1]) rfl ⟨by rw [HV.out], ((box2_ext d3).setCell (Nat.le_refl _) _).setCell (Nat.le_refl _) _⟩
      · rw [if_pos he] at hx
        have HV := Lib.hid (nextV_err hx)
        have t1 : (e0 != 0) = true := by simpa using he
        clear hx hl he
        go_enter Tryz.func111, Tryz.ntmps111
        go_wp2_with fail
        refine (letter_is _ _ _ HL.out).mono ?_
        rintro e w' ⟨rfl, rfl⟩
        go_wp2_with (first | (go_at_call 135; refine (digit_is _ _ _ HD.out).mono ?_; rintro e w' ⟨rfl, rfl⟩) | (go_at_call 134; refine (run_any _ _ _).mono ?_; rw [← HN.out]; rintro e w1 ⟨rfl, d1⟩))
        refine (Number_x _ _ _ hs).mono ?_
        rw [HVE.out]
        rintro e w2 ⟨rfl, d2⟩
        have d3 := Ext.trans d1 d2
        obtain ⟨c0, c1, f0, f1, hsz⟩ := box2 d3
        go_wp2_with fail
        exact bodyPost_ret (v := .tuple #[.agg #[.int .i64 0, .string ⟨#[]⟩], .int .i64 e0]) (by simp [results, Tryz.results111, go_sem, c0, c1]) rfl ⟨by rw [HV.out], ((box2_ext d3).setCell (Nat.le_refl _) _).setCell (Nat.le_refl _) _⟩
    · have hdgf : K.digitN s[0].toNat = false := by simpa using hdg
      rw [if_neg hdg] at hx
      obtain ⟨m, hm⟩ : ∃ m, m = K.sym s.data.toList := ⟨_, rfl⟩
      rw [← hm] at hx
      have HL := Lib.hid hltf
      have HD := Lib.hid hdgf
      have HM := Lib.hid hm
      have hll : (s.extract 0 m).toList = s.data.toList.take m := by rw [ByteArray.toList_eq, Lib.extract_data]; simp
      clear hlt hltf hdg hdgf hm
      by_cases h0m : m = 0
      · rw [if_pos h0m] at hx
        have HV := Lib.hid (nextV_err hx)
        have t1 : (s.extract 0 m).toList.isEmpty = true := by rw [hll, h0m]; simp
        have t2 : (s.extract 0 m).toList = [] := by rw [hll, h0m]; simp
        clear hx hl hll h0m
        go_enter Tryz.func111, Tryz.ntmps111
        go_wp2_with (first | (go_at_call 133; refine (letter_is _ _ _ HL.out).mono ?_; rintro e w' ⟨rfl, rfl⟩) | (go_at_call 135; refine (digit_is _ _ _ HD.out).mono ?_; rintro e w' ⟨rfl, rfl⟩) | (go_at_call 137; refine (symbol_any _ _ h0).mono ?_; rw [← HM.out]; rintro e w' ⟨rfl, rfl⟩))
        exact bodyPost_ret (v := .tuple #[.agg #[.int .i64 0, .string ⟨#[]⟩], .int .i64 4]) (by simp [results, Tryz.results111, go_sem]) rfl ⟨by rw [HV.out], (Ext.refl _).alloc _⟩
      · rw [if_neg h0m] at hx
        have HV := Lib.hid (nextV_of hx)
        have t1 : (s.extract 0 m).toList.isEmpty = false := by
          rw [hll]
          cases hc : s.data.toList with
          | nil => rw [hc] at hl; simp at hl; omega
          | cons a l =>
            cases m with
            | zero => exact absurd rfl h0m
            | succ m => rfl
        have t2 : ¬ (s.extract 0 m).toList = [] := by intro h; rw [h] at t1; cases t1
        clear hx hl hll h0m
        go_enter Tryz.func111, Tryz.ntmps111
        go_wp2_with (first | (go_at_call 133; refine (letter_is _ _ _ HL.out).mono ?_; rintro e w' ⟨rfl, rfl⟩) | (go_at_call 135; refine (digit_is _ _ _ HD.out).mono ?_; rintro e w' ⟨rfl, rfl⟩) | (go_at_call 137; refine (symbol_any _ _ h0).mono ?_; rw [← HM.out]; rintro e w' ⟨rfl, rfl⟩))
        exact bodyPost_ret (v := .tuple #[.agg #[.int .i64 3, .string (s.extract 0 m)], .int .i64 0]) (by simp [results, Tryz.results111, go_sem]) rfl ⟨by rw [HV.out], (Ext.refl _).alloc _⟩
end Go.Proofs.YtfbhchpbflaphaaGreatDoor

/- Lists of tokens; contract of token's Tokens. -/
namespace Go.Proofs.YtfbhchpbflaphaaGreatDoor
open Go.RowKit Go.Lib

abbrev Tk := Int × ByteArray
def str (l : List UInt8) : ByteArray := ⟨l.toArray⟩
theorem str_data (l : List UInt8) : (str l).data.toList = l := rfl
theorem str_self (s : ByteArray) : str s.data.toList = s := by cases s; rfl
theorem ext_str (s : ByteArray) (n : Nat) : s.extract 0 n = str (s.data.toList.take n) := by
  rw [← str_self (s.extract 0 n), Lib.extract_data]; simp
theorem str_size (l : List UInt8) : (str l).size = l.length := by simp [str, ByteArray.size]
theorem size_list (s : ByteArray) : s.data.toList.length = s.size := by simp

namespace K
def toksF : Nat → List UInt8 → List Tk → List Tk × Int
  | 0, _, acc => (acc, 0)
  | _ + 1, [], acc => (acc, 0)
  | f + 1, c :: l, acc =>
    if c = 32 then toksF f l acc
    else if acc.length = 256 then ([], 10)
    else if (nxt (c :: l)).2.2 ≠ 0 then ([], (nxt (c :: l)).2.2)
    else toksF f ((c :: l).drop (nxt (c :: l)).2.1) (acc ++ [((nxt (c :: l)).1, str ((c :: l).take (nxt (c :: l)).2.1))])
theorem sym_pos (l : List UInt8) : sym l ≤ 2 ∧ (sym l ≤ l.length) := by
  cases l with
  | nil => simp [sym]
  | cons c l =>
    rw [sym]
    split
    · rename_i h
      unfold isSym2 at h
      have hm : (c :: l).take 2 ∈ syms2 := by simpa using h
      have hlen : ((c :: l).take 2).length = 2 := by
        simp only [syms2, List.mem_cons, List.not_mem_nil, or_false] at hm
        rcases hm with h | h | h | h | h | h | h | h <;> rw [h] <;> rfl
      rw [List.length_take] at hlen
      omega
    · split <;> simp
theorem nxt_len (l : List UInt8) (h : (nxt l).2.2 = 0) : 0 < (nxt l).2.1 ∧ (nxt l).2.1 ≤ l.length := by
  cases l with
  | nil => simp [nxt] at h
  | cons c l =>
    have hr := fun b => run_le b (c :: l)
    revert h
    rw [nxt]
    split
    · rename_i hc
      split
      · intro h; simp at h
      · intro _
        refine ⟨?_, hr true⟩
        show 0 < run true (c :: l)
        rw [run_cons, if_pos (by unfold letter at hc; simp [word, wordN, hc])]
        omega
    · split
      · rename_i hc
        split
        · rename_i he
          intro h; exact absurd h he
        · split
          · intro h; simp at h
          · intro _
            refine ⟨?_, hr false⟩
            show 0 < run false (c :: l)
            rw [run_cons, if_pos (by unfold digit at hc; simp [word, wordN, hc])]
            omega
      · split
        · intro h; simp at h
        · rename_i h0
          intro _
          exact ⟨Nat.pos_of_ne_zero h0, (sym_pos (c :: l)).2⟩
end K

end Go.Proofs.YtfbhchpbflaphaaGreatDoor

/- Contracts of token's valid, Print, Name. -/
namespace Go.Proofs.YtfbhchpbflaphaaGreatDoor
open Go.RowKit Go.Lib

def K.valid (k : Int) (l : List UInt8) : Bool := decide (K.nxt l = (k, l.length, 0))
theorem K.valid_nil (k : Int) : K.valid k [] = false := by simp [K.valid, K.nxt]

set_option maxHeartbeats 1000000 in
theorem valid_any (k : Int) (s : ByteArray) (w : World) (hs : s.size ≤ 9223372036854775807) : Calls Tryz.prog 78 #[.agg #[.int .i64 k, .string s]] w (Al (.bool (K.valid k s.data.toList)) w) := by
  by_cases h0 : 0 < s.size
  · obtain ⟨p1, p2, p3⟩ := str_pos s h0
    obtain ⟨k2, m, er, hnx⟩ : ∃ k m er, K.nxt s.data.toList = (k, m, er) := ⟨_, _, _, rfl⟩
    have HV := Lib.hid (nextV_of hnx)
    have hvd : Hid (K.valid k s.data.toList = decide ((k2, m, er) = (k, s.size, (0 : Int)))) := by unfold Hid K.valid; rw [hnx, size_list]
    have hml : er = 0 → m ≤ s.size := fun h => by have := (K.nxt_len s.data.toList (by rw [hnx]; exact h)).2; rw [hnx, size_list] at this; exact this
    clear p3 hnx
    by_cases he : er = 0
    · subst he
      have hm := hml rfl
      have key : ∀ (h1 : k2 = k) (b2 : Bool), (decide (m = s.size)) = b2 → Calls Tryz.prog 78 #[.agg #[.int .i64 k, .string s]] w (Al (.bool (K.valid k s.data.toList)) w) := by
        intro h1 b2 hb2
        subst h1
        cases b2
        · have hne : ¬ (s.extract 0 m).toList = s.toList := by
            intro h
            rw [ByteArray.toList_eq, ByteArray.toList_eq, Lib.extract_data] at h
            have := congrArg List.length h
            rw [decide_eq_false_iff_not] at hb2
            simp at this
            omega
          have hv : Hid (K.valid k2 s.data.toList = false) := by
            unfold Hid
            rw [hvd.out]
            simp at hb2 ⊢
            exact hb2
          have HM := Lib.hid hb2
          clear hb2
          go_enter Tryz.func78, Tryz.ntmps78
          go_wp2_with fail
          refine (next_any _ _ h0 hs).mono ?_
          rw [HV.out]
          rintro e w1 ⟨rfl, d1⟩
          have c0 : w1.cell? ⟨w.heap.size, 0, none⟩ = some (.int .i64 k2) := d1.keepc (cell_new w #[.int .i64 k2, .string s] 156 0)
          have c1 : w1.cell? ⟨w.heap.size, 1, none⟩ = some (.string s) := d1.keepc (cell_new w #[.int .i64 k2, .string s] 156 1)
          have hsz : w.heap.size < w1.heap.size := by have := d1.size; simp at this; omega
          go_wp2_with fail
          go_ret
          exact ⟨by rw [hv.out]; rfl, (((Ext.refl w).alloc _).trans d1).alloc _⟩
        · have hne : (s.extract 0 m).toList = s.toList := by
            rw [ByteArray.toList_eq, ByteArray.toList_eq, Lib.extract_data]
            rw [decide_eq_true_eq] at hb2
            rw [hb2, List.drop_zero, Nat.sub_zero]
            exact List.take_of_length_le (by simp)
          have hv : Hid (K.valid k2 s.data.toList = true) := by
            unfold Hid
            rw [hvd.out]
            simp at hb2 ⊢
            exact hb2
          have HM := Lib.hid hb2
          clear hb2
          go_enter Tryz.func78, Tryz.ntmps78
          go_wp2_with fail
          refine (next_any _ _ h0 hs).mono ?_
          rw [HV.out]
          rintro e w1 ⟨rfl, d1⟩
          have c0 : w1.cell? ⟨w.heap.size, 0, none⟩ = some (.int .i64 k2) := d1.keepc (cell_new w #[.int .i64 k2, .string s] 156 0)
          have c1 : w1.cell? ⟨w.heap.size, 1, none⟩ = some (.string s) := d1.keepc (cell_new w #[.int .i64 k2, .string s] 156 1)
          have hsz : w.heap.size < w1.heap.size := by have := d1.size; simp at this; omega
          go_wp2_with fail
          go_ret
          exact ⟨by rw [hv.out]; rfl, (((Ext.refl w).alloc _).trans d1).alloc _⟩
      by_cases hk : k2 = k
      · exact key hk _ rfl
      · have hv : Hid (K.valid k s.data.toList = false) := by
          unfold Hid
          rw [hvd.out]
          simp [hk]
        clear key
        go_enter Tryz.func78, Tryz.ntmps78
        go_wp2_with fail
        refine (next_any _ _ h0 hs).mono ?_
        rw [HV.out]
        rintro e w1 ⟨rfl, d1⟩
        have c0 : w1.cell? ⟨w.heap.size, 0, none⟩ = some (.int .i64 k) := d1.keepc (cell_new w #[.int .i64 k, .string s] 156 0)
        have c1 : w1.cell? ⟨w.heap.size, 1, none⟩ = some (.string s) := d1.keepc (cell_new w #[.int .i64 k, .string s] 156 1)
        have hsz : w.heap.size < w1.heap.size := by have := d1.size; simp at this; omega
        go_wp2_with fail
        go_ret
        exact ⟨by rw [hv.out]; rfl, (((Ext.refl w).alloc _).trans d1).alloc _⟩
    · have hv : Hid (K.valid k s.data.toList = false) := by
        unfold Hid
        rw [hvd.out]
        simp [he]
      have t1 : (er == 0) = false := by simpa using he
      clear he hml
      go_enter Tryz.func78, Tryz.ntmps78
      go_wp2_with fail
      refine (next_any _ _ h0 hs).mono ?_
      rw [HV.out]
      rintro e w1 ⟨rfl, d1⟩
      go_wp2_with fail
      go_ret
      exact ⟨by rw [hv.out]; rfl, (((Ext.refl w).alloc _).trans d1).alloc _⟩
  · have he : s.data.toList = [] := List.eq_nil_of_length_eq_zero (by rw [size_list]; omega)
    have p1 : s.toList = [] := by rw [ByteArray.toList_eq, he]
    have p2 : s.toList.isEmpty = true := by rw [p1]; rfl
    have hv : Hid (K.valid k s.data.toList = false) := by rw [he]; exact K.valid_nil k
    clear he
    go_enter Tryz.func78, Tryz.ntmps78
    go_wp2_with fail
    go_ret
    exact ⟨by rw [hv.out]; rfl, (Ext.refl _).alloc _⟩

theorem valid_is (k : Int) (s : ByteArray) (b : Bool) (w : World) (hs : s.size ≤ 9223372036854775807) (h : K.valid k s.data.toList = b) : Calls Tryz.prog 78 #[.agg #[.int .i64 k, .string s]] w (Al (.bool b) w) := h ▸ valid_any k s w hs

end Go.Proofs.YtfbhchpbflaphaaGreatDoor

/- Contracts of token's Name and of the reference's Same and Few. -/
namespace Go.Proofs.YtfbhchpbflaphaaGreatDoor
open Go.RowKit Go.Lib

def K.keywords : List (List UInt8) := [[108, 101, 116], [115, 101, 116], [105, 102], [101, 108, 115, 101], [119, 104, 105, 108, 101], [114, 101, 116, 117, 114, 110], [100, 111], [111, 117, 116], [115, 116, 111, 114, 101], [108, 111, 97, 100], [105, 110], [105, 110, 99, 108, 117, 100, 101], [100, 101, 102, 105, 110, 101], [117, 110, 100, 101, 102], [119, 104, 101, 110], [117, 110, 108, 101, 115, 115], [110, 111, 116, 101], [101, 120, 116, 101, 114, 110], [101, 120, 112, 111, 114, 116], [119, 101, 97, 107], [102, 110], [100, 97, 116, 97]]
def K.name (l : List UInt8) : Bool := !K.keywords.contains l && K.valid 1 l

set_option maxRecDepth 4000 in
set_option maxHeartbeats 4000000 in
theorem Name_any (s : ByteArray) (w : World) (hs : s.size ≤ 9223372036854775807) : Calls Tryz.prog 45 #[.string s] w (Al (.bool (K.name s.data.toList)) w) := by
  have hx : s.toList = s.data.toList := ByteArray.toList_eq s
  by_cases h2 : K.keywords.contains s.data.toList = true
  · have hn : Hid (K.name s.data.toList = false) := by unfold Hid K.name; rw [h2]; rfl
    have hm : s.data.toList ∈ K.keywords := by simpa using h2
    clear h2
    simp only [K.keywords, List.mem_cons, List.not_mem_nil, or_false] at hm
    rcases hm with h | h | h | h | h | h | h | h | h | h | h | h | h | h | h | h | h | h | h | h | h | h
    all_goals
      rw [h] at hx
      clear h
      go_enter Tryz.func45, Tryz.ntmps45
      go_wp2
      go_ret
      exact ⟨by rw [hn.out]; rfl, Ext.refl _⟩
  · have h2' : K.keywords.contains s.data.toList = false := by simpa using h2
    have hn : Hid (K.name s.data.toList = K.valid 1 s.data.toList) := by unfold Hid K.name; rw [h2']; rfl
    have hne : ∀ c ∈ K.keywords, (s.toList == c) = false := fun c hc => by
      rw [hx, beq_eq_false_iff_ne]
      rintro rfl
      rw [List.contains_eq_mem, decide_eq_false_iff_not] at h2'
      exact h2' hc

    have n0 := hne [108, 101, 116] (by decide)
    have n1 := hne [115, 101, 116] (by decide)
    have n2 := hne [105, 102] (by decide)
    have n3 := hne [101, 108, 115, 101] (by decide)
    have n4 := hne [119, 104, 105, 108, 101] (by decide)
    have n5 := hne [114, 101, 116, 117, 114, 110] (by decide)
    have n6 := hne [100, 111] (by decide)
    have n7 := hne [111, 117, 116] (by decide)
    have n8 := hne [115, 116, 111, 114, 101] (by decide)
    have n9 := hne [108, 111, 97, 100] (by decide)
    have n10 := hne [105, 110] (by decide)
    have n11 := hne [105, 110, 99, 108, 117, 100, 101] (by decide)
    have n12 := hne [100, 101, 102, 105, 110, 101] (by decide)
    have n13 := hne [117, 110, 100, 101, 102] (by decide)
    have n14 := hne [119, 104, 101, 110] (by decide)
    have n15 := hne [117, 110, 108, 101, 115, 115] (by decide)
    have n16 := hne [110, 111, 116, 101] (by decide)
    have n17 := hne [101, 120, 116, 101, 114, 110] (by decide)
    have n18 := hne [101, 120, 112, 111, 114, 116] (by decide)
    have n19 := hne [119, 101, 97, 107] (by decide)
    have n20 := hne [102, 110] (by decide)
    have n21 := hne [100, 97, 116, 97] (by decide)
    clear hne hx h2 h2'
    go_enter Tryz.func45, Tryz.ntmps45
    go_wp2_with (go_at_call 78; refine (valid_any _ _ _ hs).mono ?_; rw [← hn.out]; rintro e w1 ⟨rfl, d1⟩)
    go_ret
    exact ⟨rfl, d1⟩

end Go.Proofs.YtfbhchpbflaphaaGreatDoor

/- Contracts of the reference's Letter, Digit, Has, Symbols, Keyword, form, Name, Number; the walk of TokenWords. -/
namespace Go.Proofs.YtfbhchpbflaphaaGreatDoor
open Go.RowKit Go.Lib

theorem Letter_any (n : Int) (w : World) : Calls Tryz.prog 119 #[.int .u8 n] w fun e w' => e = .returned (.bool (K.letterN n)) ∧ w = w' := by
  have hv : Hid (K.letterN n = (decide (97 ≤ n ∧ n ≤ 122) || decide (n = 95))) := rfl
  go_enter Tryz.func119, Tryz.ntmps119
  go_wp2
  all_goals
    go_ret
    exact ⟨ret_bool (by rw [hv.out, Bool.eq_iff_iff]; simp; try omega), rfl⟩
theorem Digit_any (n : Int) (w : World) : Calls Tryz.prog 120 #[.int .u8 n] w fun e w' => e = .returned (.bool (K.digitN n)) ∧ w = w' := by
  have hv : Hid (K.digitN n = decide (48 ≤ n ∧ n ≤ 57)) := rfl
  go_enter Tryz.func120, Tryz.ntmps120
  go_wp2
  all_goals
    go_ret
    exact ⟨ret_bool (by rw [hv.out, Bool.eq_iff_iff]; simp; try omega), rfl⟩
theorem Letter_is (n : Int) (b : Bool) (w : World) (h : K.letterN n = b) : Calls Tryz.prog 119 #[.int .u8 n] w fun e w' => e = .returned (.bool b) ∧ w = w' := h ▸ Letter_any n w
theorem Digit_is (n : Int) (b : Bool) (w : World) (h : K.digitN n = b) : Calls Tryz.prog 120 #[.int .u8 n] w fun e w' => e = .returned (.bool b) ∧ w = w' := h ▸ Digit_any n w

def K.has (l : List (List UInt8)) (x : List UInt8) : Bool := l.contains x
set_option maxHeartbeats 1000000 in
theorem Has_any (b o c n : Nat) (l : List (List UInt8)) (s : ByteArray) (w : World) (hn : n = l.length) (hn2 : n ≤ 1000) (hc : ∀ j (h : j < l.length), w.cell? ⟨b, o + j, none⟩ = some (.string (str l[j]))) :
    Calls Tryz.prog 68 #[.slice (some ⟨b, o, none⟩) n c, .string s] w fun e w' => e = .returned (.bool (K.has l s.data.toList)) ∧ w = w' := by
  have HC := Lib.hid hc
  have HN := Lib.hid hn
  clear hc hn
  go_enter Tryz.func68, Tryz.ntmps68
  go_wp2_with fail
  go_loop [9] (fun i => ∃ k : Nat, k ≤ n ∧ i = .int .i64 k ∧ Hid ((l.take k).contains s.data.toList = false)) (fun i => n - (intOf i).toNat)
  case atStart => exact ⟨0, Nat.zero_le _, rfl, rfl⟩
  case round =>
    obtain ⟨k, hk, rfl, HF⟩ := hrel
    by_cases hlt : k < n
    · have hkl : k < l.length := by have := HN.out; omega
      have c0 := HC.out k hkl
      have hst : Hid ((l.take (k + 1)).contains s.data.toList = (l[k] == s.data.toList)) := by
        unfold Hid
        rw [List.take_succ_eq_append_getElem hkl, List.contains_append, HF.out]
        rw [Bool.eq_iff_iff]
        simp
        exact eq_comm
      have hyes : (l[k] == s.data.toList) = true → K.has l s.data.toList = true := by
        intro h
        unfold K.has
        have : l[k] = s.data.toList := by simpa using h
        rw [List.contains_eq_mem, decide_eq_true_eq, ← this]
        exact List.getElem_mem hkl
      have HY := Lib.hid hyes
      have e1 : (str l[k]).toList = l[k] := by rw [ByteArray.toList_eq]; rfl
      have e2 : s.toList = s.data.toList := ByteArray.toList_eq s
      have E1 := Lib.hid e1
      have E2 := Lib.hid e2
      obtain ⟨t, ht⟩ : ∃ t, t = str l[k] := ⟨_, rfl⟩
      rw [← ht] at c0 E1
      obtain ⟨bb, hbb⟩ : ∃ bb, (t.toList == s.toList) = bb := ⟨_, rfl⟩
      have hbb2 : Hid ((l[k] == s.data.toList) = bb) := by unfold Hid; rw [← E1.out, ← E2.out]; exact hbb
      clear hyes e1 e2 ht
      cases bb
      · have hne : ¬ t.toList = s.toList := by simpa using hbb
        have hne' : (t.toList == s.toList) = false := hbb
        clear hbb
        go_wp2_with fail
        go_round
        case rel => exact ⟨k + 1, by omega, by go_num, by unfold Hid; rw [hst.out]; exact hbb2.out⟩
        case measure => simp [intOf]; omega
      · have HYY := Lib.hid (HY.out hbb2.out)
        have heq : (t.toList == s.toList) = true := hbb
        have heq' : t.toList = s.toList := by simpa using hbb
        have HEQ' := Lib.hid heq'
        clear HY hbb heq'
        go_wp2_with fail
        go_ret
        exact ⟨by rw [HYY.out]; rfl, rfl⟩
    · obtain rfl : k = n := by omega
      have hfin : Hid (K.has l s.data.toList = false) := by
        have := HF.out
        unfold Hid K.has
        rwa [List.take_of_length_le (by have := HN.out; omega)] at this
      go_wp2_with fail
      go_ret
      exact ⟨by rw [hfin.out]; rfl, rfl⟩

def K.symbols : List (List UInt8) := [[124, 124], [38, 38], [61, 61], [33, 61], [60, 61], [62, 61], [60, 60], [62, 62], [124], [94], [38], [60], [62], [43], [45], [42], [47], [37], [126], [33], [40], [41], [44], [61]]
def K.symCells : Array Value := #[.string ⟨#[124, 124]⟩, .string ⟨#[38, 38]⟩, .string ⟨#[61, 61]⟩, .string ⟨#[33, 61]⟩, .string ⟨#[60, 61]⟩, .string ⟨#[62, 61]⟩, .string ⟨#[60, 60]⟩, .string ⟨#[62, 62]⟩, .string ⟨#[124]⟩, .string ⟨#[94]⟩, .string ⟨#[38]⟩, .string ⟨#[60]⟩, .string ⟨#[62]⟩, .string ⟨#[43]⟩, .string ⟨#[45]⟩, .string ⟨#[42]⟩, .string ⟨#[47]⟩, .string ⟨#[37]⟩, .string ⟨#[126]⟩, .string ⟨#[33]⟩, .string ⟨#[40]⟩, .string ⟨#[41]⟩, .string ⟨#[44]⟩, .string ⟨#[61]⟩]
def K.kwCells : Array Value := #[.string ⟨#[108, 101, 116]⟩, .string ⟨#[115, 101, 116]⟩, .string ⟨#[105, 102]⟩, .string ⟨#[101, 108, 115, 101]⟩, .string ⟨#[119, 104, 105, 108, 101]⟩, .string ⟨#[114, 101, 116, 117, 114, 110]⟩, .string ⟨#[100, 111]⟩, .string ⟨#[111, 117, 116]⟩, .string ⟨#[115, 116, 111, 114, 101]⟩, .string ⟨#[108, 111, 97, 100]⟩, .string ⟨#[105, 110]⟩, .string ⟨#[105, 110, 99, 108, 117, 100, 101]⟩, .string ⟨#[100, 101, 102, 105, 110, 101]⟩, .string ⟨#[117, 110, 100, 101, 102]⟩, .string ⟨#[119, 104, 101, 110]⟩, .string ⟨#[117, 110, 108, 101, 115, 115]⟩, .string ⟨#[110, 111, 116, 101]⟩, .string ⟨#[101, 120, 116, 101, 114, 110]⟩, .string ⟨#[101, 120, 112, 111, 114, 116]⟩, .string ⟨#[119, 101, 97, 107]⟩, .string ⟨#[102, 110]⟩, .string ⟨#[100, 97, 116, 97]⟩]
theorem symCells_get (w : World) : ∀ j (h : j < K.symbols.length), (w.alloc (.cells K.symCells 9)).cell? ⟨w.heap.size, 0 + j, none⟩ = some (.string (str K.symbols[j])) := by
  intro j h
  rw [Nat.zero_add, cell_new]
  have e : K.symCells = (K.symbols.map fun x => Value.string (str x)).toArray := rfl
  rw [e]
  simp [h]
theorem kwCells_get (w : World) : ∀ j (h : j < K.keywords.length), (w.alloc (.cells K.kwCells 9)).cell? ⟨w.heap.size, 0 + j, none⟩ = some (.string (str K.keywords[j])) := by
  intro j h
  rw [Nat.zero_add, cell_new]
  have e : K.kwCells = (K.keywords.map fun x => Value.string (str x)).toArray := rfl
  rw [e]
  simp [h]
theorem Keyword_any (s : ByteArray) (w : World) : Calls Tryz.prog 91 #[.string s] w (Al (.bool (K.has K.keywords s.data.toList)) w) := by
  go_enter Tryz.func91, Tryz.ntmps91
  go_wp2_with fail
  refine (Has_any _ _ _ _ K.keywords s _ rfl (by decide) (kwCells_get w)).mono ?_
  rintro e w' ⟨rfl, rfl⟩
  go_wp2_with fail
  go_ret
  exact ⟨rfl, (Ext.refl _).alloc _⟩

end Go.Proofs.YtfbhchpbflaphaaGreatDoor

/- Contracts of the reference's form, Name, Number; the walk of TokenWords. -/
namespace Go.Proofs.YtfbhchpbflaphaaGreatDoor
open Go.RowKit Go.Lib

theorem K.valid1 (l : List UInt8) (h0 : 0 < l.length) : K.valid 1 l = (decide (l.length ≤ 32) && K.letter l[0] && decide (K.run true l = l.length)) := by
  cases l with
  | nil => simp at h0
  | cons c t =>
    rw [Bool.eq_iff_iff]
    simp only [K.valid, decide_eq_true_eq, Bool.and_eq_true, List.getElem_cons_zero]
    rw [K.nxt]
    have hle := K.run_le true (c :: t)
    constructor
    · intro h
      split at h
      · rename_i hc
        split at h
        · simp at h
        · simp only [Prod.mk.injEq] at h
          exact ⟨⟨by omega, hc⟩, h.2.1⟩
      · split at h
        · split at h
          · simp at h
          · split at h
            · simp at h
            · simp at h
        · split at h
          · simp at h
          · simp at h
    · rintro ⟨⟨h1, h2⟩, h3⟩
      rw [if_pos h2, if_neg (by omega), h3]

set_option maxRecDepth 4000 in
set_option maxHeartbeats 1000000 in
theorem form_any (s : ByteArray) (w : World) (hs : s.size ≤ 9223372036854775807) : Calls Tryz.prog 90 #[.string s] w fun e w' => e = .returned (.bool (K.valid 1 s.data.toList)) ∧ w = w' := by
  by_cases h0 : 0 < s.size
  · have hb0 : s[0].toNat ≤ 255 := by have := s[0].toNat_lt; omega
    have hv : K.valid 1 s.data.toList = (decide (s.size ≤ 32) && K.letterN s[0].toNat && decide (K.run true s.data.toList = s.size)) := by
      have := K.valid1 s.data.toList (by rw [size_list]; exact h0)
      simp only [size_list] at this
      exact this
    by_cases h32 : 32 < s.size
    · have hf : Hid (K.valid 1 s.data.toList = false) := by unfold Hid; rw [hv]; simp; omega
      clear hv
      go_enter Tryz.func90, Tryz.ntmps90
      go_wp2_with fail
      go_ret
      exact ⟨by rw [hf.out]; rfl, rfl⟩
    · by_cases hl : K.letterN s[0].toNat = true
      · have hv2 : Hid (K.valid 1 s.data.toList = decide (K.run true s.data.toList = s.size)) := by
          unfold Hid
          rw [hv, hl, Bool.and_true, show decide (s.size ≤ 32) = true by simpa using (by omega : s.size ≤ 32), Bool.true_and]
        have HL := Lib.hid hl
        clear hv hl
        go_enter Tryz.func90, Tryz.ntmps90
        go_wp2_with (go_at_call 119; refine (Letter_is _ _ _ HL.out).mono ?_; rintro e w' ⟨rfl, rfl⟩)
        go_loop [3] (fun i => ∃ k : Nat, k ≤ s.size ∧ i = .int .i64 k ∧ Hid (∀ j (h : j < s.size), j < k → K.wordN true s[j].toNat = true)) (fun i => s.size - (intOf i).toNat)
        case atStart => exact ⟨0, Nat.zero_le _, rfl, fun _ _ h => absurd h (Nat.not_lt_zero _)⟩
        case round =>
          obtain ⟨k, hk, rfl, HW⟩ := hrel
          by_cases hlt : k < s.size
          · have hb : s[k].toNat ≤ 255 := by have := s[k].toNat_lt; omega
            have hst : K.wordN true s[k].toNat = true → Hid (∀ j (h : j < s.size), j < k + 1 → K.wordN true s[j].toNat = true) := by
              intro h j h1 h2
              by_cases hj : j < k
              · exact HW.out j h1 hj
              · have : j = k := by omega
                subst this
                exact h
            have hno : K.wordN true s[k].toNat = false → K.valid 1 s.data.toList = false := by
              intro h
              rw [hv2.out, decide_eq_false_iff_not]
              intro hr
              have := K.runWithin true s.data.toList k (by omega) (by rw [size_list]; exact hlt)
              unfold K.word at this
              have e : s.data.toList[k]'(by rw [size_list]; exact hlt) = s[k] := rfl
              rw [e, h] at this
              cases this
            obtain ⟨a, ha⟩ : ∃ a, K.letterN s[k].toNat = a := ⟨_, rfl⟩
            obtain ⟨d, hd⟩ : ∃ a, K.digitN s[k].toNat = a := ⟨_, rfl⟩
            have hwd : K.wordN true s[k].toNat = (d || a) := by unfold K.wordN; rw [ha, hd, Bool.true_and]
            have HA := Lib.hid ha
            have HD := Lib.hid hd
            cases hda : (d || a)
            · rw [hda] at hwd
              have HF := Lib.hid (hno hwd)
              obtain ⟨rfl, rfl⟩ : d = false ∧ a = false := by simpa using hda
              clear hst hno hwd ha hd hda
              go_wp2_with fail
              refine (Letter_is _ _ _ HA.out).mono ?_
              rintro e w' ⟨rfl, rfl⟩
              go_wp2_with fail
              refine (Digit_is _ _ _ HD.out).mono ?_
              rintro e w' ⟨rfl, rfl⟩
              go_wp2_with fail
              go_ret
              exact ⟨by rw [HF.out]; rfl, rfl⟩
            · rw [hda] at hwd
              have HG := hst hwd
              clear hst hno hwd ha hd
              cases a
              · obtain rfl : d = true := by simpa using hda
                clear hda
                go_wp2_with fail
                refine (Letter_is _ _ _ HA.out).mono ?_
                rintro e w' ⟨rfl, rfl⟩
                go_wp2_with fail
                refine (Digit_is _ _ _ HD.out).mono ?_
                rintro e w' ⟨rfl, rfl⟩
                go_wp2_with fail
                go_round
                case rel => exact ⟨k + 1, by omega, by go_num, HG⟩
                case measure => simp [intOf]; omega
              · clear hda
                go_wp2_with fail
                refine (Letter_is _ _ _ HA.out).mono ?_
                rintro e w' ⟨rfl, rfl⟩
                go_wp2_with fail
                go_round
                case rel => exact ⟨k + 1, by omega, by go_num, HG⟩
                case measure => simp [intOf]; omega
          · obtain rfl : k = s.size := by omega
            have hfin : Hid (K.valid 1 s.data.toList = true) := by
              unfold Hid
              rw [hv2.out, decide_eq_true_eq]
              refine K.run_eq true _ _ (by rw [size_list]; exact Nat.le_refl _) (fun j h h2 => ?_) (fun h => ?_)
              · rw [size_list] at h
                exact HW.out j h h2
              · rw [size_list] at h; exact absurd h (Nat.lt_irrefl _)
            go_wp2_with fail
            go_ret
            exact ⟨by rw [hfin.out]; rfl, rfl⟩
      · have hl' : K.letterN s[0].toNat = false := by simpa using hl
        have hf : Hid (K.valid 1 s.data.toList = false) := by unfold Hid; rw [hv, hl']; simp
        have HL := Lib.hid hl'
        clear hv hl hl'
        go_enter Tryz.func90, Tryz.ntmps90
        go_wp2_with (go_at_call 119; refine (Letter_is _ _ _ HL.out).mono ?_; rintro e w' ⟨rfl, rfl⟩)
        go_ret
        exact ⟨by rw [hf.out]; rfl, rfl⟩
  · have he : s.data.toList = [] := List.eq_nil_of_length_eq_zero (by rw [size_list]; omega)
    have hf : Hid (K.valid 1 s.data.toList = false) := by rw [he]; exact K.valid_nil 1
    clear he
    go_enter Tryz.func90, Tryz.ntmps90
    go_wp2_with fail
    go_ret
    exact ⟨by rw [hf.out]; rfl, rfl⟩

theorem K.name_eq (l : List UInt8) : K.name l = (K.valid 1 l && !K.has K.keywords l) := by unfold K.name K.has; rw [Bool.and_comm]
set_option maxHeartbeats 400000 in
theorem refName_any (s : ByteArray) (w : World) (hs : s.size ≤ 9223372036854775807) : Calls Tryz.prog 52 #[.string s] w (Al (.bool (K.name s.data.toList)) w) := by
  have hn := K.name_eq s.data.toList
  obtain ⟨a, ha⟩ : ∃ a, K.valid 1 s.data.toList = a := ⟨_, rfl⟩
  obtain ⟨b, hb⟩ : ∃ a, K.has K.keywords s.data.toList = a := ⟨_, rfl⟩
  rw [ha, hb] at hn
  have HA := Lib.hid ha
  have HB := Lib.hid hb
  have HN := Lib.hid hn
  clear ha hb hn
  cases a
  · go_enter Tryz.func52, Tryz.ntmps52
    go_wp2_with fail
    refine (form_any s _ hs).mono ?_
    rw [HA.out]
    rintro e w' ⟨rfl, rfl⟩
    go_wp2_with fail
    go_ret
    exact ⟨by rw [HN.out]; rfl, Ext.refl _⟩
  · go_enter Tryz.func52, Tryz.ntmps52
    go_wp2_with fail
    refine (form_any s _ hs).mono ?_
    rw [HA.out]
    rintro e w' ⟨rfl, rfl⟩
    go_wp2_with fail
    refine (Keyword_any s _).mono ?_
    rw [HB.out]
    rintro e w1 ⟨rfl, d1⟩
    go_wp2_with fail
    go_ret
    exact ⟨by rw [HN.out]; simp, d1⟩

end Go.Proofs.YtfbhchpbflaphaaGreatDoor

/- Names of files: tree.part, tree.Path. -/
namespace Go.Proofs.YtfbhchpbflaphaaGreatDoor
open Go.RowKit

/-- The letters of a name. -/
def runeB (n : Int) : Bool := (decide (97 ≤ n) && decide (n ≤ 122)) || (decide (48 ≤ n) && decide (n ≤ 57)) || decide (n = 46) || decide (n = 95) || decide (n = 45)

set_option maxHeartbeats 400000 in
theorem pred56 (w : World) : PredAt Tryz.prog 143 #[] encR (fun r => !runeB (r : Int)) w := by
  intro W x hb
  have hv : Hid (runeB (x : Int) = ((decide (97 ≤ (x : Int)) && decide ((x : Int) ≤ 122)) || (decide (48 ≤ (x : Int)) && decide ((x : Int) ≤ 57)) || decide ((x : Int) = 46) || decide ((x : Int) = 95) || decide ((x : Int) = 45))) := rfl
  unfold FnGives
  by_cases h1 : 97 ≤ (x : Int) ∧ (x : Int) ≤ 122
  · obtain ⟨g1, g2⟩ := h1
    go_enter Tryz.func143, Tryz.ntmps143
    go_wp2_with fail
    go_ret
    exact ⟨ret_bool (by rw [hv.out]; simp; omega), 0, rfl⟩
  · by_cases h2 : 48 ≤ (x : Int) ∧ (x : Int) ≤ 57
    · obtain ⟨g1, g2⟩ := h2
      go_enter Tryz.func143, Tryz.ntmps143
      go_wp2_with fail
      go_ret
      exact ⟨ret_bool (by rw [hv.out]; simp; omega), 0, rfl⟩
    · by_cases h3 : (x : Int) = 46
      · have e1 : ((x : Int) == 46) = true := by simp [h3]
        have g1 : (x : Int) < 48 := by omega
        have g2 : 0 ≤ (x : Int) := by omega
        clear h1 h2
        go_enter Tryz.func143, Tryz.ntmps143
        go_wp2_with fail
        go_ret
        exact ⟨ret_bool (by rw [hv.out]; simp [h3]), 0, rfl⟩
      · have e1 : ((x : Int) == 46) = false := by simp; omega
        have tail : ∀ b2 b3, ((x : Int) == 95) = b2 → ((x : Int) == 45) = b3 → runeB (x : Int) = (b2 || b3) → ((x : Int) < 48 ∨ (57 < (x : Int) ∧ (x : Int) < 97) ∨ 122 < (x : Int)) → Calls Tryz.prog 143 (#[encR x] ++ #[]) W fun e w' => e = Ending.returned (Value.bool ((fun r : Nat => !runeB (r : Int)) x)) ∧ ∃ q, w' = W.drewN q := by
          intro b2 b3 e2 e3 hr hc
          have HR := Lib.hid hr
          clear hr h1 h2 h3 hv
          rcases hc with g | ⟨g, g'⟩ | g <;> cases b2 <;> cases b3
          all_goals
            go_enter Tryz.func143, Tryz.ntmps143
            go_wp2_with fail
            go_ret
            exact ⟨ret_bool (by show _ = !runeB _; rw [HR.out]; first | rfl | (simp; omega)), 0, rfl⟩
        refine tail _ _ rfl rfl ?_ (by omega)
        rw [hv.out]
        have c1 : (decide (97 ≤ (x : Int)) && decide ((x : Int) ≤ 122)) = false := by simp; omega
        have c2 : (decide (48 ≤ (x : Int)) && decide ((x : Int) ≤ 57)) = false := by simp; omega
        have c3 : decide ((x : Int) = 46) = false := by simp; omega
        rw [c1, c2, c3]
        rfl

theorem eg56 : ∀ (args : Array Value) (w : World), (callFunc 143 args).run Tryz.prog w = .ok (.enter 143 args) w := enters_of Tryz.func143 (by kernel_rfl) rfl
/-- Are all letters those of a name? -/
def allRunes (s : ByteArray) : Bool := !decide (0 ≤ Lib.idxFunc (fun r => !runeB (r : Int)) true s)
/-- What a name is. -/
def partB (s : ByteArray) : Bool := if h : 0 < s.size then (if 32 < s.size then false else if s[0] = 46 then false else if s[0] = 45 then false else allRunes s) else false

set_option maxHeartbeats 400000 in
theorem part_any (s : ByteArray) (w : World) (hs : s.size ≤ 9223372036854775807) : Calls Tryz.prog 132 #[.string s] w (Al (.bool (partB s)) w) := by
  by_cases h0 : 0 < s.size
  · have hne : s.toList.isEmpty = false := by
      rw [ByteArray.toList_eq]
      have hl : s.data.toList.length = s.size := by simp
      cases hq : s.data.toList with
      | nil => rw [hq] at hl; simp at hl; omega
      | cons a l => rfl
    have HP : Hid (partB s = if 32 < s.size then false else if s[0] = 46 then false else if s[0] = 45 then false else allRunes s) := by unfold Hid partB; rw [dif_pos h0]
    have hb : s[0].toNat ≤ 255 := by have := s[0].toNat_lt; omega
    by_cases h32 : 32 < s.size
    · have hp : partB s = false := by rw [HP.out, if_pos h32]
      rw [hp]
      go_enter Tryz.func132, Tryz.ntmps132
      go_wp2_with fail
      go_ret
      exact ⟨rfl, Ext.refl _⟩
    · by_cases h46 : s[0] = 46
      · have hp : partB s = false := by rw [HP.out, if_neg h32, if_pos h46]
        have e1 : ((s[0].toNat : Int) == 46) = true := by rw [h46]; rfl
        rw [hp]
        go_enter Tryz.func132, Tryz.ntmps132
        go_wp2_with fail
        go_ret
        exact ⟨rfl, Ext.refl _⟩
      · have e1 : ((s[0].toNat : Int) == 46) = false := by
          simp only [beq_eq_false_iff_ne, ne_eq]
          intro e
          exact h46 (UInt8.toNat_inj.1 (by show s[0].toNat = 46; omega))
        by_cases h45 : s[0] = 45
        · have hp : partB s = false := by rw [HP.out, if_neg h32, if_neg h46, if_pos h45]
          have e2 : ((s[0].toNat : Int) == 45) = true := by rw [h45]; rfl
          rw [hp]
          go_enter Tryz.func132, Tryz.ntmps132
          go_wp2_with fail
          go_ret
          exact ⟨rfl, Ext.refl _⟩
        · have e2 : ((s[0].toNat : Int) == 45) = false := by
            simp only [beq_eq_false_iff_ne, ne_eq]
            intro e
            exact h45 (UInt8.toNat_inj.1 (by show s[0].toNat = 45; omega))
          obtain ⟨R, hR⟩ : ∃ R, decide (0 ≤ Lib.idxFunc (fun r => !runeB (r : Int)) true s) = R := ⟨_, rfl⟩
          have hp : partB s = !R := by rw [HP.out, if_neg h32, if_neg h46, if_neg h45, allRunes, hR]
          have HR := Lib.hid hR
          rw [hp]
          clear hR
          go_enter Tryz.func132, Tryz.ntmps132
          go_wp2_with fail
          refine (Tryz.strings_ContainsFunc 143 #[] eg56 (fun r => !runeB (r : Int)) s _ (pred56 _)).mono ?_
          rw [HR.out]
          rintro e w1 ⟨rfl, d1⟩
          go_wp2_with fail
          go_ret
          exact ⟨rfl, d1⟩
  · have hz : s.size = 0 := by omega
    have hp : partB s = false := by unfold partB; rw [dif_neg h0]
    have hne : s.toList.isEmpty = true := by
      rw [ByteArray.toList_eq]
      have hl : s.data.toList.length = s.size := by simp
      cases hq : s.data.toList with
      | nil => rfl
      | cons a l => rw [hq] at hl; simp at hl; omega
    rw [hp]
    clear h0
    go_enter Tryz.func132, Tryz.ntmps132
    go_wp2_with fail
    go_ret
    exact ⟨rfl, Ext.refl _⟩

end Go.Proofs.YtfbhchpbflaphaaGreatDoor

/- slices.ContainsFunc of strings; tree.Path. -/
namespace Go.Proofs.YtfbhchpbflaphaaGreatDoor
open Go.RowKit

set_option maxHeartbeats 400000 in
theorem notPart_any (s : ByteArray) (w : World) (hs : s.size ≤ 9223372036854775807) : Calls Tryz.prog 131 #[.string s] w (Al (.bool (!partB s)) w) := by
  have h := fun w' => part_any s w' hs
  have HH := Lib.hid h
  clear h
  generalize partB s = B at *
  go_enter Tryz.func131, Tryz.ntmps131
  go_wp2_with (go_at_call 132; refine (HH.out _).mono ?_; rintro e w1 ⟨rfl, d1⟩)
  go_ret
  exact ⟨rfl, d1⟩
theorem eg47 : ∀ (args : Array Value) (w : World), (callFunc 131 args).run Tryz.prog w = .ok (.enter 131 args) w := enters_of Tryz.func131 (by kernel_rfl) rfl

set_option maxHeartbeats 400000 in
theorem IndexStr (l : List ByteArray) (b c L g : Nat) (lb : Array Value) (p : ByteArray → Bool) (w : World) (eg : ∀ args w, (callFunc g args).run Tryz.prog w = .ok (.enter g args) w) (hL : L = l.length) (hL2 : L ≤ 9000000)
    (hc : ∀ j (h : j < l.length), w.cell? ⟨b, j, none⟩ = some (.string l[j])) (hp : ∀ x ∈ l, ∀ w', Calls Tryz.prog g (#[.string x] ++ lb) w' (Al (.bool (p x)) w')) :
    Calls Tryz.prog 141 #[.slice (some ⟨b, 0, none⟩) L c, .func (.func g) #[] lb] w fun e w' => (∃ i : Int, e = .returned (.int .i64 i) ∧ decide (0 ≤ i) = l.any p) ∧ Ext w w' := by
  have HC := Lib.hid hc
  have HP := Lib.hid hp
  have HL := Lib.hid hL
  clear hc hp hL
  go_enter Tryz.func141, Tryz.ntmps141
  go_wp2_with fail
  go_loopw [5, 8] (fun _ i wr => ∃ k : Nat, k ≤ L ∧ i = .int .i64 k ∧ Hid (∀ j (h : j < l.length), j < k → p l[j] = false) ∧ Ext w wr) (fun _ i _ => L - (intOf i).toNat)
  case atStart => exact ⟨0, Nat.zero_le _, rfl, fun j _ hj => absurd hj (Nat.not_lt_zero _), Ext.refl _⟩
  case round =>
    obtain ⟨k, hk, rfl, hno, hd⟩ := hrel
    by_cases hlt : k < L
    · have hkl : k < l.length := by have := HL.out; omega
      have c0 := hd.keepc (HC.out k hkl)
      have hcall := HP.out l[k] (List.getElem_mem hkl) wr
      have hk0 : k ≤ 9000000 := by omega
      cases hpk : p l[k] with
      | true =>
        rw [hpk] at hcall
        have HK := Lib.hid hcall
        have HPK := Lib.hid hpk
        clear hcall hpk
        go_wp2_with (go_at_fn g; refine HK.out.mono ?_; rintro e w1 ⟨rfl, d1⟩)
        go_ret
        refine ⟨⟨_, rfl, ?_⟩, hd.trans d1⟩
        rw [List.any_eq_true.2 ⟨l[k], List.getElem_mem hkl, HPK.out⟩]
        simp
      | false =>
        rw [hpk] at hcall
        have HK := Lib.hid hcall
        have HPK := Lib.hid hpk
        clear hcall hpk
        go_wp2_with (go_at_fn g; refine HK.out.mono ?_; rintro e w1 ⟨rfl, d1⟩)
        go_roundw
        case rel =>
          refine ⟨k + 1, by omega, by go_num, fun j h hj => ?_, hd.trans d1⟩
          by_cases e : j = k
          · subst e; exact HPK.out
          · exact hno.out j h (by omega)
        case measure => simp [intOf]; omega
    · have hkL : k = L := by omega
      go_wp2_with fail
      go_ret
      refine ⟨⟨_, rfl, ?_⟩, hd⟩
      have : l.any p = false := by
        rw [List.any_eq_false]
        intro x hx
        obtain ⟨j, hj, rfl⟩ := List.getElem_of_mem hx
        have := hno.out j hj (by have := HL.out; omega)
        simp [this]
      rw [this]
      rfl

set_option maxHeartbeats 400000 in
theorem ContainsStr (l : List ByteArray) (b c L g : Nat) (lb : Array Value) (p : ByteArray → Bool) (w : World) (eg : ∀ args w, (callFunc g args).run Tryz.prog w = .ok (.enter g args) w) (hL : L = l.length) (hL2 : L ≤ 9000000)
    (hc : ∀ j (h : j < l.length), w.cell? ⟨b, j, none⟩ = some (.string l[j])) (hp : ∀ x ∈ l, ∀ w', Calls Tryz.prog g (#[.string x] ++ lb) w' (Al (.bool (p x)) w')) :
    Calls Tryz.prog 130 #[.slice (some ⟨b, 0, none⟩) L c, .func (.func g) #[] lb] w (Al (.bool (l.any p)) w) := by
  have h := IndexStr l b c L g lb p w eg hL hL2 hc hp
  obtain ⟨B, hB⟩ : ∃ B, B = l.any p := ⟨_, rfl⟩
  rw [← hB] at h ⊢
  have HH := Lib.hid h
  clear h hc hp hB eg hL
  go_enter Tryz.func130, Tryz.ntmps130
  go_wp2_with fail
  refine HH.out.mono ?_
  rintro e w1 ⟨⟨i, rfl, hi⟩, d1⟩
  go_wp2_with fail
  go_ret
  exact ⟨rfl, d1⟩

theorem split_len (sep : ByteArray) (h1 : 1 ≤ sep.size) : ∀ (k : Nat) (s : ByteArray), Lib.countB s sep = k → (Lib.splitB sep 0 k s).length = k + 1
  | 0, s, _ => rfl
  | k + 1, s, h => by
    obtain ⟨i, hi⟩ : ∃ i : Nat, Lib.indexB s sep = i := Lib.index_of_count (show 0 < Lib.count s.data.toList sep.data.toList by have : Lib.count s.data.toList sep.data.toList = k + 1 := h; omega)
    have hc := Lib.countB_hit s sep i h1 hi
    rw [Lib.splitB_hit sep 0 k s i hi, List.length_cons, split_len sep h1 k _ (by omega)]

/-- The parts of a path. -/
def pieces (s : ByteArray) : List ByteArray := Lib.splitB ⟨#[47]⟩ 0 (Lib.countB s ⟨#[47]⟩) s
theorem pieces_len (s : ByteArray) : (pieces s).length = Lib.countB s ⟨#[47]⟩ + 1 := split_len ⟨#[47]⟩ (by decide) _ s rfl
/-- What a path is. -/
def pathB (s : ByteArray) : Bool := decide (s.size ≤ 128) && decide ((pieces s).length ≤ 8) && !((pieces s).any fun x => !partB x)

end Go.Proofs.YtfbhchpbflaphaaGreatDoor

/- tree.Path. -/
namespace Go.Proofs.YtfbhchpbflaphaaGreatDoor
open Go.RowKit

theorem extract_le (s : ByteArray) (i j : Nat) : (s.extract i j).size ≤ s.size := by rw [ByteArray.size_extract]; omega
theorem split_sizes (sep : ByteArray) : ∀ (k : Nat) (s : ByteArray), ∀ x ∈ Lib.splitB sep 0 k s, x.size ≤ s.size
  | 0, s, x, hx => by
    rw [Lib.splitB_zero] at hx
    simp at hx
    rw [hx]; exact Nat.le_refl _
  | k + 1, s, x, hx => by
    unfold Lib.splitB at hx
    split at hx
    · simp at hx
      rw [hx]; exact Nat.le_refl _
    · rcases List.mem_cons.1 hx with rfl | hx
      · exact extract_le _ _ _
      · exact Nat.le_trans (split_sizes sep k _ x hx) (extract_le _ _ _)
theorem pieces_sizes (s : ByteArray) : ∀ x ∈ pieces s, x.size ≤ s.size := split_sizes _ _ s

def pathE (s : ByteArray) : Int := if pathB s = true then 0 else 2
set_option maxHeartbeats 400000 in
theorem Path_any (s : ByteArray) (m : Int) (w : World) (hs : s.size ≤ 1000000) (hm : w.cell? ⟨0, 0, none⟩ = some (.int .i64 m)) : Calls Tryz.prog 110 #[.string s] w (Al (.int .i64 (pathE s)) w) := by
  have hsp := fun w' (h : w'.cell? ⟨0, 0, none⟩ = some (.int .i64 m)) => Tryz.strings_Split s ⟨#[47]⟩ m w' (by omega) h (by decide)
  obtain ⟨L, hL⟩ : ∃ L, L = (pieces s).length := ⟨_, rfl⟩
  obtain ⟨X, hX⟩ : ∃ X, X = (pieces s).any (fun x => !partB x) := ⟨_, rfl⟩
  have hpB : pathE s = if decide (s.size ≤ 128) && decide (L ≤ 8) && !X then 0 else 2 := by unfold pathE pathB; rw [← hL, ← hX]
  have hc : ∀ w' : World, ∀ j (h : j < (pieces s).length), (w'.alloc (.cells ((pieces s).map Value.string).toArray 9)).cell? ⟨w'.heap.size, j, none⟩ = some (.string (pieces s)[j]) := fun w' j h => by
    rw [cell_new]; simp [h]
  have hCF := fun (w' : World) => ContainsStr (pieces s) w'.heap.size L L 131 #[] (fun x => !partB x) (w'.alloc (.cells ((pieces s).map Value.string).toArray 9)) eg47 hL (by rw [hL, pieces_len]; have := Lib.count_le s.data.toList [47]; have e : Lib.countB s ⟨#[47]⟩ = Lib.count s.data.toList [47] := rfl; simp at this; omega) (hc w') (fun x hx w'' => by
    have := pieces_sizes s x hx
    exact notPart_any x w'' (by omega))
  rw [← hX] at hCF
  have hLL : Lib.countB s ⟨#[47]⟩ + 1 = L := by rw [hL, pieces_len]
  have hLb : L ≤ 1000002 := by rw [hL, pieces_len]; have := Lib.count_le s.data.toList [47]; have e : Lib.countB s ⟨#[47]⟩ = Lib.count s.data.toList [47] := rfl; simp at this; omega
  have HSP := Lib.hid hsp
  have HCF := Lib.hid hCF
  have HPB := Lib.hid hpB
  have HLL := Lib.hid hLL
  have HM := Lib.hid hm
  clear hsp hCF hpB hLL hm hL hX hc
  by_cases h128 : s.size ≤ 128
  · by_cases h8 : L ≤ 8
    · have he : pathE s = if X then 2 else 0 := by rw [HPB.out]; cases X <;> simp [h128, h8]
      clear HPB
      cases X
      · rw [he]
        clear he
        rw [if_neg (by simp)]
        go_enter Tryz.func110, Tryz.ntmps110
        go_wp2_with fail
        refine (HSP.out _ HM.out).mono ?_
        rw [HLL.out]
        rintro e w1 ⟨rfl, rfl⟩
        go_wp2_with fail
        refine (HCF.out w).mono ?_
        rintro e w2 ⟨rfl, d2⟩
        go_wp2_with fail
        go_ret
        exact ⟨rfl, ((Ext.refl w).alloc _).trans d2⟩
      · rw [he]
        clear he
        rw [if_pos rfl]
        go_enter Tryz.func110, Tryz.ntmps110
        go_wp2_with fail
        refine (HSP.out _ HM.out).mono ?_
        rw [HLL.out]
        rintro e w1 ⟨rfl, rfl⟩
        go_wp2_with fail
        refine (HCF.out w).mono ?_
        rintro e w2 ⟨rfl, d2⟩
        go_wp2_with fail
        go_ret
        exact ⟨rfl, ((Ext.refl w).alloc _).trans d2⟩
    · have he : pathE s = 2 := by rw [HPB.out]; simp [h8]
      rw [he]
      clear he HPB
      go_enter Tryz.func110, Tryz.ntmps110
      go_wp2_with fail
      refine (HSP.out _ HM.out).mono ?_
      rw [HLL.out]
      rintro e w1 ⟨rfl, rfl⟩
      go_wp2_with fail
      go_ret
      exact ⟨rfl, (Ext.refl w).alloc _⟩
  · have he : pathE s = 2 := by rw [HPB.out]; simp [h128]
    rw [he]
    clear he HPB
    go_enter Tryz.func110, Tryz.ntmps110
    go_wp2_with fail
    refine (HSP.out _ HM.out).mono ?_
    rw [HLL.out]
    rintro e w1 ⟨rfl, rfl⟩
    go_wp2_with fail
    go_ret
    exact ⟨rfl, (Ext.refl w).alloc _⟩

end Go.Proofs.YtfbhchpbflaphaaGreatDoor

/- The reference's names of paths. -/
namespace Go.Proofs.YtfbhchpbflaphaaGreatDoor
open Go.RowKit

theorem take_snoc (s : ByteArray) (k : Nat) (h : k < s.size) : s.data.toList.take (k + 1) = s.data.toList.take k ++ [s[k]] := by
  rw [List.take_succ_eq_append_getElem (by simpa using h)]; rfl
/-- The letters of a name. -/
def okc (c : UInt8) : Bool := runeB (c.toNat : Int)
/-- A name, by its bytes. -/
def nameB (l : List UInt8) : Bool := decide (1 ≤ l.length) && decide (l.length ≤ 32) && l.head? != some 46 && l.head? != some 45 && l.all okc

theorem head_get (s : ByteArray) (h : 0 < s.size) : s.data.toList.head? = some s[0] := by
  have hl : 0 < s.data.toList.length := by simpa using h
  rw [List.head?_eq_getElem?, List.getElem?_eq_getElem hl]
  rfl
theorem name_of (s : ByteArray) (h : 0 < s.size) : nameB s.data.toList = (decide (s.size ≤ 32) && decide (¬ (s[0].toNat : Int) = 46) && decide (¬ (s[0].toNat : Int) = 45) && s.data.toList.all okc) := by
  have e1 : ∀ n : UInt8, (s.data.toList.head? != some n) = decide (¬ (s[0].toNat : Int) = (n.toNat : Int)) := by
    intro n
    rw [head_get s h, Bool.eq_iff_iff]
    have : s[0] = n ↔ s[0].toNat = n.toNat := UInt8.toNat_inj.symm
    simp [this]
    omega
  unfold nameB
  rw [e1 46, e1 45]
  have h1 : 1 ≤ s.size := h
  simp [h1]
theorem all_take_snoc (s : ByteArray) (k : Nat) (h : k < s.size) (p : UInt8 → Bool) : (s.data.toList.take (k + 1)).all p = ((s.data.toList.take k).all p && p s[k]) := by
  rw [take_snoc s k h, List.all_append]
  simp

/-- The ways of a letter through the tests. -/
theorem rune_ways (n : Int) : (runeB n = true ∧ ((97 ≤ n ∧ n ≤ 122) ∨ (48 ≤ n ∧ n ≤ 57) ∨ (n = 46 ∧ (n != 46) = false) ∨ (n = 95 ∧ (n != 46) = true ∧ (n != 95) = false) ∨ (n = 45 ∧ (n != 46) = true ∧ (n != 95) = true ∧ (n != 45) = false))) ∨
    (runeB n = false ∧ (n != 46) = true ∧ (n != 95) = true ∧ (n != 45) = true ∧ (122 < n ∨ (57 < n ∧ n < 97) ∨ n < 48)) := by
  unfold runeB
  simp
  omega
theorem all_miss {s : ByteArray} {k : Nat} {p : UInt8 → Bool} (h : k < s.size) (hp : p s[k] = false) : s.data.toList.all p = false := by
  rw [List.all_eq_false]
  exact ⟨s[k], by have : s[k] = s.data.toList[k]'(by simpa using h) := rfl
                  rw [this]; exact List.getElem_mem _, by simp [hp]⟩

/-- All letters up to k are those of a name. -/
def okTo (s : ByteArray) (k : Nat) : Prop := (s.data.toList.take k).all okc = true

set_option maxRecDepth 8000 in
set_option maxHeartbeats 1000000 in
theorem name_any (s : ByteArray) (w : World) (hs : s.size ≤ 9223372036854775807) : Calls Tryz.prog 118 #[.string s] w fun e w' => e = .returned (.bool (nameB s.data.toList)) ∧ w = w' := by
  by_cases h1 : 1 ≤ s.size
  · by_cases h2 : s.size ≤ 32
    · have hb : s[0].toNat ≤ 255 := by have := s[0].toNat_lt; omega
      have HN := Lib.hid (name_of s h1)
      go_enter Tryz.func118, Tryz.ntmps118
      go_wp2_with fail
      · have g : (s[0].toNat : Int) = 46 := by assumption
        go_ret
        exact ⟨ret_bool (by rw [HN.out]; simp [g]), rfl⟩
      · have g : (((s.size : Int) < 1 ∨ (32 : Int) < s.size) ∨ ((s[0].toNat : Int) == 46) = true) ∨ ((s[0].toNat : Int) == 45) = true := by assumption
        have g2 : (s[0].toNat : Int) = 46 ∨ (s[0].toNat : Int) = 45 := by simp at g; omega
        go_ret
        exact ⟨ret_bool (by rw [HN.out]; rcases g2 with g2 | g2 <;> simp [g2]), rfl⟩
      · have g : (((1 : Int) ≤ s.size ∧ (s.size : Int) ≤ 32) ∧ ((s[0].toNat : Int) == 46) = false) ∧ ((s[0].toNat : Int) == 45) = false := by assumption
        have g2 : ¬ (s[0].toNat : Int) = 46 ∧ ¬ (s[0].toNat : Int) = 45 := by simp at g; omega
        have G2 := Lib.hid g2
        clear g g2
        go_loop [3] (fun i => ∃ k : Nat, k ≤ s.size ∧ i = .int .i64 k ∧ okTo s k) (fun i => s.size - (intOf i).toNat)
        case atStart => exact ⟨0, Nat.zero_le _, rfl, rfl⟩
        case round =>
          obtain ⟨k, hk, rfl, HK⟩ := hrel
          by_cases hlt : k < s.size
          · have hx : s[k].toNat ≤ 255 := by have := s[k].toNat_lt; omega
            have HT := Lib.hid (all_take_snoc s k hlt okc)
            rcases rune_ways (s[k].toNat : Int) with ⟨ho, hw⟩ | ⟨ho, h46, h95, h45, hw⟩
            · have HS : okTo s (k + 1) := by unfold okTo at HK ⊢; rw [HT.out, HK]; exact ho
              clear ho HT
              rcases hw with ⟨g1, g2⟩ | ⟨g1, g2⟩ | ⟨g1, g2⟩ | ⟨g1, g2, g3⟩ | ⟨g1, g2, g3, g4⟩
              all_goals
                go_wp2_with fail
                go_round
                case rel => exact ⟨k + 1, by omega, by go_num, HS⟩
                case measure => simp [intOf]; omega
            · have HS : Hid (s.data.toList.all okc = false) := all_miss hlt ho
              clear ho HT
              rcases hw with g1 | ⟨g1, g2⟩ | g1
              all_goals
                go_wp2_with fail
                go_ret
                exact ⟨ret_bool (by rw [HN.out, HS.out]; simp), rfl⟩
          · have hks : k = s.size := by omega
            have HF : Hid (s.data.toList.all okc = true) := by unfold Hid; unfold okTo at HK; rwa [hks, List.take_of_length_le (by simp)] at HK
            go_wp2_with fail
            go_ret
            exact ⟨ret_bool (by rw [HN.out, HF.out]; simp [G2.out.1, G2.out.2, h2]), rfl⟩
    · have hn : nameB s.data.toList = false := by rw [name_of s h1]; simp [h2]
      rw [hn]
      clear hn
      go_enter Tryz.func118, Tryz.ntmps118
      go_wp2_with fail
      go_ret
      exact ⟨rfl, rfl⟩
  · have hn : nameB s.data.toList = false := by unfold nameB; have : decide (1 ≤ s.data.toList.length) = false := by simpa using h1
                                                rw [this]; rfl
    rw [hn]
    clear hn
    go_enter Tryz.func118, Tryz.ntmps118
    go_wp2_with fail
    go_ret
    exact ⟨rfl, rfl⟩
end Go.Proofs.YtfbhchpbflaphaaGreatDoor

/- Plain facts on strings: the parts between bytes of a kind; whether all letters are of a kind. No program in sight. -/
namespace Go.Proofs.YtfbhchpbflaphaaGreatDoor.Seg

/-- The parts between the bytes c. -/
def segs (c : UInt8) : List UInt8 → List (List UInt8)
  | [] => [[]]
  | x :: l => if x = c then [] :: segs c l else match segs c l with
    | y :: r => (x :: y) :: r
    | [] => [[x]]
theorem segs_ne (c : UInt8) : ∀ l, segs c l ≠ []
  | [] => by simp [segs]
  | x :: l => by
    unfold segs
    split
    · simp
    · split <;> simp
theorem segs_stop (c : UInt8) : ∀ x : List UInt8, (∀ b ∈ x, b ≠ c) → segs c x = [x]
  | [], _ => rfl
  | b :: x, h => by
    unfold segs
    rw [if_neg (h b List.mem_cons_self), segs_stop c x fun b hb => h b (List.mem_cons_of_mem _ hb)]
theorem segs_cons (c x : UInt8) (l : List UInt8) : segs c (x :: l) = if x = c then [] :: segs c l else match segs c l with
    | y :: r => (x :: y) :: r
    | [] => [[x]] := rfl
theorem segs_cut (c : UInt8) (r : List UInt8) : ∀ x : List UInt8, (∀ b ∈ x, b ≠ c) → segs c (x ++ c :: r) = x :: segs c r
  | [], _ => by simp [segs]
  | b :: x, h => by
    rw [List.cons_append, segs_cons, if_neg (h b List.mem_cons_self), segs_cut c r x fun b hb => h b (List.mem_cons_of_mem _ hb)]
/-- At a place where the byte stands, and behind which it has not stood since f. -/
theorem segs_at (c : UInt8) (l : List UInt8) (f k : Nat) (hfk : f ≤ k) (hk : k < l.length) (hno : ∀ j (h : j < l.length), f ≤ j → j < k → l[j] ≠ c) (hc : l[k] = c) :
    segs c (l.drop f) = (l.drop f).take (k - f) :: segs c (l.drop (k + 1)) := by
  have e : l.drop f = (l.drop f).take (k - f) ++ c :: l.drop (k + 1) := by
    conv => lhs; rw [← List.take_append_drop (k - f) (l.drop f)]
    rw [List.drop_drop, show f + (k - f) = k by omega, List.drop_eq_getElem_cons hk, hc]
  conv => lhs; rw [e]
  refine segs_cut c _ _ fun b hb => ?_
  obtain ⟨j, hj, rfl⟩ := List.getElem_of_mem hb
  simp only [List.length_take, List.length_drop] at hj
  have := hno (f + j) (by omega) (by omega) (by omega)
  simpa using this
theorem segs_end (c : UInt8) (l : List UInt8) (f : Nat) (hno : ∀ j (h : j < l.length), f ≤ j → l[j] ≠ c) : segs c (l.drop f) = [l.drop f] := by
  refine segs_stop c _ fun b hb => ?_
  obtain ⟨j, hj, rfl⟩ := List.getElem_of_mem hb
  simp only [List.length_drop] at hj
  have := hno (f + j) (by omega) (by omega)
  simpa using this

theorem occ_one {s : List UInt8} {c : UInt8} {i : Nat} : Lib.occAt s [c] i = true ↔ s[i]? = some c := by
  unfold Lib.occAt
  cases h : s.drop i with
  | nil =>
    have := List.drop_eq_nil_iff.1 h
    simp [List.getElem?_eq_none this]
  | cons a t =>
    have : s[i]? = some a := by rw [← Nat.add_zero i, ← List.getElem?_drop, h]; rfl
    rw [this]
    simp [List.isPrefixOf]
    exact eq_comm
theorem splitK_segs (c : UInt8) : ∀ (k : Nat) (s : List UInt8), Lib.count s [c] = k → Lib.splitK [c] 0 k s = segs c s
  | 0, s, h => by
    rcases Lib.index_spec s [c] with ⟨_, hn⟩ | ⟨i, hi, _⟩
    · show [s] = _
      refine (segs_stop c s fun b hb he => ?_).symm
      obtain ⟨j, hj, rfl⟩ := List.getElem_of_mem hb
      have := hn j (by omega)
      rw [Bool.eq_false_iff] at this
      exact this (occ_one.2 (by rw [List.getElem?_eq_getElem hj, he]))
    · rw [Lib.count_hit (by simp) hi] at h
      omega
  | k + 1, s, h => by
    rcases Lib.index_spec s [c] with ⟨hm, _⟩ | ⟨i, hi, hle, ho, hno⟩
    · rw [Lib.count_miss hm] at h
      omega
    · have hc := occ_one.1 ho
      have hil : i < s.length := by
        rcases Nat.lt_or_ge i s.length with h | h
        · exact h
        · rw [List.getElem?_eq_none h] at hc; cases hc
      have hcg : s[i] = c := by rw [List.getElem?_eq_getElem hil] at hc; exact Option.some.inj hc
      rw [Lib.count_hit (by simp) hi] at h
      have hm : ¬ (Lib.index s [c] == -1) = true := fun e => by have := beq_iff_eq.1 e; omega
      rw [Lib.splitK, if_neg hm, hi]
      have e := segs_at c s 0 i (Nat.zero_le _) hil (fun j hj _ hji he => by
        have := hno j hji
        rw [Bool.eq_false_iff] at this
        exact this (occ_one.2 (by rw [List.getElem?_eq_getElem hj, he]))) hcg
      rw [List.drop_zero, Nat.sub_zero] at e
      rw [e]
      have hk := splitK_segs c k (s.drop (i + 1)) (by simp at h; omega)
      simp only [List.length_singleton, Nat.add_zero, Int.toNat_natCast]
      rw [hk]
/-- strings.Split at one byte. -/
theorem splitB_segs (c : UInt8) (s : ByteArray) : (Lib.splitB ⟨#[c]⟩ 0 (Lib.countB s ⟨#[c]⟩) s).map (·.data.toList) = segs c s.data.toList := by
  rw [Lib.splitB_data]
  exact splitK_segs c _ _ rfl

/-- strings.IndexFunc finds a letter that is not of the kind, where one is. -/
theorem idxFrom_all (q : Nat → Bool) (hq : ∀ n, 128 ≤ n → q n = true) (s : ByteArray) : ∀ (f pos : Nat), s.size - pos ≤ f → pos ≤ s.size →
    decide (0 ≤ Lib.idxFuncFrom q true s f pos) = (s.data.toList.drop pos).any fun c => q c.toNat
  | 0, pos, h, h2 => by
    have e : s.data.toList.drop pos = [] := List.drop_eq_nil_of_le (by simp [ByteArray.size_data] at *; omega)
    rw [e]
    rfl
  | f + 1, pos, h, h2 => by
    unfold Lib.idxFuncFrom
    by_cases hlt : pos < s.size
    · rw [if_pos hlt]
      have hl : s.data.toList.length = s.size := by simp
      have e : s.data.toList.drop pos = s[pos] :: s.data.toList.drop (pos + 1) := by
        rw [List.drop_eq_getElem_cons (by omega)]
        congr 1
      rw [e, List.any_cons]
      by_cases hc : q s[pos].toNat = true
      · have : q (Utf8.decode s pos).1 = true := by
          rcases Nat.lt_or_ge s[pos].toNat 128 with h5 | h5
          · rw [decode_ascii s pos hlt h5]; exact hc
          · exact hq _ (decode_high s pos hlt h5).1
        rw [if_pos (by rw [this]), hc]
        simp
      · have h5 : s[pos].toNat < 128 := by
          rcases Nat.lt_or_ge s[pos].toNat 128 with h5 | h5
          · exact h5
          · exact absurd (hq _ h5) hc
        rw [decode_ascii s pos hlt h5, if_neg (by simpa using hc), idxFrom_all q hq s f (pos + 1) (by omega) (by omega)]
        simp [Bool.not_eq_true _ ▸ hc]
    · have e : s.data.toList.drop pos = [] := List.drop_eq_nil_of_le (by simp [ByteArray.size_data] at *; omega)
      rw [if_neg hlt, e]
      rfl
theorem idxFunc_all (q : Nat → Bool) (hq : ∀ n, 128 ≤ n → q n = true) (s : ByteArray) : decide (0 ≤ Lib.idxFunc q true s) = s.data.toList.any fun c => q c.toNat := by
  unfold Lib.idxFunc
  rw [idxFrom_all q hq s _ 0 (by omega) (by omega)]
  simp

end Go.Proofs.YtfbhchpbflaphaaGreatDoor.Seg
