/- Contracts of the reference's Letter, Digit, Has, Symbols, Keyword, form, Name, Number; the walk of TokenWords. -/
import Derived.Test.YtaniamfonkfekaaI
namespace Go.Proofs.Ytaniamfonkfekaa
open Go.RowKit Go.Lib

theorem Letter_any (n : Int) (w : World) : Calls Try.prog 41 #[.int .u8 n] w fun e w' => e = .returned (.bool (K.letterN n)) ∧ w = w' := by
  have hv : Hid (K.letterN n = (decide (97 ≤ n ∧ n ≤ 122) || decide (n = 95))) := rfl
  go_enter Try.func41, Try.ntmps41
  go_wp2
  all_goals
    go_ret
    exact ⟨ret_bool (by rw [hv.out, Bool.eq_iff_iff]; simp; try omega), rfl⟩
theorem Digit_any (n : Int) (w : World) : Calls Try.prog 29 #[.int .u8 n] w fun e w' => e = .returned (.bool (K.digitN n)) ∧ w = w' := by
  have hv : Hid (K.digitN n = decide (48 ≤ n ∧ n ≤ 57)) := rfl
  go_enter Try.func29, Try.ntmps29
  go_wp2
  all_goals
    go_ret
    exact ⟨ret_bool (by rw [hv.out, Bool.eq_iff_iff]; simp; try omega), rfl⟩
theorem Letter_is (n : Int) (b : Bool) (w : World) (h : K.letterN n = b) : Calls Try.prog 41 #[.int .u8 n] w fun e w' => e = .returned (.bool b) ∧ w = w' := h ▸ Letter_any n w
theorem Digit_is (n : Int) (b : Bool) (w : World) (h : K.digitN n = b) : Calls Try.prog 29 #[.int .u8 n] w fun e w' => e = .returned (.bool b) ∧ w = w' := h ▸ Digit_any n w

def K.has (l : List (List UInt8)) (x : List UInt8) : Bool := l.contains x
set_option maxHeartbeats 1000000 in
theorem Has_any (b o c n : Nat) (l : List (List UInt8)) (s : ByteArray) (w : World) (hn : n = l.length) (hn2 : n ≤ 1000) (hc : ∀ j (h : j < l.length), w.cell? ⟨b, o + j, none⟩ = some (.string (str l[j]))) :
    Calls Try.prog 46 #[.slice (some ⟨b, o, none⟩) n c, .string s] w fun e w' => e = .returned (.bool (K.has l s.data.toList)) ∧ w = w' := by
  have HC := Lib.hid hc
  have HN := Lib.hid hn
  clear hc hn
  go_enter Try.func46, Try.ntmps46
  go_wp2_with fail
  go_loop [9] (fun i => ∃ k : Nat, k ≤ n ∧ i = .int .i64 k ∧ Hid ((l.take k).contains s.data.toList = false)) (fun i => n - (intOf i).toNat)
  case atStart => exact ⟨0, Nat.zero_le _, rfl, rfl⟩
  case round =>
    obtain ⟨k, hk, rfl, HF⟩ := hrel
    by_cases hlt : k < n
    · have hkl : k < l.length := by have := HN.out; omega
      have c0 := HC.out k hkl
      have hst : Hid ((l.take (k + 1)).contains s.data.toList = (l[k] == s.data.toList)) := by
        unfold Hid
        rw [List.take_succ_eq_append_getElem hkl, List.contains_append, HF.out]
        rw [Bool.eq_iff_iff]
        simp
        exact eq_comm
      have hyes : (l[k] == s.data.toList) = true → K.has l s.data.toList = true := by
        intro h
        unfold K.has
        have : l[k] = s.data.toList := by simpa using h
        rw [List.contains_eq_mem, decide_eq_true_eq, ← this]
        exact List.getElem_mem hkl
      have HY := Lib.hid hyes
      have e1 : (str l[k]).toList = l[k] := by rw [ByteArray.toList_eq]; rfl
      have e2 : s.toList = s.data.toList := ByteArray.toList_eq s
      have E1 := Lib.hid e1
      have E2 := Lib.hid e2
      obtain ⟨t, ht⟩ : ∃ t, t = str l[k] := ⟨_, rfl⟩
      rw [← ht] at c0 E1
      obtain ⟨bb, hbb⟩ : ∃ bb, (t.toList == s.toList) = bb := ⟨_, rfl⟩
      have hbb2 : Hid ((l[k] == s.data.toList) = bb) := by unfold Hid; rw [← E1.out, ← E2.out]; exact hbb
      clear hyes e1 e2 ht
      cases bb
      · have hne : ¬ t.toList = s.toList := by simpa using hbb
        have hne' : (t.toList == s.toList) = false := hbb
        clear hbb
        go_wp2_with fail
        go_round
        case rel => exact ⟨k + 1, by omega, by go_num, by unfold Hid; rw [hst.out]; exact hbb2.out⟩
        case measure => simp [intOf]; omega
      · have HYY := Lib.hid (HY.out hbb2.out)
        have heq : (t.toList == s.toList) = true := hbb
        have heq' : t.toList = s.toList := by simpa using hbb
        have HEQ' := Lib.hid heq'
        clear HY hbb heq'
        go_wp2_with fail
        go_ret
        exact ⟨by rw [HYY.out]; rfl, rfl⟩
    · obtain rfl : k = n := by omega
      have hfin : Hid (K.has l s.data.toList = false) := by
        have := HF.out
        unfold Hid K.has
        rwa [List.take_of_length_le (by have := HN.out; omega)] at this
      go_wp2_with fail
      go_ret
      exact ⟨by rw [hfin.out]; rfl, rfl⟩

def K.symbols : List (List UInt8) := [[124, 124], [38, 38], [61, 61], [33, 61], [60, 61], [62, 61], [60, 60], [62, 62], [124], [94], [38], [60], [62], [43], [45], [42], [47], [37], [126], [33], [40], [41], [44], [61]]
def K.symCells : Array Value := #[.string ⟨#[124, 124]⟩, .string ⟨#[38, 38]⟩, .string ⟨#[61, 61]⟩, .string ⟨#[33, 61]⟩, .string ⟨#[60, 61]⟩, .string ⟨#[62, 61]⟩, .string ⟨#[60, 60]⟩, .string ⟨#[62, 62]⟩, .string ⟨#[124]⟩, .string ⟨#[94]⟩, .string ⟨#[38]⟩, .string ⟨#[60]⟩, .string ⟨#[62]⟩, .string ⟨#[43]⟩, .string ⟨#[45]⟩, .string ⟨#[42]⟩, .string ⟨#[47]⟩, .string ⟨#[37]⟩, .string ⟨#[126]⟩, .string ⟨#[33]⟩, .string ⟨#[40]⟩, .string ⟨#[41]⟩, .string ⟨#[44]⟩, .string ⟨#[61]⟩]
def K.kwCells : Array Value := #[.string ⟨#[108, 101, 116]⟩, .string ⟨#[115, 101, 116]⟩, .string ⟨#[105, 102]⟩, .string ⟨#[101, 108, 115, 101]⟩, .string ⟨#[119, 104, 105, 108, 101]⟩, .string ⟨#[114, 101, 116, 117, 114, 110]⟩, .string ⟨#[100, 111]⟩, .string ⟨#[111, 117, 116]⟩, .string ⟨#[115, 116, 111, 114, 101]⟩, .string ⟨#[108, 111, 97, 100]⟩, .string ⟨#[105, 110]⟩, .string ⟨#[105, 110, 99, 108, 117, 100, 101]⟩, .string ⟨#[100, 101, 102, 105, 110, 101]⟩, .string ⟨#[117, 110, 100, 101, 102]⟩, .string ⟨#[119, 104, 101, 110]⟩, .string ⟨#[117, 110, 108, 101, 115, 115]⟩, .string ⟨#[110, 111, 116, 101]⟩, .string ⟨#[101, 120, 116, 101, 114, 110]⟩, .string ⟨#[101, 120, 112, 111, 114, 116]⟩, .string ⟨#[119, 101, 97, 107]⟩, .string ⟨#[102, 110]⟩, .string ⟨#[100, 97, 116, 97]⟩]
theorem Symbols_any (w : World) : Calls Try.prog 42 #[] w fun e w' => e = .returned (.slice (some ⟨w.heap.size, 0, none⟩) 24 24) ∧ w.alloc (.cells K.symCells 9) = w' := by
  go_enter Try.func42, Try.ntmps42
  go_wp2
  go_ret
  exact ⟨rfl, rfl⟩
theorem symCells_get (w : World) : ∀ j (h : j < K.symbols.length), (w.alloc (.cells K.symCells 9)).cell? ⟨w.heap.size, 0 + j, none⟩ = some (.string (str K.symbols[j])) := by
  intro j h
  rw [Nat.zero_add, cell_new]
  have e : K.symCells = (K.symbols.map fun x => Value.string (str x)).toArray := rfl
  rw [e]
  simp [h]
theorem kwCells_get (w : World) : ∀ j (h : j < K.keywords.length), (w.alloc (.cells K.kwCells 9)).cell? ⟨w.heap.size, 0 + j, none⟩ = some (.string (str K.keywords[j])) := by
  intro j h
  rw [Nat.zero_add, cell_new]
  have e : K.kwCells = (K.keywords.map fun x => Value.string (str x)).toArray := rfl
  rw [e]
  simp [h]
theorem Keyword_any (s : ByteArray) (w : World) : Calls Try.prog 31 #[.string s] w (Al (.bool (K.has K.keywords s.data.toList)) w) := by
  go_enter Try.func31, Try.ntmps31
  go_wp2_with fail
  refine (Has_any _ _ _ _ K.keywords s _ rfl (by decide) (kwCells_get w)).mono ?_
  rintro e w' ⟨rfl, rfl⟩
  go_wp2_with fail
  go_ret
  exact ⟨rfl, (Ext.refl _).alloc _⟩

end Go.Proofs.Ytaniamfonkfekaa
