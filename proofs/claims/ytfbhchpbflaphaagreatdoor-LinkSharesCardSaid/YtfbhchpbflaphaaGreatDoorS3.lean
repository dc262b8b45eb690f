/- The texts TkF TkJ TkN Pa Pb Pc Ph Seg Pr Cod Obj Arc Fl Oe Of of the seat, joined. -/
import Derived.Test.YtfbhchpbflaphaaGreatDoorS2
import Derived.Lib.CountLaws
import Derived.Lib.Replace
import Derived.Lib.SplitLaws
import Derived.Laws.RangeAny
import Derived.Laws.RangeString
import Derived.Shelf.GgClosure.StringsIndexFunc
import Derived.Lib.ItoaNum
import Derived.IntWalk
import Derived.Maps.OwnOps
import Derived.Maps.OwnSet
import Derived.Maps.Views
import Derived.StringKeys
import Derived.ChangeKeysEq
namespace Go.Proofs.YtfbhchpbflaphaaGreatDoor
open Go.RowKit Go.Lib
def K.keywords : List (List UInt8) := [[108, 101, 116], [115, 101, 116], [105, 102], [101, 108, 115, 101], [119, 104, 105, 108, 101], [114, 101, 116, 117, 114, 110], [100, 111], [111, 117, 116], [115, 116, 111, 114, 101], [108, 111, 97, 100], [105, 110], [105, 110, 99, 108, 117, 100, 101], [100, 101, 102, 105, 110, 101], [117, 110, 100, 101, 102], [119, 104, 101, 110], [117, 110, 108, 101, 115, 115], [110, 111, 116, 101], [101, 120, 116, 101, 114, 110], [101, 120, 112, 111, 114, 116], [119, 101, 97, 107], [102, 110], [100, 97, 116, 97]]
def K.name (l : List UInt8) : Bool := !K.keywords.contains l && K.valid 1 l
set_option maxRecDepth 4000 in
set_option maxHeartbeats 4000000 in
theorem Name_any (s : ByteArray) (w : World) (hs : s.size <= 9223372036854775807) : Calls Tryz.prog 45 #[.string s] w (Al (.bool (K.name s.data.toList)) w) := by
 have hx : s.toList = s.data.toList := ByteArray.toList_eq s
 by_cases h2 : K.keywords.contains s.data.toList = true
 ·have hn : Hid (K.name s.data.toList = false) := by unfold Hid K.name; rw [h2]; rfl
  have hm : s.data.toList ∈ K.keywords := by simpa using h2
  clear h2
  simp only [K.keywords, List.mem_cons, List.not_mem_nil, or_false] at hm
  rcases hm with h | h | h | h | h | h | h | h | h | h | h | h | h | h | h | h | h | h | h | h | h | h
  all_goals
   rw [h] at hx
   clear h
   go_enter Tryz.func45, Tryz.ntmps45
   go_wp2
   go_ret
   exact ⟨by rw [hn.out]; rfl, Ext.refl _⟩
 ·have h2' : K.keywords.contains s.data.toList = false := by simpa using h2
  have hn : Hid (K.name s.data.toList = K.valid 1 s.data.toList) := by unfold Hid K.name; rw [h2']; rfl
  have hne : ∀ c ∈ K.keywords, (s.toList == c) = false := fun c hc => by
   rw [hx, beq_eq_false_iff_ne]
   rintro rfl
   rw [List.contains_eq_mem, decide_eq_false_iff_not] at h2'
   exact h2' hc
  have n0 := hne [108, 101, 116] (by decide)
  have n1 := hne [115, 101, 116] (by decide)
  have n2 := hne [105, 102] (by decide)
  have n3 := hne [101, 108, 115, 101] (by decide)
  have n4 := hne [119, 104, 105, 108, 101] (by decide)
  have n5 := hne [114, 101, 116, 117, 114, 110] (by decide)
  have n6 := hne [100, 111] (by decide)
  have n7 := hne [111, 117, 116] (by decide)
  have n8 := hne [115, 116, 111, 114, 101] (by decide)
  have n9 := hne [108, 111, 97, 100] (by decide)
  have n10 := hne [105, 110] (by decide)
  have n11 := hne [105, 110, 99, 108, 117, 100, 101] (by decide)
  have n12 := hne [100, 101, 102, 105, 110, 101] (by decide)
  have n13 := hne [117, 110, 100, 101, 102] (by decide)
  have n14 := hne [119, 104, 101, 110] (by decide)
  have n15 := hne [117, 110, 108, 101, 115, 115] (by decide)
  have n16 := hne [110, 111, 116, 101] (by decide)
  have n17 := hne [101, 120, 116, 101, 114, 110] (by decide)
  have n18 := hne [101, 120, 112, 111, 114, 116] (by decide)
  have n19 := hne [119, 101, 97, 107] (by decide)
  have n20 := hne [102, 110] (by decide)
  have n21 := hne [100, 97, 116, 97] (by decide)
  clear hne hx h2 h2'
  go_enter Tryz.func45, Tryz.ntmps45
  go_wp2_with (go_at_call 78; refine (valid_any _ _ _ hs).mono ?_; rw [<- hn.out]; rintro e w1 ⟨rfl, d1⟩)
  go_ret
  exact ⟨rfl, d1⟩
end Go.Proofs.YtfbhchpbflaphaaGreatDoor

namespace Go.Proofs.YtfbhchpbflaphaaGreatDoor
open Go.RowKit Go.Lib
theorem Letter_any (n : Int) (w : World) : Calls Tryz.prog 119 #[.int .u8 n] w fun e w' => e = .returned (.bool (K.letterN n)) /\ w = w' := by
 have hv : Hid (K.letterN n = (decide (97 <= n /\ n <= 122) || decide (n = 95))) := rfl
 go_enter Tryz.func119, Tryz.ntmps119
 go_wp2
 all_goals
  go_ret
  exact ⟨ret_bool (by rw [hv.out, Bool.eq_iff_iff]; simp; try omega), rfl⟩
theorem Digit_any (n : Int) (w : World) : Calls Tryz.prog 120 #[.int .u8 n] w fun e w' => e = .returned (.bool (K.digitN n)) /\ w = w' := by
 have hv : Hid (K.digitN n = decide (48 <= n /\ n <= 57)) := rfl
 go_enter Tryz.func120, Tryz.ntmps120
 go_wp2
 all_goals
  go_ret
  exact ⟨ret_bool (by rw [hv.out, Bool.eq_iff_iff]; simp; try omega), rfl⟩
theorem Letter_is (n : Int) (b : Bool) (w : World) (h : K.letterN n = b) : Calls Tryz.prog 119 #[.int .u8 n] w fun e w' => e = .returned (.bool b) /\ w = w' := h ▸ Letter_any n w
theorem Digit_is (n : Int) (b : Bool) (w : World) (h : K.digitN n = b) : Calls Tryz.prog 120 #[.int .u8 n] w fun e w' => e = .returned (.bool b) /\ w = w' := h ▸ Digit_any n w
def K.has (l : List (List UInt8)) (x : List UInt8) : Bool := l.contains x
set_option maxHeartbeats 1000000 in
theorem Has_any (b o c n : Nat) (l : List (List UInt8)) (s : ByteArray) (w : World) (hn : n = l.length) (hn2 : n <= 1000) (hc : ∀ j (h : j < l.length), w.cell? ⟨b, o + j, none⟩ = some (.string (str l[j]))) :
 Calls Tryz.prog 68 #[.slice (some ⟨b, o, none⟩) n c, .string s] w fun e w' => e = .returned (.bool (K.has l s.data.toList)) /\ w = w' := by
 have HC := Lib.hid hc
 have HN := Lib.hid hn
 clear hc hn
 go_enter Tryz.func68, Tryz.ntmps68
 go_wp2_with fail
 go_loop [9] (fun i => ∃ k : Nat, k <= n /\ i = .int .i64 k /\ Hid ((l.take k).contains s.data.toList = false)) (fun i => n - (intOf i).toNat)
 case atStart => exact ⟨0, Nat.zero_le _, rfl, rfl⟩
 case round =>
  obtain ⟨k, hk, rfl, HF⟩ := hrel
  by_cases hlt : k < n
  ·have hkl : k < l.length := by have := HN.out; omega
   have c0 := HC.out k hkl
   have hst : Hid ((l.take (k + 1)).contains s.data.toList = (l[k] == s.data.toList)) := by
    unfold Hid
    rw [List.take_succ_eq_append_getElem hkl, List.contains_append, HF.out]
    rw [Bool.eq_iff_iff]
    simp
    exact eq_comm
   have hyes : (l[k] == s.data.toList) = true -> K.has l s.data.toList = true := by
    intro h
    unfold K.has
    have : l[k] = s.data.toList := by simpa using h
    rw [List.contains_eq_mem, decide_eq_true_eq, <- this]
    exact List.getElem_mem hkl
   have HY := Lib.hid hyes
   have e1 : (str l[k]).toList = l[k] := by rw [ByteArray.toList_eq]; rfl
   have e2 : s.toList = s.data.toList := ByteArray.toList_eq s
   have E1 := Lib.hid e1
   have E2 := Lib.hid e2
   obtain ⟨t, ht⟩ : ∃ t, t = str l[k] := ⟨_, rfl⟩
   rw [<- ht] at c0 E1
   obtain ⟨bb, hbb⟩ : ∃ bb, (t.toList == s.toList) = bb := ⟨_, rfl⟩
   have hbb2 : Hid ((l[k] == s.data.toList) = bb) := by unfold Hid; rw [<- E1.out, <- E2.out]; exact hbb
   clear hyes e1 e2 ht
   cases bb
   ·have hne : ¬ t.toList = s.toList := by simpa using hbb
    have hne' : (t.toList == s.toList) = false := hbb
    clear hbb
    go_wp2_with fail
    go_round
    case rel => exact ⟨k + 1, by omega, by go_num, by unfold Hid; rw [hst.out]; exact hbb2.out⟩
    case measure => simp [intOf]; omega
   ·have HYY := Lib.hid (HY.out hbb2.out)
    have heq : (t.toList == s.toList) = true := hbb
    have heq' : t.toList = s.toList := by simpa using hbb
    have HEQ' := Lib.hid heq'
    clear HY hbb heq'
    go_wp2_with fail
    go_ret
    exact ⟨by rw [HYY.out]; rfl, rfl⟩
  ·obtain rfl : k = n := by omega
   have hfin : Hid (K.has l s.data.toList = false) := by
    have := HF.out
    unfold Hid K.has
    rwa [List.take_of_length_le (by have := HN.out; omega)] at this
   go_wp2_with fail
   go_ret
   exact ⟨by rw [hfin.out]; rfl, rfl⟩
def K.kwCells : Array Value := #[.string ⟨#[108, 101, 116]⟩, .string ⟨#[115, 101, 116]⟩, .string ⟨#[105, 102]⟩, .string ⟨#[101, 108, 115, 101]⟩, .string ⟨#[119, 104, 105, 108, 101]⟩, .string ⟨#[114, 101, 116, 117, 114, 110]⟩, .string ⟨#[100, 111]⟩, .string ⟨#[111, 117, 116]⟩, .string ⟨#[115, 116, 111, 114, 101]⟩, .string ⟨#[108, 111, 97, 100]⟩, .string ⟨#[105, 110]⟩, .string ⟨#[105, 110, 99, 108, 117, 100, 101]⟩, .string ⟨#[100, 101, 102, 105, 110, 101]⟩, .string ⟨#[117, 110, 100, 101, 102]⟩, .string ⟨#[119, 104, 101, 110]⟩, .string ⟨#[117, 110, 108, 101, 115, 115]⟩, .string ⟨#[110, 111, 116, 101]⟩, .string ⟨#[101, 120, 116, 101, 114, 110]⟩, .string ⟨#[101, 120, 112, 111, 114, 116]⟩, .string ⟨#[119, 101, 97, 107]⟩, .string ⟨#[102, 110]⟩, .string ⟨#[100, 97, 116, 97]⟩]
theorem kwCells_get (w : World) : ∀ j (h : j < K.keywords.length), (w.alloc (.cells K.kwCells 9)).cell? ⟨w.heap.size, 0 + j, none⟩ = some (.string (str K.keywords[j])) := by
 intro j h
 rw [Nat.zero_add, cell_new]
 have e : K.kwCells = (K.keywords.map fun x => Value.string (str x)).toArray := rfl
 rw [e]
 simp [h]
theorem Keyword_any (s : ByteArray) (w : World) : Calls Tryz.prog 91 #[.string s] w (Al (.bool (K.has K.keywords s.data.toList)) w) := by
 go_enter Tryz.func91, Tryz.ntmps91
 go_wp2_with fail
 refine (Has_any _ _ _ _ K.keywords s _ rfl (by decide) (kwCells_get w)).mono ?_
 rintro e w' ⟨rfl, rfl⟩
 go_wp2_with fail
 go_ret
 exact ⟨rfl, (Ext.refl _).alloc _⟩
end Go.Proofs.YtfbhchpbflaphaaGreatDoor

namespace Go.Proofs.YtfbhchpbflaphaaGreatDoor
open Go.RowKit Go.Lib
theorem K.valid1 (l : List UInt8) (h0 : 0 < l.length) : K.valid 1 l = (decide (l.length <= 32) && K.letter l[0] && decide (K.run true l = l.length)) := by
 cases l with
 | nil => simp at h0
 | cons c t =>
  rw [Bool.eq_iff_iff]
  simp only [K.valid, decide_eq_true_eq, Bool.and_eq_true, List.getElem_cons_zero]
  rw [K.nxt]
  have hle := K.run_le true (c :: t)
  constructor
  ·intro h
   split at h
   ·rename_i hc
    split at h
    ·simp at h
    ·simp only [Prod.mk.injEq] at h
     exact ⟨⟨by omega, hc⟩, h.2.1⟩
   ·split at h
    ·split at h
     ·simp at h
     ·split at h
      ·simp at h
      ·simp at h
    ·split at h
     ·simp at h
     ·simp at h
  ·rintro ⟨⟨h1, h2⟩, h3⟩
   rw [if_pos h2, if_neg (by omega), h3]
set_option maxRecDepth 4000 in
set_option maxHeartbeats 1000000 in
theorem form_any (s : ByteArray) (w : World) (hs : s.size <= 9223372036854775807) : Calls Tryz.prog 90 #[.string s] w fun e w' => e = .returned (.bool (K.valid 1 s.data.toList)) /\ w = w' := by
 by_cases h0 : 0 < s.size
 ·have hb0 : s[0].toNat <= 255 := by have := s[0].toNat_lt; omega
  have hv : K.valid 1 s.data.toList = (decide (s.size <= 32) && K.letterN s[0].toNat && decide (K.run true s.data.toList = s.size)) := by
   have := K.valid1 s.data.toList (by rw [size_list]; exact h0)
   simp only [size_list] at this
   exact this
  by_cases h32 : 32 < s.size
  ·have hf : Hid (K.valid 1 s.data.toList = false) := by unfold Hid; rw [hv]; simp; omega
   clear hv
   go_enter Tryz.func90, Tryz.ntmps90
   go_wp2_with fail
   go_ret
   exact ⟨by rw [hf.out]; rfl, rfl⟩
  ·by_cases hl : K.letterN s[0].toNat = true
   ·have hv2 : Hid (K.valid 1 s.data.toList = decide (K.run true s.data.toList = s.size)) := by
     unfold Hid
     rw [hv, hl, Bool.and_true, show decide (s.size <= 32) = true by simpa using (by omega : s.size <= 32), Bool.true_and]
    have HL := Lib.hid hl
    clear hv hl
    go_enter Tryz.func90, Tryz.ntmps90
    go_wp2_with (go_at_call 119; refine (Letter_is _ _ _ HL.out).mono ?_; rintro e w' ⟨rfl, rfl⟩)
    go_loop [3] (fun i => ∃ k : Nat, k <= s.size /\ i = .int .i64 k /\ Hid (∀ j (h : j < s.size), j < k -> K.wordN true s[j].toNat = true)) (fun i => s.size - (intOf i).toNat)
    case atStart => exact ⟨0, Nat.zero_le _, rfl, fun _ _ h => absurd h (Nat.not_lt_zero _)⟩
    case round =>
     obtain ⟨k, hk, rfl, HW⟩ := hrel
     by_cases hlt : k < s.size
     ·have hb : s[k].toNat <= 255 := by have := s[k].toNat_lt; omega
      have hst : K.wordN true s[k].toNat = true -> Hid (∀ j (h : j < s.size), j < k + 1 -> K.wordN true s[j].toNat = true) := by
       intro h j h1 h2
       by_cases hj : j < k
       ·exact HW.out j h1 hj
       ·have : j = k := by omega
        subst this
        exact h
      have hno : K.wordN true s[k].toNat = false -> K.valid 1 s.data.toList = false := by
       intro h
       rw [hv2.out, decide_eq_false_iff_not]
       intro hr
       have := K.runWithin true s.data.toList k (by omega) (by rw [size_list]; exact hlt)
       unfold K.word at this
       have e : s.data.toList[k]'(by rw [size_list]; exact hlt) = s[k] := rfl
       rw [e, h] at this
       cases this
      obtain ⟨a, ha⟩ : ∃ a, K.letterN s[k].toNat = a := ⟨_, rfl⟩
      obtain ⟨d, hd⟩ : ∃ a, K.digitN s[k].toNat = a := ⟨_, rfl⟩
      have hwd : K.wordN true s[k].toNat = (d || a) := by unfold K.wordN; rw [ha, hd, Bool.true_and]
      have HA := Lib.hid ha
      have HD := Lib.hid hd
      cases hda : (d || a)
      ·rw [hda] at hwd
       have HF := Lib.hid (hno hwd)
       obtain ⟨rfl, rfl⟩ : d = false /\ a = false := by simpa using hda
       clear hst hno hwd ha hd hda
       go_wp2_with fail
       refine (Letter_is _ _ _ HA.out).mono ?_
       rintro e w' ⟨rfl, rfl⟩
       go_wp2_with fail
       refine (Digit_is _ _ _ HD.out).mono ?_
       rintro e w' ⟨rfl, rfl⟩
       go_wp2_with fail
       go_ret
       exact ⟨by rw [HF.out]; rfl, rfl⟩
      ·rw [hda] at hwd
       have HG := hst hwd
       clear hst hno hwd ha hd
       cases a
       ·obtain rfl : d = true := by simpa using hda
        clear hda
        go_wp2_with fail
        refine (Letter_is _ _ _ HA.out).mono ?_
        rintro e w' ⟨rfl, rfl⟩
        go_wp2_with fail
        refine (Digit_is _ _ _ HD.out).mono ?_
        rintro e w' ⟨rfl, rfl⟩
        go_wp2_with fail
        go_round
        case rel => exact ⟨k + 1, by omega, by go_num, HG⟩
        case measure => simp [intOf]; omega
       ·clear hda
        go_wp2_with fail
        refine (Letter_is _ _ _ HA.out).mono ?_
        rintro e w' ⟨rfl, rfl⟩
        go_wp2_with fail
        go_round
        case rel => exact ⟨k + 1, by omega, by go_num, HG⟩
        case measure => simp [intOf]; omega
     ·obtain rfl : k = s.size := by omega
      have hfin : Hid (K.valid 1 s.data.toList = true) := by
       unfold Hid
       rw [hv2.out, decide_eq_true_eq]
       refine K.run_eq true _ _ (by rw [size_list]; exact Nat.le_refl _) (fun j h h2 => ?_) (fun h => ?_)
       ·rw [size_list] at h
        exact HW.out j h h2
       ·rw [size_list] at h; exact absurd h (Nat.lt_irrefl _)
      go_wp2_with fail
      go_ret
      exact ⟨by rw [hfin.out]; rfl, rfl⟩
   ·have hl' : K.letterN s[0].toNat = false := by simpa using hl
    have hf : Hid (K.valid 1 s.data.toList = false) := by unfold Hid; rw [hv, hl']; simp
    have HL := Lib.hid hl'
    clear hv hl hl'
    go_enter Tryz.func90, Tryz.ntmps90
    go_wp2_with (go_at_call 119; refine (Letter_is _ _ _ HL.out).mono ?_; rintro e w' ⟨rfl, rfl⟩)
    go_ret
    exact ⟨by rw [hf.out]; rfl, rfl⟩
 ·have he : s.data.toList = [] := List.eq_nil_of_length_eq_zero (by rw [size_list]; omega)
  have hf : Hid (K.valid 1 s.data.toList = false) := by rw [he]; exact K.valid_nil 1
  clear he
  go_enter Tryz.func90, Tryz.ntmps90
  go_wp2_with fail
  go_ret
  exact ⟨by rw [hf.out]; rfl, rfl⟩
theorem K.name_eq (l : List UInt8) : K.name l = (K.valid 1 l && !K.has K.keywords l) := by unfold K.name K.has; rw [Bool.and_comm]
set_option maxHeartbeats 400000 in
theorem refName_any (s : ByteArray) (w : World) (hs : s.size <= 9223372036854775807) : Calls Tryz.prog 52 #[.string s] w (Al (.bool (K.name s.data.toList)) w) := by
 have hn := K.name_eq s.data.toList
 obtain ⟨a, ha⟩ : ∃ a, K.valid 1 s.data.toList = a := ⟨_, rfl⟩
 obtain ⟨b, hb⟩ : ∃ a, K.has K.keywords s.data.toList = a := ⟨_, rfl⟩
 rw [ha, hb] at hn
 have HA := Lib.hid ha
 have HB := Lib.hid hb
 have HN := Lib.hid hn
 clear ha hb hn
 cases a
 ·go_enter Tryz.func52, Tryz.ntmps52
  go_wp2_with fail
  refine (form_any s _ hs).mono ?_
  rw [HA.out]
  rintro e w' ⟨rfl, rfl⟩
  go_wp2_with fail
  go_ret
  exact ⟨by rw [HN.out]; rfl, Ext.refl _⟩
 ·go_enter Tryz.func52, Tryz.ntmps52
  go_wp2_with fail
  refine (form_any s _ hs).mono ?_
  rw [HA.out]
  rintro e w' ⟨rfl, rfl⟩
  go_wp2_with fail
  refine (Keyword_any s _).mono ?_
  rw [HB.out]
  rintro e w1 ⟨rfl, d1⟩
  go_wp2_with fail
  go_ret
  exact ⟨by rw [HN.out]; simp, d1⟩
end Go.Proofs.YtfbhchpbflaphaaGreatDoor

namespace Go.Proofs.YtfbhchpbflaphaaGreatDoor
open Go.RowKit
def runeB (n : Int) : Bool := (decide (97 <= n) && decide (n <= 122)) || (decide (48 <= n) && decide (n <= 57)) || decide (n = 46) || decide (n = 95) || decide (n = 45)
set_option maxHeartbeats 400000 in
theorem pred56 (w : World) : PredAt Tryz.prog 143 #[] encR (fun r => !runeB (r : Int)) w := by
 intro W x hb
 have hv : Hid (runeB (x : Int) = ((decide (97 <= (x : Int)) && decide ((x : Int) <= 122)) || (decide (48 <= (x : Int)) && decide ((x : Int) <= 57)) || decide ((x : Int) = 46) || decide ((x : Int) = 95) || decide ((x : Int) = 45))) := rfl
 unfold FnGives
 by_cases h1 : 97 <= (x : Int) /\ (x : Int) <= 122
 ·obtain ⟨g1, g2⟩ := h1
  go_enter Tryz.func143, Tryz.ntmps143
  go_wp2_with fail
  go_ret
  exact ⟨ret_bool (by rw [hv.out]; simp; omega), 0, rfl⟩
 ·by_cases h2 : 48 <= (x : Int) /\ (x : Int) <= 57
  ·obtain ⟨g1, g2⟩ := h2
   go_enter Tryz.func143, Tryz.ntmps143
   go_wp2_with fail
   go_ret
   exact ⟨ret_bool (by rw [hv.out]; simp; omega), 0, rfl⟩
  ·by_cases h3 : (x : Int) = 46
   ·have e1 : ((x : Int) == 46) = true := by simp [h3]
    have g1 : (x : Int) < 48 := by omega
    have g2 : 0 <= (x : Int) := by omega
    clear h1 h2
    go_enter Tryz.func143, Tryz.ntmps143
    go_wp2_with fail
    go_ret
    exact ⟨ret_bool (by rw [hv.out]; simp [h3]), 0, rfl⟩
   ·have e1 : ((x : Int) == 46) = false := by simp; omega
    have tail : ∀ b2 b3, ((x : Int) == 95) = b2 -> ((x : Int) == 45) = b3 -> runeB (x : Int) = (b2 || b3) -> ((x : Int) < 48 ∨ (57 < (x : Int) /\ (x : Int) < 97) ∨ 122 < (x : Int)) -> Calls Tryz.prog 143 (#[encR x] ++ #[]) W fun e w' => e = Ending.returned (Value.bool ((fun r : Nat => !runeB (r : Int)) x)) /\ ∃ q, w' = W.drewN q := by
     intro b2 b3 e2 e3 hr hc
     have HR := Lib.hid hr
     clear hr h1 h2 h3 hv
     rcases hc with g | ⟨g, g'⟩ | g <;> cases b2 <;> cases b3
     all_goals
      go_enter Tryz.func143, Tryz.ntmps143
      go_wp2_with fail
      go_ret
      exact ⟨ret_bool (by show _ = !runeB _; rw [HR.out]; first | rfl | (simp; omega)), 0, rfl⟩
    refine tail _ _ rfl rfl ?_ (by omega)
    rw [hv.out]
    have c1 : (decide (97 <= (x : Int)) && decide ((x : Int) <= 122)) = false := by simp; omega
    have c2 : (decide (48 <= (x : Int)) && decide ((x : Int) <= 57)) = false := by simp; omega
    have c3 : decide ((x : Int) = 46) = false := by simp; omega
    rw [c1, c2, c3]
    rfl
theorem eg56 : ∀ (args : Array Value) (w : World), (callFunc 143 args).run Tryz.prog w = .ok (.enter 143 args) w := enters_of Tryz.func143 (by kernel_rfl) rfl
def allRunes (s : ByteArray) : Bool := !decide (0 <= Lib.idxFunc (fun r => !runeB (r : Int)) true s)
def partB (s : ByteArray) : Bool := if h : 0 < s.size then (if 32 < s.size then false else if s[0] = 46 then false else if s[0] = 45 then false else allRunes s) else false
set_option maxHeartbeats 400000 in
theorem part_any (s : ByteArray) (w : World) (hs : s.size <= 9223372036854775807) : Calls Tryz.prog 132 #[.string s] w (Al (.bool (partB s)) w) := by
 by_cases h0 : 0 < s.size
 ·have hne : s.toList.isEmpty = false := by
   rw [ByteArray.toList_eq]
   have hl : s.data.toList.length = s.size := by simp
   cases hq : s.data.toList with
   | nil => rw [hq] at hl; simp at hl; omega
   | cons a l => rfl
  have HP : Hid (partB s = if 32 < s.size then false else if s[0] = 46 then false else if s[0] = 45 then false else allRunes s) := by unfold Hid partB; rw [dif_pos h0]
  have hb : s[0].toNat <= 255 := by have := s[0].toNat_lt; omega
  by_cases h32 : 32 < s.size
  ·have hp : partB s = false := by rw [HP.out, if_pos h32]
   rw [hp]
   go_enter Tryz.func132, Tryz.ntmps132
   go_wp2_with fail
   go_ret
   exact ⟨rfl, Ext.refl _⟩
  ·by_cases h46 : s[0] = 46
   ·have hp : partB s = false := by rw [HP.out, if_neg h32, if_pos h46]
    have e1 : ((s[0].toNat : Int) == 46) = true := by rw [h46]; rfl
    rw [hp]
    go_enter Tryz.func132, Tryz.ntmps132
    go_wp2_with fail
    go_ret
    exact ⟨rfl, Ext.refl _⟩
   ·have e1 : ((s[0].toNat : Int) == 46) = false := by
     simp only [beq_eq_false_iff_ne, ne_eq]
     intro e
     exact h46 (UInt8.toNat_inj.1 (by show s[0].toNat = 46; omega))
    by_cases h45 : s[0] = 45
    ·have hp : partB s = false := by rw [HP.out, if_neg h32, if_neg h46, if_pos h45]
     have e2 : ((s[0].toNat : Int) == 45) = true := by rw [h45]; rfl
     rw [hp]
     go_enter Tryz.func132, Tryz.ntmps132
     go_wp2_with fail
     go_ret
     exact ⟨rfl, Ext.refl _⟩
    ·have e2 : ((s[0].toNat : Int) == 45) = false := by
      simp only [beq_eq_false_iff_ne, ne_eq]
      intro e
      exact h45 (UInt8.toNat_inj.1 (by show s[0].toNat = 45; omega))
     obtain ⟨R, hR⟩ : ∃ R, decide (0 <= Lib.idxFunc (fun r => !runeB (r : Int)) true s) = R := ⟨_, rfl⟩
     have hp : partB s = !R := by rw [HP.out, if_neg h32, if_neg h46, if_neg h45, allRunes, hR]
     have HR := Lib.hid hR
     rw [hp]
     clear hR
     go_enter Tryz.func132, Tryz.ntmps132
     go_wp2_with fail
     refine (Tryz.strings_ContainsFunc 143 #[] eg56 (fun r => !runeB (r : Int)) s _ (pred56 _)).mono ?_
     rw [HR.out]
     rintro e w1 ⟨rfl, d1⟩
     go_wp2_with fail
     go_ret
     exact ⟨rfl, d1⟩
 ·have hz : s.size = 0 := by omega
  have hp : partB s = false := by unfold partB; rw [dif_neg h0]
  have hne : s.toList.isEmpty = true := by
   rw [ByteArray.toList_eq]
   have hl : s.data.toList.length = s.size := by simp
   cases hq : s.data.toList with
   | nil => rfl
   | cons a l => rw [hq] at hl; simp at hl; omega
  rw [hp]
  clear h0
  go_enter Tryz.func132, Tryz.ntmps132
  go_wp2_with fail
  go_ret
  exact ⟨rfl, Ext.refl _⟩
end Go.Proofs.YtfbhchpbflaphaaGreatDoor

namespace Go.Proofs.YtfbhchpbflaphaaGreatDoor
open Go.RowKit
set_option maxHeartbeats 400000 in
theorem notPart_any (s : ByteArray) (w : World) (hs : s.size <= 9223372036854775807) : Calls Tryz.prog 131 #[.string s] w (Al (.bool (!partB s)) w) := by
 have h := fun w' => part_any s w' hs
 have HH := Lib.hid h
 clear h
 generalize partB s = B at *
 go_enter Tryz.func131, Tryz.ntmps131
 go_wp2_with (go_at_call 132; refine (HH.out _).mono ?_; rintro e w1 ⟨rfl, d1⟩)
 go_ret
 exact ⟨rfl, d1⟩
theorem eg47 : ∀ (args : Array Value) (w : World), (callFunc 131 args).run Tryz.prog w = .ok (.enter 131 args) w := enters_of Tryz.func131 (by kernel_rfl) rfl
set_option maxHeartbeats 400000 in
theorem IndexStr (l : List ByteArray) (b c L g : Nat) (lb : Array Value) (p : ByteArray -> Bool) (w : World) (eg : ∀ args w, (callFunc g args).run Tryz.prog w = .ok (.enter g args) w) (hL : L = l.length) (hL2 : L <= 9000000)
 (hc : ∀ j (h : j < l.length), w.cell? ⟨b, j, none⟩ = some (.string l[j])) (hp : ∀ x ∈ l, ∀ w', Calls Tryz.prog g (#[.string x] ++ lb) w' (Al (.bool (p x)) w')) :
 Calls Tryz.prog 141 #[.slice (some ⟨b, 0, none⟩) L c, .func (.func g) #[] lb] w fun e w' => (∃ i : Int, e = .returned (.int .i64 i) /\ decide (0 <= i) = l.any p) /\ Ext w w' := by
 have HC := Lib.hid hc
 have HP := Lib.hid hp
 have HL := Lib.hid hL
 clear hc hp hL
 go_enter Tryz.func141, Tryz.ntmps141
 go_wp2_with fail
 go_loopw [5, 8] (fun _ i wr => ∃ k : Nat, k <= L /\ i = .int .i64 k /\ Hid (∀ j (h : j < l.length), j < k -> p l[j] = false) /\ Ext w wr) (fun _ i _ => L - (intOf i).toNat)
 case atStart => exact ⟨0, Nat.zero_le _, rfl, fun j _ hj => absurd hj (Nat.not_lt_zero _), Ext.refl _⟩
 case round =>
  obtain ⟨k, hk, rfl, hno, hd⟩ := hrel
  by_cases hlt : k < L
  ·have hkl : k < l.length := by have := HL.out; omega
   have c0 := hd.keepc (HC.out k hkl)
   have hcall := HP.out l[k] (List.getElem_mem hkl) wr
   have hk0 : k <= 9000000 := by omega
   cases hpk : p l[k] with
   | true =>
    rw [hpk] at hcall
    have HK := Lib.hid hcall
    have HPK := Lib.hid hpk
    clear hcall hpk
    go_wp2_with (go_at_fn g; refine HK.out.mono ?_; rintro e w1 ⟨rfl, d1⟩)
    go_ret
    refine ⟨⟨_, rfl, ?_⟩, hd.trans d1⟩
    rw [List.any_eq_true.2 ⟨l[k], List.getElem_mem hkl, HPK.out⟩]
    simp
   | false =>
    rw [hpk] at hcall
    have HK := Lib.hid hcall
    have HPK := Lib.hid hpk
    clear hcall hpk
    go_wp2_with (go_at_fn g; refine HK.out.mono ?_; rintro e w1 ⟨rfl, d1⟩)
    go_roundw
    case rel =>
     refine ⟨k + 1, by omega, by go_num, fun j h hj => ?_, hd.trans d1⟩
     by_cases e : j = k
     ·subst e; exact HPK.out
     ·exact hno.out j h (by omega)
    case measure => simp [intOf]; omega
  ·have hkL : k = L := by omega
   go_wp2_with fail
   go_ret
   refine ⟨⟨_, rfl, ?_⟩, hd⟩
   have : l.any p = false := by
    rw [List.any_eq_false]
    intro x hx
    obtain ⟨j, hj, rfl⟩ := List.getElem_of_mem hx
    have := hno.out j hj (by have := HL.out; omega)
    simp [this]
   rw [this]
   rfl
set_option maxHeartbeats 400000 in
theorem ContainsStr (l : List ByteArray) (b c L g : Nat) (lb : Array Value) (p : ByteArray -> Bool) (w : World) (eg : ∀ args w, (callFunc g args).run Tryz.prog w = .ok (.enter g args) w) (hL : L = l.length) (hL2 : L <= 9000000)
 (hc : ∀ j (h : j < l.length), w.cell? ⟨b, j, none⟩ = some (.string l[j])) (hp : ∀ x ∈ l, ∀ w', Calls Tryz.prog g (#[.string x] ++ lb) w' (Al (.bool (p x)) w')) :
 Calls Tryz.prog 130 #[.slice (some ⟨b, 0, none⟩) L c, .func (.func g) #[] lb] w (Al (.bool (l.any p)) w) := by
 have h := IndexStr l b c L g lb p w eg hL hL2 hc hp
 obtain ⟨B, hB⟩ : ∃ B, B = l.any p := ⟨_, rfl⟩
 rw [<- hB] at h ⊢
 have HH := Lib.hid h
 clear h hc hp hB eg hL
 go_enter Tryz.func130, Tryz.ntmps130
 go_wp2_with fail
 refine HH.out.mono ?_
 rintro e w1 ⟨⟨i, rfl, hi⟩, d1⟩
 go_wp2_with fail
 go_ret
 exact ⟨rfl, d1⟩
theorem split_len (sep : ByteArray) (h1 : 1 <= sep.size) : ∀ (k : Nat) (s : ByteArray), Lib.countB s sep = k -> (Lib.splitB sep 0 k s).length = k + 1
 | 0, s, _ => rfl
 | k + 1, s, h => by
  obtain ⟨i, hi⟩ : ∃ i : Nat, Lib.indexB s sep = i := Lib.index_of_count (show 0 < Lib.count s.data.toList sep.data.toList by have : Lib.count s.data.toList sep.data.toList = k + 1 := h; omega)
  have hc := Lib.countB_hit s sep i h1 hi
  rw [Lib.splitB_hit sep 0 k s i hi, List.length_cons, split_len sep h1 k _ (by omega)]
def pieces (s : ByteArray) : List ByteArray := Lib.splitB ⟨#[47]⟩ 0 (Lib.countB s ⟨#[47]⟩) s
theorem pieces_len (s : ByteArray) : (pieces s).length = Lib.countB s ⟨#[47]⟩ + 1 := split_len ⟨#[47]⟩ (by decide) _ s rfl
def pathB (s : ByteArray) : Bool := decide (s.size <= 128) && decide ((pieces s).length <= 8) && !((pieces s).any fun x => !partB x)
end Go.Proofs.YtfbhchpbflaphaaGreatDoor

namespace Go.Proofs.YtfbhchpbflaphaaGreatDoor
open Go.RowKit
theorem extract_le (s : ByteArray) (i j : Nat) : (s.extract i j).size <= s.size := by rw [ByteArray.size_extract]; omega
theorem split_sizes (sep : ByteArray) : ∀ (k : Nat) (s : ByteArray), ∀ x ∈ Lib.splitB sep 0 k s, x.size <= s.size
 | 0, s, x, hx => by
  rw [Lib.splitB_zero] at hx
  simp at hx
  rw [hx]; exact Nat.le_refl _
 | k + 1, s, x, hx => by
  unfold Lib.splitB at hx
  split at hx
  ·simp at hx
   rw [hx]; exact Nat.le_refl _
  ·rcases List.mem_cons.1 hx with rfl | hx
   ·exact extract_le _ _ _
   ·exact Nat.le_trans (split_sizes sep k _ x hx) (extract_le _ _ _)
theorem pieces_sizes (s : ByteArray) : ∀ x ∈ pieces s, x.size <= s.size := split_sizes _ _ s
def pathE (s : ByteArray) : Int := if pathB s = true then 0 else 2
set_option maxHeartbeats 400000 in
theorem Path_any (s : ByteArray) (m : Int) (w : World) (hs : s.size <= 1000000) (hm : w.cell? ⟨0, 0, none⟩ = some (.int .i64 m)) : Calls Tryz.prog 110 #[.string s] w (Al (.int .i64 (pathE s)) w) := by
 have hsp := fun w' (h : w'.cell? ⟨0, 0, none⟩ = some (.int .i64 m)) => Tryz.strings_Split s ⟨#[47]⟩ m w' (by omega) h (by decide)
 obtain ⟨L, hL⟩ : ∃ L, L = (pieces s).length := ⟨_, rfl⟩
 obtain ⟨X, hX⟩ : ∃ X, X = (pieces s).any (fun x => !partB x) := ⟨_, rfl⟩
 have hpB : pathE s = if decide (s.size <= 128) && decide (L <= 8) && !X then 0 else 2 := by unfold pathE pathB; rw [<- hL, <- hX]
 have hc : ∀ w' : World, ∀ j (h : j < (pieces s).length), (w'.alloc (.cells ((pieces s).map Value.string).toArray 9)).cell? ⟨w'.heap.size, j, none⟩ = some (.string (pieces s)[j]) := fun w' j h => by
  rw [cell_new]; simp [h]
 have hCF := fun (w' : World) => ContainsStr (pieces s) w'.heap.size L L 131 #[] (fun x => !partB x) (w'.alloc (.cells ((pieces s).map Value.string).toArray 9)) eg47 hL (by rw [hL, pieces_len]; have := Lib.count_le s.data.toList [47]; have e : Lib.countB s ⟨#[47]⟩ = Lib.count s.data.toList [47] := rfl; simp at this; omega) (hc w') (fun x hx w'' => by
  have := pieces_sizes s x hx
  exact notPart_any x w'' (by omega))
 rw [<- hX] at hCF
 have hLL : Lib.countB s ⟨#[47]⟩ + 1 = L := by rw [hL, pieces_len]
 have hLb : L <= 1000002 := by rw [hL, pieces_len]; have := Lib.count_le s.data.toList [47]; have e : Lib.countB s ⟨#[47]⟩ = Lib.count s.data.toList [47] := rfl; simp at this; omega
 have HSP := Lib.hid hsp
 have HCF := Lib.hid hCF
 have HPB := Lib.hid hpB
 have HLL := Lib.hid hLL
 have HM := Lib.hid hm
 clear hsp hCF hpB hLL hm hL hX hc
 by_cases h128 : s.size <= 128
 ·by_cases h8 : L <= 8
  ·have he : pathE s = if X then 2 else 0 := by rw [HPB.out]; cases X <;> simp [h128, h8]
   clear HPB
   cases X
   ·rw [he]
    clear he
    rw [if_neg (by simp)]
    go_enter Tryz.func110, Tryz.ntmps110
    go_wp2_with fail
    refine (HSP.out _ HM.out).mono ?_
    rw [HLL.out]
    rintro e w1 ⟨rfl, rfl⟩
    go_wp2_with fail
    refine (HCF.out w).mono ?_
    rintro e w2 ⟨rfl, d2⟩
    go_wp2_with fail
    go_ret
    exact ⟨rfl, ((Ext.refl w).alloc _).trans d2⟩
   ·rw [he]
    clear he
    rw [if_pos rfl]
    go_enter Tryz.func110, Tryz.ntmps110
    go_wp2_with fail
    refine (HSP.out _ HM.out).mono ?_
    rw [HLL.out]
    rintro e w1 ⟨rfl, rfl⟩
    go_wp2_with fail
    refine (HCF.out w).mono ?_
    rintro e w2 ⟨rfl, d2⟩
    go_wp2_with fail
    go_ret
    exact ⟨rfl, ((Ext.refl w).alloc _).trans d2⟩
  ·have he : pathE s = 2 := by rw [HPB.out]; simp [h8]
   rw [he]
   clear he HPB
   go_enter Tryz.func110, Tryz.ntmps110
   go_wp2_with fail
   refine (HSP.out _ HM.out).mono ?_
   rw [HLL.out]
   rintro e w1 ⟨rfl, rfl⟩
   go_wp2_with fail
   go_ret
   exact ⟨rfl, (Ext.refl w).alloc _⟩
 ·have he : pathE s = 2 := by rw [HPB.out]; simp [h128]
  rw [he]
  clear he HPB
  go_enter Tryz.func110, Tryz.ntmps110
  go_wp2_with fail
  refine (HSP.out _ HM.out).mono ?_
  rw [HLL.out]
  rintro e w1 ⟨rfl, rfl⟩
  go_wp2_with fail
  go_ret
  exact ⟨rfl, (Ext.refl w).alloc _⟩
end Go.Proofs.YtfbhchpbflaphaaGreatDoor

namespace Go.Proofs.YtfbhchpbflaphaaGreatDoor
open Go.RowKit
theorem take_snoc (s : ByteArray) (k : Nat) (h : k < s.size) : s.data.toList.take (k + 1) = s.data.toList.take k ++ [s[k]] := by
 rw [List.take_succ_eq_append_getElem (by simpa using h)]; rfl
def okc (c : UInt8) : Bool := runeB (c.toNat : Int)
def nameB (l : List UInt8) : Bool := decide (1 <= l.length) && decide (l.length <= 32) && l.head? != some 46 && l.head? != some 45 && l.all okc
theorem head_get (s : ByteArray) (h : 0 < s.size) : s.data.toList.head? = some s[0] := by
 have hl : 0 < s.data.toList.length := by simpa using h
 rw [List.head?_eq_getElem?, List.getElem?_eq_getElem hl]
 rfl
theorem name_of (s : ByteArray) (h : 0 < s.size) : nameB s.data.toList = (decide (s.size <= 32) && decide (¬ (s[0].toNat : Int) = 46) && decide (¬ (s[0].toNat : Int) = 45) && s.data.toList.all okc) := by
 have e1 : ∀ n : UInt8, (s.data.toList.head? != some n) = decide (¬ (s[0].toNat : Int) = (n.toNat : Int)) := by
  intro n
  rw [head_get s h, Bool.eq_iff_iff]
  have : s[0] = n ↔ s[0].toNat = n.toNat := UInt8.toNat_inj.symm
  simp [this]
  omega
 unfold nameB
 rw [e1 46, e1 45]
 have h1 : 1 <= s.size := h
 simp [h1]
theorem all_take_snoc (s : ByteArray) (k : Nat) (h : k < s.size) (p : UInt8 -> Bool) : (s.data.toList.take (k + 1)).all p = ((s.data.toList.take k).all p && p s[k]) := by
 rw [take_snoc s k h, List.all_append]
 simp
theorem rune_ways (n : Int) : (runeB n = true /\ ((97 <= n /\ n <= 122) ∨ (48 <= n /\ n <= 57) ∨ (n = 46 /\ (n != 46) = false) ∨ (n = 95 /\ (n != 46) = true /\ (n != 95) = false) ∨ (n = 45 /\ (n != 46) = true /\ (n != 95) = true /\ (n != 45) = false))) ∨
 (runeB n = false /\ (n != 46) = true /\ (n != 95) = true /\ (n != 45) = true /\ (122 < n ∨ (57 < n /\ n < 97) ∨ n < 48)) := by
 unfold runeB
 simp
 omega
theorem all_miss {s : ByteArray} {k : Nat} {p : UInt8 -> Bool} (h : k < s.size) (hp : p s[k] = false) : s.data.toList.all p = false := by
 rw [List.all_eq_false]
 exact ⟨s[k], (by rw [show s[k] = s.data.toList[k]'(by simpa using h) from rfl]; exact List.getElem_mem _), by simp [hp]⟩
def okTo (s : ByteArray) (k : Nat) : Prop := (s.data.toList.take k).all okc = true
set_option maxRecDepth 8000 in
set_option maxHeartbeats 1000000 in
theorem name_any (s : ByteArray) (w : World) (hs : s.size <= 9223372036854775807) : Calls Tryz.prog 118 #[.string s] w fun e w' => e = .returned (.bool (nameB s.data.toList)) /\ w = w' := by
 by_cases h1 : 1 <= s.size
 ·by_cases h2 : s.size <= 32
  ·have hb : s[0].toNat <= 255 := by have := s[0].toNat_lt; omega
   have HN := Lib.hid (name_of s h1)
   go_enter Tryz.func118, Tryz.ntmps118
   go_wp2_with fail
   ·have g : (s[0].toNat : Int) = 46 := by assumption
    go_ret
    exact ⟨ret_bool (by rw [HN.out]; simp [g]), rfl⟩
   ·have g : (((s.size : Int) < 1 ∨ (32 : Int) < s.size) ∨ ((s[0].toNat : Int) == 46) = true) ∨ ((s[0].toNat : Int) == 45) = true := by assumption
    have g2 : (s[0].toNat : Int) = 46 ∨ (s[0].toNat : Int) = 45 := by simp at g; omega
    go_ret
    exact ⟨ret_bool (by rw [HN.out]; rcases g2 with g2 | g2 <;> simp [g2]), rfl⟩
   ·have g : (((1 : Int) <= s.size /\ (s.size : Int) <= 32) /\ ((s[0].toNat : Int) == 46) = false) /\ ((s[0].toNat : Int) == 45) = false := by assumption
    have g2 : ¬ (s[0].toNat : Int) = 46 /\ ¬ (s[0].toNat : Int) = 45 := by simp at g; omega
    have G2 := Lib.hid g2
    clear g g2
    go_loop [3] (fun i => ∃ k : Nat, k <= s.size /\ i = .int .i64 k /\ okTo s k) (fun i => s.size - (intOf i).toNat)
    case atStart => exact ⟨0, Nat.zero_le _, rfl, rfl⟩
    case round =>
     obtain ⟨k, hk, rfl, HK⟩ := hrel
     by_cases hlt : k < s.size
     ·have hx : s[k].toNat <= 255 := by have := s[k].toNat_lt; omega
      have HT := Lib.hid (all_take_snoc s k hlt okc)
      rcases rune_ways (s[k].toNat : Int) with ⟨ho, hw⟩ | ⟨ho, h46, h95, h45, hw⟩
      ·have HS : okTo s (k + 1) := by unfold okTo at HK ⊢; rw [HT.out, HK]; exact ho
       clear ho HT
       rcases hw with ⟨g1, g2⟩ | ⟨g1, g2⟩ | ⟨g1, g2⟩ | ⟨g1, g2, g3⟩ | ⟨g1, g2, g3, g4⟩
       all_goals
        go_wp2_with fail
        go_round
        case rel => exact ⟨k + 1, by omega, by go_num, HS⟩
        case measure => simp [intOf]; omega
      ·have HS : Hid (s.data.toList.all okc = false) := all_miss hlt ho
       clear ho HT
       rcases hw with g1 | ⟨g1, g2⟩ | g1
       all_goals
        go_wp2_with fail
        go_ret
        exact ⟨ret_bool (by rw [HN.out, HS.out]; simp), rfl⟩
     ·have hks : k = s.size := by omega
      have HF : Hid (s.data.toList.all okc = true) := by unfold Hid; unfold okTo at HK; rwa [hks, List.take_of_length_le (by simp)] at HK
      go_wp2_with fail
      go_ret
      exact ⟨ret_bool (by rw [HN.out, HF.out]; simp [G2.out.1, G2.out.2, h2]), rfl⟩
  ·have hn : nameB s.data.toList = false := by rw [name_of s h1]; simp [h2]
   rw [hn]
   clear hn
   go_enter Tryz.func118, Tryz.ntmps118
   go_wp2_with fail
   go_ret
   exact ⟨rfl, rfl⟩
 ·have hn : nameB s.data.toList = false := by unfold nameB; rw [show decide (1 <= s.data.toList.length) = false by simpa using h1]; rfl
  rw [hn]
  clear hn
  go_enter Tryz.func118, Tryz.ntmps118
  go_wp2_with fail
  go_ret
  exact ⟨rfl, rfl⟩
end Go.Proofs.YtfbhchpbflaphaaGreatDoor

namespace Go.Proofs.YtfbhchpbflaphaaGreatDoor.Seg
def segs (c : UInt8) : List UInt8 -> List (List UInt8)
 | [] => [[]]
 | x :: l => if x = c then [] :: segs c l else match segs c l with
  | y :: r => (x :: y) :: r
  | [] => [[x]]
theorem segs_ne (c : UInt8) : ∀ l, segs c l ≠ []
 | [] => by simp [segs]
 | x :: l => by
  unfold segs
  split
  ·simp
  ·split <;> simp
theorem segs_stop (c : UInt8) : ∀ x : List UInt8, (∀ b ∈ x, b ≠ c) -> segs c x = [x]
 | [], _ => rfl
 | b :: x, h => by
  unfold segs
  rw [if_neg (h b List.mem_cons_self), segs_stop c x fun b hb => h b (List.mem_cons_of_mem _ hb)]
theorem segs_cons (c x : UInt8) (l : List UInt8) : segs c (x :: l) = if x = c then [] :: segs c l else match segs c l with
 | y :: r => (x :: y) :: r
 | [] => [[x]] := rfl
theorem segs_cut (c : UInt8) (r : List UInt8) : ∀ x : List UInt8, (∀ b ∈ x, b ≠ c) -> segs c (x ++ c :: r) = x :: segs c r
 | [], _ => by simp [segs]
 | b :: x, h => by
  rw [List.cons_append, segs_cons, if_neg (h b List.mem_cons_self), segs_cut c r x fun b hb => h b (List.mem_cons_of_mem _ hb)]
theorem segs_at (c : UInt8) (l : List UInt8) (f k : Nat) (hfk : f <= k) (hk : k < l.length) (hno : ∀ j (h : j < l.length), f <= j -> j < k -> l[j] ≠ c) (hc : l[k] = c) :
 segs c (l.drop f) = (l.drop f).take (k - f) :: segs c (l.drop (k + 1)) := by
 have e : l.drop f = (l.drop f).take (k - f) ++ c :: l.drop (k + 1) := by
  conv => lhs; rw [<- List.take_append_drop (k - f) (l.drop f)]
  rw [List.drop_drop, show f + (k - f) = k by omega, List.drop_eq_getElem_cons hk, hc]
 conv => lhs; rw [e]
 refine segs_cut c _ _ fun b hb => ?_
 obtain ⟨j, hj, rfl⟩ := List.getElem_of_mem hb
 simp only [List.length_take, List.length_drop] at hj
 have := hno (f + j) (by omega) (by omega) (by omega)
 simpa using this
theorem segs_end (c : UInt8) (l : List UInt8) (f : Nat) (hno : ∀ j (h : j < l.length), f <= j -> l[j] ≠ c) : segs c (l.drop f) = [l.drop f] := by
 refine segs_stop c _ fun b hb => ?_
 obtain ⟨j, hj, rfl⟩ := List.getElem_of_mem hb
 simp only [List.length_drop] at hj
 have := hno (f + j) (by omega) (by omega)
 simpa using this
theorem occ_one {s : List UInt8} {c : UInt8} {i : Nat} : Lib.occAt s [c] i = true ↔ s[i]? = some c := by
 unfold Lib.occAt
 cases h : s.drop i with
 | nil =>
  have := List.drop_eq_nil_iff.1 h
  simp [List.getElem?_eq_none this]
 | cons a t =>
  have : s[i]? = some a := by rw [<- Nat.add_zero i, <- List.getElem?_drop, h]; rfl
  rw [this]
  simp [List.isPrefixOf]
  exact eq_comm
theorem splitK_segs (c : UInt8) : ∀ (k : Nat) (s : List UInt8), Lib.count s [c] = k -> Lib.splitK [c] 0 k s = segs c s
 | 0, s, h => by
  rcases Lib.index_spec s [c] with ⟨_, hn⟩ | ⟨i, hi, _⟩
  ·show [s] = _
   refine (segs_stop c s fun b hb he => ?_).symm
   obtain ⟨j, hj, rfl⟩ := List.getElem_of_mem hb
   have := hn j (by omega)
   rw [Bool.eq_false_iff] at this
   exact this (occ_one.2 (by rw [List.getElem?_eq_getElem hj, he]))
  ·rw [Lib.count_hit (by simp) hi] at h
   omega
 | k + 1, s, h => by
  rcases Lib.index_spec s [c] with ⟨hm, _⟩ | ⟨i, hi, hle, ho, hno⟩
  ·rw [Lib.count_miss hm] at h
   omega
  ·have hc := occ_one.1 ho
   have hil : i < s.length := by
    rcases Nat.lt_or_ge i s.length with h | h
    ·exact h
    ·rw [List.getElem?_eq_none h] at hc; cases hc
   have hcg : s[i] = c := by rw [List.getElem?_eq_getElem hil] at hc; exact Option.some.inj hc
   rw [Lib.count_hit (by simp) hi] at h
   have hm : ¬ (Lib.index s [c] == -1) = true := fun e => by have := beq_iff_eq.1 e; omega
   rw [Lib.splitK, if_neg hm, hi]
   have e := segs_at c s 0 i (Nat.zero_le _) hil (fun j hj _ hji he => by
    have := hno j hji
    rw [Bool.eq_false_iff] at this
    exact this (occ_one.2 (by rw [List.getElem?_eq_getElem hj, he]))) hcg
   rw [List.drop_zero, Nat.sub_zero] at e
   rw [e]
   have hk := splitK_segs c k (s.drop (i + 1)) (by simp at h; omega)
   simp only [List.length_singleton, Nat.add_zero, Int.toNat_natCast]
   rw [hk]
theorem splitB_segs (c : UInt8) (s : ByteArray) : (Lib.splitB ⟨#[c]⟩ 0 (Lib.countB s ⟨#[c]⟩) s).map (·.data.toList) = segs c s.data.toList := by
 rw [Lib.splitB_data]
 exact splitK_segs c _ _ rfl
theorem idxFrom_all (q : Nat -> Bool) (hq : ∀ n, 128 <= n -> q n = true) (s : ByteArray) : ∀ (f pos : Nat), s.size - pos <= f -> pos <= s.size ->
 decide (0 <= Lib.idxFuncFrom q true s f pos) = (s.data.toList.drop pos).any fun c => q c.toNat
 | 0, pos, h, h2 => by
  have e : s.data.toList.drop pos = [] := List.drop_eq_nil_of_le (by simp [ByteArray.size_data] at *; omega)
  rw [e]
  rfl
 | f + 1, pos, h, h2 => by
  unfold Lib.idxFuncFrom
  by_cases hlt : pos < s.size
  ·rw [if_pos hlt]
   have hl : s.data.toList.length = s.size := by simp
   have e : s.data.toList.drop pos = s[pos] :: s.data.toList.drop (pos + 1) := by
    rw [List.drop_eq_getElem_cons (by omega)]
    congr 1
   rw [e, List.any_cons]
   by_cases hc : q s[pos].toNat = true
   ·have : q (Utf8.decode s pos).1 = true := by
     rcases Nat.lt_or_ge s[pos].toNat 128 with h5 | h5
     ·rw [decode_ascii s pos hlt h5]; exact hc
     ·exact hq _ (decode_high s pos hlt h5).1
    rw [if_pos (by rw [this]), hc]
    simp
   ·have h5 : s[pos].toNat < 128 := by
     rcases Nat.lt_or_ge s[pos].toNat 128 with h5 | h5
     ·exact h5
     ·exact absurd (hq _ h5) hc
    rw [decode_ascii s pos hlt h5, if_neg (by simpa using hc), idxFrom_all q hq s f (pos + 1) (by omega) (by omega)]
    simp [Bool.not_eq_true _ ▸ hc]
  ·have e : s.data.toList.drop pos = [] := List.drop_eq_nil_of_le (by simp [ByteArray.size_data] at *; omega)
   rw [if_neg hlt, e]
   rfl
theorem idxFunc_all (q : Nat -> Bool) (hq : ∀ n, 128 <= n -> q n = true) (s : ByteArray) : decide (0 <= Lib.idxFunc q true s) = s.data.toList.any fun c => q c.toNat := by
 unfold Lib.idxFunc
 rw [idxFrom_all q hq s _ 0 (by omega) (by omega)]
 simp
end Go.Proofs.YtfbhchpbflaphaaGreatDoor.Seg

namespace Go.Proofs.YtfbhchpbflaphaaGreatDoor
open Go.RowKit
theorem str_info : (Tryz.prog.info? 9).map (fun i => (i.zero, i.size, i.bytes)) = some (some (.string ⟨#[]⟩), 1, 16) := by kernel_rfl
def strs (l : List ByteArray) : List Value := l.map Value.string
theorem strs_one (l : List ByteArray) : ∀ u ∈ strs l, u.oneCell' = true := by intro u hu; obtain ⟨n, _, rfl⟩ := List.mem_map.1 hu; rfl
theorem strs_append (l m : List ByteArray) : strs (l ++ m) = strs l ++ strs m := List.map_append
theorem cells_new_strs (w : World) (l : List ByteArray) : ∀ j u, (strs l)[j]? = some u -> (w.alloc (.cells (strs l).toArray 9)).cell? ((⟨w.heap.size, 0, none⟩ : Addr).add j) = some u := by
 intro j u hj
 rw [Addr.add_lit, Nat.zero_add, cell_new]
 simpa using hj
def OwnStrs (w : World) (base : Nat) (v : Value) (l : List ByteArray) : Prop := OwnAt w base 9 1 v l.length (strs l)
theorem own_strs_nil (w : World) (b : Nat) : OwnStrs w b (.slice none 0 0) [] := OwnAt.nil _ _ _ _
theorem own_strs_snoc {w : World} {base : Nat} {v : Value} {l : List ByteArray} {x : ByteArray} {n : Nat} (hn : n = l.length) (h : OwnAt w base 9 1 v (n + 1) (strs l ++ strs [x])) : OwnStrs w base v (l ++ [x]) := by
 subst hn
 unfold OwnStrs
 rw [strs_append, List.length_append]
 exact h
def StrsAt (w : World) (A : Option Addr) (n : Nat) (l : List ByteArray) : Prop :=
 n = l.length /\ n <= 9223372036854775807 /\ ∀ j (h : j < l.length), ∃ b off, A = some ⟨b, off, none⟩ /\ ∀ w', Ext w w' -> w'.cell? ⟨b, off + j, none⟩ = some (.string l[j])
theorem StrsAt.ext {w w' : World} {A : Option Addr} {n : Nat} {l : List ByteArray} (h : StrsAt w A n l) (he : Ext w w') : StrsAt w' A n l :=
 ⟨h.1, h.2.1, fun j hj => by obtain ⟨b, off, e, hc⟩ := h.2.2 j hj; exact ⟨b, off, e, fun w2 h2 => hc w2 (he.trans h2)⟩⟩
theorem StrsAt.of_own {w : World} {base : Nat} {v : Value} {l : List ByteArray} (h : OwnStrs w base v l) : ∃ A c, v = .slice A l.length c /\ StrsAt w A l.length l := by
 by_cases hl : l = []
 ·subst hl
  obtain ⟨_, ⟨rfl, _⟩ | ⟨g, off, cap, cur, rfl, _, _, hn, hc, _⟩⟩ := h
  ·exact ⟨none, 0, rfl, rfl, by simp, fun j hj => by simp at hj⟩
  ·exact ⟨_, cap, rfl, rfl, by simp, fun j hj => by simp at hj⟩
 ·obtain ⟨g, off, cap, rfl, _, _, hn, hc, hcell⟩ := OwnAt.cells h (List.length_pos_iff.2 hl)
  exact ⟨_, cap, rfl, rfl, by omega, fun j hj => ⟨g, off, rfl, fun w' hw' => hw'.keepc (hcell j _ (by simp [strs, hj]))⟩⟩
def mkB (l : List UInt8) : ByteArray := ⟨l.toArray⟩
theorem mkB_ext (s : ByteArray) (f k : Nat) : s.extract f k = mkB ((s.data.toList.drop f).take (k - f)) := by
 apply ByteArray.ext
 apply Array.toList_inj.1
 rw [Lib.extract_data]
 rfl
def partsB (c : UInt8) (s : ByteArray) : List ByteArray := (Seg.segs c s.data.toList).map mkB
def cutSt (c : UInt8) (s : ByteArray) (D : List ByteArray) (f k : Nat) : Prop :=
 f <= k /\ k <= s.data.toList.length /\ (∀ j (_ : j < s.data.toList.length), f <= j -> j < k -> s.data.toList[j] ≠ c) /\ partsB c s = D ++ (Seg.segs c (s.data.toList.drop f)).map mkB /\ D.length <= k
theorem cut_start (c : UInt8) (s : ByteArray) : cutSt c s [] 0 0 := ⟨Nat.le_refl _, Nat.zero_le _, fun _ _ _ h => absurd h (Nat.not_lt_zero _), rfl, Nat.zero_le _⟩
theorem cut_on {c : UInt8} {s : ByteArray} {D : List ByteArray} {f k : Nat} (h : cutSt c s D f k) (hk : k < s.data.toList.length) (hc : s.data.toList[k] ≠ c) : cutSt c s D f (k + 1) := by
 obtain ⟨h1, h2, h3, h4, h5⟩ := h
 refine ⟨by omega, by omega, fun j hj hfj hjk => ?_, h4, by omega⟩
 by_cases e : j = k
 ·subst e; exact hc
 ·exact h3 j hj hfj (by omega)
theorem cut_hit {c : UInt8} {s : ByteArray} {D : List ByteArray} {f k : Nat} (h : cutSt c s D f k) (hk : k < s.data.toList.length) (hc : s.data.toList[k] = c) : cutSt c s (D ++ [s.extract f k]) (k + 1) (k + 1) := by
 obtain ⟨h1, h2, h3, h4, h5⟩ := h
 refine ⟨Nat.le_refl _, by omega, fun _ _ h6 h7 => by omega, ?_, by simp; omega⟩
 rw [h4, Seg.segs_at c s.data.toList f k h1 hk h3 hc, mkB_ext]
 simp
theorem cut_end {c : UInt8} {s : ByteArray} {D : List ByteArray} {f : Nat} (h : cutSt c s D f s.size) : partsB c s = D ++ [s.extract f s.size] := by
 obtain ⟨h1, h2, h3, h4, h5⟩ := h
 have hl : s.data.toList.length = s.size := by simp
 rw [h4, Seg.segs_end c s.data.toList f (fun j hj hfj => h3 j hj hfj (by omega)), mkB_ext, List.take_of_length_le (by simp)]
 rfl
def RetStrs (w : World) (L : List ByteArray) (e : Ending) (w' : World) : Prop := ∃ v, e = .returned v /\ OwnStrs w' w.heap.size v L /\ Ext w w'
set_option maxRecDepth 8000 in
set_option maxHeartbeats 1000000 in
theorem refSplit_any (s : ByteArray) (c : UInt8) (w : World) (hs : s.size <= 9000000) : Calls Tryz.prog 117 #[.string s, .int .u8 (c.toNat : Int)] w (RetStrs w (partsB c s)) := by
 obtain ⟨i0, hi, hz0, hz1, hz2⟩ := info_parts str_info
 have hl : s.data.toList.length = s.size := by simp
 have HL := Lib.hid hl
 have hcb : c.toNat <= 255 := by have := c.toNat_lt; omega
 have H0 := cut_start c s
 clear hl
 go_enter Tryz.func117, Tryz.ntmps117
 go_wp2_with fail
 go_loopw [5, 6, 7] (fun v a i wr => ∃ (D : List ByteArray) (f k : Nat), f <= k /\ k <= s.size /\ a = .int .i64 f /\ i = .int .i64 k /\ cutSt c s D f k /\ OwnStrs wr w.heap.size v D /\ Ext w wr) (fun _ _ i _ => s.size - (intOf i).toNat)
 case atStart => exact ⟨[], 0, 0, Nat.le_refl _, Nat.zero_le _, rfl, rfl, H0, own_strs_nil _ _, Ext.refl _⟩
 case round =>
  obtain ⟨D, f, k, hfk, hk, rfl, rfl, HC, hown, hd⟩ := hrel
  have hdl : D.length <= k := HC.2.2.2.2
  unfold OwnStrs at hown
  by_cases hlt : k < s.size
  ·have hb : s[k].toNat <= 255 := by have := s[k].toNat_lt; omega
   by_cases hc : s[k] = c
   ·have e1 : ((s[k].toNat : Int) == (c.toNat : Int)) = true := by rw [hc]; simp
    have HH := cut_hit HC (by rw [HL.out]; exact hlt) hc
    obtain ⟨q, hq⟩ : ∃ q, q = D.length := ⟨_, rfl⟩
    rw [<- hq] at hown hdl
    have HQ := Lib.hid hq
    have HBS : Hid (w.heap.size <= (wr.alloc (.cells #[.string (s.extract f k)] 9)).heap.size) := Nat.le_trans hd.size ((Ext.refl wr).alloc _).size
    clear hc hq
    go_wp2_with (at_builtin; refine wpList_append_ownAt _ rfl (.tmp 19) (.tmp 24) 36 rfl w.heap.size 9 i0 (.string ⟨#[]⟩) 1 16 Tryz.underlying36 hi hz0 hz1 hz2 rfl (by decide) _ _ _ rfl (hown.alloc _) ⟨wr.heap.size, 0, none⟩ 1 1 (strs [s.extract f k]) rfl rfl (cells_new_strs wr _) (strs_one _) (by unfold maxLen; omega) (by omega) HBS.out (by decide) ?_; intro v4 w4 hown4 hg4 _ _)
    go_roundw
    case rel => exact ⟨D ++ [s.extract f k], k + 1, k + 1, Nat.le_refl _, by omega, by go_num, by go_num, HH, own_strs_snoc HQ.out hown4, (hd.alloc _).grown hown hg4⟩
    case measure => simp [intOf]; omega
   ·have e1 : ((s[k].toNat : Int) == (c.toNat : Int)) = false := by
     rw [beq_eq_false_iff_ne]
     intro e
     exact hc (UInt8.toNat_inj.1 (by omega))
    have HH := cut_on HC (by rw [HL.out]; exact hlt) hc
    clear hc
    go_wp2_with fail
    go_roundw
    case rel => exact ⟨D, f, k + 1, by omega, by omega, rfl, by go_num, HH, hown, hd⟩
    case measure => simp [intOf]; omega
  ·obtain rfl : k = s.size := by omega
   have he := cut_end HC
   have HE := Lib.hid he
   obtain ⟨q, hq⟩ : ∃ q, q = D.length := ⟨_, rfl⟩
   rw [<- hq] at hown hdl
   have HQ := Lib.hid hq
   have HBS : Hid (w.heap.size <= (wr.alloc (.cells #[.string (s.extract f s.size)] 9)).heap.size) := Nat.le_trans hd.size ((Ext.refl wr).alloc _).size
   clear he hq
   go_wp2_with (at_builtin; refine wpList_append_ownAt _ rfl (.tmp 28) (.tmp 32) 36 rfl w.heap.size 9 i0 (.string ⟨#[]⟩) 1 16 Tryz.underlying36 hi hz0 hz1 hz2 rfl (by decide) _ _ _ rfl (hown.alloc _) ⟨wr.heap.size, 0, none⟩ 1 1 (strs [s.extract f s.size]) rfl rfl (cells_new_strs wr _) (strs_one _) (by unfold maxLen; omega) (by omega) HBS.out (by decide) ?_; intro v4 w4 hown4 hg4 _ _)
   go_ret
   exact ⟨_, rfl, by rw [HE.out]; exact own_strs_snoc HQ.out hown4, (hd.alloc _).grown hown hg4⟩
def pathL (l : List UInt8) : Bool := decide (l.length <= 128) && (Seg.segs 47 l).all nameB && decide ((Seg.segs 47 l).length <= 8)
theorem parts_path (s : ByteArray) : pathL s.data.toList = (decide (s.size <= 128) && decide ((partsB 47 s).length <= 8) && (partsB 47 s).all fun x => nameB x.data.toList) := by
 unfold pathL partsB
 rw [List.all_map, List.length_map]
 have e : ((fun x : ByteArray => nameB x.data.toList) ∘ mkB) = nameB := by funext x; rfl
 have hl : s.data.toList.length = s.size := by simp
 rw [e, hl]
 simp [Bool.and_assoc, Bool.and_comm, Bool.and_left_comm]
theorem parts_sizes (c : UInt8) (s : ByteArray) : ∀ x ∈ partsB c s, x.size <= s.size := by
 have key : ∀ l : List UInt8, ∀ x ∈ Seg.segs c l, x.length <= l.length := by
  intro l
  induction l with
  | nil => intro x hx; simp [Seg.segs] at hx; simp [hx]
  | cons a l ih =>
   intro x hx
   rw [Seg.segs_cons] at hx
   by_cases ha : a = c
   ·rw [if_pos ha] at hx
    rcases List.mem_cons.1 hx with rfl | hx
    ·simp
    ·have := ih x hx; simp; omega
   ·rw [if_neg ha] at hx
    cases hseg : Seg.segs c l with
    | nil => rw [hseg] at hx; simp at hx; simp [hx]
    | cons y r =>
     rw [hseg] at hx ih
     simp only at hx
     rcases List.mem_cons.1 hx with rfl | hx
     ·have := ih y List.mem_cons_self; simp; omega
     ·have := ih x (List.mem_cons_of_mem _ hx); simp; omega
 intro x hx
 obtain ⟨y, hy, rfl⟩ := List.mem_map.1 hx
 have := key _ y hy
 have hl : s.data.toList.length = s.size := by simp
 rw [hl] at this
 show (mkB y).size <= s.size
 have e : (mkB y).size = y.length := by simp [mkB, ByteArray.size]
 omega
theorem name_is (s : ByteArray) (b : Bool) (w : World) (hs : s.size <= 9223372036854775807) (h : nameB s.data.toList = b) : Calls Tryz.prog 118 #[.string s] w fun e w' => e = .returned (.bool b) /\ w = w' := h ▸ name_any s w hs
def pathErr (b : Bool) : Int := if b then 0 else 2
def allTo (l : List ByteArray) (k : Nat) : Prop := (l.take k).all (fun x => nameB x.data.toList) = true
set_option maxRecDepth 8000 in
set_option maxHeartbeats 1000000 in
theorem refPath_any (s : ByteArray) (w : World) (hs : s.size <= 9000000) : Calls Tryz.prog 88 #[.string s] w (Al (.int .i64 (pathErr (pathL s.data.toList))) w) := by
 have hp := parts_path s
 by_cases h1 : s.size <= 128
 ·rw [decide_eq_true h1, Bool.true_and] at hp
  have HS := Lib.hid (fun w' => refSplit_any s 47 w' hs)
  have hsz := parts_sizes 47 s
  generalize partsB 47 s = L at hp HS hsz
  have HSZ := Lib.hid hsz
  obtain ⟨n, hn⟩ : ∃ n, n = L.length := ⟨_, rfl⟩
  have HN := Lib.hid hn
  rw [<- hn] at hp
  clear hsz hn
  by_cases h8 : n <= 8
  ·rw [decide_eq_true h8, Bool.true_and] at hp
   generalize pathL s.data.toList = R at hp ⊢
   have HP := Lib.hid hp
   clear hp
   go_enter Tryz.func88, Tryz.ntmps88
   go_wp2_with fail
   refine (HS.out _).mono ?_
   rintro e w1 ⟨v1, rfl, o1, d1⟩
   obtain ⟨A1, c1, rfl, i1⟩ := StrsAt.of_own o1
   rw [<- HN.out] at i1 ⊢
   have I1 := Lib.hid i1.2.2
   clear o1 i1
   go_wp2_with fail
   go_loopw [16] (fun i wr => ∃ k : Nat, k <= n /\ i = .int .i64 k /\ allTo L k /\ Ext w1 wr) (fun i _ => n - (intOf i).toNat)
   case atStart => exact ⟨0, Nat.zero_le _, rfl, rfl, Ext.refl _⟩
   case round =>
    obtain ⟨k, hk, rfl, HA, hd⟩ := hrel
    by_cases hlt : k < n
    ·have hkl : k < L.length := by rw [<- HN.out]; exact hlt
     obtain ⟨b, off, rfl, hc⟩ := I1.out k hkl
     have c0 := hc wr hd
     have hx := HSZ.out L[k] (List.getElem_mem hkl)
     have ht : (L.take (k + 1)).all (fun x => nameB x.data.toList) = ((L.take k).all (fun x => nameB x.data.toList) && nameB L[k].data.toList) := by
      rw [List.take_succ_eq_append_getElem hkl, List.all_append]; simp
     have hm : nameB L[k].data.toList = false -> L.all (fun x => nameB x.data.toList) = false := fun h => by
      rw [List.all_eq_false]
      exact ⟨L[k], List.getElem_mem hkl, by simp [h]⟩
     generalize L[k] = x at c0 hx ht hm
     obtain ⟨bb, hbb⟩ : ∃ bb, nameB x.data.toList = bb := ⟨_, rfl⟩
     have NM := Lib.hid (fun w' => name_is x bb w' (by omega) hbb)
     rw [hbb] at ht hm
     clear hbb hc
     cases bb
     ·have HF : Hid (R = false) := by unfold Hid; rw [HP.out]; exact hm rfl
      clear ht hm
      go_wp2_with fail
      refine (NM.out _).mono ?_
      rintro e w' ⟨rfl, rfl⟩
      go_wp2_with fail
      go_ret
      exact ⟨ret_int (by rw [HF.out]; rfl), d1.trans hd⟩
     ·have HT : allTo L (k + 1) := by unfold allTo at HA ⊢; rw [ht, HA]; rfl
      clear ht hm
      go_wp2_with fail
      refine (NM.out _).mono ?_
      rintro e w' ⟨rfl, rfl⟩
      go_wp2_with fail
      go_roundw
      case rel => exact ⟨k + 1, by omega, by go_num, HT, hd⟩
      case measure => simp [intOf]; omega
    ·have HT : Hid (R = true) := by
      have h := HA
      unfold allTo at h
      show R = true
      rw [HP.out]
      rwa [List.take_of_length_le (by have := HN.out; omega)] at h
     go_wp2_with fail
     go_ret
     exact ⟨ret_int (by rw [HT.out]; rfl), d1.trans hd⟩
  ·rw [decide_eq_false h8, Bool.false_and] at hp
   rw [hp]
   clear hp
   go_enter Tryz.func88, Tryz.ntmps88
   go_wp2_with fail
   refine (HS.out _).mono ?_
   rintro e w1 ⟨v1, rfl, o1, d1⟩
   obtain ⟨A1, c1, rfl, i1⟩ := StrsAt.of_own o1
   rw [<- HN.out] at i1 ⊢
   have i12 := i1.2.1
   clear o1 i1
   go_wp2_with fail
   go_ret
   exact ⟨rfl, d1⟩
 ·rw [decide_eq_false h1, Bool.false_and, Bool.false_and] at hp
  rw [hp]
  clear hp
  go_enter Tryz.func88, Tryz.ntmps88
  go_wp2_with fail
  go_ret
  exact ⟨rfl, Ext.refl _⟩
theorem rune_high (n : Nat) (h : 128 <= n) : runeB (n : Int) = false := by unfold runeB; simp; omega
theorem allRunes_all (s : ByteArray) : allRunes s = s.data.toList.all okc := by
 unfold allRunes
 rw [Seg.idxFunc_all (fun r => !runeB (r : Int)) (fun n h => by simp [rune_high n h]) s, List.any_eq_not_all_not, Bool.not_not]
 congr 1
 funext c
 simp [okc]
theorem part_name (s : ByteArray) : partB s = nameB s.data.toList := by
 unfold partB
 by_cases h : 0 < s.size
 ·rw [dif_pos h, name_of s h, allRunes_all]
  have h46 : s[0] = 46 ↔ (s[0].toNat : Int) = 46 := by
   rw [<- UInt8.toNat_inj]; show s[0].toNat = 46 ↔ _; omega
  have h45 : s[0] = 45 ↔ (s[0].toNat : Int) = 45 := by
   rw [<- UInt8.toNat_inj]; show s[0].toNat = 45 ↔ _; omega
  by_cases h1 : 32 < s.size
  ·rw [if_pos h1]; simp [Nat.not_le.2 h1]
  ·rw [if_neg h1]
   by_cases h2 : s[0] = 46
   ·rw [if_pos h2]; simp [h46.1 h2]
   ·rw [if_neg h2]
    by_cases h3 : s[0] = 45
    ·rw [if_pos h3]; simp [h45.1 h3]
    ·rw [if_neg h3]
     have g2 := mt h46.2 h2
     have g3 := mt h45.2 h3
     simp [g2, g3, Nat.not_lt.1 h1]
 ·rw [dif_neg h]
  have : decide (1 <= s.data.toList.length) = false := by
   have hl : s.data.toList.length = s.size := by simp
   rw [hl]
   exact decide_eq_false (by omega)
  unfold nameB
  rw [this]
  rfl
theorem path_same (s : ByteArray) : pathB s = pathL s.data.toList := by
 have e := Seg.splitB_segs 47 s
 unfold pathB pathL
 have e1 : (pieces s).map (·.data.toList) = Seg.segs 47 s.data.toList := e
 have e2 : (pieces s).length = (Seg.segs 47 s.data.toList).length := by rw [<- e1, List.length_map]
 have e3 : (!((pieces s).any fun x => !partB x)) = (Seg.segs 47 s.data.toList).all nameB := by
  rw [<- e1, List.all_map, List.any_eq_not_all_not, Bool.not_not]
  congr 1
  funext x
  simp [part_name]
 rw [e2, e3]
 simp [Bool.and_assoc, Bool.and_comm, Bool.and_left_comm]
theorem path_is (s : ByteArray) (m : Int) (w : World) (hs : s.size <= 1000000) (hm : w.cell? ⟨0, 0, none⟩ = some (.int .i64 m)) : Calls Tryz.prog 110 #[.string s] w (Al (.int .i64 (pathErr (pathL s.data.toList))) w) := by
 have h := Path_any s m w hs hm
 have e : pathE s = pathErr (pathL s.data.toList) := by unfold pathE pathErr; rw [path_same]
 rwa [e] at h
end Go.Proofs.YtfbhchpbflaphaaGreatDoor

namespace Go.Proofs.YtfbhchpbflaphaaGreatDoor.C
abbrev Bs := List UInt8
end Go.Proofs.YtfbhchpbflaphaaGreatDoor.C

namespace Go.Proofs.YtfbhchpbflaphaaGreatDoor.C
abbrev Sym := ByteArray × (Int × Int)
abbrev Rel := Int × ByteArray
abbrev Sec := Int × (ByteArray × List Rel)
abbrev Obj := List Sym × List Sec
def nm (s : Sym) : Bs := s.1.data.toList
def idx : List Sym -> Bs -> Option Nat
 | [], _ => none
 | s :: l, x => if nm s = x then some 0 else (idx l x).map (· + 1)
theorem idx_lt : ∀ {l : List Sym} {x : Bs} {i : Nat}, idx l x = some i -> ∃ h : i < l.length, nm l[i] = x
 | [], x, i, h => by simp [idx] at h
 | s :: l, x, i, h => by
  rw [idx] at h
  by_cases hs : nm s = x
  ·rw [if_pos hs] at h
   cases h
   exact ⟨by simp, hs⟩
  ·rw [if_neg hs] at h
   cases hj : idx l x with
   | none => rw [hj] at h; cases h
   | some j =>
    rw [hj] at h
    cases h
    obtain ⟨h1, h2⟩ := idx_lt hj
    exact ⟨by simpa using h1, by simpa using h2⟩
theorem idx_first : ∀ {l : List Sym} {x : Bs} {i : Nat}, idx l x = some i -> ∀ j (h : j < l.length), j < i -> nm l[j] ≠ x
 | [], x, i, h, _, _, _ => by simp [idx] at h
 | s :: l, x, i, h, j, hj, hji => by
  rw [idx] at h
  by_cases hs : nm s = x
  ·rw [if_pos hs] at h
   cases h
   omega
  ·rw [if_neg hs] at h
   cases hk : idx l x with
   | none => rw [hk] at h; cases h
   | some k =>
    rw [hk] at h
    cases h
    cases j with
    | zero => exact hs
    | succ j => exact idx_first hk j (by simpa using hj) (by simpa using hji)
theorem idx_none : ∀ {l : List Sym} {x : Bs}, idx l x = none -> ∀ j (h : j < l.length), nm l[j] ≠ x
 | [], x, _, j, h => by simp at h
 | s :: l, x, h, j, hj => by
  rw [idx] at h
  by_cases hs : nm s = x
  ·rw [if_pos hs] at h; cases h
  ·rw [if_neg hs] at h
   cases hk : idx l x with
   | some k => rw [hk] at h; cases h
   | none =>
    cases j with
    | zero => exact hs
    | succ j => exact idx_none hk j (by simpa using hj)
theorem idx_is {l : List Sym} {x : Bs} {i : Nat} (hi : i < l.length) (h : nm l[i] = x) (hf : ∀ j (h : j < l.length), j < i -> nm l[j] ≠ x) : idx l x = some i := by
 cases hk : idx l x with
 | none => exact absurd h (idx_none hk i hi)
 | some k =>
  obtain ⟨h1, h2⟩ := idx_lt hk
  rcases Nat.lt_trichotomy k i with h3 | h3 | h3
  ·exact absurd h2 (hf k h1 h3)
  ·rw [h3]
  ·exact absurd h (idx_first hk i hi h3)
section
variable (okN : ByteArray -> Bool)
def namesB (l : List Sym) : Bool := (List.range l.length).all fun i => match l[i]? with | some s => okN s.1 && decide (idx l (nm s) = some i) | none => true
theorem namesB_iff (l : List Sym) : namesB okN l = true ↔ ∀ i (h : i < l.length), okN l[i].1 = true /\ idx l (nm l[i]) = some i := by
 unfold namesB
 rw [List.all_eq_true]
 constructor
 ·intro h i hi
  have := h i (List.mem_range.2 hi)
  rw [List.getElem?_eq_getElem hi] at this
  simpa using this
 ·intro h i hi
  have hi := List.mem_range.1 hi
  rw [List.getElem?_eq_getElem hi]
  simpa using h i hi
end
def symB (n : Nat) (s : Sym) : Bool := decide (0 <= s.2.1 /\ s.2.1 <= 3) && decide (-1 <= s.2.2 /\ s.2.2 < n) && !(decide (s.2.1 = 3) && decide (0 <= s.2.2)) && !(decide (s.2.2 < 0) && (decide (s.2.1 = 1) || decide (s.2.1 = 2)))
def own (l : List Sym) (i : Nat) : Nat := (l.filter fun s => decide (s.2.2 = (i : Int))).length
def relsB (syms : List Sym) (d : Bs) : List Rel -> Int -> Bool
 | [], _ => true
 | r :: l, e => decide (e <= r.1) && decide (r.1 <= (d.length : Int) - 4) && decide ((d.drop r.1.toNat).take 4 = [0, 0, 0, 0]) && (idx syms r.2.data.toList).isSome && relsB syms d l (r.1 + 4)
def kindB (k : Int) (n : Nat) : Bool := (decide (k = 1) && decide (2 <= n)) || (decide (k = 2) && decide (n % 4 = 0))
def secB (syms : List Sym) (s : Sec) : Bool := kindB s.1 s.2.1.size && relsB syms s.2.1.data.toList s.2.2 0 && decide (s.2.1.size <= 8192)
def ownedB (o : Obj) : Bool := (List.range o.2.length).all fun i => decide (own o.1 i = 1) && match o.2[i]? with | some s => secB o.1 s | none => true
def checkB (okN : ByteArray -> Bool) (o : Obj) : Bool := decide (o.1.length <= 128 /\ o.2.length <= 128) && namesB okN o.1 && o.1.all (symB o.2.length) && ownedB o
theorem ownedB_iff (o : Obj) : ownedB o = true ↔ ∀ i (h : i < o.2.length), own o.1 i = 1 /\ secB o.1 o.2[i] = true := by
 unfold ownedB
 rw [List.all_eq_true]
 constructor
 ·intro h i hi
  have := h i (List.mem_range.2 hi)
  rw [List.getElem?_eq_getElem hi] at this
  simpa using this
 ·intro h i hi
  have hi := List.mem_range.1 hi
  rw [List.getElem?_eq_getElem hi]
  simpa using h i hi
theorem rels_range {syms : List Sym} {d : Bs} : ∀ {l : List Rel} {e : Int}, relsB syms d l e = true -> 0 <= e -> (∀ x ∈ l, 0 <= x.1 /\ x.1 <= (d.length : Int) - 4 /\ (idx syms x.2.data.toList).isSome = true) /\ (l.length : Int) * 4 + e <= max e d.length
 | [], e, _, h0 => by simp; omega
 | r :: l, e, h, h0 => by
  rw [relsB] at h
  simp only [Bool.and_eq_true, decide_eq_true_eq] at h
  obtain ⟨⟨⟨⟨h1, h2⟩, h3⟩, h4⟩, h5⟩ := h
  obtain ⟨ih1, ih2⟩ := rels_range h5 (by omega)
  refine ⟨fun x hx => ?_, ?_⟩
  ·rcases List.mem_cons.1 hx with rfl | hx
   ·exact ⟨by omega, h2, h4⟩
   ·exact ih1 x hx
  ·simp only [List.length_cons]
   omega
end Go.Proofs.YtfbhchpbflaphaaGreatDoor.C

namespace Go.Proofs.YtfbhchpbflaphaaGreatDoor.C
abbrev Mem := ByteArray × Obj
section
variable (okN okP : ByteArray -> Bool)
def memsB (l : List Mem) : Bool := decide (l.length <= 64) && (List.range l.length).all fun i => match l[i]? with
 | some m => okP m.1 && checkB okN m.2 && (List.range i).all fun j => match l[j]? with | some q => decide (q.1.data.toList ≠ m.1.data.toList) | none => true
 | none => true
theorem memsB_iff (l : List Mem) : memsB okN okP l = true ↔ l.length <= 64 /\ ∀ i (h : i < l.length), okP l[i].1 = true /\ checkB okN l[i].2 = true /\ ∀ j (h' : j < l.length), j < i -> l[j].1.data.toList ≠ l[i].1.data.toList := by
 unfold memsB
 rw [Bool.and_eq_true, List.all_eq_true, decide_eq_true_iff]
 constructor
 ·rintro ⟨h0, h⟩
  refine ⟨h0, fun i hi => ?_⟩
  have := h i (List.mem_range.2 hi)
  rw [List.getElem?_eq_getElem hi] at this
  simp only [Bool.and_eq_true, List.all_eq_true] at this
  refine ⟨this.1.1, this.1.2, fun j hj hji => ?_⟩
  have h2 := this.2 j (List.mem_range.2 hji)
  rw [List.getElem?_eq_getElem hj] at h2
  simpa using h2
 ·rintro ⟨h0, h⟩
  refine ⟨h0, fun i hi => ?_⟩
  have hi := List.mem_range.1 hi
  rw [List.getElem?_eq_getElem hi]
  simp only [Bool.and_eq_true, List.all_eq_true]
  obtain ⟨h1, h2, h3⟩ := h i hi
  refine ⟨⟨h1, h2⟩, fun j hj => ?_⟩
  have hj := List.mem_range.1 hj
  rw [List.getElem?_eq_getElem (show j < l.length by omega)]
  simpa using h3 j (by omega) hj
end
end Go.Proofs.YtfbhchpbflaphaaGreatDoor.C

namespace Go.Proofs.YtfbhchpbflaphaaGreatDoor
open Go.RowKit
def Bl (w : World) (base : Nat) (v : Value) : Nat -> Prop := fun k => base <= k /\ k < w.heap.size /\ v.ownBlock ≠ some k
def OwnF {α : Type} (r : Rep α) (w : World) (base : Nat) (e : TypeId) (v : Value) (n : Nat) (l : List α) : Prop :=
 n = l.length /\ ∃ xs, OwnAt w base e r.size v n xs /\ Flat r w (Bl w base v) l xs
section
variable {α : Type} {r : Rep α} {w w' : World} {base n : Nat} {e : TypeId} {v : Value} {l : List α}
theorem OwnF.nil (r : Rep α) (w : World) (base : Nat) (e : TypeId) : OwnF r w base e (.slice none 0 0) 0 [] := ⟨rfl, [], OwnAt.nil _ _ _ _, rfl⟩
theorem OwnF.below (h : OwnF r w base e v n l) (hs : w.heap.size <= w'.heap.size) (hk : ∀ k, base <= k -> k < w.heap.size -> w'.heap[k]? = w.heap[k]?) : OwnF r w' base e v n l := by
 obtain ⟨hn, xs, ho, hf⟩ := h
 have hlow : ∀ g, v.ownBlock = some g -> base <= g := by
  intro g hg
  obtain ⟨_, ⟨rfl, _⟩ | ⟨g', off, cap, cur, rfl, hb, _⟩⟩ := ho
  ·simp [Value.ownBlock] at hg
  ·simp [Value.ownBlock] at hg; omega
 exact ⟨hn, xs, ho.keep fun g hg hlt => hk g (hlow g hg) hlt, hf.keep (fun k hk => ⟨hk.1, Nat.lt_of_lt_of_le hk.2.1 hs, hk.2.2⟩) fun k hk' => hk k hk'.1 hk'.2.1⟩
theorem OwnF.ext (h : OwnF r w base e v n l) (he : Ext w w') : OwnF r w' base e v n l := h.below he.size fun k _ hk => he.block k hk
theorem OwnF.form (h : OwnF r w base e v n l) : ∃ A c, v = .slice A n c /\ n <= c /\ c <= 9223372036854775807 := by
 obtain ⟨hn, xs, ⟨_, ⟨rfl, rfl⟩ | ⟨g, off, cap, cur, rfl, _, _, h1, h2, _⟩⟩, hf⟩ := h
 ·exact ⟨none, 0, rfl, Nat.le_refl _, by decide⟩
 ·exact ⟨_, cap, rfl, h1, h2⟩
theorem OwnF.slice (h : OwnF r w base e v n l) : ∃ A c, v = .slice A n c /\ SliceAt r w (fun k => base <= k /\ k < w.heap.size) A c l := by
 obtain ⟨hn, xs, ho, hf⟩ := h
 have hf' : Flat r w (fun k => base <= k /\ k < w.heap.size) l xs := hf.keep (fun k hk => ⟨hk.1, hk.2.1⟩) fun _ _ => rfl
 rcases Nat.eq_zero_or_pos n with h0 | h0
 ·have hl : l = [] := List.eq_nil_of_length_eq_zero (by omega)
  subst hl
  obtain ⟨_, ⟨rfl, _⟩ | ⟨g, off, cap, cur, rfl, _, _, h1, h2, _⟩⟩ := ho
  ·exact ⟨none, 0, by rw [h0], SliceAt.nil _ _ _ _ _ (by decide)⟩
  ·exact ⟨_, cap, rfl, SliceAt.nil _ _ _ _ _ h2⟩
 ·obtain ⟨g, off, cap, rfl, hb, hlt, hnc, hcap, hc⟩ := ho.cells h0
  exact ⟨_, cap, rfl, by omega, hcap, fun _ => ⟨g, off, rfl, ⟨hb, hlt⟩, hf'.row hc⟩⟩
end
theorem SliceAt.grown {α : Type} {r : Rep α} {w w' : World} {b : Nat} {A : Option Addr} {c : Nat} {l : List α} (h : SliceAt r w (fun k => k < w.heap.size /\ k ≠ b) A c l) (hg : w.grownBy w' (some b)) : SliceAt r w' (fun k => k < w'.heap.size /\ k ≠ b) A c l :=
 h.keep (fun _ hk => ⟨Nat.lt_of_lt_of_le hk.1 hg.size, hk.2⟩) fun k hk => hg.block k hk.1 fun e => hk.2 (Option.some.inj e)
end Go.Proofs.YtfbhchpbflaphaaGreatDoor

namespace Go.Proofs.YtfbhchpbflaphaaGreatDoor
open Go.RowKit Go.Maps Go.ChangeMaps
def symR : Rep C.Sym := prodR strR (prodR (intR .i64) (intR .i64))
def relR : Rep C.Rel := prodR (intR .i64) strR
def secR : Rep C.Sec := prodR (intR .i64) (prodR strR (sliceR relR))
def objR : Rep C.Obj := prodR (sliceR symR) (sliceR secR)
def memR : Rep C.Mem := prodR strR objR
theorem sym_get {w : World} {A : Option Addr} {c k : Nat} {l : List C.Sym} (h : SliceAt symR w (Old w) A c l) (hk : k < l.length) :
 ∃ b off s m q, A = some ⟨b, off, none⟩ /\ l[k]? = some (s, m, q) /\ s.size <= 9223372036854775807 /\ (Lit.int .i64 m).wf = true /\ (Lit.int .i64 q).wf = true /\
  ∀ w', Ext w w' -> w'.cell? ⟨b, off + k * 3, none⟩ = some (.string s) /\ w'.cell? ⟨b, off + k * 3 + 1, none⟩ = some (.int .i64 m) /\ w'.cell? ⟨b, off + k * 3 + 1 + 1, none⟩ = some (.int .i64 q) := by
 obtain ⟨b, off, rfl, _, hr⟩ := h.2.2 (by intro h; rw [h] at hk; simp at hk)
 obtain ⟨us, ⟨x, y, rfl, ⟨rfl, hs⟩, x2, y2, rfl, ⟨rfl, hm⟩, rfl, hq⟩, hc⟩ := hr k hk
 refine ⟨b, off, l[k].1, l[k].2.1, l[k].2.2, rfl, by simp [List.getElem?_eq_getElem hk], hs, hm, hq, fun w' h' => ⟨h'.keepc (hc 0 _ rfl), h'.keepc (hc 1 _ rfl), h'.keepc (hc 2 _ rfl)⟩⟩
theorem idx_snoc (s : C.Sym) (x : List UInt8) : ∀ l : List C.Sym, C.idx (l ++ [s]) x = match C.idx l x with | some i => some i | none => if C.nm s = x then some l.length else none
 | [] => by simp [C.idx]
 | a :: l => by
  rw [List.cons_append, C.idx, C.idx]
  by_cases h : C.nm a = x
  ·rw [if_pos h, if_pos h]
  ·rw [if_neg h, if_neg h, idx_snoc s x l]
   cases C.idx l x with
   | some i => rfl
   | none =>
    by_cases h2 : C.nm s = x
    ·simp [h2]
    ·simp [h2]
def mapD (l : List C.Sym) : Nat -> DataW Unit
 | 0 => .map []
 | k + 1 => match l[k]? with | some s => (mapD l k).put (.string (C.nm s)) (.lit (.int .i64 (k : Int))) | none => mapD l k
theorem mapD_map (l : List C.Sym) : ∀ k, IsMap (mapD l k)
 | 0 => isMap_empty
 | k + 1 => by
  rw [mapD]
  split
  ·exact (mapD_map l k).put _ _
  ·exact mapD_map l k
theorem mapD_succ (l : List C.Sym) (k : Nat) (s : C.Sym) (h : l[k]? = some s) : mapD l (k + 1) = (mapD l k).put (.string (C.nm s)) (.lit (.int .i64 (k : Int))) := by rw [mapD, h]
theorem has_mapD (l : List C.Sym) (x : List UInt8) : ∀ k, k <= l.length -> Maps.has (mapD l k) (.string x) = (C.idx (l.take k) x).isSome
 | 0, _ => rfl
 | k + 1, h => by
  have hk : l[k]? = some l[k] := List.getElem?_eq_getElem (by omega)
  have ih := has_mapD l x k (by omega)
  rw [mapD_succ l k _ hk, List.take_succ_eq_append_getElem (by omega), idx_snoc]
  by_cases e : C.nm l[k] = x
  ·subst e
   rw [Maps.has_put_same (mapD_map l k) (show Go.WideAt.IsKeyLit (Lit.string _) from trivial)]
   cases C.idx (l.take k) (C.nm l[k]) <;> simp
  ·rw [Maps.has_put_other (by intro h'; cases h'; exact e rfl), ih]
   cases C.idx (l.take k) x <;> simp [e]
def okN (s : ByteArray) : Bool := K.name s.data.toList
def okTo2 (l : List C.Sym) (k : Nat) : Prop := ∀ i (h : i < l.length), i < k -> okN l[i].1 = true /\ C.idx l (C.nm l[i]) = some i
theorem idx_take {l : List C.Sym} {x : List UInt8} {k i : Nat} (h : C.idx (l.take k) x = some i) : C.idx l x = some i /\ i < k := by
 obtain ⟨h1, h2⟩ := C.idx_lt h
 have hl : i < l.length := by simp at h1; omega
 have hk : i < k := by simp at h1; omega
 refine ⟨C.idx_is hl (by simpa using h2) fun j hj hji => ?_, hk⟩
 have := C.idx_first h j (by simp; omega) hji
 simpa using this
theorem idx_at {l : List C.Sym} {k : Nat} (hk : k < l.length) (h : C.idx (l.take k) (C.nm l[k]) = none) : C.idx l (C.nm l[k]) = some k := by
 refine C.idx_is hk rfl fun j hj hji => ?_
 have := C.idx_none h j (by simp; omega)
 simpa using this
theorem names_twice {l : List C.Sym} {k : Nat} (hk : k < l.length) (h : (C.idx (l.take k) (C.nm l[k])).isSome = true) : C.namesB okN l = false := by
 obtain ⟨i, hi⟩ := Option.isSome_iff_exists.1 h
 obtain ⟨h1, h2⟩ := idx_take hi
 rw [Bool.eq_false_iff]
 intro hn
 have := ((C.namesB_iff okN l).1 hn k hk).2
 rw [h1] at this
 cases this
 omega
theorem names_bad {l : List C.Sym} {k : Nat} (hk : k < l.length) (h : okN l[k].1 = false) : C.namesB okN l = false := by
 rw [Bool.eq_false_iff]
 intro hn
 have := ((C.namesB_iff okN l).1 hn k hk).1
 rw [h] at this
 cases this
theorem names_end {l : List C.Sym} (h : okTo2 l l.length) : C.namesB okN l = true := (C.namesB_iff okN l).2 fun i hi => h i hi hi
theorem names_on {l : List C.Sym} {k : Nat} (h : okTo2 l k) (hk : k < l.length) (h1 : okN l[k].1 = true) (h2 : (C.idx (l.take k) (C.nm l[k])).isSome = false) : okTo2 l (k + 1) := by
 intro i hi hik
 by_cases e : i = k
 ·subst e
  exact ⟨h1, idx_at hk (by simpa using h2)⟩
 ·exact h i hi (by omega)
def MapTo (w : World) (b : Nat) (l : List C.Sym) (k : Nat) : Prop := w.ownsMap (H := Unit) Tryz.prog 9 (plainElem Tryz.prog 3) b k (mapD l k)
theorem MapTo.ext {w w' : World} {b k : Nat} {l : List C.Sym} (h : MapTo w b l k) (he : Ext w w') : MapTo w' b l k := by
 obtain ⟨es, clock, hb, r⟩ := h
 refine ⟨es, clock, (he.block b ?_).trans hb, r⟩
 rcases Nat.lt_or_ge b w.heap.size with h' | h'
 ·exact h'
 ·rw [Array.getElem?_eq_none h'] at hb; cases hb
def RetIdx (w : World) (l : List C.Sym) (B : Bool) (e : Ending) (w' : World) : Prop :=
 Ext w w' /\ ((B = false /\ e = .returned (.tuple #[.map none, .bool false])) ∨ (B = true /\ ∃ b, w.heap.size <= b /\ e = .returned (.tuple #[.map (some b), .bool true]) /\ MapTo w' b l l.length))
theorem zero3 (w : World) : (zeroValue 3).run Tryz.prog w = .ok (.int .i64 0) w := by kernel_rfl
theorem Ext.mapBlock {a b c : World} {m : Nat} (h : Ext a b) (hm : a.heap.size <= m) (hg : b.grownBy c (some m)) : Ext a c :=
 Below.grown h hg h.size fun k hk => by cases hk; exact hm
set_option maxRecDepth 8000 in
set_option maxHeartbeats 2000000 in
theorem index_any (l : List C.Sym) (A B : Option Addr) (c d n m : Nat) (w : World) (hn : n = l.length) (hA : SliceAt symR w (Old w) A c l) (hs : ∀ s ∈ l, s.1.size <= 9000000) (hn2 : n <= 100000) :
 Calls Tryz.prog 127 #[.agg #[.slice A n c, .slice B m d]] w (RetIdx w l (C.namesB okN l)) := by
 have hmm := @run_makeMap Tryz.prog
 have h0 : okTo2 l 0 := fun _ _ h => absurd h (Nat.not_lt_zero _)
 have HN := Lib.hid hn
 have HA := Lib.hid hA
 have HS := Lib.hid hs
 have FT := Lib.hid (fun k hk => @names_twice l k hk)
 have FB := Lib.hid (fun k hk => @names_bad l k hk)
 have FE := Lib.hid (@names_end l)
 generalize C.namesB okN l = R at FT FB FE ⊢
 have hm0 : MapTo ((w.alloc (.cells #[.slice A n c, .slice B m d] 56)).alloc (.map #[] 0)) (w.heap.size + 1) l 0 := by
  have := World.ownsMap_made (H := Unit) (w.alloc (.cells #[.slice A n c, .slice B m d] 56)) Tryz.prog 9 (plainElem Tryz.prog 3)
  have e : (w.alloc (.cells #[.slice A n c, .slice B m d] 56)).heap.size = w.heap.size + 1 := by simp
  rw [e] at this
  exact this
 have HM0 := Lib.hid hm0
 have b0 : (w.alloc (.cells #[.slice A n c, .slice B m d] 56)).cell? ⟨w.heap.size, 0, none⟩ = some (.slice A n c) := cell_new w #[.slice A n c, .slice B m d] 56 0
 clear hn hA hs hm0
 go_enter Tryz.func127, Tryz.ntmps127
 go_wp2_with fail
 go_loopw [13] (fun i wr => ∃ k : Nat, k <= n /\ i = .int .i64 k /\ Hid (okTo2 l k /\ MapTo wr (w.heap.size + 1) l k /\ Ext w wr)) (fun i _ => n - (intOf i).toNat)
 case atStart => exact ⟨0, Nat.zero_le _, rfl, h0, HM0.out, ((Ext.refl w).alloc _).alloc _⟩
 case round =>
  obtain ⟨k, hk, rfl, HK⟩ := hrel
  by_cases hlt : k < n
  ·have hkz : k < l.length := by rw [<- HN.out]; exact hlt
   obtain ⟨b, off, s, md, sc, rfl, hg, hs, hwm, hws, hc⟩ := sym_get HA.out hkz
   have hs9 := HS.out _ (List.mem_of_getElem? hg)
   have hgk : l[k] = (s, md, sc) := by rw [List.getElem?_eq_getElem hkz] at hg; simpa using hg
   have HC := Lib.hid hc
   have HG := Lib.hid hg
   have HGK := Lib.hid hgk
   obtain ⟨c1, c2, c3⟩ := hc wr HK.out.2.2
   clear hc hg hgk
   have hkey : keyOf Tryz.prog 9 (.string s) = some (.string (C.nm (s, md, sc))) := WideMaps.keyOf_string_mk Tryz.underlying9 (by unfold maxLen; omega)
   have hh : Maps.has (mapD l k) (.string (C.nm (s, md, sc))) = (C.idx (l.take k) (C.nm (s, md, sc))).isSome := has_mapD l _ k (by have := HN.out; omega)
   have hft := FT.out k hkz
   have hfb := FB.out k hkz
   rw [HGK.out] at hft hfb
   rw [<- hh] at hft
   have hon := names_on HK.out.1 hkz
   rw [HGK.out, <- hh] at hon
   have HFT := Lib.hid hft
   have HFB := Lib.hid hfb
   have HON := Lib.hid hon
   have hms := mapD_succ l k _ HG.out
   clear hft hfb hon hh
   generalize C.nm (s, md, sc) = key at hkey HFT HFB HON hms
   have HT := Lib.hid (fun w1 => Name_any s w1 (show s.size <= _ by have : s.size <= 9000000 := hs9; omega))
   have hown0 : World.ownsMap (wr.alloc (.cells #[.string s, .int .i64 md, .int .i64 sc] 60)) Tryz.prog 9 (plainElem Tryz.prog 3) (w.heap.size + 1) k (mapD l k) := HK.out.2.1.ext ((Ext.refl _).alloc _)
   rcases Bool.eq_false_or_eq_true (Maps.has (mapD l k) (.string key)) with htw | htw
   ·go_wp2_with (at_lookup; refine wpList_lookup_own_ok_int _ rfl _ _ 206 rfl 9 3 .i64 (string_keyed Tryz.underlying9) Tryz.underlying206 Tryz.underlying3 (zero3 _) (w.heap.size + 1) k (mapD l k) rfl hown0 _ _ rfl hkey ?_; intro cz hat hwc; rw [htw])
    go_ret2
    exact ⟨HK.out.2.2.alloc _, Or.inl ⟨HFT.out htw, rfl⟩⟩
   ·have HN1 : Hid (∃ x, x = K.name s.data.toList) := ⟨_, rfl⟩
    go_wp2_with (at_lookup; refine wpList_lookup_own_ok_int _ rfl _ _ 206 rfl 9 3 .i64 (string_keyed Tryz.underlying9) Tryz.underlying206 Tryz.underlying3 (zero3 _) (w.heap.size + 1) k (mapD l k) rfl hown0 _ _ rfl hkey ?_; intro cz hat hwc; rw [htw])
    refine (HT.out _).mono ?_
    rintro e w1 ⟨rfl, d1⟩
    have hown1 : World.ownsMap w1 Tryz.prog 9 (plainElem Tryz.prog 3) (w.heap.size + 1) k (mapD l k) := MapTo.ext hown0 d1
    have hwk : (Lit.int .i64 (k : Int)).wf = true := by simp [Lit.wf, IntKind.min, IntKind.max, IntKind.bits, IntKind.signed]; omega
    have cb : w1.cell? ⟨wr.heap.size, 0, none⟩ = some (.string s) := d1.keepc (cell_new wr #[.string s, .int .i64 md, .int .i64 sc] 60 0)
    rcases Bool.eq_false_or_eq_true (K.name s.data.toList) with hn1 | hn1
    ·rw [hn1]
     have h1 := HON.out hn1 htw
     have H1 := Lib.hid h1
     clear h1
     go_wp2_with (at_mapUpdate; (refine wpList_mapUpdate_own _ rfl _ _ _ 206 rfl 9 3 (string_keyed Tryz.underlying9) Tryz.underlying206 _ (w.heap.size + 1) k _ rfl hown1 (by unfold maxLen; omega) _ _ _ rfl rfl hkey _ [] (plainElem_int Tryz.underlying3 hwk) ?_); intro w2 hown2 hgrow2)
     go_roundw
     case rel => exact ⟨k + 1, by omega, by go_num, H1.out, by rw [<- hms] at hown2; exact hown2, ((HK.out.2.2.alloc _).trans d1).mapBlock (Nat.le_succ _) hgrow2⟩
     case measure => simp [intOf]; omega
    ·rw [hn1]
     have hr := HFB.out hn1
     go_wp2_with fail
     go_ret2
     exact ⟨(HK.out.2.2.alloc _).trans d1, Or.inl ⟨hr, rfl⟩⟩
  ·go_wp2_with fail
   go_ret2
   refine ⟨HK.out.2.2, Or.inr ⟨FE.out ?_, w.heap.size + 1, Nat.le_succ _, rfl, ?_⟩⟩
   ·have := HK.out.1
    rwa [show k = l.length by have := HN.out; omega] at this
   ·have := HK.out.2.1
    rwa [show k = l.length by have := HN.out; omega] at this
end Go.Proofs.YtfbhchpbflaphaaGreatDoor

namespace Go.Proofs.YtfbhchpbflaphaaGreatDoor
open Go.RowKit Go.Maps Go.ChangeMaps
set_option linter.unusedVariables false
def idxI : Option Nat -> Int
 | some i => (i : Int)
 | none => -1
def notTo (l : List C.Sym) (x : List UInt8) (k : Nat) : Prop := ∀ i (h : i < l.length), i < k -> C.nm l[i] ≠ x
theorem idx_yes {l : List C.Sym} {x : List UInt8} {k : Nat} (h : notTo l x k) (hk : k < l.length) (h1 : C.nm l[k] = x) : idxI (C.idx l x) = (k : Int) := by
 rw [C.idx_is hk h1 fun j hj hjk => h j hj hjk]
 rfl
theorem idx_no {l : List C.Sym} {x : List UInt8} (h : notTo l x l.length) : idxI (C.idx l x) = -1 := by
 cases e : C.idx l x with
 | none => rfl
 | some i =>
  obtain ⟨h1, h2⟩ := C.idx_lt e
  exact absurd h2 (h i h1 h1)
theorem notTo_succ {l : List C.Sym} {x : List UInt8} {k : Nat} (h : notTo l x k) (hk : k < l.length) (h1 : C.nm l[k] ≠ x) : notTo l x (k + 1) := by
 intro i hi hik
 by_cases e : i = k
 ·subst e; exact h1
 ·exact h i hi (by omega)
set_option maxRecDepth 8000 in
set_option maxHeartbeats 2000000 in
theorem Index_any (l : List C.Sym) (A B : Option Addr) (c d n m : Nat) (x : ByteArray) (w : World) (hn : n = l.length) (hA : SliceAt symR w (Old w) A c l) (hn2 : n <= 100000) (hx : x.size <= 9223372036854775807) :
 Calls Tryz.prog 69 #[.agg #[.slice A n c, .slice B m d], .string x] w (Al (.int .i64 (idxI (C.idx l x.data.toList))) w) := by
 have h0 : notTo l x.data.toList 0 := fun _ _ h => absurd h (Nat.not_lt_zero _)
 have HN := Lib.hid hn
 have HA := Lib.hid hA
 have FY := Lib.hid (fun k => @idx_yes l x.data.toList k)
 have FE := Lib.hid (@idx_no l x.data.toList)
 generalize idxI (C.idx l x.data.toList) = R at FY FE ⊢
 have b0 : (w.alloc (.cells #[.slice A n c, .slice B m d] 56)).cell? ⟨w.heap.size, 0, none⟩ = some (.slice A n c) := cell_new w #[.slice A n c, .slice B m d] 56 0
 clear hn hA
 go_enter Tryz.func69, Tryz.ntmps69
 go_wp2_with fail
 go_loopw [10] (fun i wr => ∃ k : Nat, k <= n /\ i = .int .i64 k /\ Hid (notTo l x.data.toList k /\ Ext w wr)) (fun i _ => n - (intOf i).toNat)
 case atStart => exact ⟨0, Nat.zero_le _, rfl, h0, (Ext.refl w).alloc _⟩
 case round =>
  obtain ⟨k, hk, rfl, HK⟩ := hrel
  by_cases hlt : k < n
  ·have hkz : k < l.length := by rw [<- HN.out]; exact hlt
   obtain ⟨b, off, s, md, sc, rfl, hg, hs, hwm, hws, hc⟩ := sym_get HA.out hkz
   have hgk : l[k] = (s, md, sc) := by rw [List.getElem?_eq_getElem hkz] at hg; simpa using hg
   have HC := Lib.hid hc
   obtain ⟨c1, c2, c3⟩ := hc wr HK.out.2
   have hfy := FY.out k HK.out.1 hkz
   have hon := @notTo_succ l x.data.toList k HK.out.1 hkz
   rw [hgk] at hfy hon
   have HFY := Lib.hid hfy
   have HON := Lib.hid hon
   clear hc hg hgk hfy hon
   rcases Bool.eq_false_or_eq_true (s.toList == x.toList) with he | he
   ·have hr := HFY.out (by have := eq_of_beq he; rwa [ByteArray.toList_eq, ByteArray.toList_eq] at this)
    go_wp2_with fail
    go_ret
    exact ⟨by rw [hr]; rfl, HK.out.2.alloc _⟩
   ·have hr := HON.out (by intro h'; have : C.nm (s, md, sc) = s.data.toList := rfl; rw [this] at h'; rw [ByteArray.toList_eq, ByteArray.toList_eq, h'] at he; simp at he)
    have HR := Lib.hid hr
    clear hr
    go_wp2_with fail
    go_roundw
    case rel => exact ⟨k + 1, by omega, by go_num, HR.out, HK.out.2.alloc _⟩
    case measure => simp [intOf]; omega
  ·have hr := FE.out (by have := HK.out.1; rwa [show k = l.length by have := HN.out; omega] at this)
   go_wp2_with fail
   go_ret
   exact ⟨by rw [hr]; rfl, HK.out.2⟩
end Go.Proofs.YtfbhchpbflaphaaGreatDoor
