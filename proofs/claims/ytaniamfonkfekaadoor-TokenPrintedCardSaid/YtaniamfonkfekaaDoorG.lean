/- The law's text; the examples of the chapter. -/
import Derived.Test.YtaniamfonkfekaaDoorF
namespace Go.Proofs.YtaniamfonkfekaaDoor
open Go.RowKit Go.Lib

def K.text (l : List Tk) : List UInt8 := l.flatMap fun t => t.2.data.toList ++ [32]
theorem K.text_snoc (l : List Tk) (k : Nat) (h : k < l.length) : K.text (l.take (k + 1)) = K.text (l.take k) ++ (l[k].2.data.toList ++ [32]) := by
  unfold K.text
  rw [List.take_succ_eq_append_getElem h, List.flatMap_append]
  simp
theorem K.text_le (l : List Tk) (k : Nat) : (K.text (l.take k)).length ≤ (K.text l).length := by
  conv => rhs; rw [← List.take_append_drop k l]
  unfold K.text
  rw [List.flatMap_append, List.length_append]
  omega

set_option maxRecDepth 4000 in
set_option maxHeartbeats 1000000 in
theorem text_any (l : List Tk) (A : Option Addr) (c n : Nat) (w : World) (hA : ToksAt w A n l) (hlen : (K.text l).length ≤ 100000) : Calls Tryd.prog 10 #[.slice A n c] w (Al (.string (str (K.text l))) w) := by
  have hnl := hA.1
  have hn63 : n ≤ 9223372036854775807 := by have := hA.2.1; omega
  have HNL := Lib.hid hnl
  have HA := Lib.hid hA
  clear hnl hA
  go_enter Tryd.func10, Tryd.ntmps10
  go_wp2_with fail
  go_loopw [8] (fun i wr => ∃ k : Nat, k ≤ n ∧ i = .int .i64 k ∧ IsBuilderF 49 5 w.heap.size w.heap.size (byteCells (K.text (l.take k))) wr ∧ Ext w wr) (fun i _ => n - (intOf i).toNat)
  case atStart => exact ⟨0, Nat.zero_le _, rfl, IsBuilderF.of (fresh_isBuilder 49 5 w), (Ext.refl w).alloc _⟩
  case round =>
    obtain ⟨k, hk, rfl, hbd, hd⟩ := hrel
    by_cases hlt : k < n
    · obtain ⟨b, off, rfl, hc⟩ := HA.out.cells (by omega)
      have hkl : k < l.length := by have := HNL.out; omega
      obtain ⟨c0, c1, hsz⟩ := hc k hkl
      have c0' := hd.keepc c0
      have c1' := hd.keepc c1
      have hsn := Lib.hid (K.text_snoc l k hkl)
      have hle := K.text_le l (k + 1)
      rw [hsn.out] at hle
      simp only [List.length_append, size_list, List.length_singleton] at hle
      obtain ⟨tk, htk⟩ : ∃ t, t = l[k] := ⟨_, rfl⟩
      rw [← htk] at c0' c1' hsz hsn hle
      clear htk hc c0 c1
      obtain ⟨tkk, tks⟩ := tk
      simp only at c0' c1' hsz hle
      have hsa : (tks ++ (⟨#[32]⟩ : ByteArray)).data.toList = tks.data.toList ++ [32] := by simp
      have hsz2 : (tks ++ (⟨#[32]⟩ : ByteArray)).size = tks.size + 1 := by rw [← size_list, hsa, List.length_append, size_list]; rfl
      have HSA := Lib.hid hsa
      have HSZ2 := Lib.hid hsz2
      have hW := hd.size
      clear hsa hsz2
      go_wp2_with fail
      refine (Tryd.Builder_WriteString_f _ _ _ _ _ (IsBuilderF.alloc hbd _) (by rw [byteCells_length, HSZ2.out]; omega) (by simp; omega)).mono ?_
      rintro e w2 ⟨rfl, hb2, hbw⟩
      go_wp2_with fail
      go_roundw
      case rel => exact ⟨k + 1, by omega, by go_num, .inr (by rw [hsn.out, byteCells_append, ← HSA.out]; exact hb2), Below.trans (hd.alloc _) hbw⟩
      case measure => simp [intOf]; omega
    · obtain rfl : k = n := by omega
      have htl := Lib.hid (show l.take k = l from List.take_of_length_le (by have := HNL.out; omega))
      rw [htl.out] at hbd
      have hW := hd.size
      go_wp2_with fail
      refine (Tryd.Builder_String_any_f _ _ _ _ hbd hW).mono ?_
      rintro e w2 ⟨rfl, hb2, hbw⟩
      go_wp2_with fail
      go_ret
      exact ⟨rfl, Below.trans hd hbw⟩


theorem ex1 : K.tk [108, 101, 116, 32, 120, 49, 61, 121, 60, 60, 50] [] = ([(1, str [108, 101, 116]), (1, str [120, 49]), (3, str [61]), (1, str [121]), (3, str [60, 60]), (2, str [50])], 0) := by kernel_rfl
theorem ex2 : K.tk [97, 60, 61, 45, 49] [] = ([(1, str [97]), (3, str [60, 61]), (3, str [45]), (2, str [49])], 0) := by kernel_rfl
theorem ex3 : K.tk [48, 49] [] = ([], 4) := by kernel_rfl
theorem ex4 : K.tk [52, 50, 57, 52, 57, 54, 55, 50, 57, 54] [] = ([], 3) := by kernel_rfl
theorem ex5 : K.tk [50, 120] [] = ([], 4) := by kernel_rfl
theorem ex6 : K.number [52, 50, 57, 52, 57, 54, 55, 50, 57, 53] = (4294967295, 0) := by kernel_rfl
theorem ex7 : K.name [120] = true := by kernel_rfl
theorem ex8 : K.name [108, 101, 116] = false := by kernel_rfl
theorem ex9 : K.name [50] = false := by kernel_rfl
theorem ex10 : K.text [(1, str [108, 101, 116]), (1, str [120, 49]), (3, str [61]), (1, str [121]), (3, str [60, 60]), (2, str [50])] = [108, 101, 116, 32, 120, 49, 32, 61, 32, 121, 32, 60, 60, 32, 50, 32] := by kernel_rfl
theorem ex11 : K.print [(1, str [97]), (3, str [60, 61]), (3, str [45]), (2, str [49])] = ([97, 32, 60, 61, 32, 45, 32, 49], 0) := by kernel_rfl

theorem Tokens_is (l : List UInt8) (R : List Tk × Int) (w : World) (h : K.tk l [] = R) (hs : l.length ≤ 65536) : Calls Tryd.prog 5 #[.string ⟨l.toArray⟩] w (RetToks w R) := by
  have := Tokens_any (str l) w (by rw [str_size]; exact hs)
  rw [str_data, h] at this
  exact this
theorem Number_is (l : List UInt8) (n : Nat) (e : Int) (w : World) (h : K.number l = (n, e)) (hs : l.length ≤ 65536) : Calls Tryd.prog 9 #[.string ⟨l.toArray⟩] w (Al (.tuple #[.int .u32 n, .int .i64 e]) w) := by
  have := Number_any (str l) w (by rw [str_size]; omega)
  rw [str_data, h] at this
  exact this
theorem Name_is (l : List UInt8) (b : Bool) (w : World) (h : K.name l = b) (hs : l.length ≤ 65536) : Calls Tryd.prog 11 #[.string ⟨l.toArray⟩] w (Al (.bool b) w) := by
  have := Name_any (str l) w (by rw [str_size]; omega)
  rw [str_data, h] at this
  exact this
theorem text_is (l : List Tk) (t : List UInt8) (A : Option Addr) (c n : Nat) (w : World) (hA : ToksAt w A n l) (h : K.text l = t) (hlen : t.length ≤ 100000) : Calls Tryd.prog 10 #[.slice A n c] w (Al (.string ⟨t.toArray⟩) w) := by
  have := text_any l A c n w hA (by rw [h]; exact hlen)
  rw [h] at this
  exact this
theorem Print_is (l : List Tk) (t : List UInt8) (e0 : Int) (A : Option Addr) (c n : Nat) (w : World) (hA : ToksAt w A n l) (h : K.print l = (t, e0)) (hlen : (K.join l).length ≤ 140737488355328) : Calls Tryd.prog 6 #[.slice A n c] w (Al (.tuple #[.string ⟨t.toArray⟩, .int .i64 e0]) w) := by
  have := Print_any l A c n w hA hlen
  rw [h] at this
  exact this
def exA : List Tk := [(1, str [108, 101, 116]), (1, str [120, 49]), (3, str [61]), (1, str [121]), (3, str [60, 60]), (2, str [50])]
def exB : List Tk := [(1, str [97]), (3, str [60, 61]), (3, str [45]), (2, str [49])]
theorem exA_size : ∀ t ∈ exA, t.2.size ≤ 9223372036854775807 := by
  intro t ht
  simp only [exA, List.mem_cons, List.not_mem_nil, or_false] at ht
  rcases ht with rfl | rfl | rfl | rfl | rfl | rfl <;> simp [str_size]
theorem exB_size : ∀ t ∈ exB, t.2.size ≤ 9223372036854775807 := by
  intro t ht
  simp only [exB, List.mem_cons, List.not_mem_nil, or_false] at ht
  rcases ht with rfl | rfl | rfl | rfl <;> simp [str_size]

set_option maxRecDepth 4000 in
set_option maxHeartbeats 1000000 in
theorem awake05 (w : World) : Calls Tryd.prog 4 #[] w (Al (.bool true) w) := by
  go_enter Tryd.func4, Tryd.ntmps4
  go_wp2_with fail
  refine (Tokens_is [108, 101, 116, 32, 120, 49, 61, 121, 60, 60, 50] (exA, 0) _ ex1 (by decide)).mono ?_
  rintro e w1 ⟨v1, rfl, o1, d1⟩
  obtain ⟨A1, c1, e1, -⟩ := ToksAt.of_own o1 exA_size
  obtain rfl : v1 = .slice A1 6 c1 := e1
  go_wp2_with fail
  refine (Tokens_is [97, 60, 61, 45, 49] (exB, 0) _ ex2 (by decide)).mono ?_
  rintro e w2 ⟨v2, rfl, o2, d2⟩
  obtain ⟨A2, c2, e2, i2⟩ := ToksAt.of_own o2 exB_size
  obtain rfl : v2 = .slice A2 4 c2 := e2
  have HI2 := Lib.hid (show ToksAt w2 A2 4 exB from i2)
  clear i2 o2
  go_wp2_with fail
  refine (Print_is exB _ _ _ _ _ _ HI2.out ex11 (by decide)).mono ?_
  rintro e w3 ⟨rfl, d3⟩
  go_wp2_with fail
  refine (Tokens_is [48, 49] ([], 4) _ ex3 (by decide)).mono ?_
  rintro e w4 ⟨v4, rfl, o4, d4⟩
  go_wp2_with fail
  refine (Tokens_is [52, 50, 57, 52, 57, 54, 55, 50, 57, 54] ([], 3) _ ex4 (by decide)).mono ?_
  rintro e w5 ⟨v5, rfl, o5, d5⟩
  go_wp2_with fail
  refine (Tokens_is [50, 120] ([], 4) _ ex5 (by decide)).mono ?_
  rintro e w6 ⟨v6, rfl, o6, d6⟩
  go_wp2_with fail
  refine (Number_is [52, 50, 57, 52, 57, 54, 55, 50, 57, 53] 4294967295 0 _ ex6 (by decide)).mono ?_
  rintro e w7 ⟨rfl, d7⟩
  have D : Ext w1 w7 := ((((d2.trans d3).trans d4).trans d5).trans d6).trans d7
  obtain ⟨A1', c1', e1', i1⟩ := ToksAt.of_own (OwnAt.ext o1 D) exA_size
  cases e1'
  have HI1 := Lib.hid (show ToksAt w7 A1 6 exA from i1)
  clear i1 o1 o4 o5 o6
  go_wp2_with fail
  refine (text_is exA _ _ _ _ _ HI1.out ex10 (by decide)).mono ?_
  rintro e w8 ⟨rfl, d8⟩
  go_wp2_with fail
  refine (Name_is [120] _ _ ex7 (by decide)).mono ?_
  rintro e w9 ⟨rfl, d9⟩
  go_wp2_with fail
  refine (Name_is [108, 101, 116] _ _ ex8 (by decide)).mono ?_
  rintro e w10 ⟨rfl, d10⟩
  go_wp2_with fail
  refine (Name_is [50] _ _ ex9 (by decide)).mono ?_
  rintro e w11 ⟨rfl, d11⟩
  go_wp2_with fail
  go_ret
  exact ⟨rfl, ((((d1.trans D).trans d8).trans d9).trans d10).trans d11⟩

end Go.Proofs.YtaniamfonkfekaaDoor
