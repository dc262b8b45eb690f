/- Contracts of token's Name and of the reference's Same and Few. -/
import Derived.Test.YtaniamfonkfekaaDoorE
namespace Go.Proofs.YtaniamfonkfekaaDoor
open Go.RowKit Go.Lib

def K.keywords : List (List UInt8) := [[108, 101, 116], [115, 101, 116], [105, 102], [101, 108, 115, 101], [119, 104, 105, 108, 101], [114, 101, 116, 117, 114, 110], [100, 111], [111, 117, 116], [115, 116, 111, 114, 101], [108, 111, 97, 100], [105, 110], [105, 110, 99, 108, 117, 100, 101], [100, 101, 102, 105, 110, 101], [117, 110, 100, 101, 102], [119, 104, 101, 110], [117, 110, 108, 101, 115, 115], [110, 111, 116, 101], [101, 120, 116, 101, 114, 110], [101, 120, 112, 111, 114, 116], [119, 101, 97, 107], [102, 110], [100, 97, 116, 97]]
def K.name (l : List UInt8) : Bool := !K.keywords.contains l && K.valid 1 l

set_option maxRecDepth 4000 in
set_option maxHeartbeats 4000000 in
theorem Name_any (s : ByteArray) (w : World) (hs : s.size ≤ 9223372036854775807) : Calls Tryd.prog 11 #[.string s] w (Al (.bool (K.name s.data.toList)) w) := by
  have hx : s.toList = s.data.toList := ByteArray.toList_eq s
  by_cases h2 : K.keywords.contains s.data.toList = true
  · have hn : Hid (K.name s.data.toList = false) := by unfold Hid K.name; rw [h2]; rfl
    have hm : s.data.toList ∈ K.keywords := by simpa using h2
    clear h2
    simp only [K.keywords, List.mem_cons, List.not_mem_nil, or_false] at hm
    rcases hm with h | h | h | h | h | h | h | h | h | h | h | h | h | h | h | h | h | h | h | h | h | h
    all_goals
      rw [h] at hx
      clear h
      go_enter Tryd.func11, Tryd.ntmps11
      go_wp2
      go_ret
      exact ⟨by rw [hn.out]; rfl, Ext.refl _⟩
  · have h2' : K.keywords.contains s.data.toList = false := by simpa using h2
    have hn : Hid (K.name s.data.toList = K.valid 1 s.data.toList) := by unfold Hid K.name; rw [h2']; rfl
    have hne : ∀ c ∈ K.keywords, (s.toList == c) = false := fun c hc => by
      rw [hx, beq_eq_false_iff_ne]
      rintro rfl
      rw [List.contains_eq_mem, decide_eq_false_iff_not] at h2'
      exact h2' hc

    have n0 := hne [108, 101, 116] (by decide)
    have n1 := hne [115, 101, 116] (by decide)
    have n2 := hne [105, 102] (by decide)
    have n3 := hne [101, 108, 115, 101] (by decide)
    have n4 := hne [119, 104, 105, 108, 101] (by decide)
    have n5 := hne [114, 101, 116, 117, 114, 110] (by decide)
    have n6 := hne [100, 111] (by decide)
    have n7 := hne [111, 117, 116] (by decide)
    have n8 := hne [115, 116, 111, 114, 101] (by decide)
    have n9 := hne [108, 111, 97, 100] (by decide)
    have n10 := hne [105, 110] (by decide)
    have n11 := hne [105, 110, 99, 108, 117, 100, 101] (by decide)
    have n12 := hne [100, 101, 102, 105, 110, 101] (by decide)
    have n13 := hne [117, 110, 100, 101, 102] (by decide)
    have n14 := hne [119, 104, 101, 110] (by decide)
    have n15 := hne [117, 110, 108, 101, 115, 115] (by decide)
    have n16 := hne [110, 111, 116, 101] (by decide)
    have n17 := hne [101, 120, 116, 101, 114, 110] (by decide)
    have n18 := hne [101, 120, 112, 111, 114, 116] (by decide)
    have n19 := hne [119, 101, 97, 107] (by decide)
    have n20 := hne [102, 110] (by decide)
    have n21 := hne [100, 97, 116, 97] (by decide)
    clear hne hx h2 h2'
    go_enter Tryd.func11, Tryd.ntmps11
    go_wp2_with (go_at_call 13; refine (valid_any _ _ _ hs).mono ?_; rw [← hn.out]; rintro e w1 ⟨rfl, d1⟩)
    go_ret
    exact ⟨rfl, d1⟩

def K.same (a b : List Tk) : Bool := decide (a = b)
theorem take_same {a b : List Tk} (h : a.length = b.length) (hj : ∀ j (h1 : j < a.length) (h2 : j < b.length), a[j] = b[j]) : a = b := List.ext_getElem h fun i h1 h2 => hj i h1 h2

set_option maxRecDepth 4000 in
set_option maxHeartbeats 1000000 in
theorem Same_any (a b : List Tk) (A B : Option Addr) (c d n m : Nat) (w : World) (hA : ToksAt w A n a) (hB : ToksAt w B m b) : Calls Tryd.prog 8 #[.slice A n c, .slice B m d] w (Qu (.bool (K.same a b)) w) := by
  have hp : Hid (K.same a b = decide (a = b)) := rfl
  have hna := hA.1
  have hnb := hB.1
  have hn63 : n ≤ 9223372036854775807 := by have := hA.2.1; omega
  by_cases hnm : n = m
  · subst hnm
    have hlen : a.length = b.length := by omega
    have HLEN := Lib.hid hlen
    have HNA := Lib.hid hna
    have HA := Lib.hid hA
    have HB := Lib.hid hB
    clear hna hnb hA hB hlen
    go_enter Tryd.func8, Tryd.ntmps8
    go_wp2_with fail
    go_loopw [13] (fun i wr => ∃ k : Nat, k ≤ n ∧ i = .int .i64 k ∧ Hid (∀ j (h1 : j < a.length) (h2 : j < b.length), j < k → a[j] = b[j]) ∧ Dr w wr) (fun i _ => n - (intOf i).toNat)
    case atStart => exact ⟨0, Nat.zero_le _, rfl, fun _ _ _ h => absurd h (Nat.not_lt_zero _), Dr.refl _⟩
    case round =>
      obtain ⟨k, hk, rfl, HS, hd⟩ := hrel
      by_cases hlt : k < n
      · obtain ⟨b1, o1, rfl, hc⟩ := HA.out.cells (by omega)
        obtain ⟨b2, o2, rfl, hc'⟩ := HB.out.cells (by omega)
        have hka : k < a.length := by have := HNA.out; omega
        have hkb : k < b.length := by have := HLEN.out; omega
        obtain ⟨c0, c1, _⟩ := hc k hka
        obtain ⟨c2, c3, _⟩ := hc' k hkb
        have c0' := hd.keepc c0
        have c1' := hd.keepc c1
        have c2' := hd.keepc c2
        have c3' := hd.keepc c3
        have hst : a[k] = b[k] → Hid (∀ j (h1 : j < a.length) (h2 : j < b.length), j < k + 1 → a[j] = b[j]) := by
          intro h j h1 h2 h3
          by_cases hj : j < k
          · exact HS.out j h1 h2 hj
          · have : j = k := by omega
            subst this
            exact h
        have hno : a[k] ≠ b[k] → K.same a b = false := by
          intro h
          rw [hp.out, decide_eq_false_iff_not]
          intro e
          subst e
          exact h rfl
        have HST := Lib.hid hst
        have HNO := Lib.hid hno
        clear hc hc' c0 c1 c2 c3 hst hno
        obtain ⟨x1, hx1⟩ : ∃ x, x = a[k] := ⟨_, rfl⟩
        obtain ⟨y1, hy1⟩ : ∃ x, x = b[k] := ⟨_, rfl⟩
        rw [← hx1] at c0' c1' HST HNO
        rw [← hy1] at c2' c3' HST HNO
        clear hx1 hy1
        obtain ⟨x, xs⟩ := x1
        obtain ⟨y, ys⟩ := y1
        simp only at c0' c1' c2' c3'
        by_cases hxy : x = y
        · subst hxy
          by_cases hss : xs = ys
          · subst hss
            have HG := HST.out rfl
            clear HST HNO
            go_wp2_with fail
            go_quiet (fail)
            go_wp2_with fail
            go_roundw
            case rel => exact ⟨k + 1, by omega, by go_num, HG, hd.drewN _⟩
            case measure => simp [intOf]; omega
          · have HF := Lib.hid (HNO.out (fun e => hss (congrArg Prod.snd e)))
            have t1 : ¬ xs.toList = ys.toList := fun h => hss (WideShapes.bytes_inj (by rwa [ByteArray.toList_eq, ByteArray.toList_eq] at h))
            have t2 : (xs.toList == ys.toList) = false := by simpa using t1
            clear HST HNO hss
            go_wp2_with fail
            go_quiet (fail)
            go_wp2_with fail
            go_ret
            exact ⟨by rw [HF.out]; rfl, hd.drewN _⟩
        · have HF := Lib.hid (HNO.out (fun e => hxy (congrArg Prod.fst e)))
          have t1 : (x == y) = false := by simpa using hxy
          clear HST HNO
          go_wp2_with fail
          go_quiet (fail)
          go_wp2_with fail
          go_ret
          exact ⟨by rw [HF.out]; rfl, hd.drewN _⟩
      · have hfin : Hid (K.same a b = true) := by
          unfold Hid
          rw [hp.out, decide_eq_true_eq]
          refine take_same HLEN.out fun j h1 h2 => HS.out j h1 h2 (by have := HNA.out; omega)
        go_wp2_with fail
        go_ret
        exact ⟨by rw [hfin.out]; rfl, hd⟩
  · have hfin : Hid (K.same a b = false) := by
      unfold Hid
      rw [hp.out, decide_eq_false_iff_not]
      intro e
      subst e
      omega
    have t1 : ((n : Int) != (m : Int)) = true := by simp; omega
    clear hna hnb hA hB
    go_enter Tryd.func8, Tryd.ntmps8
    go_wp2_with fail
    go_ret
    exact ⟨by rw [hfin.out]; rfl, Dr.refl _⟩

end Go.Proofs.YtaniamfonkfekaaDoor
