/- strings.ReplaceAll of blanks; the walk of TokenPrinted. -/
import Derived.Test.YtaniamfonkfekaaDoorH
import Derived.Lib.CountLaws
namespace Go.Proofs.YtaniamfonkfekaaDoor
open Go.RowKit Go.Lib

namespace K
theorem index_cons (b : UInt8) (l : List UInt8) : index (b :: l) [32] = if b = 32 then 0 else if index l [32] = -1 then -1 else index l [32] + 1 := by
  rw [index]
  by_cases h : b = 32
  · subst h; simp
  · have h2 : ([32] : List UInt8).isPrefixOf (b :: l) = false := by simp [List.isPrefixOf, Ne.symm h]
    rw [h2, if_neg h]
    simp
theorem replaceK_solid : ∀ (s : List UInt8) (k : Nat), count s [32] ≤ k → replaceK [32] [] k s = solid s
  | [], 0, _ => rfl
  | [], k + 1, _ => rfl
  | b :: l, k, hk => by
    have hi := index_cons b l
    by_cases h : b = 32
    · subst h
      rw [if_pos rfl] at hi
      have hc := count_hit (s := 32 :: l) (sub := [32]) (i := 0) (by simp) hi
      simp only [List.length_cons, List.length_nil, Nat.zero_add, List.drop_succ_cons, List.drop_zero] at hc
      obtain ⟨k', rfl⟩ : ∃ k', k = k' + 1 := ⟨k - 1, by omega⟩
      rw [replaceK_hit [32] [] k' _ 0 hi]
      simp only [List.take_zero, List.nil_append, List.length_cons, List.length_nil, Nat.zero_add, List.drop_succ_cons, List.drop_zero]
      rw [replaceK_solid l k' (by omega)]
      simp [solid]
    · rw [if_neg h] at hi
      have hs : solid (b :: l) = b :: solid l := by simp [solid, h]
      by_cases hm : index l [32] = -1
      · rw [if_pos hm] at hi
        have hl := replaceK_solid l 0 (by rw [count_miss hm]; exact Nat.le_refl 0)
        rw [hs, ← hl]
        cases k with
        | zero => rfl
        | succ k =>
          show replaceK [32] [] (k + 1) (b :: l) = b :: l
          unfold replaceK
          exact if_pos (by rw [hi]; rfl)
      · rw [if_neg hm] at hi
        have hge := index_ge l [32]
        obtain ⟨i, hi0⟩ : ∃ i : Nat, index l [32] = i := ⟨(index l [32]).toNat, by omega⟩
        have hi1 : index (b :: l) [32] = ((i + 1 : Nat) : Int) := by rw [hi, hi0]; omega
        have c1 := count_hit (s := l) (sub := [32]) (by simp) hi0
        have c2 := count_hit (s := b :: l) (sub := [32]) (by simp) hi1
        simp only [List.length_cons, List.length_nil, Nat.zero_add, List.drop_succ_cons] at c1 c2
        obtain ⟨k', rfl⟩ : ∃ k', k = k' + 1 := ⟨k - 1, by omega⟩
        have ih := replaceK_solid l (k' + 1) (by omega)
        rw [replaceK_hit [32] [] k' _ i hi0] at ih
        rw [replaceK_hit [32] [] k' _ (i + 1) hi1, hs, ← ih]
        simp
theorem replaceAll_solid (s : List UInt8) : replaceAll s [32] [] = solid s := by
  unfold replaceAll replace
  rw [if_neg (by decide)]
  unfold replaceNum
  rw [if_pos (.inl (by decide))]
  exact replaceK_solid s _ (Nat.le_refl _)

theorem solid_tail : ∀ (x : List Tk), (∀ t ∈ x, ∀ c ∈ t.2.data.toList, c ≠ 32) → solid (joinTail [32] ((txts x).map (·.data.toList))) = flat x ∧ (joinTail [32] ((txts x).map (·.data.toList))).length = (flat x).length + x.length
  | [], _ => ⟨rfl, rfl⟩
  | t :: x, h => by
    obtain ⟨h1, h2⟩ := solid_tail x fun u hu => h u (by simp [hu])
    have e : joinTail [32] ((txts (t :: x)).map (·.data.toList)) = 32 :: (t.2.data.toList ++ joinTail [32] ((txts x).map (·.data.toList))) := by simp [joinTail, txts]
    have f : flat (t :: x) = t.2.data.toList ++ flat x := rfl
    rw [e, f]
    refine ⟨?_, ?_⟩
    · rw [show (32 : UInt8) :: (t.2.data.toList ++ joinTail [32] ((txts x).map (·.data.toList))) = [32] ++ (t.2.data.toList ++ joinTail [32] ((txts x).map (·.data.toList))) from rfl, solid_append, solid_append, h1, solid_all (h t (by simp))]
      rfl
    · rw [List.length_cons, List.length_append, List.length_append, h2, List.length_cons]
      omega
theorem solid_join (x : List Tk) (h : ∀ t ∈ x, ∀ c ∈ t.2.data.toList, c ≠ 32) : solid (join x) = flat x ∧ (join x).length ≤ (flat x).length + x.length := by
  cases x with
  | nil => exact ⟨rfl, Nat.le_refl _⟩
  | cons t x =>
    obtain ⟨h1, h2⟩ := solid_tail x fun u hu => h u (by simp [hu])
    have e : join (t :: x) = t.2.data.toList ++ joinTail [32] ((txts x).map (·.data.toList)) := by
      unfold join
      rw [show txts (t :: x) = t.2 :: txts x from rfl, List.map_cons, join_cons]
    have f : flat (t :: x) = t.2.data.toList ++ flat x := rfl
    rw [e, f]
    refine ⟨by rw [solid_append, h1, solid_all (h t (by simp))], ?_⟩
    rw [List.length_append, List.length_append, h2, List.length_cons]
    omega
end K

theorem ReplaceAll_is (s : ByteArray) (m : Int) (w : World) (hs : s.size ≤ 100000) (hm : w.cell? ⟨0, 0, none⟩ = some (.int .i64 m)) (t : List UInt8) (ht : K.solid s.data.toList = t) :
    Calls Tryd.prog 7 #[.string s, .string ⟨#[32]⟩, .string ⟨#[]⟩] w (Al (.string ⟨t.toArray⟩) w) := by
  refine (Tryd.strings_ReplaceAll s ⟨#[32]⟩ ⟨#[]⟩ m w (by omega) hm (by decide) (by rw [show (⟨#[]⟩ : ByteArray).size = 0 from rfl, Nat.mul_zero]; omega)).mono ?_
  rintro e w' ⟨rfl, d⟩
  rw [← ht, ← K.replaceAll_solid]
  exact ⟨rfl, d⟩

set_option maxRecDepth 4000 in
set_option maxHeartbeats 1000000 in
theorem tokenPrinted_walk (v0 : Value) (a0 : ByteArray) (m : Int) {w : World} (hm : w.cell? ⟨0, 0, none⟩ = some (.int .i64 m)) (r0 : strR.val w a0 v0) : Calls Tryd.prog 3 #[v0] w (Al (.bool true) w) := by
  obtain ⟨rfl, hsz⟩ := val_str r0
  clear r0
  obtain ⟨n, hn⟩ : ∃ n, n = a0.size := ⟨_, rfl⟩
  have HN := Lib.hid hn
  have HM := Lib.hid hm
  by_cases h2 : n ≤ 2000
  · obtain ⟨x, E, hxE⟩ : ∃ x E, K.tk a0.data.toList [] = (x, E) := ⟨_, _, rfl⟩
    have hsz2 : a0.size ≤ 2000 := by omega
    have hmax := K.tk_max a0.data.toList [] (by simp)
    have hbad := K.tk_bad a0.data.toList []
    have hparts := K.tk_parts a0.data.toList []
    have hsizes := K.tk_sizes a0.data.toList [] 2000 (by rw [size_list]; omega) (fun _ h => by cases h)
    rw [hxE] at hmax hbad hparts hsizes
    simp only at hmax hbad hparts hsizes
    have HX := Lib.hid hxE
    clear hxE hm hn
    by_cases h0 : E = 0
    · subst h0
      obtain ⟨y, e1, hval, hflat, hsol, hnb⟩ := hparts rfl
      rw [List.nil_append] at e1
      subst e1
      obtain ⟨hj1, hj2⟩ := K.solid_join x hnb
      have hfl : (K.flat x).length ≤ 2000 := by
        rw [hflat]
        have : (K.solid a0.data.toList).length ≤ a0.data.toList.length := List.length_filter_le _ _
        rw [size_list] at this
        omega
      have hjl : (K.join x).length ≤ 2256 := by omega
      have hpr : K.print x = (K.join x, 0) := by unfold K.print; rw [if_neg (by omega), if_pos hval]
      have htj := K.tk_join x hval hmax
      obtain ⟨J, hJ⟩ : ∃ J, J = K.join x := ⟨_, rfl⟩
      rw [← hJ] at hj1 hjl hpr htj
      have HPR := Lib.hid hpr
      have HTJ := Lib.hid htj
      have HJ1 := Lib.hid hj1
      have HFL := Lib.hid hflat
      have HS := Lib.hid hsizes
      have HJ := Lib.hid hJ
      clear hpr htj hj1 hflat hsizes hJ hparts hbad hmax hval hsol hnb hj2
      go_enter Tryd.func3, Tryd.ntmps3
      go_wp2_with (go_at_call 4; refine (awake05 _).mono ?_; rintro e w1 ⟨rfl, d1⟩)
      refine (Tokens_any a0 _ (by omega)).mono ?_
      rw [HX.out]
      rintro e w2 ⟨v2, rfl, o2, d2⟩
      obtain ⟨A2, c2, rfl, i2⟩ := ToksAt.of_own o2 (fun t ht => by have := HS.out t ht; omega)
      have HI2 := Lib.hid i2
      obtain ⟨nx, hnx⟩ : ∃ nx, nx = x.length := ⟨_, rfl⟩
      rw [← hnx] at HI2 ⊢
      clear i2 o2 hnx
      go_wp2_with fail
      refine (Print_is x J 0 _ _ _ _ HI2.out HPR.out (by rw [← HJ.out]; omega)).mono ?_
      rintro e w3 ⟨rfl, d3⟩
      go_wp2_with fail
      refine (Tokens_is J (x, 0) _ HTJ.out (by omega)).mono ?_
      rintro e w4 ⟨v4, rfl, o4, d4⟩
      obtain ⟨A4, c4, rfl, i4⟩ := ToksAt.of_own o4 (fun t ht => by have := HS.out t ht; omega)
      have HI4 := Lib.hid i4
      clear i4 o4
      have e4 : Ext w w4 := ((d1.trans d2).trans d3).trans d4
      go_wp2_with fail
      refine (ReplaceAll_is a0 m _ (by omega) (e4.keepc HM.out) _ HFL.out.symm).mono ?_
      rintro e w5 ⟨rfl, d5⟩
      go_wp2_with fail
      refine (ReplaceAll_is ⟨J.toArray⟩ m _ (by show J.toArray.size ≤ 100000; simp; omega) ((e4.trans d5).keepc HM.out) _ HJ1.out).mono ?_
      rintro e w6 ⟨rfl, d6⟩
      go_wp2_with fail
      refine (Same_any x x _ _ _ _ _ _ _ (HI2.out.ext (((d3.trans d4).trans d5).trans d6)) (HI4.out.ext (d5.trans d6))).mono ?_
      rw [show K.same x x = true by simp [K.same]]
      rintro e w7 ⟨rfl, d7⟩
      go_wp2_with fail
      go_ret
      exact ⟨rfl, ((e4.trans d5).trans d6).dr d7⟩
    · have hx0 := hbad h0
      subst hx0
      have t1 : (E != 0) = true := by simpa using h0
      clear hbad hparts hsizes hmax h0
      go_enter Tryd.func3, Tryd.ntmps3
      go_wp2_with (go_at_call 4; refine (awake05 _).mono ?_; rintro e w1 ⟨rfl, d1⟩)
      refine (Tokens_any a0 _ (by omega)).mono ?_
      rw [HX.out]
      rintro e w2 ⟨v2, rfl, o2, d2⟩
      obtain ⟨A2, c2, rfl⟩ := own_form o2
      go_wp2_with fail
      go_ret
      exact ⟨ret_bool (by simp), d1.trans d2⟩
  · have h3 : 2000 < a0.size := by omega
    clear h2 hm
    go_enter Tryd.func3, Tryd.ntmps3
    go_wp2_with (go_at_call 4; refine (awake05 _).mono ?_; rintro e w1 ⟨rfl, d1⟩)
    go_ret
    exact ⟨rfl, d1⟩

end Go.Proofs.YtaniamfonkfekaaDoor
