/- The reference's Valid. -/
import Derived.Test.YtmibpagajenndaaDoorPi
namespace Go.Proofs.YtmibpagajenndaaDoor
open Go.RowKit

set_option maxHeartbeats 400000 in
theorem refBlank_any (n : Int) (w : World) : Calls Tryd.prog 42 #[.int .u8 n] w fun e w' => e = .returned (.bool (blankN n)) ∧ w = w' := by
  have hv : Hid (blankN n = (decide (n ≤ 32) || decide (n = 127))) := rfl
  by_cases h1 : n ≤ 32
  · have he : blankN n = true := by rw [hv.out]; simp [h1]
    rw [he]
    go_enter Tryd.func42, Tryd.ntmps42
    go_wp2_with fail
    go_ret
    exact ⟨rfl, rfl⟩
  · by_cases h2 : n = 127
    · subst h2
      go_enter Tryd.func42, Tryd.ntmps42
      go_wp2_with fail
      go_ret
      exact ⟨rfl, rfl⟩
    · have e1 : (n == 127) = false := by simpa using h2
      have he : blankN n = false := by rw [hv.out]; simp [h2]; omega
      rw [he]
      go_enter Tryd.func42, Tryd.ntmps42
      go_wp2_with fail
      go_ret
      exact ⟨rfl, rfl⟩
theorem refBlank_is (n : Int) (b : Bool) (w : World) (h : blankN n = b) : Calls Tryd.prog 42 #[.int .u8 n] w fun e w' => e = .returned (.bool b) ∧ w = w' := h ▸ refBlank_any n w

/-- The line of the word before place k. -/
def lineAt (l : List (ByteArray × Int)) (k : Nat) : Int := if k = 0 then 0 else (l.getD (k - 1) (⟨#[]⟩, 0)).2
/-- The loop's state. -/
def vst (l : List (ByteArray × Int)) (R : Bool) (k : Nat) : Prop := R = wordsB (l.drop k) (lineAt l k) ∧ 0 ≤ lineAt l k
theorem vst_start (l : List (ByteArray × Int)) : vst l (wordsB l 0) 0 := ⟨rfl, Int.le_refl _⟩
theorem vst_next {l : List (ByteArray × Int)} {R : Bool} {k : Nat} {s : ByteArray} {n : Int} (h : vst l R k) (hk : l[k]? = some (s, n)) :
    (wordB s n (lineAt l k) = false → R = false) ∧ (wordB s n (lineAt l k) = true → vst l R (k + 1)) := by
  obtain ⟨h1, h2⟩ := h
  have hl : k < l.length := by
    rcases Nat.lt_or_ge k l.length with h | h
    · exact h
    · rw [List.getElem?_eq_none h] at hk; cases hk
  have hg : l[k] = (s, n) := by rw [List.getElem?_eq_getElem hl] at hk; exact Option.some.inj hk
  rw [List.drop_eq_getElem_cons hl, hg] at h1
  have e : lineAt l (k + 1) = n := by
    unfold lineAt
    rw [if_neg (by omega)]
    simp [List.getD_eq_getElem?_getD, hk]
  refine ⟨fun hw => ?_, fun hw => ?_⟩
  · rw [h1, wordsB, hw]; rfl
  · refine ⟨?_, ?_⟩
    · rw [h1, wordsB, hw, e]; rfl
    · rw [e]
      unfold wordB at hw
      simp at hw
      omega
theorem vst_end {l : List (ByteArray × Int)} {R : Bool} {k : Nat} (h : vst l R k) (hk : l.length ≤ k) : R = true := by
  rw [h.1, List.drop_of_length_le hk]; rfl
theorem word_bad {s : ByteArray} {n q : Int} (h : ¬ 0 < s.size ∨ n < q ∨ 1024 ≤ n) : wordB s n q = false := by
  unfold wordB
  rcases h with h | h | h
  · simp [h]
  · have : decide (q ≤ n) = false := decide_eq_false (by omega)
    rw [this]; simp
  · have : decide (n < 1024) = false := decide_eq_false (by omega)
    rw [this]; simp
theorem word_is {s : ByteArray} {n q : Int} (h1 : 0 < s.size) (h2 : q ≤ n) (h3 : n < 1024) : wordB s n q = !(s.data.toList.any fun c => blankN c.toNat) := by
  unfold wordB
  rw [decide_eq_true h1, decide_eq_true h2, decide_eq_true h3]
  simp
theorem empty_is (s : ByteArray) : s.toList.isEmpty = decide (s.size = 0) := by
  rw [ByteArray.toList_eq]
  have hl : s.data.toList.length = s.size := by simp
  rw [← hl]
  cases s.data.toList <;> simp
theorem lineAt_pos {l : List (ByteArray × Int)} {k : Nat} (h : 0 < k) (hk : k < l.length) : ∃ s, l[k - 1]? = some (s, lineAt l k) := by
  unfold lineAt
  rw [if_neg (by omega)]
  refine ⟨l[k - 1].1, ?_⟩
  simp [List.getD_eq_getElem?_getD, List.getElem?_eq_getElem (show k - 1 < l.length by omega)]
theorem lex_prev {w : World} {b off c k : Nat} {l : List (ByteArray × Int)} (h : SliceAt lexR w (Old w) (some ⟨b, off, none⟩) c l) (h0 : 0 < k) (hk : k < l.length) :
    ∀ w', Ext w w' → w'.cell? ⟨b, off + (k - 1) * 2 + 1, none⟩ = some (.int .i64 (lineAt l k)) := by
  intro w' he
  obtain ⟨b', off', s1, q, hA, hg, _, hc⟩ := lex_get h (k := k - 1) (by omega)
  cases hA
  obtain ⟨s2, hg2⟩ := lineAt_pos h0 hk
  rw [hg] at hg2
  cases hg2
  exact (hc w' he).2
def noBlank (s : ByteArray) (k : Nat) : Prop := ∀ j (h : j < s.data.toList.length), j < k → blankN (s.data.toList[j].toNat : Int) = false

theorem noBlank_on {s : ByteArray} {k : Nat} (h : noBlank s k) (hk : k < s.size) (hb : blankN (s[k].toNat : Int) = false) : noBlank s (k + 1) := by
  intro j hj hjk
  by_cases e : j = k
  · subst e; exact hb
  · exact h j hj (by omega)
theorem blank_hit {s : ByteArray} {k : Nat} (hk : k < s.size) (hb : blankN (s[k].toNat : Int) = true) : (s.data.toList.any fun c => blankN (c.toNat : Int)) = true := by
  rw [List.any_eq_true]
  exact ⟨s[k], by have : s[k] = s.data.toList[k]'(by simpa using hk) := rfl
                  rw [this]; exact List.getElem_mem _, hb⟩
theorem noBlank_all {s : ByteArray} {k : Nat} (h : noBlank s k) (hk : s.size ≤ k) : (s.data.toList.any fun c => blankN (c.toNat : Int)) = false := by
  rw [List.any_eq_false]
  intro x hx
  obtain ⟨j, hj, rfl⟩ := List.getElem_of_mem hx
  have hl : s.data.toList.length = s.size := by simp
  rw [h j hj (by omega)]
  simp

set_option maxRecDepth 8000 in
set_option maxHeartbeats 1000000 in
theorem refValid_any (p : ByteArray) (l : List (ByteArray × Int)) (A : Option Addr) (c n : Nat) (w : World) (hn : n = l.length) (hp : p.size ≤ 1000000) (hA : SliceAt lexR w (Old w) A c l) (hl : n ≤ 8192) (hw : ∀ x ∈ l, x.1.size ≤ 9000000) :
    Calls Tryd.prog 27 #[.agg #[.string p, .slice A n c]] w (Al (.bool (textB p l)) w) := by
  have ht : textB p l = (pathL p.data.toList && wordsB l 0) := by unfold textB; rw [path_same, decide_eq_true (by omega)]; rfl
  have HP := Lib.hid (fun w' => refPath_any p w' (by omega))
  have H0 := vst_start l
  rw [ht]
  clear ht
  generalize wordsB l 0 = R at H0 ⊢
  generalize pathL p.data.toList = B at HP ⊢
  have HN := Lib.hid hn
  have HA := Lib.hid hA
  have HW := Lib.hid hw
  have hcc : c ≤ 9223372036854775807 := hA.2.1
  clear hn hA hw
  cases B
  · rw [Bool.false_and]
    go_enter Tryd.func27, Tryd.ntmps27
    go_wp2_with fail
    refine (HP.out _).mono ?_
    rintro e w' ⟨rfl, rfl⟩
    go_wp2_with fail
    go_ret
    exact ⟨rfl, (Ext.refl w).alloc _⟩
  · rw [Bool.true_and]
    go_enter Tryd.func27, Tryd.ntmps27
    go_wp2_with fail
    refine (HP.out _).mono ?_
    rintro e w' ⟨rfl, rfl⟩
    have b1 : (w.alloc (.cells #[.string p, .slice A n c] 24)).cell? ⟨w.heap.size, 1, none⟩ = some (.slice A n c) := cell_new w #[.string p, .slice A n c] 24 1
    go_wp2_with fail
    go_loopw [3] (fun i wr => ∃ k : Nat, k ≤ n ∧ i = .int .i64 k ∧ vst l R k ∧ Ext (w.alloc (.cells #[.string p, .slice A n c] 24)) wr) (fun i _ => n - (intOf i).toNat)
    case atStart => exact ⟨0, Nat.zero_le _, rfl, H0, Ext.refl _⟩
    case round =>
      obtain ⟨k, hk, rfl, HK, hd⟩ := hrel
      have c1 := hd.keepc b1
      have ew : Ext w wr := ((Ext.refl w).alloc _).trans hd
      by_cases hlt : k < n
      · obtain ⟨b, off, s, m, rfl, hg, hs, hc⟩ := lex_get HA.out (k := k) (by rw [← HN.out]; exact hlt)
        obtain ⟨cx, cy⟩ := hc wr ew
        have hs9 := HW.out (s, m) (List.mem_of_getElem? hg)
        go_wp2_with fail
        have hbad := fun h => (vst_next HK hg).1 (word_bad h)
        have HB := Lib.hid hbad
        have a0 := (Ext.refl wr).alloc (.cells #[.string s, .int .i64 m] 49)
        have x0 := cell_new wr #[.string s, .int .i64 m] 49 0
        have x1 : (wr.alloc (.cells #[.string s, .int .i64 m] 49)).cell? ⟨wr.heap.size, 1, none⟩ = some (.int .i64 m) := cell_new wr #[.string s, .int .i64 m] 49 1
        have x0' : (wr.alloc (.cells #[.string s, .int .i64 m] 49)).cell? ⟨wr.heap.size, 0, none⟩ = some (.string s) := x0
        have c1' := a0.keepc c1
        have EA := Lib.hid a0
        have HG := Lib.hid hg
        clear hbad x0 a0 hg hc
        have hem := empty_is s
        by_cases h0 : 0 < s.size
        · rw [decide_eq_false (show ¬ s.size = 0 by omega)] at hem
          by_cases h1 : 0 ≤ m
          · by_cases h2 : m < 1024
            · have e2 : decide (1024 ≤ m) = false := decide_eq_false (by omega)
              have e1 : decide (m < 0) = false := decide_eq_false (by omega)
              have hpr := fun (h : 0 < k) => lex_prev HA.out h (by rw [← HN.out]; exact hlt)
              have HPR := Lib.hid hpr
              clear hpr
              have hway : (0 < k ∧ ¬ lineAt l k ≤ m) ∨ (0 < k ∧ lineAt l k ≤ m) ∨ (k = 0 ∧ lineAt l k ≤ m) := by
                rcases Nat.eq_zero_or_pos k with hk0 | hk0
                · exact .inr (.inr ⟨hk0, by subst hk0; exact h1⟩)
                · by_cases h3 : lineAt l k ≤ m
                  · exact .inr (.inl ⟨hk0, h3⟩)
                  · exact .inl ⟨hk0, h3⟩
              rcases hway with ⟨hk0, h3⟩ | ⟨hk0, h3⟩ | ⟨hk0, h3⟩
              · have hr := HB.out (.inr (.inl (by omega)))
                subst hr
                have cp := EA.out.keepc (HPR.out hk0 wr ew)
                have e3 : decide (0 < (k : Int)) = true := decide_eq_true (by omega)
                have e4 : IntKind.i64.wrap ((k : Int) - 1) = (k : Int) - 1 := IntWalk.i64_in _ (by omega)
                have e5 : ((k : Int) - 1).toNat = k - 1 := by omega
                have e6 : 0 ≤ (k : Int) - 1 := by omega
                have e7 : (k : Int) - 1 < n := by omega
                have e8 : decide (m < lineAt l k) = true := decide_eq_true (by omega)
                clear HB h0
                go_quiet (fail)
                go_wp2_with fail
                go_ret
                exact ⟨rfl, (ew.trans EA.out).drewN _⟩
              all_goals
                have hwo := word_is h0 h3 h2
                have HWO := Lib.hid hwo
                have HVN := Lib.hid (vst_next HK HG.out)
                clear HB h0 hwo
              case' inr.inl =>
                have cp := EA.out.keepc (HPR.out hk0 wr ew)
                have e3 : decide (0 < (k : Int)) = true := decide_eq_true (by omega)
                have e4 : IntKind.i64.wrap ((k : Int) - 1) = (k : Int) - 1 := IntWalk.i64_in _ (by omega)
                have e5 : ((k : Int) - 1).toNat = k - 1 := by omega
                have e6 : 0 ≤ (k : Int) - 1 := by omega
                have e7 : (k : Int) - 1 < n := by omega
                have e8 : decide (m < lineAt l k) = false := decide_eq_false (by omega)
                go_quiet (fail)
                clear cp e3 e4 e5 e6 e7 e8
              case' inr.inr =>
                have e3 : decide (0 < (k : Int)) = false := decide_eq_false (by omega)
                go_quiet (fail)
                clear e3 hk0
              all_goals
                go_wp2_with fail
                clear HPR h3 hem e1 e2
                obtain ⟨V, hV⟩ : ∃ V : World, V = (wr.alloc (.cells #[.string s, .int .i64 m] 49)).drewN nq := ⟨_, rfl⟩
                have v0 : V.cell? ⟨wr.heap.size, 0, none⟩ = some (.string s) := by rw [hV]; exact x0'
                have v1 : V.cell? ⟨w.heap.size, 1, none⟩ = some (.slice (some ⟨b, off, none⟩) n c) := by rw [hV]; exact c1'
                have ev : Ext w V := by rw [hV]; exact (ew.trans EA.out).drewN _
                have ev2 : Ext (w.alloc (.cells #[.string p, .slice (some ⟨b, off, none⟩) n c] 24)) V := by rw [hV]; exact (hd.trans EA.out).drewN _
                rw [← hV]
                clear x0' x1 c1' c1 cx cy hV
                go_loopw [5] (fun i wq => ∃ j : Nat, j ≤ s.size ∧ i = .int .i64 j ∧ noBlank s j ∧ Ext V wq) (fun i _ => s.size - (intOf i).toNat)
                case atStart => exact ⟨0, Nat.zero_le _, rfl, fun j _ h => absurd h (Nat.not_lt_zero _), Ext.refl _⟩
                case round =>
                  obtain ⟨j, hj, rfl, HJ, hq⟩ := hrel
                  have u0 := hq.keepc v0
                  by_cases hlj : j < s.size
                  · have hb : s[j].toNat ≤ 255 := by have := s[j].toNat_lt; omega
                    obtain ⟨bb, hbb⟩ : ∃ bb, blankN (s[j].toNat : Int) = bb := ⟨_, rfl⟩
                    have HC := Lib.hid (fun w' => refBlank_is (s[j].toNat : Int) bb w' hbb)
                    cases bb
                    · have hj2 := noBlank_on HJ hlj hbb
                      clear hbb
                      go_wp2_with fail
                      refine (HC.out _).mono ?_
                      rintro e w' ⟨rfl, rfl⟩
                      go_wp2_with fail
                      go_roundw
                      case rel => exact ⟨j + 1, by omega, by go_num, hj2, hq⟩
                      case measure => simp [intOf]; omega
                    · have hr := HVN.out.1 (by rw [HWO.out, blank_hit hlj hbb]; rfl)
                      subst hr
                      clear hbb
                      go_wp2_with fail
                      refine (HC.out _).mono ?_
                      rintro e w' ⟨rfl, rfl⟩
                      go_wp2_with fail
                      go_ret
                      exact ⟨rfl, ev.trans hq⟩
                  · have hv := HVN.out.2 (by rw [HWO.out, noBlank_all HJ (by omega)]; rfl)
                    go_wp2_with fail
                    go_roundw
                    case rel => exact ⟨k + 1, by omega, by go_num, hv, ev2.trans hq⟩
                    case measure => simp [intOf]; omega
            · have hr := HB.out (.inr (.inr (by omega)))
              have e2 : decide (1024 ≤ m) = true := decide_eq_true (by omega)
              have e1 : decide (m < 0) = false := decide_eq_false (by omega)
              subst hr
              clear HB
              go_quiet (fail)
              go_wp2_with fail
              go_ret
              exact ⟨rfl, (ew.trans EA.out).drewN _⟩
          · have hr := HB.out (.inr (.inl (by have := HK.2; omega)))
            have e1 : decide (m < 0) = true := decide_eq_true (by omega)
            subst hr
            clear HB
            go_quiet (fail)
            go_wp2_with fail
            go_ret
            exact ⟨rfl, (ew.trans EA.out).drewN _⟩
        · have hr := HB.out (.inl h0)
          rw [decide_eq_true (show s.size = 0 by omega)] at hem
          subst hr
          clear HB h0
          go_quiet (fail)
          go_wp2_with fail
          go_ret
          exact ⟨rfl, (ew.trans EA.out).drewN _⟩
      · have hr := vst_end HK (by rw [← HN.out]; omega)
        subst hr
        go_wp2_with fail
        go_ret
        exact ⟨rfl, ew⟩

end Go.Proofs.YtmibpagajenndaaDoor
