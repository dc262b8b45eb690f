/- Contracts of the reference's form, Name, Number; the walk of TokenWords. -/
import Derived.Test.YtaniamfonkfekaaJ
namespace Go.Proofs.Ytaniamfonkfekaa
open Go.RowKit Go.Lib

theorem K.valid1 (l : List UInt8) (h0 : 0 < l.length) : K.valid 1 l = (decide (l.length ≤ 32) && K.letter l[0] && decide (K.run true l = l.length)) := by
  cases l with
  | nil => simp at h0
  | cons c t =>
    rw [Bool.eq_iff_iff]
    simp only [K.valid, decide_eq_true_eq, Bool.and_eq_true, List.getElem_cons_zero]
    rw [K.nxt]
    have hle := K.run_le true (c :: t)
    constructor
    · intro h
      split at h
      · rename_i hc
        split at h
        · simp at h
        · simp only [Prod.mk.injEq] at h
          exact ⟨⟨by omega, hc⟩, h.2.1⟩
      · split at h
        · split at h
          · simp at h
          · split at h
            · simp at h
            · simp at h
        · split at h
          · simp at h
          · simp at h
    · rintro ⟨⟨h1, h2⟩, h3⟩
      rw [if_pos h2, if_neg (by omega), h3]

set_option maxRecDepth 4000 in
set_option maxHeartbeats 1000000 in
theorem form_any (s : ByteArray) (w : World) (hs : s.size ≤ 9223372036854775807) : Calls Try.prog 30 #[.string s] w fun e w' => e = .returned (.bool (K.valid 1 s.data.toList)) ∧ w = w' := by
  by_cases h0 : 0 < s.size
  · have hb0 : s[0].toNat ≤ 255 := by have := s[0].toNat_lt; omega
    have hv : K.valid 1 s.data.toList = (decide (s.size ≤ 32) && K.letterN s[0].toNat && decide (K.run true s.data.toList = s.size)) := by
      have := K.valid1 s.data.toList (by rw [size_list]; exact h0)
      simp only [size_list] at this
      exact this
    by_cases h32 : 32 < s.size
    · have hf : Hid (K.valid 1 s.data.toList = false) := by unfold Hid; rw [hv]; simp; omega
      clear hv
      go_enter Try.func30, Try.ntmps30
      go_wp2_with fail
      go_ret
      exact ⟨by rw [hf.out]; rfl, rfl⟩
    · by_cases hl : K.letterN s[0].toNat = true
      · have hv2 : Hid (K.valid 1 s.data.toList = decide (K.run true s.data.toList = s.size)) := by
          unfold Hid
          rw [hv, hl, Bool.and_true, show decide (s.size ≤ 32) = true by simpa using (by omega : s.size ≤ 32), Bool.true_and]
        have HL := Lib.hid hl
        clear hv hl
        go_enter Try.func30, Try.ntmps30
        go_wp2_with (go_at_call 41; refine (Letter_is _ _ _ HL.out).mono ?_; rintro e w' ⟨rfl, rfl⟩)
        go_loop [3] (fun i => ∃ k : Nat, k ≤ s.size ∧ i = .int .i64 k ∧ Hid (∀ j (h : j < s.size), j < k → K.wordN true s[j].toNat = true)) (fun i => s.size - (intOf i).toNat)
        case atStart => exact ⟨0, Nat.zero_le _, rfl, fun _ _ h => absurd h (Nat.not_lt_zero _)⟩
        case round =>
          obtain ⟨k, hk, rfl, HW⟩ := hrel
          by_cases hlt : k < s.size
          · have hb : s[k].toNat ≤ 255 := by have := s[k].toNat_lt; omega
            have hst : K.wordN true s[k].toNat = true → Hid (∀ j (h : j < s.size), j < k + 1 → K.wordN true s[j].toNat = true) := by
              intro h j h1 h2
              by_cases hj : j < k
              · exact HW.out j h1 hj
              · have : j = k := by omega
                subst this
                exact h
            have hno : K.wordN true s[k].toNat = false → K.valid 1 s.data.toList = false := by
              intro h
              rw [hv2.out, decide_eq_false_iff_not]
              intro hr
              have := K.runWithin true s.data.toList k (by omega) (by rw [size_list]; exact hlt)
              unfold K.word at this
              have e : s.data.toList[k]'(by rw [size_list]; exact hlt) = s[k] := rfl
              rw [e, h] at this
              cases this
            obtain ⟨a, ha⟩ : ∃ a, K.letterN s[k].toNat = a := ⟨_, rfl⟩
            obtain ⟨d, hd⟩ : ∃ a, K.digitN s[k].toNat = a := ⟨_, rfl⟩
            have hwd : K.wordN true s[k].toNat = (d || a) := by unfold K.wordN; rw [ha, hd, Bool.true_and]
            have HA := Lib.hid ha
            have HD := Lib.hid hd
            cases hda : (d || a)
            · rw [hda] at hwd
              have HF := Lib.hid (hno hwd)
              obtain ⟨rfl, rfl⟩ : d = false ∧ a = false := by simpa using hda
              clear hst hno hwd ha hd hda
              go_wp2_with fail
              refine (Letter_is _ _ _ HA.out).mono ?_
              rintro e w' ⟨rfl, rfl⟩
              go_wp2_with fail
              refine (Digit_is _ _ _ HD.out).mono ?_
              rintro e w' ⟨rfl, rfl⟩
              go_wp2_with fail
              go_ret
              exact ⟨by rw [HF.out]; rfl, rfl⟩
            · rw [hda] at hwd
              have HG := hst hwd
              clear hst hno hwd ha hd
              cases a
              · obtain rfl : d = true := by simpa using hda
                clear hda
                go_wp2_with fail
                refine (Letter_is _ _ _ HA.out).mono ?_
                rintro e w' ⟨rfl, rfl⟩
                go_wp2_with fail
                refine (Digit_is _ _ _ HD.out).mono ?_
                rintro e w' ⟨rfl, rfl⟩
                go_wp2_with fail
                go_round
                case rel => exact ⟨k + 1, by omega, by go_num, HG⟩
                case measure => simp [intOf]; omega
              · clear hda
                go_wp2_with fail
                refine (Letter_is _ _ _ HA.out).mono ?_
                rintro e w' ⟨rfl, rfl⟩
                go_wp2_with fail
                go_round
                case rel => exact ⟨k + 1, by omega, by go_num, HG⟩
                case measure => simp [intOf]; omega
          · obtain rfl : k = s.size := by omega
            have hfin : Hid (K.valid 1 s.data.toList = true) := by
              unfold Hid
              rw [hv2.out, decide_eq_true_eq]
              refine K.run_eq true _ _ (by rw [size_list]; exact Nat.le_refl _) (fun j h h2 => ?_) (fun h => ?_)
              · rw [size_list] at h
                exact HW.out j h h2
              · rw [size_list] at h; exact absurd h (Nat.lt_irrefl _)
            go_wp2_with fail
            go_ret
            exact ⟨by rw [hfin.out]; rfl, rfl⟩
      · have hl' : K.letterN s[0].toNat = false := by simpa using hl
        have hf : Hid (K.valid 1 s.data.toList = false) := by unfold Hid; rw [hv, hl']; simp
        have HL := Lib.hid hl'
        clear hv hl hl'
        go_enter Try.func30, Try.ntmps30
        go_wp2_with (go_at_call 41; refine (Letter_is _ _ _ HL.out).mono ?_; rintro e w' ⟨rfl, rfl⟩)
        go_ret
        exact ⟨by rw [hf.out]; rfl, rfl⟩
  · have he : s.data.toList = [] := List.eq_nil_of_length_eq_zero (by rw [size_list]; omega)
    have hf : Hid (K.valid 1 s.data.toList = false) := by rw [he]; exact K.valid_nil 1
    clear he
    go_enter Try.func30, Try.ntmps30
    go_wp2_with fail
    go_ret
    exact ⟨by rw [hf.out]; rfl, rfl⟩

theorem K.name_eq (l : List UInt8) : K.name l = (K.valid 1 l && !K.has K.keywords l) := by unfold K.name K.has; rw [Bool.and_comm]
set_option maxHeartbeats 400000 in
theorem refName_any (s : ByteArray) (w : World) (hs : s.size ≤ 9223372036854775807) : Calls Try.prog 19 #[.string s] w (Al (.bool (K.name s.data.toList)) w) := by
  have hn := K.name_eq s.data.toList
  obtain ⟨a, ha⟩ : ∃ a, K.valid 1 s.data.toList = a := ⟨_, rfl⟩
  obtain ⟨b, hb⟩ : ∃ a, K.has K.keywords s.data.toList = a := ⟨_, rfl⟩
  rw [ha, hb] at hn
  have HA := Lib.hid ha
  have HB := Lib.hid hb
  have HN := Lib.hid hn
  clear ha hb hn
  cases a
  · go_enter Try.func19, Try.ntmps19
    go_wp2_with fail
    refine (form_any s _ hs).mono ?_
    rw [HA.out]
    rintro e w' ⟨rfl, rfl⟩
    go_wp2_with fail
    go_ret
    exact ⟨by rw [HN.out]; rfl, Ext.refl _⟩
  · go_enter Try.func19, Try.ntmps19
    go_wp2_with fail
    refine (form_any s _ hs).mono ?_
    rw [HA.out]
    rintro e w' ⟨rfl, rfl⟩
    go_wp2_with fail
    refine (Keyword_any s _).mono ?_
    rw [HB.out]
    rintro e w1 ⟨rfl, d1⟩
    go_wp2_with fail
    go_ret
    exact ⟨by rw [HN.out]; simp, d1⟩

set_option maxRecDepth 4000 in
set_option maxHeartbeats 1000000 in
theorem refNumber_any (s : ByteArray) (w : World) (hs : s.size ≤ 9223372036854775807) :
    Calls Try.prog 17 #[.string s] w fun e w' => e = .returned (.tuple #[.int .u32 ((K.number s.data.toList).1 : Nat), .int .i64 (K.number s.data.toList).2]) ∧ w = w' := by
  by_cases h0 : 0 < s.size
  · obtain ⟨p1, p2, p3⟩ := str_pos s h0
    have hok := numOk_iff s h0
    by_cases h1 : 1 < s.size ∧ (s[0].toNat : Int) = 48
    · have hn : Hid (K.number s.data.toList = (0, 4)) := by
        unfold Hid K.number
        rw [if_neg]
        rw [hok]
        simp [h1]
      have e2 : ((s[0].toNat : Int) == 48) = true := by simpa using h1.2
      have e3 : 1 < s.size := h1.1
      clear h1 hok p3
      go_enter Try.func17, Try.ntmps17
      go_wp2_with fail
      go_ret2
      exact ⟨by rw [hn.out]; rfl, rfl⟩
    · have hok' : K.numOk s.data.toList = decide (K.run false s.data.toList = s.size) := by
        rw [hok]
        rcases Decidable.em (1 < s.size) with h3 | h3
        · have : ¬ (s[0].toNat : Int) = 48 := fun h => h1 ⟨h3, h⟩
          simp [this]
        · simp [h3]
      have hts : Hid (∀ k (h : k < s.size), K.val (s.data.toList.take (k + 1)) = 10 * K.val (s.data.toList.take k) + (s[k].toNat - 48)) := by
        intro k h
        rw [List.take_succ_eq_append_getElem (by rw [size_list]; exact h), K.val_snoc]
        rfl
      have hvt : Hid (∀ k, K.val (s.data.toList.take k) ≤ K.val s.data.toList) := fun k => K.val_take _ _
      have hv0 : Hid (K.val (s.data.toList.take 0) = 0) := rfl
      have hall : Hid (s.data.toList.take s.size = s.data.toList) := List.take_of_length_le (by rw [size_list]; exact Nat.le_refl _)
      have HOK := Lib.hid hok'
      have h1' : Hid (1 < s.size → ((s[0].toNat : Int) == 48) = false) := fun h => by simpa using fun h2 => h1 ⟨h, h2⟩
      clear hok hok' p3 h1
      by_cases h3 : 1 < s.size
      all_goals
        first
          | have e2 := h1'.out h3
          | skip
        go_enter Try.func17, Try.ntmps17
        go_wp2_with fail
        go_loop [4, 5, 6] (fun n lg i => ∃ (k v : Nat) (b : Bool), k ≤ s.size ∧ i = .int .i64 k ∧ n = .int .u64 (v : Int) ∧ lg = .bool b ∧ v ≤ 4294967296 ∧ (b = false → v ≤ 4294967295) ∧ (b = true → 4294967296 ≤ v) ∧ Hid (b = false → v = K.val (s.data.toList.take k)) ∧ Hid (b = true → 4294967295 < K.val (s.data.toList.take k)) ∧ Hid (∀ j (h : j < s.size), j < k → K.digitN s[j].toNat = true)) (fun _ _ i => s.size - (intOf i).toNat)
        case atStart => exact ⟨0, 0, false, Nat.zero_le _, rfl, rfl, rfl, by omega, (fun _ => by omega), (fun h => by cases h), fun _ => hv0.out.symm, (fun h => by cases h), fun _ _ h => absurd h (Nat.not_lt_zero _)⟩
        case round =>
          obtain ⟨k, v, b, hk, rfl, rfl, rfl, hv, hvb, hvc, HV, HB, HD⟩ := hrel
          by_cases hlt : k < s.size
          · have hb255 : s[k].toNat ≤ 255 := by have := s[k].toNat_lt; omega
            by_cases hd : K.digitN s[k].toNat = true
            · have hg : 48 ≤ s[k].toNat ∧ s[k].toNat ≤ 57 := by simp [K.digitN] at hd; omega
              obtain ⟨g1, g2⟩ := hg
              have hst : Hid (∀ j (h : j < s.size), j < k + 1 → K.digitN s[j].toNat = true) := by
                intro j h1 h2
                by_cases hj : j < k
                · exact HD.out j h1 hj
                · have : j = k := by omega
                  subst this
                  exact hd
              have hts2 := Lib.hid (hts.out k hlt)
              have HDD := Lib.hid hd
              have HVT := Lib.hid hvt
              clear hd
              obtain ⟨c, hc⟩ : ∃ c, c = s[k].toNat := ⟨_, rfl⟩
              rw [← hc] at g1 g2 hts2
              have HC := Lib.hid hc
              have hcs : s[k].toNat ≤ 57 := by omega
              have hcs2 : 48 ≤ s[k].toNat := by omega
              clear hc
              by_cases hbig : 4294967295 < 10 * v + (c - 48)
              · have hbig' : 4294967295 < 10 * (v : Int) + ((s[k].toNat : Int) - 48) := by have := HC.out; omega
                have HVC := Lib.hid hvc
                have HVB := Lib.hid hvb
                clear hvc hvb
                go_wp2_with fail
                refine (Digit_is _ _ _ HDD.out).mono ?_
                rintro e w' ⟨rfl, rfl⟩
                go_wp2_with fail
                go_round
                case rel =>
                  refine ⟨k + 1, 4294967296, true, by omega, by go_num, rfl, rfl, by omega, (fun h => by cases h), (fun _ => by omega), (fun h => by cases h), fun _ => ?_, hst⟩
                  rw [hts2.out]
                  cases b
                  · have := HV.out rfl; omega
                  · have := HB.out rfl; omega
                case measure => simp [intOf]; omega
              · have hbig' : 10 * (v : Int) + ((s[k].toNat : Int) - 48) ≤ 4294967295 := by have := HC.out; omega
                obtain rfl : b = false := by
                  cases b
                  · rfl
                  · have := hvc rfl; omega
                have HVV := Lib.hid (HV.out rfl)
                clear HV HB hvb hvc
                go_wp2_with fail
                refine (Digit_is _ _ _ HDD.out).mono ?_
                rintro e w' ⟨rfl, rfl⟩
                go_wp2_with fail
                go_round
                case rel =>
                  refine ⟨k + 1, 10 * v + (c - 48), false, by omega, by go_num, congrArg (Value.int .u64) (by have := HC.out; omega), rfl, by omega, (fun _ => by omega), (fun h => by cases h), (fun _ => by rw [hts2.out, ← HVV.out]), (fun h => by cases h), hst⟩
                case measure => simp [intOf]; omega
            · have hd' : K.digitN s[k].toNat = false := by simpa using hd
              have hn : Hid (K.number s.data.toList = (0, 4)) := by
                unfold Hid K.number
                rw [if_neg]
                rw [HOK.out, decide_eq_true_eq]
                intro hr
                have := K.runWithin false s.data.toList k (by omega) (by rw [size_list]; exact hlt)
                have e : s.data.toList[k]'(by rw [size_list]; exact hlt) = s[k] := rfl
                rw [e] at this
                simp [K.word, K.wordN, hd'] at this
              have HDD := Lib.hid hd'
              clear hd hd'
              go_wp2_with fail
              refine (Digit_is _ _ _ HDD.out).mono ?_
              rintro e w' ⟨rfl, rfl⟩
              go_wp2_with fail
              go_ret2
              exact ⟨by rw [hn.out]; rfl, rfl⟩
          · obtain rfl : k = s.size := by omega
            have hrun : K.run false s.data.toList = s.size := by
              refine K.run_eq false _ _ (by rw [size_list]; exact Nat.le_refl _) (fun j h h2 => ?_) (fun h => ?_)
              · rw [size_list] at h
                have := HD.out j h h2
                show (K.digitN s[j].toNat || _) = true
                rw [this]; rfl
              · rw [size_list] at h; exact absurd h (Nat.lt_irrefl _)
            have hn : Hid (K.number s.data.toList = if 4294967295 < K.val s.data.toList then (0, 3) else (K.val s.data.toList, 0)) := by
              unfold Hid K.number
              rw [if_pos (by rw [HOK.out, hrun]; simp)]
            clear hrun
            have HV2 : Hid (b = false → v = K.val s.data.toList) := by have := HV; rw [hall.out] at this; exact this
            have HB2 : Hid (b = true → 4294967295 < K.val s.data.toList) := by have := HB; rw [hall.out] at this; exact this
            clear HV HB
            cases b
            · have h2 := hvb rfl
              have hveq := Lib.hid (HV2.out rfl)
              clear HV2 HB2 hvb hvc
              go_wp2_with fail
              go_ret2
              exact ⟨by rw [hn.out, if_neg (by rw [← hveq.out]; omega), hveq.out]; rfl, rfl⟩
            · have hbg := Lib.hid (HB2.out rfl)
              clear HV2 HB2 hvb hvc
              go_wp2_with fail
              go_ret2
              exact ⟨by rw [hn.out, if_pos hbg.out]; rfl, rfl⟩
  · have he : s.data.toList = [] := List.eq_nil_of_length_eq_zero (by rw [size_list]; omega)
    have hn : Hid (K.number s.data.toList = (0, 4)) := by rw [he]; rfl
    have e1 : s.toList.isEmpty = true := by rw [ByteArray.toList_eq, he]; rfl
    clear he
    go_enter Try.func17, Try.ntmps17
    go_wp2_with fail
    go_ret2
    exact ⟨by rw [hn.out]; rfl, rfl⟩

end Go.Proofs.Ytaniamfonkfekaa
