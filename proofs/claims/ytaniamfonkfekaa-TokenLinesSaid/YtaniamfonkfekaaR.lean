/- Contracts of the reference's next and Tokens; the walk of TokenLines. -/
import Derived.Test.YtaniamfonkfekaaQ
namespace Go.Proofs.Ytaniamfonkfekaa
open Go.RowKit Go.Lib

namespace K
def starts (l x : List UInt8) : Bool := decide (x.length ≤ l.length) && decide (l.take x.length = x)
theorem starts_iff (l x : List UInt8) : starts l x = true ↔ x.length ≤ l.length ∧ l.take x.length = x := by unfold starts; rw [Bool.and_eq_true, decide_eq_true_eq, decide_eq_true_eq]
theorem symbols_eq : symbols = syms2 ++ chars.map fun c => [c] := by rfl
theorem sym_two {l x : List UInt8} (hx : x ∈ syms2) (h : starts l x = true) : sym l = 2 := by
  rw [starts_iff] at h
  have len2 : ∀ x ∈ syms2, x.length = 2 := by decide
  have h2 := len2 x hx
  cases l with
  | nil => simp at h; rw [h] at h2; simp at h2
  | cons c t =>
    rw [sym, if_pos]
    unfold isSym2
    rw [← h2, h.2, List.contains_eq_mem, decide_eq_true_eq]
    exact hx
theorem no_two {l : List UInt8} (h : ∀ x ∈ syms2, starts l x = false) : isSym2 l = false := by
  rw [← Bool.not_eq_true]
  intro h2
  have hl := sym2_len h2
  unfold isSym2 at h2
  have hm : l.take 2 ∈ syms2 := by simpa using h2
  have := h _ hm
  rw [← Bool.not_eq_true, starts_iff] at this
  apply this
  rw [List.length_take]
  have e : min 2 l.length = 2 := by omega
  rw [e]
  exact ⟨hl, rfl⟩
theorem sym_single {l : List UInt8} {d : UInt8} (hno : ∀ x ∈ syms2, starts l x = false) (hd : d ∈ chars) (h : starts l [d] = true) : sym l = 1 := by
  rw [starts_iff] at h
  cases l with
  | nil => simp at h
  | cons c t =>
    have hc : c = d := by simpa using h.2
    subst hc
    rw [sym, if_neg (by rw [no_two hno]; simp), if_pos]
    unfold isChar
    rw [List.contains_eq_mem, decide_eq_true_eq]
    exact hd
theorem sym_none {l : List UInt8} (h : ∀ x ∈ symbols, starts l x = false) : sym l = 0 := by
  cases l with
  | nil => rfl
  | cons c t =>
    rw [sym, if_neg (by rw [no_two fun x hx => h x (by rw [symbols_eq]; exact List.mem_append_left _ hx)]; simp), if_neg]
    intro hc
    unfold isChar at hc
    have hm : c ∈ chars := by simpa using hc
    have := h [c] (by rw [symbols_eq]; exact List.mem_append_right _ (List.mem_map.2 ⟨c, hm, rfl⟩))
    rw [← Bool.not_eq_true, starts_iff] at this
    exact this ⟨by simp, by simp⟩
theorem sym_at {l : List UInt8} {j : Nat} (hj : j < symbols.length) (hlow : ∀ i (h : i < symbols.length), i < j → starts l symbols[i] = false) (hs : starts l symbols[j] = true) : sym l = symbols[j].length := by
  have two0 : ∀ i, i < 8 → symbols[i]? = syms2[i]? := by decide
  have two : ∀ i (h : i < 8), (symbols[i]'(by have : symbols.length = 24 := rfl; omega)) = syms2[i]'(by have : syms2.length = 8 := rfl; omega) := by
    intro i h
    have := two0 i h
    rw [List.getElem?_eq_getElem (by have : symbols.length = 24 := rfl; omega), List.getElem?_eq_getElem (by have : syms2.length = 8 := rfl; omega)] at this
    exact Option.some.inj this
  have h24 : symbols.length = 24 := rfl
  have h8 : syms2.length = 8 := rfl
  by_cases h : j < 8
  · have e := two j h
    rw [e] at hs ⊢
    have len2 : ∀ x ∈ syms2, x.length = 2 := by decide
    rw [sym_two (List.getElem_mem _) hs, len2 _ (List.getElem_mem _)]
  · have e : symbols[j] = [chars[j - 8]'(by have : chars.length = 16 := rfl; omega)] := by
      have h2 : symbols[j] = (syms2 ++ chars.map fun c => [c])[j]'(by rw [← symbols_eq]; exact hj) := by congr 1
      rw [h2, List.getElem_append_right (by omega)]
      simp [h8]
    have hno : ∀ x ∈ syms2, starts l x = false := by
      intro x hx
      obtain ⟨i, hi, rfl⟩ := List.getElem_of_mem hx
      have := hlow i (by omega) (by omega)
      rwa [two i (by omega)] at this
    rw [e] at hs ⊢
    exact sym_single hno (List.getElem_mem _) hs
end K

theorem refNumber_x (s : ByteArray) (n : Nat) (w : World) (hs : s.size ≤ 9223372036854775807) :
    Calls Try.prog 17 #[.string (s.extract 0 n)] w fun e w' => e = .returned (.tuple #[.int .u32 ((K.number (s.data.toList.take n)).1 : Nat), .int .i64 (K.number (s.data.toList.take n)).2]) ∧ w = w' := by
  have h := refNumber_any (s.extract 0 n) w (by have := ByteArray.size_extract (a := s) (b := 0) (e := n); omega)
  have e : (s.extract 0 n).data.toList = s.data.toList.take n := by rw [Lib.extract_data]; simp
  rwa [e] at h
/-- All bytes up to k are of the kind. -/
def K.upto (b : Bool) (s : ByteArray) (k : Nat) : Prop := ∀ j (h : j < s.size), j < k → K.wordN b s[j].toNat = true
theorem K.upto_next {b : Bool} {s : ByteArray} {k : Nat} (h : K.upto b s k) (hk : k < s.size) (h2 : K.wordN b s[k].toNat = true) : K.upto b s (k + 1) := by
  intro j h1 h3
  by_cases hj : j < k
  · exact h j h1 hj
  · have : j = k := by omega
    subst this
    exact h2
theorem K.upto_end {b : Bool} {s : ByteArray} {k : Nat} (h : K.upto b s k) (hk : k ≤ s.size) (h2 : ∀ h : k < s.size, K.wordN b s[k].toNat = false) : K.run b s.data.toList = k := by
  refine K.run_eq b _ _ (by rw [size_list]; exact hk) (fun j hj h3 => ?_) (fun hj => ?_)
  · rw [size_list] at hj
    exact h j hj h3
  · rw [size_list] at hj
    exact h2 hj

set_option maxRecDepth 4000 in
set_option maxHeartbeats 2000000 in
theorem refNext_any (s : ByteArray) (w : World) (h0 : 0 < s.size) (hs : s.size ≤ 9223372036854775807) : Calls Try.prog 23 #[.string s] w (Al (nextV s) w) := by
  have hx := nxt_eq s h0
  have hl : s.data.toList.length = s.size := size_list s
  have hb0 : s[0].toNat ≤ 255 := by have := s[0].toNat_lt; omega
  by_cases hlt : K.letterN s[0].toNat = true
  · rw [if_pos hlt] at hx
    have HL := Lib.hid hlt
    have HX := Lib.hid hx
    clear hlt hl hx
    go_enter Try.func23, Try.ntmps23
    go_wp2_with (go_at_call 41; refine (Letter_is _ _ _ HL.out).mono ?_; rintro e w' ⟨rfl, rfl⟩)
    go_loop [4] (fun i => ∃ k : Nat, k ≤ s.size ∧ i = .int .i64 k ∧ Hid (K.upto true s k)) (fun i => s.size - (intOf i).toNat)
    case atStart => exact ⟨0, Nat.zero_le _, rfl, fun _ _ h => absurd h (Nat.not_lt_zero _)⟩
    case round =>
      obtain ⟨k, hk, rfl, HU⟩ := hrel
      have fin : K.run true s.data.toList = k → Hid (nextV s = if 32 < k then .tuple #[.agg #[.int .i64 0, .string ⟨#[]⟩], .int .i64 2] else .tuple #[.agg #[.int .i64 1, .string (s.extract 0 k)], .int .i64 0]) := by
        intro h
        have := HX.out
        rw [h] at this
        unfold Hid
        split at this
        · rename_i h32
          rw [if_pos h32, nextV_err this]
        · rename_i h32
          rw [if_neg h32, nextV_of this]
      by_cases hks : k < s.size
      · have hb : s[k].toNat ≤ 255 := by have := s[k].toNat_lt; omega
        obtain ⟨a, ha⟩ : ∃ a, K.letterN s[k].toNat = a := ⟨_, rfl⟩
        obtain ⟨d, hd⟩ : ∃ a, K.digitN s[k].toNat = a := ⟨_, rfl⟩
        have hwd : K.wordN true s[k].toNat = (d || a) := by unfold K.wordN; rw [ha, hd, Bool.true_and]
        have HA := Lib.hid ha
        have HD := Lib.hid hd
        cases a
        · cases d
          · have HF := fin (K.upto_end HU.out hk (fun _ => hwd))
            clear fin ha hd hwd
            by_cases h32 : 32 < k
            · rw [if_pos h32] at HF
              go_wp2_with fail
              refine (Letter_is _ _ _ HA.out).mono ?_
              rintro e w' ⟨rfl, rfl⟩
              go_wp2_with fail
              refine (Digit_is _ _ _ HD.out).mono ?_
              rintro e w' ⟨rfl, rfl⟩
              go_wp2_with fail
              exact bodyPost_ret (v := .tuple #[.agg #[.int .i64 0, .string ⟨#[]⟩], .int .i64 2]) (by simp [results, Try.results23, go_sem]) rfl ⟨by rw [HF.out], (Ext.refl _).alloc _⟩
            · rw [if_neg h32] at HF
              go_wp2_with fail
              refine (Letter_is _ _ _ HA.out).mono ?_
              rintro e w' ⟨rfl, rfl⟩
              go_wp2_with fail
              refine (Digit_is _ _ _ HD.out).mono ?_
              rintro e w' ⟨rfl, rfl⟩
              go_wp2_with fail
              exact bodyPost_ret (v := .tuple #[.agg #[.int .i64 1, .string (s.extract 0 k)], .int .i64 0]) (by simp [results, Try.results23, go_sem]) rfl ⟨by rw [HF.out], (Ext.refl _).alloc _⟩
          · have HG := Lib.hid (K.upto_next HU.out hks hwd)
            clear fin ha hd hwd
            go_wp2_with fail
            refine (Letter_is _ _ _ HA.out).mono ?_
            rintro e w' ⟨rfl, rfl⟩
            go_wp2_with fail
            refine (Digit_is _ _ _ HD.out).mono ?_
            rintro e w' ⟨rfl, rfl⟩
            go_wp2_with fail
            go_round
            case rel => exact ⟨k + 1, by omega, by go_num, HG⟩
            case measure => simp [intOf]; omega
        · have HG := Lib.hid (K.upto_next HU.out hks (by rw [hwd]; simp))
          clear fin ha hd hwd
          go_wp2_with fail
          refine (Letter_is _ _ _ HA.out).mono ?_
          rintro e w' ⟨rfl, rfl⟩
          go_wp2_with fail
          go_round
          case rel => exact ⟨k + 1, by omega, by go_num, HG⟩
          case measure => simp [intOf]; omega
      · have HF := fin (K.upto_end HU.out hk (fun h => absurd h hks))
        clear fin
        by_cases h32 : 32 < k
        · rw [if_pos h32] at HF
          go_wp2_with fail
          exact bodyPost_ret (v := .tuple #[.agg #[.int .i64 0, .string ⟨#[]⟩], .int .i64 2]) (by simp [results, Try.results23, go_sem]) rfl ⟨by rw [HF.out], (Ext.refl _).alloc _⟩
        · rw [if_neg h32] at HF
          go_wp2_with fail
          exact bodyPost_ret (v := .tuple #[.agg #[.int .i64 1, .string (s.extract 0 k)], .int .i64 0]) (by simp [results, Try.results23, go_sem]) rfl ⟨by rw [HF.out], (Ext.refl _).alloc _⟩
  · have hltf : K.letterN s[0].toNat = false := by simpa using hlt
    rw [if_neg hlt] at hx
    have HL := Lib.hid hltf
    by_cases hdg : K.digitN s[0].toNat = true
    · rw [if_pos hdg] at hx
      have HD0 := Lib.hid hdg
      have HX := Lib.hid hx
      clear hlt hltf hdg hl hx
      go_enter Try.func23, Try.ntmps23
      go_wp2_with fail
      refine (Letter_is _ _ _ HL.out).mono ?_
      rintro e w' ⟨rfl, rfl⟩
      go_wp2_with fail
      refine (Digit_is _ _ _ HD0.out).mono ?_
      rintro e w' ⟨rfl, rfl⟩
      go_wp2_with fail
      go_loop [5] (fun i => ∃ k : Nat, k ≤ s.size ∧ i = .int .i64 k ∧ Hid (K.upto false s k)) (fun i => s.size - (intOf i).toNat)
      case atStart => exact ⟨0, Nat.zero_le _, rfl, fun _ _ h => absurd h (Nat.not_lt_zero _)⟩
      case round =>
        obtain ⟨k, hk, rfl, HU⟩ := hrel
        obtain ⟨v, e0, hve⟩ : ∃ v e0, K.number (s.data.toList.take k) = (v, e0) := ⟨_, _, rfl⟩
        have HVE := Lib.hid hve
        have fin : K.run false s.data.toList = k → K.nxt s.data.toList = if e0 ≠ 0 then (0, 0, e0) else if ((s.data.toList.drop k).head?.map K.letter).getD false = true then (0, 0, 4) else (2, k, 0) := by
          intro h
          have := HX.out
          rw [h, hve] at this
          exact this
        clear hve
        by_cases hks : k < s.size
        · have hb : s[k].toNat ≤ 255 := by have := s[k].toNat_lt; omega
          obtain ⟨a, ha⟩ : ∃ a, K.letterN s[k].toNat = a := ⟨_, rfl⟩
          obtain ⟨d, hd⟩ : ∃ a, K.digitN s[k].toNat = a := ⟨_, rfl⟩
          have hwd : K.wordN false s[k].toNat = d := by unfold K.wordN; rw [hd]; simp
          have hdr : ((s.data.toList.drop k).head?.map K.letter).getD false = a := by
            rw [List.drop_eq_getElem_cons (by rw [size_list]; exact hks)]
            exact ha
          have HA := Lib.hid ha
          have HD := Lib.hid hd
          cases d
          · have HF := fin (K.upto_end HU.out hk (fun _ => hwd))
            rw [hdr] at HF
            clear fin ha hd hwd hdr
            by_cases he : e0 = 0
            · subst he
              rw [if_neg (by simp)] at HF
              cases a
              · rw [if_neg (by simp)] at HF
                have HV := Lib.hid (nextV_of HF)
                clear HF
                go_wp2_with fail
                refine (Digit_is _ _ _ HD.out).mono ?_
                rintro e w' ⟨rfl, rfl⟩
                go_wp2_with fail
                refine (refNumber_x _ _ _ hs).mono ?_
                rw [HVE.out]
                rintro e w' ⟨rfl, rfl⟩
                go_wp2_with fail
                refine (Letter_is _ _ _ HA.out).mono ?_
                rintro e w' ⟨rfl, rfl⟩
                go_wp2_with fail
                exact bodyPost_ret (v := .tuple #[.agg #[.int .i64 2, .string (s.extract 0 k)], .int .i64 0]) (by simp [results, Try.results23, go_sem]) rfl ⟨by rw [HV.out], (Ext.refl _).alloc _⟩
              · rw [if_pos rfl] at HF
                have HV := Lib.hid (nextV_err HF)
                clear HF
                go_wp2_with fail
                refine (Digit_is _ _ _ HD.out).mono ?_
                rintro e w' ⟨rfl, rfl⟩
                go_wp2_with fail
                refine (refNumber_x _ _ _ hs).mono ?_
                rw [HVE.out]
                rintro e w' ⟨rfl, rfl⟩
                go_wp2_with fail
                refine (Letter_is _ _ _ HA.out).mono ?_
                rintro e w' ⟨rfl, rfl⟩
                go_wp2_with fail
                exact bodyPost_ret (v := .tuple #[.agg #[.int .i64 0, .string ⟨#[]⟩], .int .i64 4]) (by simp [results, Try.results23, go_sem]) rfl ⟨by rw [HV.out], (Ext.refl _).alloc _⟩
            · rw [if_pos he] at HF
              have HV := Lib.hid (nextV_err HF)
              have t1 : (e0 != 0) = true := by simpa using he
              clear HF he
              go_wp2_with fail
              refine (Digit_is _ _ _ HD.out).mono ?_
              rintro e w' ⟨rfl, rfl⟩
              go_wp2_with fail
              refine (refNumber_x _ _ _ hs).mono ?_
              rw [HVE.out]
              rintro e w' ⟨rfl, rfl⟩
              go_wp2_with fail
              exact bodyPost_ret (v := .tuple #[.agg #[.int .i64 0, .string ⟨#[]⟩], .int .i64 e0]) (by simp [results, Try.results23, go_sem]) rfl ⟨by rw [HV.out], (Ext.refl _).alloc _⟩
          · have HG := Lib.hid (K.upto_next HU.out hks hwd)
            clear fin ha hd hwd hdr
            go_wp2_with fail
            refine (Digit_is _ _ _ HD.out).mono ?_
            rintro e w' ⟨rfl, rfl⟩
            go_wp2_with fail
            go_round
            case rel => exact ⟨k + 1, by omega, by go_num, HG⟩
            case measure => simp [intOf]; omega
        · have HF := fin (K.upto_end HU.out hk (fun h => absurd h hks))
          rw [show s.data.toList.drop k = [] from List.drop_eq_nil_of_le (by rw [size_list]; omega)] at HF
          clear fin
          by_cases he : e0 = 0
          · subst he
            rw [if_neg (by simp), if_neg (by simp)] at HF
            have HV := Lib.hid (nextV_of HF)
            clear HF
            go_wp2_with fail
            refine (refNumber_x _ _ _ hs).mono ?_
            rw [HVE.out]
            rintro e w' ⟨rfl, rfl⟩
            go_wp2_with fail
            exact bodyPost_ret (v := .tuple #[.agg #[.int .i64 2, .string (s.extract 0 k)], .int .i64 0]) (by simp [results, Try.results23, go_sem]) rfl ⟨by rw [HV.out], (Ext.refl _).alloc _⟩
          · rw [if_pos he] at HF
            have HV := Lib.hid (nextV_err HF)
            have t1 : (e0 != 0) = true := by simpa using he
            clear HF he
            go_wp2_with fail
            refine (refNumber_x _ _ _ hs).mono ?_
            rw [HVE.out]
            rintro e w' ⟨rfl, rfl⟩
            go_wp2_with fail
            exact bodyPost_ret (v := .tuple #[.agg #[.int .i64 0, .string ⟨#[]⟩], .int .i64 e0]) (by simp [results, Try.results23, go_sem]) rfl ⟨by rw [HV.out], (Ext.refl _).alloc _⟩
    · have hdgf : K.digitN s[0].toNat = false := by simpa using hdg
      rw [if_neg hdg] at hx
      have HD0 := Lib.hid hdgf
      have HX := Lib.hid hx
      clear hlt hltf hdg hdgf hl hx
      go_enter Try.func23, Try.ntmps23
      go_wp2_with fail
      refine (Letter_is _ _ _ HL.out).mono ?_
      rintro e w' ⟨rfl, rfl⟩
      go_wp2_with fail
      refine (Digit_is _ _ _ HD0.out).mono ?_
      rintro e w' ⟨rfl, rfl⟩
      go_wp2_with fail
      refine (Symbols_any _).mono ?_
      intro e w2 hw2
      obtain ⟨rfl, hw2⟩ := hw2
      have d2 : Ext (w.alloc (.cells #[.int .i64 0, .string ⟨#[]⟩] 38)) w2 := by rw [← hw2]; exact (Ext.refl _).alloc _
      have hsc := symCells_get (w.alloc (.cells #[.int .i64 0, .string ⟨#[]⟩] 38))
      rw [hw2, show (w.alloc (.cells #[.int .i64 0, .string ⟨#[]⟩] 38)).heap.size = w.heap.size + 1 by simp] at hsc
      obtain ⟨c0, c1, f0, f1, hsz⟩ := box2 d2
      have HSC := Lib.hid hsc
      clear hw2 hsc
      go_wp2_with fail
      go_loop [9, 81] (fun _ i => ∃ k : Nat, k ≤ 24 ∧ i = .int .i64 k ∧ Hid (∀ i (h : i < K.symbols.length), i < k → K.starts s.data.toList K.symbols[i] = false)) (fun _ i => 24 - (intOf i).toNat)
      case atStart => exact ⟨0, Nat.zero_le _, rfl, fun _ _ h => absurd h (Nat.not_lt_zero _)⟩
      case round =>
        obtain ⟨k, hk, rfl, HU⟩ := hrel
        by_cases hks : k < 24
        · have hkl : k < K.symbols.length := hks
          have cs := HSC.out k hkl
          simp only [Nat.zero_add] at cs
          have pos : ∀ x ∈ K.symbols, 0 < x.length ∧ x.length ≤ 2 := by decide
          have hpx := pos _ (List.getElem_mem hkl)
          obtain ⟨bb, hbb⟩ : ∃ bb, K.starts s.data.toList K.symbols[k] = bb := ⟨_, rfl⟩
          have hyes : bb = true → nextV s = .tuple #[.agg #[.int .i64 3, .string (str K.symbols[k])], .int .i64 0] := by
            intro h
            rw [h] at hbb
            have hsy := K.sym_at hkl HU.out hbb
            have hst := (K.starts_iff _ _).1 hbb
            have := HX.out
            rw [hsy, if_neg (by omega)] at this
            rw [nextV_of this, ext_str, hst.2]
          have hno : bb = false → Hid (∀ i (h : i < K.symbols.length), i < k + 1 → K.starts s.data.toList K.symbols[i] = false) := by
            intro h i h1 h2
            by_cases hi : i < k
            · exact HU.out i h1 hi
            · have : i = k := by omega
              subst this
              rw [hbb, h]
          have hdec : bb = (decide ((str K.symbols[k]).size ≤ s.size) && ((s.extract 0 (str K.symbols[k]).size).toList == (str K.symbols[k]).toList)) := by
            rw [← hbb]
            unfold K.starts
            rw [str_size, size_list, ByteArray.toList_eq, ByteArray.toList_eq, Lib.extract_data, str_data]
            congr 1
            rw [Bool.eq_iff_iff]
            simp
          have hts : 0 < (str K.symbols[k]).size ∧ (str K.symbols[k]).size ≤ 2 := by rw [str_size]; exact hpx
          obtain ⟨t, ht⟩ : ∃ t, t = str K.symbols[k] := ⟨_, rfl⟩
          rw [← ht] at cs hyes hdec hts
          clear ht pos hpx hbb
          by_cases hle : t.size ≤ s.size
          · rw [show decide (t.size ≤ s.size) = true by simpa using hle, Bool.true_and] at hdec
            cases bb
            · have e2 := hdec.symm
              have e3 : ¬ (s.extract 0 t.size).toList = t.toList := by simpa using e2
              have HG := Lib.hid (hno rfl)
              clear hno hyes hdec
              go_wp2_with fail
              go_round
              case rel => exact ⟨k + 1, by omega, by go_num, HG.out⟩
              case measure => simp [intOf]; omega
            · have e2 := hdec.symm
              have HV := Lib.hid (hyes rfl)
              clear hno hyes hdec
              go_wp2_with fail
              exact bodyPost_ret (v := .tuple #[.agg #[.int .i64 3, .string t], .int .i64 0]) (by simp [results, Try.results23, go_sem, c0, c1]) rfl ⟨by rw [HV.out], ((box2_ext d2).setCell (Nat.le_refl _) _).setCell (Nat.le_refl _) _⟩
          · obtain rfl : bb = false := by rw [hdec]; simp; omega
            have HG := Lib.hid (hno rfl)
            clear hno hyes hdec
            go_wp2_with fail
            go_round
            case rel => exact ⟨k + 1, by omega, by go_num, HG.out⟩
            case measure => simp [intOf]; omega
        · obtain rfl : k = 24 := by omega
          have hs0 : K.sym s.data.toList = 0 := by
            refine K.sym_none fun x hx => ?_
            obtain ⟨i, hi, rfl⟩ := List.getElem_of_mem hx
            exact HU.out i hi hi
          have HV : Hid (nextV s = .tuple #[.agg #[.int .i64 0, .string ⟨#[]⟩], .int .i64 4]) := by
            have := HX.out
            rw [if_pos hs0] at this
            exact nextV_err this
          clear hs0
          go_wp2_with fail
          exact bodyPost_ret (v := .tuple #[.agg #[.int .i64 0, .string ⟨#[]⟩], .int .i64 4]) (by simp [results, Try.results23, go_sem, c0, c1]) rfl ⟨by rw [HV.out], ((box2_ext d2).setCell (Nat.le_refl _) _).setCell (Nat.le_refl _) _⟩

end Go.Proofs.Ytaniamfonkfekaa
