/- Contracts of the reference's Valid, AllValid, Text, Print; the walk of TokenTexts. -/
import Derived.Test.YtaniamfonkfekaaO
namespace Go.Proofs.Ytaniamfonkfekaa
open Go.RowKit Go.Lib

namespace K
theorem nxt_kinds (l : List UInt8) : (nxt l).2.2 = 0 → (nxt l).1 = 1 ∨ (nxt l).1 = 2 ∨ (nxt l).1 = 3 := by
  cases l with
  | nil => intro h; simp [nxt] at h
  | cons c t =>
    rw [nxt]
    split
    · split
      · intro h; simp at h
      · intro _; exact .inl rfl
    · split
      · split
        · rename_i h; intro h2; exact absurd h2 h
        · split
          · intro h; simp at h
          · intro _; exact .inr (.inl rfl)
      · split
        · intro h; simp at h
        · intro _; exact .inr (.inr rfl)
theorem valid_kinds (k : Int) (l : List UInt8) (h1 : k ≠ 1) (h2 : k ≠ 2) (h3 : k ≠ 3) : valid k l = false := by
  unfold valid
  rw [decide_eq_false_iff_not]
  intro h
  have := nxt_kinds l (by rw [h])
  rw [h] at this
  simp only at this
  omega
theorem valid2 (l : List UInt8) : valid 2 l = decide ((number l).2 = 0) := by
  rw [Bool.eq_iff_iff, decide_eq_true_eq]
  unfold valid
  rw [decide_eq_true_eq]
  cases l with
  | nil => simp [nxt, number, numOk]
  | cons c t =>
    have hle := run_le false (c :: t)
    constructor
    · intro h
      rw [nxt] at h
      split at h
      · split at h
        · simp at h
        · simp at h
      · split at h
        · split at h
          · rename_i h1
            simp only [Prod.mk.injEq] at h
            exact absurd h.2.2 h1
          · rename_i h1
            split at h
            · simp at h
            · simp only [Prod.mk.injEq] at h
              rw [h.2.1, List.take_length] at h1
              simpa using h1
        · split at h
          · simp at h
          · simp at h
    · intro h
      have hok : numOk (c :: t) = true := by
        unfold number at h
        split at h
        · assumption
        · simp at h
      have hr : run false (c :: t) = (c :: t).length := by
        unfold numOk at hok
        simp only [Bool.and_eq_true, decide_eq_true_eq] at hok
        exact hok.1.2
      have hd : Digs (c :: t) := by
        intro x hx
        obtain ⟨j, hj, rfl⟩ := List.getElem_of_mem hx
        have := runWithin false (c :: t) j (by omega) hj
        unfold digit
        simpa [word, wordN] using this
      rw [nxt_digs c t hd h]
theorem valid3 (l : List UInt8) : valid 3 l = has symbols l := by
  rw [Bool.eq_iff_iff]
  unfold valid has
  rw [decide_eq_true_eq, List.contains_eq_mem, decide_eq_true_eq]
  constructor
  · intro h
    cases l with
    | nil => simp [nxt] at h
    | cons c t =>
      rw [nxt] at h
      split at h
      · split at h
        · simp at h
        · simp at h
      · split at h
        · split at h
          · simp at h
          · split at h
            · simp at h
            · simp at h
        · split at h
          · simp at h
          · simp only [Prod.mk.injEq] at h
            have hs := h.2.1
            rw [sym] at hs
            split at hs
            · rename_i h2
              unfold isSym2 at h2
              have hm : (c :: t).take 2 ∈ syms2 := by simpa using h2
              rw [List.take_of_length_le (by omega)] at hm
              have sub : ∀ x ∈ syms2, x ∈ symbols := by decide
              exact sub _ hm
            · split at hs
              · rename_i h1
                obtain rfl : t = [] := List.eq_nil_of_length_eq_zero (by simp only [List.length_cons] at hs; omega)
                unfold isChar at h1
                have hm : c ∈ chars := by simpa using h1
                have sub : ∀ x ∈ chars, [x] ∈ symbols := by decide
                exact sub _ hm
              · simp at hs
  · intro h
    have all : ∀ x ∈ symbols, nxt x = (3, x.length, 0) := by decide
    exact all _ h
end K

theorem form_is (s : ByteArray) (b : Bool) (w : World) (hs : s.size ≤ 9223372036854775807) (h : K.valid 1 s.data.toList = b) : Calls Try.prog 30 #[.string s] w fun e w' => e = .returned (.bool b) ∧ w = w' := h ▸ form_any s w hs

set_option maxHeartbeats 1000000 in
theorem refValid_any (k : Int) (s : ByteArray) (w : World) (hs : s.size ≤ 9223372036854775807) : Calls Try.prog 43 #[.agg #[.int .i64 k, .string s]] w (Al (.bool (K.valid k s.data.toList)) w) := by
  by_cases h1 : k = 1
  · subst h1
    go_enter Try.func43, Try.ntmps43
    go_wp2_with fail
    refine (form_any s _ hs).mono ?_
    rintro e w' ⟨rfl, rfl⟩
    go_wp2_with fail
    go_ret
    exact ⟨rfl, (Ext.refl _).alloc _⟩
  · by_cases h2 : k = 2
    · subst h2
      have hv := Lib.hid (K.valid2 s.data.toList)
      obtain ⟨n, er, hn⟩ : ∃ n er, K.number s.data.toList = (n, er) := ⟨_, _, rfl⟩
      have HN := Lib.hid hn
      clear hn
      go_enter Try.func43, Try.ntmps43
      go_wp2_with fail
      refine (refNumber_any s _ hs).mono ?_
      rw [HN.out]
      rintro e w' ⟨rfl, rfl⟩
      go_wp2_with fail
      go_ret
      exact ⟨ret_bool (by rw [hv.out, HN.out, Bool.eq_iff_iff]; simp), (Ext.refl _).alloc _⟩
    · by_cases h3 : k = 3
      · subst h3
        have hv := Lib.hid (K.valid3 s.data.toList)
        go_enter Try.func43, Try.ntmps43
        go_wp2_with fail
        obtain ⟨wb, hwb⟩ : ∃ wb, wb = w.alloc (.cells #[.int .i64 3, .string s] 38) := ⟨_, rfl⟩
        have hcb : wb.cell? ⟨w.heap.size, 1, none⟩ = some (.string s) := by rw [hwb]; exact cell_new w _ _ 1
        have hdw : Ext w wb := by rw [hwb]; exact (Ext.refl w).alloc _
        rw [← hwb]
        clear hwb
        have fx : ∀ x : Lat (Ext wb), x.w'.cell? ⟨w.heap.size, 1, none⟩ = some (.string s) := fun x => x.h.keepc hcb
        have hne := Lat.some (Φ := Ext wb) ((Ext.refl wb).drew)
        refine wp_region_lat [0, 3] (Ext wb) ((Ext.refl wb).drew) (by kernel_rfl) (by kernel_rfl) (by kernel_rfl) ?_
        refine lex_eff rfl ?_
        go_wp2_with fail
        refine (Symbols_any _).mono ?_
        rintro e w' ⟨rfl, rfl⟩
        go_wp2_with fail
        have e3 : Ext wb (wb.drew.alloc (.cells K.symCells 9)) := ((Ext.refl wb).drew).alloc _
        refine ⟨⟨⟨_, e3⟩, rfl⟩, ?_⟩
        repeat (refine lex_pure rfl rfl rfl ?_; intro K hK; go_big_quiet_op; go_big_quiet_on)
        refine lex_eff rfl ?_
        go_wp2_with fail
        refine (Has_any _ _ _ _ K.symbols s _ rfl (by decide) (symCells_get wb.drew)).mono ?_
        rw [← hv.out]
        rintro e w' ⟨rfl, rfl⟩
        go_wp2_with fail
        refine ⟨⟨⟨_, e3⟩, rfl⟩, ?_⟩
        repeat (refine lex_pure rfl rfl rfl ?_; intro K hK; go_big_quiet_op; go_big_quiet_on)
        refine lex_nil ?_
        go_wp2_with fail
        go_ret
        exact ⟨rfl, hdw.trans e3⟩
      · have hv := Lib.hid (K.valid_kinds k s.data.toList h1 h2 h3)
        have t1 : (k == 1) = false := by simpa using h1
        have t2 : (k == 2) = false := by simpa using h2
        have t3 : (k == 3) = false := by simpa using h3
        clear h1 h2 h3
        go_enter Try.func43, Try.ntmps43
        go_wp2_with fail
        go_ret
        exact ⟨by rw [hv.out]; rfl, (Ext.refl _).alloc _⟩

theorem refValid_is (k : Int) (s : ByteArray) (b : Bool) (w : World) (hs : s.size ≤ 9223372036854775807) (h : K.valid k s.data.toList = b) : Calls Try.prog 43 #[.agg #[.int .i64 k, .string s]] w (Al (.bool b) w) := h ▸ refValid_any k s w hs
theorem refValid_tk (t : Tk) (b : Bool) (w : World) (hs : t.2.size ≤ 9223372036854775807) (h : K.valid t.1 t.2.data.toList = b) : Calls Try.prog 43 #[.agg #[.int .i64 t.1, .string t.2]] w (Al (.bool b) w) := h ▸ refValid_any t.1 t.2 w hs

set_option maxRecDepth 4000 in
set_option maxHeartbeats 1000000 in
theorem AllValid_any (l : List Tk) (A : Option Addr) (c n : Nat) (w : World) (hA : ToksAt w A n l) : Calls Try.prog 26 #[.slice A n c] w (Al (.bool (K.allValid l && decide (l.length ≤ 256))) w) := by
  have hnl := hA.1
  have hn63 : n ≤ 9223372036854775807 := by have := hA.2.1; omega
  have HNL := Lib.hid hnl
  have HA := Lib.hid hA
  obtain ⟨R, hR⟩ : ∃ R, R = (K.allValid l && decide (l.length ≤ 256)) := ⟨_, rfl⟩
  rw [← hR]
  have HR := Lib.hid hR
  clear hnl hA hR
  go_enter Try.func26, Try.ntmps26
  go_wp2_with fail
  go_loopw [7] (fun i wr => ∃ k : Nat, k ≤ n ∧ i = .int .i64 k ∧ Hid (K.allValid (l.take k) = true) ∧ Ext w wr) (fun i _ => n - (intOf i).toNat)
  case atStart => exact ⟨0, Nat.zero_le _, rfl, rfl, Ext.refl _⟩
  case round =>
    obtain ⟨k, hk, rfl, HAV, hd⟩ := hrel
    by_cases hlt : k < n
    · obtain ⟨b, off, rfl, hc⟩ := HA.out.cells (by omega)
      have hkl : k < l.length := by have := HNL.out; omega
      obtain ⟨c0, c1, hsz⟩ := hc k hkl
      have c0' := hd.keepc c0
      have c1' := hd.keepc c1
      have hav : Hid (K.allValid (l.take (k + 1)) = (K.allValid (l.take k) && K.valid l[k].1 l[k].2.data.toList)) := by
        unfold Hid K.allValid
        rw [List.take_succ_eq_append_getElem hkl, List.all_append]
        simp
      obtain ⟨vb, hvb⟩ : ∃ vb, K.valid l[k].1 l[k].2.data.toList = vb := ⟨_, rfl⟩
      rw [hvb] at hav
      have hall : vb = false → R = false := by
        intro h
        rw [HR.out, Bool.and_eq_false_iff]
        left
        rw [← Bool.not_eq_true]
        intro h2
        have := List.all_eq_true.1 h2 l[k] (List.getElem_mem hkl)
        rw [h] at hvb
        rw [hvb] at this
        cases this
      have HVB := Lib.hid hvb
      obtain ⟨tk, htk⟩ : ∃ t, t = l[k] := ⟨_, rfl⟩
      rw [← htk] at c0' c1' hsz HVB
      clear hc c0 c1 hvb htk
      obtain ⟨tkk, tks⟩ := tk
      simp only at c0' c1' hsz
      cases vb
      · have HF := Lib.hid (hall rfl)
        clear hall
        go_wp2_with fail
        refine (refValid_is _ _ _ _ hsz HVB.out).mono ?_
        rintro e w1 ⟨rfl, d1⟩
        go_wp2_with fail
        go_ret
        exact ⟨by rw [HF.out]; rfl, (hd.alloc _).trans d1⟩
      · clear hall
        go_wp2_with fail
        refine (refValid_is _ _ _ _ hsz HVB.out).mono ?_
        rintro e w1 ⟨rfl, d1⟩
        go_wp2_with fail
        go_roundw
        case rel => exact ⟨k + 1, by omega, by go_num, by unfold Hid; rw [hav.out, HAV.out]; rfl, (hd.alloc _).trans d1⟩
        case measure => simp [intOf]; omega
    · obtain rfl : k = n := by omega
      have hfin : Hid (R = decide ((k : Int) ≤ 256)) := by
        have := HAV.out
        rw [List.take_of_length_le (by have := HNL.out; omega)] at this
        unfold Hid
        rw [HR.out, this, Bool.true_and, ← HNL.out, decide_eq_decide]
        omega
      go_wp2_with fail
      go_ret
      exact ⟨by rw [hfin.out]; rfl, hd⟩

theorem K.join_snoc (l : List Tk) (k : Nat) (h : k < l.length) : K.join (l.take (k + 1)) = (if k = 0 then [] else K.join (l.take k) ++ [32]) ++ l[k].2.data.toList := by
  cases l with
  | nil => simp at h
  | cons t r =>
    have e : ∀ r : List Tk, K.join (t :: r) = t.2.data.toList ++ joinTail [32] ((txts r).map (·.data.toList)) := by
      intro r
      unfold K.join txts
      rw [List.map_cons, List.map_cons, join_cons]
    cases k with
    | zero =>
      rw [List.take_succ_cons, List.take_zero, e]
      simp [joinTail, txts]
    | succ k =>
      simp only [List.length_cons] at h
      have hk : k < r.length := by omega
      rw [List.take_succ_cons, List.take_succ_cons, e, e, if_neg (by omega)]
      have hs := joinTail_take_succ [32] ((txts r).map (·.data.toList)) k r[k].2.data.toList (by simp [txts, hk])
      have t1 : ∀ j, (txts (r.take j)).map (·.data.toList) = ((txts r).map (·.data.toList)).take j := by
        intro j; simp [txts]
      rw [t1, t1, hs]
      simp

set_option maxRecDepth 4000 in
set_option maxHeartbeats 1000000 in
theorem Text_any (l : List Tk) (A : Option Addr) (c n : Nat) (w : World) (hA : ToksAt w A n l) (h300 : l.length ≤ 300) (h50 : ∀ t ∈ l, t.2.size ≤ 50) : Calls Try.prog 27 #[.slice A n c] w (Al (.string (str (K.join l))) w) := by
  have hnl := hA.1
  have hn63 : n ≤ 300 := by omega
  have HNL := Lib.hid hnl
  have HA := Lib.hid hA
  have H50 := Lib.hid h50
  clear hnl hA h50 h300
  go_enter Try.func27, Try.ntmps27
  go_wp2_with fail
  go_loopw [3, 8] (fun t i wr => ∃ (k : Nat) (x : ByteArray), k ≤ n ∧ i = .int .i64 k ∧ t = .string x ∧ x.size ≤ 15300 ∧ Hid (x = str (K.join (l.take k))) ∧ Ext w wr) (fun _ i _ => n - (intOf i).toNat)
  case atStart => exact ⟨0, ⟨#[]⟩, Nat.zero_le _, rfl, rfl, by decide, rfl, Ext.refl _⟩
  case round =>
    obtain ⟨k, x, hk, rfl, rfl, hx, HX, hd⟩ := hrel
    by_cases hlt : k < n
    · obtain ⟨b, off, rfl, hc⟩ := HA.out.cells (by omega)
      have hkl : k < l.length := by have := HNL.out; omega
      obtain ⟨c0, c1, _⟩ := hc k hkl
      have c0' := hd.keepc c0
      have c1' := hd.keepc c1
      have hsn := K.join_snoc l k hkl
      have hl1 := K.join_len (l.take (k + 1)) 50 (fun t ht => H50.out t (List.mem_of_mem_take ht))
      rw [List.length_take] at hl1
      have hl50 := H50.out _ (List.getElem_mem hkl)
      obtain ⟨tk, htk⟩ : ∃ t, t = l[k] := ⟨_, rfl⟩
      rw [← htk] at c0' c1' hsn hl50
      clear hc c0 c1 htk
      obtain ⟨tkk, tks⟩ := tk
      simp only at c0' c1' hl50 hsn
      have hl2 : (K.join (l.take (k + 1))).length ≤ 15300 := by have := HNL.out; omega
      by_cases hk0 : k = 0
      · rw [if_pos hk0, List.nil_append] at hsn
        have hx0 : x = ⟨#[]⟩ := by rw [HX.out, hk0]; rfl
        subst hx0
        subst hk0
        simp only [Nat.zero_mul, Nat.add_zero] at c0' c1'
        have HSN := Lib.hid hsn
        clear hsn hl1
        go_wp2_with fail
        go_roundw
        case rel =>
          have e0 : (⟨#[]⟩ : ByteArray) ++ tks = tks := by apply WideShapes.bytes_inj; simp
          exact ⟨1, tks, by omega, rfl, by rw [e0], by omega, by unfold Hid; rw [show 0 + 1 = 1 from rfl] at HSN; rw [HSN.out, str_self], hd.alloc _⟩
        case measure => simp [intOf]; omega
      · rw [if_neg hk0] at hsn
        have hk1 : 0 < k := by omega
        have hsz : x.size + 1 + tks.size ≤ 15300 := by
          rw [hsn, List.length_append, List.length_append, size_list] at hl2
          rw [HX.out, str_size]
          simpa using hl2
        have HSN := Lib.hid hsn
        clear hsn hl1 hk0
        go_wp2_with fail
        go_roundw
        case rel =>
          refine ⟨k + 1, x ++ ⟨#[32]⟩ ++ tks, by omega, by go_num, rfl, ?_, ?_, hd.alloc _⟩
          · rw [ByteArray.size_append, ByteArray.size_append]; exact hsz
          · unfold Hid
            rw [HSN.out]
            apply WideShapes.bytes_inj
            rw [HX.out]
            simp [str]
        case measure => simp [intOf]; omega
    · obtain rfl : k = n := by omega
      have hfin : Hid (x = str (K.join l)) := by
        have := HX.out
        rwa [List.take_of_length_le (by have := HNL.out; omega)] at this
      go_wp2_with fail
      go_ret
      exact ⟨by rw [← hfin.out]; rfl, hd⟩

set_option maxHeartbeats 1000000 in
theorem refPrint_is (l : List Tk) (t : List UInt8) (e0 : Int) (A : Option Addr) (c n : Nat) (w : World) (hA : ToksAt w A n l) (h300 : l.length ≤ 300) (h50 : ∀ t ∈ l, t.2.size ≤ 50) (hp : K.print l = (t, e0)) :
    Calls Try.prog 15 #[.slice A n c] w (Al (.tuple #[.string ⟨t.toArray⟩, .int .i64 e0]) w) := by
  have hnl := hA.1
  have HA := Lib.hid hA
  unfold K.print at hp
  by_cases hbig : 256 < n
  · rw [if_pos (by omega)] at hp
    obtain ⟨rfl, rfl⟩ := Prod.mk.inj hp
    clear hnl hA hp h50
    go_enter Try.func15, Try.ntmps15
    go_wp2_with fail
    go_ret2
    exact ⟨rfl, Ext.refl _⟩
  · rw [if_neg (by omega)] at hp
    have hav := AllValid_any l A c n
    have hle : decide (l.length ≤ 256) = true := by simp; omega
    rw [hle] at hav
    simp only [Bool.and_true] at hav
    have HAV := Lib.hid hav
    have H50 := Lib.hid h50
    have HNL := Lib.hid hnl
    clear hav hA hle h50 hnl
    obtain ⟨vb, hvb⟩ : ∃ vb, K.allValid l = vb := ⟨_, rfl⟩
    have HVB := Lib.hid hvb
    rw [hvb] at hp
    clear hvb
    cases vb
    · rw [if_neg (by simp)] at hp
      obtain ⟨rfl, rfl⟩ := Prod.mk.inj hp
      clear hp
      go_enter Try.func15, Try.ntmps15
      go_wp2_with fail
      refine (HAV.out _ HA.out).mono ?_
      rw [HVB.out]
      rintro e w1 ⟨rfl, d1⟩
      go_wp2_with fail
      go_ret2
      exact ⟨rfl, d1⟩
    · rw [if_pos rfl] at hp
      obtain ⟨rfl, rfl⟩ := Prod.mk.inj hp
      clear hp
      go_enter Try.func15, Try.ntmps15
      go_wp2_with fail
      refine (HAV.out _ HA.out).mono ?_
      rw [HVB.out]
      rintro e w1 ⟨rfl, d1⟩
      go_wp2_with fail
      refine (Text_any l _ _ _ _ (HA.out.ext d1) h300 H50.out).mono ?_
      rintro e w2 ⟨rfl, d2⟩
      go_wp2_with fail
      go_ret2
      exact ⟨rfl, d1.trans d2⟩

set_option maxRecDepth 4000 in
set_option maxHeartbeats 1000000 in
theorem tokenTexts_walk (v0 : Value) (a0 : List Tk) {w : World} (r0 : (sliceR tokR).val w a0 v0) : Calls Try.prog 4 #[v0] w (Al (.bool true) w) := by
  obtain ⟨A, c, rfl, hA⟩ := val_slice r0
  clear r0
  have i0 := ToksAt.of_slice hA
  obtain ⟨n, hn⟩ : ∃ n, n = a0.length := ⟨_, rfl⟩
  rw [← hn] at i0 ⊢
  have HI := Lib.hid i0
  have HN := Lib.hid hn
  clear hn hA i0
  obtain ⟨fb, hfb⟩ : ∃ fb, K.few a0 = fb := ⟨_, rfl⟩
  have HFB := Lib.hid hfb
  cases fb
  · clear hfb
    go_enter Try.func4, Try.ntmps4
    go_wp2_with (first | (go_at_call 9; refine (awake05 _).mono ?_; rintro e w1 ⟨rfl, d1⟩) | (go_at_call 13; refine (Few_any a0 _ _ _ _ (HI.out.ext d1)).mono ?_; rw [HFB.out]; rintro e w2 ⟨rfl, d2⟩))
    go_ret
    exact ⟨rfl, d1.trans d2⟩
  · have hj := K.few_join hfb
    obtain ⟨f1, f2⟩ := K.few_spec hfb
    have HF2 := Lib.hid f2
    obtain ⟨P, E, hPE⟩ : ∃ P E, K.print a0 = (P, E) := ⟨_, _, rfl⟩
    have HPE := Lib.hid hPE
    clear hfb hPE f2
    go_enter Try.func4, Try.ntmps4
    go_wp2_with (first | (go_at_call 9; refine (awake05 _).mono ?_; rintro e w1 ⟨rfl, d1⟩) | (go_at_call 13; refine (Few_any a0 _ _ _ _ (HI.out.ext d1)).mono ?_; rw [HFB.out]; rintro e w2 ⟨rfl, d2⟩))
    refine (Print_is a0 P E _ _ _ _ (HI.out.ext (d1.trans d2)) HPE.out (by omega)).mono ?_
    rintro e w3 ⟨rfl, d3⟩
    go_wp2_with fail
    refine (refPrint_is a0 P E _ _ _ _ (HI.out.ext ((d1.trans d2).trans d3)) f1 HF2.out HPE.out).mono ?_
    rintro e w4 ⟨rfl, d4⟩
    go_wp2_with fail
    go_ret
    exact ⟨ret_bool (by simp), ((d1.trans d2).trans d3).trans d4⟩

end Go.Proofs.Ytaniamfonkfekaa
