/- The tokens of the text of valid tokens are these tokens; the walk of TokenReturns. -/
import Derived.Test.YtaniamfonkfekaaG
namespace Go.Proofs.Ytaniamfonkfekaa
open Go.RowKit Go.Lib

namespace K
/-- Empty, or a blank ahead. -/
def Stop (l : List UInt8) : Prop := l = [] ∨ ∃ r, l = 32 :: r
theorem run_stop (b : Bool) (t r : List UInt8) (h : Stop r) : run b (t ++ r) = run b t := by
  induction t with
  | nil =>
    rcases h with rfl | ⟨x, rfl⟩
    · rfl
    · rw [List.nil_append, run_cons, if_neg (by cases b <;> decide)]
      rfl
  | cons c t ih => rw [List.cons_append, run_cons, run_cons, ih]
theorem sym2_len {l : List UInt8} (h : isSym2 l = true) : 2 ≤ l.length := by
  unfold isSym2 at h
  have hm : l.take 2 ∈ syms2 := by simpa using h
  have hlen : (l.take 2).length = 2 := by
    simp only [syms2, List.mem_cons, List.not_mem_nil, or_false] at hm
    rcases hm with h | h | h | h | h | h | h | h <;> rw [h] <;> rfl
  rw [List.length_take] at hlen
  omega
theorem sym2_blank (c : UInt8) (r : List UInt8) : isSym2 (c :: 32 :: r) = false := by
  rw [← Bool.not_eq_true]
  intro h
  unfold isSym2 at h
  have hm : [c, 32] ∈ syms2 := by simpa using h
  simp only [syms2, List.mem_cons, List.cons.injEq, List.not_mem_nil, or_false, and_true] at hm
  rcases hm with h | h | h | h | h | h | h | h <;> exact absurd h.2 (by decide)
theorem sym_stop (t r : List UInt8) (hr : Stop r) (h : sym t = t.length) (h0 : t ≠ []) : sym (t ++ r) = t.length := by
  cases t with
  | nil => exact absurd rfl h0
  | cons c t =>
    rw [sym] at h
    rw [List.cons_append, sym]
    by_cases h2 : isSym2 (c :: t) = true
    · have hl := sym2_len h2
      rw [if_pos h2] at h
      have e : isSym2 (c :: (t ++ r)) = true := by
        unfold isSym2 at h2 ⊢
        rw [← List.cons_append, List.take_append_of_le_length (by omega)]
        exact h2
      rw [if_pos e]
      exact h
    · rw [if_neg h2] at h
      by_cases hc : isChar c = true
      · rw [if_pos hc] at h
        obtain rfl : t = [] := List.eq_nil_of_length_eq_zero (by simp only [List.length_cons] at h; omega)
        have e : ¬ isSym2 (c :: ([] ++ r)) = true := by
          rcases hr with rfl | ⟨x, rfl⟩
          · exact h2
          · rw [List.nil_append, sym2_blank]; simp
        rw [if_neg e, if_pos hc]
        rfl
      · rw [if_neg hc] at h
        simp at h
/-- A valid token ends at a blank. -/
theorem nxt_stop (t r : List UInt8) (k : Int) (hr : Stop r) (h : nxt t = (k, t.length, 0)) : nxt (t ++ r) = (k, t.length, 0) := by
  cases t with
  | nil => simp [nxt] at h
  | cons c t =>
    have hrun := fun b => run_stop b (c :: t) r hr
    have hle := fun b => run_le b (c :: t)
    rw [nxt] at h
    rw [List.cons_append, nxt, ← List.cons_append]
    by_cases hl : letter c = true
    · rw [if_pos hl] at h ⊢
      rw [hrun]
      exact h
    · rw [if_neg hl] at h ⊢
      by_cases hd : digit c = true
      · rw [if_pos hd] at h ⊢
        rw [hrun, List.take_append_of_le_length (hle false)]
        by_cases he : (number ((c :: t).take (run false (c :: t)))).2 ≠ 0
        · rw [if_pos he] at h
          simp only [Prod.mk.injEq, List.length_cons] at h
          omega
        · rw [if_neg he] at h ⊢
          by_cases hg : (((c :: t).drop (run false (c :: t))).head?.map letter).getD false = true
          · rw [if_pos hg] at h
            simp at h
          · rw [if_neg hg] at h
            simp only [Prod.mk.injEq] at h
            have hg2 : ¬ ((((c :: t) ++ r).drop (run false (c :: t))).head?.map letter).getD false = true := by
              rw [h.2.1, List.drop_left]
              rcases hr with rfl | ⟨x, rfl⟩
              · simp
              · simp only [List.head?_cons, Option.map_some, Option.getD_some]; decide
            rw [if_neg hg2]
            simp only [Prod.mk.injEq]
            exact h
      · rw [if_neg hd] at h ⊢
        by_cases hs : sym (c :: t) = 0
        · rw [if_pos hs] at h
          simp at h
        · rw [if_neg hs] at h
          simp only [Prod.mk.injEq] at h
          have hs2 := sym_stop (c :: t) r hr h.2.1 (by simp)
          rw [hs2, if_neg (by simp)]
          simp only [Prod.mk.injEq]
          first | exact h.1 | exact ⟨h.1, trivial⟩
theorem nxt_blank (r : List UInt8) : (nxt (32 :: r)).2.2 ≠ 0 := by
  rw [nxt, if_neg (by decide), if_neg (by decide)]
  have : sym (32 :: r) = 0 := by
    rw [sym, if_neg, if_neg (by decide)]
    intro h
    unfold isSym2 at h
    have hm : (32 :: r).take 2 ∈ syms2 := by simpa using h
    rw [List.take_succ_cons] at hm
    simp [syms2] at hm
  rw [if_pos this]
  decide
theorem tk_tok (t : Tk) (r : List UInt8) (acc : List Tk) (hr : Stop r) (hv : valid t.1 t.2.data.toList = true) (ha : acc.length < 256) : tk (t.2.data.toList ++ r) acc = tk r (acc ++ [t]) := by
  have hn : nxt t.2.data.toList = (t.1, t.2.data.toList.length, 0) := by simpa [valid] using hv
  have hs := nxt_stop _ r _ hr hn
  cases hl : t.2.data.toList with
  | nil => rw [hl] at hn; simp [nxt] at hn
  | cons c x =>
    rw [hl] at hs
    have hc : c ≠ 32 := by
      rintro rfl
      have := nxt_blank (x ++ r)
      rw [← List.cons_append, hs] at this
      exact this rfl
    rw [List.cons_append] at hs
    rw [List.cons_append, tk_step c (x ++ r) acc hc (by omega) (by rw [hs]), hs]
    have e1 : (c :: (x ++ r)).drop (c :: x).length = r := by rw [← List.cons_append]; exact List.drop_left
    have e2 : (c :: (x ++ r)).take (c :: x).length = c :: x := by rw [← List.cons_append]; exact List.take_left
    simp only [e1, e2]
    rw [← hl, str_self]
theorem tk_tail : ∀ (r acc : List Tk), allValid r = true → acc.length + r.length ≤ 256 → tk (joinTail [32] ((txts r).map (·.data.toList))) acc = (acc ++ r, 0)
  | [], acc, _, _ => by
    rw [List.append_nil]
    exact tk_nil acc
  | t :: r, acc, hv, hl => by
    simp only [allValid, List.all_cons, Bool.and_eq_true] at hv
    simp only [List.length_cons] at hl
    have e : joinTail [32] ((txts (t :: r)).map (·.data.toList)) = 32 :: (t.2.data.toList ++ joinTail [32] ((txts r).map (·.data.toList))) := by
      simp [joinTail, txts]
    have hst : Stop (joinTail [32] ((txts r).map (·.data.toList))) := by
      cases r with
      | nil => exact .inl rfl
      | cons a r => exact .inr ⟨_, by simp [joinTail, txts]; rfl⟩
    rw [e, tk_blank, tk_tok t _ acc hst hv.1 (by omega), tk_tail r (acc ++ [t]) hv.2 (by simp; omega), List.append_assoc]
    rfl
/-- The law. -/
theorem tk_join (l : List Tk) (hv : allValid l = true) (hl : l.length ≤ 256) : tk (join l) [] = (l, 0) := by
  cases l with
  | nil => rfl
  | cons t r =>
    have hv2 := hv
    simp only [allValid, List.all_cons, Bool.and_eq_true] at hv
    have e : join (t :: r) = t.2.data.toList ++ joinTail [32] ((txts r).map (·.data.toList)) := by
      unfold join txts
      rw [List.map_cons, List.map_cons, join_cons]
    have hst : Stop (joinTail [32] ((txts r).map (·.data.toList))) := by
      cases r with
      | nil => exact .inl rfl
      | cons a r => exact .inr ⟨_, by simp [joinTail, txts]; rfl⟩
    simp only [List.length_cons] at hl
    rw [e, tk_tok t _ [] hst hv.1 (by simp), tk_tail r _ hv.2 (by simp; omega)]
    rfl
theorem join_len (l : List Tk) (m : Nat) (h : ∀ t ∈ l, t.2.size ≤ m) : (join l).length ≤ l.length * (m + 1) := by
  have tail : ∀ r : List Tk, (∀ t ∈ r, t.2.size ≤ m) → (joinTail [32] ((txts r).map (·.data.toList))).length ≤ r.length * (m + 1) := by
    intro r
    induction r with
    | nil => intro _; simp [joinTail, txts]
    | cons t r ih =>
      intro h
      have h1 := h t (List.mem_cons_self)
      have h2 := ih fun x hx => h x (List.mem_cons_of_mem _ hx)
      have e : joinTail [32] ((txts (t :: r)).map (·.data.toList)) = 32 :: (t.2.data.toList ++ joinTail [32] ((txts r).map (·.data.toList))) := by simp [joinTail, txts]
      rw [e, List.length_cons, List.length_append, size_list, List.length_cons, Nat.add_mul]
      omega
  cases l with
  | nil => simp [join, txts, Lib.join]
  | cons t r =>
    have e : join (t :: r) = t.2.data.toList ++ joinTail [32] ((txts r).map (·.data.toList)) := by
      unfold join txts
      rw [List.map_cons, List.map_cons, join_cons]
    have h1 := h t (List.mem_cons_self)
    have h2 := tail r fun x hx => h x (List.mem_cons_of_mem _ hx)
    rw [e, List.length_append, size_list, List.length_cons, Nat.add_mul]
    omega
end K

section
variable {H : Type} {enc : TypeId × Value → H} {w : World}
def tokR : Rep Tk := prodR (intR .i64) strR
theorem op3 : Opens enc Try.prog w 3 (intR .i64) := Opens.int Try.underlying3 (by kernel_rfl)
theorem op5 : Opens enc Try.prog w 5 (intR .u8) := Opens.int Try.underlying5 (by kernel_rfl)
theorem op32 : Opens enc Try.prog w 32 (intR .u32) := Opens.int Try.underlying32 (by kernel_rfl)
theorem op9 : Opens enc Try.prog w 9 strR := Opens.str Try.underlying9 (by kernel_rfl)
theorem op38 : Opens enc Try.prog w 38 tokR := Opens.struct Try.underlying38 (by kernel_rfl) (.cons op3 rfl (.one op9 rfl))
theorem op23 : Opens enc Try.prog w 23 (sliceR tokR) := Opens.slice Try.underlying23 (by kernel_rfl) (by decide) op38
end
theorem ToksAt.of_slice {w : World} {S : Nat → Prop} {A : Option Addr} {c : Nat} {l : List Tk} (h : SliceAt tokR w S A c l) : ToksAt w A l.length l := by
  obtain ⟨h1, h2, h3⟩ := h
  have key : ∀ b off, RowAt tokR w S b off l → ∀ j (h : j < l.length), w.cell? ⟨b, off + j * 2, none⟩ = some (.int .i64 l[j].1) ∧ w.cell? ⟨b, off + j * 2 + 1, none⟩ = some (.string l[j].2) ∧ l[j].2.size ≤ 9223372036854775807 := by
    intro b off hr j hj
    obtain ⟨us, ⟨x, y, rfl, ⟨rfl, _⟩, rfl, hs⟩, hc⟩ := hr j hj
    have h0 := hc 0 _ rfl
    have h1 := hc 1 _ rfl
    have e : tokR.size = 2 := rfl
    rw [e] at h0 h1
    exact ⟨h0, h1, hs⟩
  refine ⟨rfl, by omega, fun t ht => ?_, fun hl => ?_⟩
  · obtain ⟨b, off, rfl, _, hr⟩ := h3 (by rintro rfl; simp at ht)
    obtain ⟨j, hj, rfl⟩ := List.getElem_of_mem ht
    exact (key b off hr j hj).2.2
  · obtain ⟨b, off, rfl, _, hr⟩ := h3 hl
    exact ⟨b, off, rfl, fun j hj => ⟨(key b off hr j hj).1, (key b off hr j hj).2.1⟩⟩
theorem K.few_spec {l : List Tk} (h : K.few l = true) : l.length ≤ 300 ∧ ∀ t ∈ l, t.2.size ≤ 50 := by
  unfold K.few at h
  rw [Bool.and_eq_true] at h
  exact ⟨by simpa using h.2, fun t ht => by have := List.all_eq_true.1 h.1 t ht; simpa using this⟩
theorem K.few_join {l : List Tk} (h : K.few l = true) : (K.join l).length ≤ 15300 := by
  obtain ⟨h1, h2⟩ := K.few_spec h
  have := K.join_len l 50 h2
  omega

set_option maxRecDepth 4000 in
set_option maxHeartbeats 1000000 in
theorem tokenReturns_walk (v0 : Value) (a0 : List Tk) {w : World} (r0 : (sliceR tokR).val w a0 v0) : Calls Try.prog 6 #[v0] w (Al (.bool true) w) := by
  obtain ⟨A, c, rfl, hA⟩ := val_slice r0
  clear r0
  have i0 := ToksAt.of_slice hA
  obtain ⟨n, hn⟩ : ∃ n, n = a0.length := ⟨_, rfl⟩
  rw [← hn] at i0 ⊢
  have HI := Lib.hid i0
  have HN := Lib.hid hn
  clear hn hA i0
  obtain ⟨fb, hfb⟩ : ∃ fb, K.few a0 = fb := ⟨_, rfl⟩
  have HFB := Lib.hid hfb
  cases fb
  · clear hfb
    go_enter Try.func6, Try.ntmps6
    go_wp2_with (first | (go_at_call 9; refine (awake05 _).mono ?_; rintro e w1 ⟨rfl, d1⟩) | (go_at_call 13; refine (Few_any a0 _ _ _ _ (HI.out.ext d1)).mono ?_; rw [HFB.out]; rintro e w2 ⟨rfl, d2⟩))
    go_ret
    exact ⟨rfl, d1.trans d2⟩
  · have hj := K.few_join hfb
    obtain ⟨P, E, hPE⟩ : ∃ P E, K.print a0 = (P, E) := ⟨_, _, rfl⟩
    have hE : E = 0 → K.tk P [] = (a0, 0) := by
      intro h
      subst h
      unfold K.print at hPE
      split at hPE
      · simp at hPE
      · rename_i hl
        split at hPE
        · rename_i hv
          simp only [Prod.mk.injEq] at hPE
          rw [← hPE.1]
          exact K.tk_join a0 hv (by omega)
        · simp at hPE
    have hE2 : E ≠ 0 → P = [] := by
      intro h
      unfold K.print at hPE
      split at hPE
      · simp only [Prod.mk.injEq] at hPE; exact hPE.1.symm
      · split at hPE
        · simp only [Prod.mk.injEq] at hPE; exact absurd hPE.2.symm h
        · simp only [Prod.mk.injEq] at hPE; exact hPE.1.symm
    have hPl : P.length ≤ 15300 := by
      unfold K.print at hPE
      split at hPE
      · simp only [Prod.mk.injEq] at hPE; rw [← hPE.1]; simp
      · split at hPE
        · simp only [Prod.mk.injEq] at hPE; rw [← hPE.1]; exact hj
        · simp only [Prod.mk.injEq] at hPE; rw [← hPE.1]; simp
    have HPE := Lib.hid hPE
    clear hfb hPE
    by_cases h0 : E = 0
    · subst h0
      have HT := Lib.hid (hE rfl)
      clear hE hE2
      go_enter Try.func6, Try.ntmps6
      go_wp2_with (first | (go_at_call 9; refine (awake05 _).mono ?_; rintro e w1 ⟨rfl, d1⟩) | (go_at_call 13; refine (Few_any a0 _ _ _ _ (HI.out.ext d1)).mono ?_; rw [HFB.out]; rintro e w2 ⟨rfl, d2⟩))
      refine (Print_is a0 P 0 _ _ _ _ (HI.out.ext (d1.trans d2)) HPE.out (by omega)).mono ?_
      rintro e w3 ⟨rfl, d3⟩
      go_wp2_with fail
      refine (Tokens_is P (a0, 0) _ HT.out (by omega)).mono ?_
      rintro e w4 ⟨v4, rfl, o4, d4⟩
      obtain ⟨A4, c4, rfl, i4⟩ := ToksAt.of_own o4 HI.out.2.2.1
      have HI4 := Lib.hid i4
      clear i4 o4
      go_wp2_with fail
      refine (Same_any a0 a0 _ _ _ _ _ _ _ (HI.out.ext (((d1.trans d2).trans d3).trans d4)) HI4.out).mono ?_
      rintro e w5 ⟨rfl, d5⟩
      go_wp2_with fail
      go_ret
      exact ⟨by simp [K.same], ((((d1.trans d2).trans d3).trans d4)).dr d5⟩
    · obtain rfl := hE2 h0
      have t1 : (E != 0) = true := by simpa using h0
      clear hE hE2 h0
      go_enter Try.func6, Try.ntmps6
      go_wp2_with (first | (go_at_call 9; refine (awake05 _).mono ?_; rintro e w1 ⟨rfl, d1⟩) | (go_at_call 13; refine (Few_any a0 _ _ _ _ (HI.out.ext d1)).mono ?_; rw [HFB.out]; rintro e w2 ⟨rfl, d2⟩))
      refine (Print_is a0 [] E _ _ _ _ (HI.out.ext (d1.trans d2)) HPE.out (by omega)).mono ?_
      rintro e w3 ⟨rfl, d3⟩
      go_wp2_with fail
      go_ret
      exact ⟨rfl, (d1.trans d2).trans d3⟩

end Go.Proofs.Ytaniamfonkfekaa
