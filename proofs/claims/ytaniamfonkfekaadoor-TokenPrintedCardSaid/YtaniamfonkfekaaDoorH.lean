/- Plain laws: the tokens of a printed line; what the tokens of a line hold. -/
import Derived.Test.YtaniamfonkfekaaDoorG
namespace Go.Proofs.YtaniamfonkfekaaDoor
open Go.RowKit Go.Lib

namespace K
/-- Empty, or a blank ahead. -/
def Stop (l : List UInt8) : Prop := l = [] ∨ ∃ r, l = 32 :: r
theorem run_stop (b : Bool) (t r : List UInt8) (h : Stop r) : run b (t ++ r) = run b t := by
  induction t with
  | nil =>
    rcases h with rfl | ⟨x, rfl⟩
    · rfl
    · rw [List.nil_append, run_cons, if_neg (by cases b <;> decide)]
      rfl
  | cons c t ih => rw [List.cons_append, run_cons, run_cons, ih]
theorem sym2_len {l : List UInt8} (h : isSym2 l = true) : 2 ≤ l.length := by
  unfold isSym2 at h
  have hm : l.take 2 ∈ syms2 := by simpa using h
  have hlen : (l.take 2).length = 2 := by
    simp only [syms2, List.mem_cons, List.not_mem_nil, or_false] at hm
    rcases hm with h | h | h | h | h | h | h | h <;> rw [h] <;> rfl
  rw [List.length_take] at hlen
  omega
theorem sym2_blank (c : UInt8) (r : List UInt8) : isSym2 (c :: 32 :: r) = false := by
  rw [← Bool.not_eq_true]
  intro h
  unfold isSym2 at h
  have hm : [c, 32] ∈ syms2 := by simpa using h
  simp only [syms2, List.mem_cons, List.cons.injEq, List.not_mem_nil, or_false, and_true] at hm
  rcases hm with h | h | h | h | h | h | h | h <;> exact absurd h.2 (by decide)
theorem sym_stop (t r : List UInt8) (hr : Stop r) (h : sym t = t.length) (h0 : t ≠ []) : sym (t ++ r) = t.length := by
  cases t with
  | nil => exact absurd rfl h0
  | cons c t =>
    rw [sym] at h
    rw [List.cons_append, sym]
    by_cases h2 : isSym2 (c :: t) = true
    · have hl := sym2_len h2
      rw [if_pos h2] at h
      have e : isSym2 (c :: (t ++ r)) = true := by
        unfold isSym2 at h2 ⊢
        rw [← List.cons_append, List.take_append_of_le_length (by omega)]
        exact h2
      rw [if_pos e]
      exact h
    · rw [if_neg h2] at h
      by_cases hc : isChar c = true
      · rw [if_pos hc] at h
        obtain rfl : t = [] := List.eq_nil_of_length_eq_zero (by simp only [List.length_cons] at h; omega)
        have e : ¬ isSym2 (c :: ([] ++ r)) = true := by
          rcases hr with rfl | ⟨x, rfl⟩
          · exact h2
          · rw [List.nil_append, sym2_blank]; simp
        rw [if_neg e, if_pos hc]
        rfl
      · rw [if_neg hc] at h
        simp at h
/-- A valid token ends at a blank. -/
theorem nxt_stop (t r : List UInt8) (k : Int) (hr : Stop r) (h : nxt t = (k, t.length, 0)) : nxt (t ++ r) = (k, t.length, 0) := by
  cases t with
  | nil => simp [nxt] at h
  | cons c t =>
    have hrun := fun b => run_stop b (c :: t) r hr
    have hle := fun b => run_le b (c :: t)
    rw [nxt] at h
    rw [List.cons_append, nxt, ← List.cons_append]
    by_cases hl : letter c = true
    · rw [if_pos hl] at h ⊢
      rw [hrun]
      exact h
    · rw [if_neg hl] at h ⊢
      by_cases hd : digit c = true
      · rw [if_pos hd] at h ⊢
        rw [hrun, List.take_append_of_le_length (hle false)]
        by_cases he : (number ((c :: t).take (run false (c :: t)))).2 ≠ 0
        · rw [if_pos he] at h
          simp only [Prod.mk.injEq, List.length_cons] at h
          omega
        · rw [if_neg he] at h ⊢
          by_cases hg : (((c :: t).drop (run false (c :: t))).head?.map letter).getD false = true
          · rw [if_pos hg] at h
            simp at h
          · rw [if_neg hg] at h
            simp only [Prod.mk.injEq] at h
            have hg2 : ¬ ((((c :: t) ++ r).drop (run false (c :: t))).head?.map letter).getD false = true := by
              rw [h.2.1, List.drop_left]
              rcases hr with rfl | ⟨x, rfl⟩
              · simp
              · simp only [List.head?_cons, Option.map_some, Option.getD_some]; decide
            rw [if_neg hg2]
            simp only [Prod.mk.injEq]
            exact h
      · rw [if_neg hd] at h ⊢
        by_cases hs : sym (c :: t) = 0
        · rw [if_pos hs] at h
          simp at h
        · rw [if_neg hs] at h
          simp only [Prod.mk.injEq] at h
          have hs2 := sym_stop (c :: t) r hr h.2.1 (by simp)
          rw [hs2, if_neg (by simp)]
          simp only [Prod.mk.injEq]
          first | exact h.1 | exact ⟨h.1, trivial⟩
theorem nxt_blank (r : List UInt8) : (nxt (32 :: r)).2.2 ≠ 0 := by
  rw [nxt, if_neg (by decide), if_neg (by decide)]
  have : sym (32 :: r) = 0 := by
    rw [sym, if_neg, if_neg (by decide)]
    intro h
    unfold isSym2 at h
    have hm : (32 :: r).take 2 ∈ syms2 := by simpa using h
    rw [List.take_succ_cons] at hm
    simp [syms2] at hm
  rw [if_pos this]
  decide
theorem tk_tok (t : Tk) (r : List UInt8) (acc : List Tk) (hr : Stop r) (hv : valid t.1 t.2.data.toList = true) (ha : acc.length < 256) : tk (t.2.data.toList ++ r) acc = tk r (acc ++ [t]) := by
  have hn : nxt t.2.data.toList = (t.1, t.2.data.toList.length, 0) := by simpa [valid] using hv
  have hs := nxt_stop _ r _ hr hn
  cases hl : t.2.data.toList with
  | nil => rw [hl] at hn; simp [nxt] at hn
  | cons c x =>
    rw [hl] at hs
    have hc : c ≠ 32 := by
      rintro rfl
      have := nxt_blank (x ++ r)
      rw [← List.cons_append, hs] at this
      exact this rfl
    rw [List.cons_append] at hs
    rw [List.cons_append, tk_step c (x ++ r) acc hc (by omega) (by rw [hs]), hs]
    have e1 : (c :: (x ++ r)).drop (c :: x).length = r := by rw [← List.cons_append]; exact List.drop_left
    have e2 : (c :: (x ++ r)).take (c :: x).length = c :: x := by rw [← List.cons_append]; exact List.take_left
    simp only [e1, e2]
    rw [← hl, str_self]
theorem tk_tail : ∀ (r acc : List Tk), allValid r = true → acc.length + r.length ≤ 256 → tk (joinTail [32] ((txts r).map (·.data.toList))) acc = (acc ++ r, 0)
  | [], acc, _, _ => by
    rw [List.append_nil]
    exact tk_nil acc
  | t :: r, acc, hv, hl => by
    simp only [allValid, List.all_cons, Bool.and_eq_true] at hv
    simp only [List.length_cons] at hl
    have e : joinTail [32] ((txts (t :: r)).map (·.data.toList)) = 32 :: (t.2.data.toList ++ joinTail [32] ((txts r).map (·.data.toList))) := by
      simp [joinTail, txts]
    have hst : Stop (joinTail [32] ((txts r).map (·.data.toList))) := by
      cases r with
      | nil => exact .inl rfl
      | cons a r => exact .inr ⟨_, by simp [joinTail, txts]; rfl⟩
    rw [e, tk_blank, tk_tok t _ acc hst hv.1 (by omega), tk_tail r (acc ++ [t]) hv.2 (by simp; omega), List.append_assoc]
    rfl
/-- The law. -/
theorem tk_join (l : List Tk) (hv : allValid l = true) (hl : l.length ≤ 256) : tk (join l) [] = (l, 0) := by
  cases l with
  | nil => rfl
  | cons t r =>
    have hv2 := hv
    simp only [allValid, List.all_cons, Bool.and_eq_true] at hv
    have e : join (t :: r) = t.2.data.toList ++ joinTail [32] ((txts r).map (·.data.toList)) := by
      unfold join txts
      rw [List.map_cons, List.map_cons, join_cons]
    have hst : Stop (joinTail [32] ((txts r).map (·.data.toList))) := by
      cases r with
      | nil => exact .inl rfl
      | cons a r => exact .inr ⟨_, by simp [joinTail, txts]; rfl⟩
    simp only [List.length_cons] at hl
    rw [e, tk_tok t _ [] hst hv.1 (by simp), tk_tail r _ hv.2 (by simp; omega)]
    rfl
theorem join_len (l : List Tk) (m : Nat) (h : ∀ t ∈ l, t.2.size ≤ m) : (join l).length ≤ l.length * (m + 1) := by
  have tail : ∀ r : List Tk, (∀ t ∈ r, t.2.size ≤ m) → (joinTail [32] ((txts r).map (·.data.toList))).length ≤ r.length * (m + 1) := by
    intro r
    induction r with
    | nil => intro _; simp [joinTail, txts]
    | cons t r ih =>
      intro h
      have h1 := h t (List.mem_cons_self)
      have h2 := ih fun x hx => h x (List.mem_cons_of_mem _ hx)
      have e : joinTail [32] ((txts (t :: r)).map (·.data.toList)) = 32 :: (t.2.data.toList ++ joinTail [32] ((txts r).map (·.data.toList))) := by simp [joinTail, txts]
      rw [e, List.length_cons, List.length_append, size_list, List.length_cons, Nat.add_mul]
      omega
  cases l with
  | nil => simp [join, txts, Lib.join]
  | cons t r =>
    have e : join (t :: r) = t.2.data.toList ++ joinTail [32] ((txts r).map (·.data.toList)) := by
      unfold join txts
      rw [List.map_cons, List.map_cons, join_cons]
    have h1 := h t (List.mem_cons_self)
    have h2 := tail r fun x hx => h x (List.mem_cons_of_mem _ hx)
    rw [e, List.length_append, size_list, List.length_cons, Nat.add_mul]
    omega
theorem tk_ind {P : List UInt8 → List Tk → Prop} (hnil : ∀ acc, P [] acc) (hblank : ∀ l acc, P l acc → P (32 :: l) acc) (hfull : ∀ c l acc, c ≠ 32 → acc.length = 256 → P (c :: l) acc)
    (herr : ∀ c l acc, c ≠ 32 → acc.length ≠ 256 → (nxt (c :: l)).2.2 ≠ 0 → P (c :: l) acc)
    (hstep : ∀ c l acc, c ≠ 32 → acc.length ≠ 256 → (nxt (c :: l)).2.2 = 0 → P ((c :: l).drop (nxt (c :: l)).2.1) (acc ++ [((nxt (c :: l)).1, str ((c :: l).take (nxt (c :: l)).2.1))]) → P (c :: l) acc) :
    ∀ (n : Nat) (l : List UInt8) (acc : List Tk), l.length ≤ n → P l acc
  | _, [], acc, _ => hnil acc
  | 0, _ :: _, _, h => by simp at h
  | n + 1, c :: l, acc, h => by
    simp only [List.length_cons] at h
    by_cases hc : c = 32
    · subst hc
      exact hblank l acc (tk_ind hnil hblank hfull herr hstep n l acc (by omega))
    · by_cases ha : acc.length = 256
      · exact hfull c l acc hc ha
      · by_cases he : (nxt (c :: l)).2.2 = 0
        · have hn := nxt_len (c :: l) he
          exact hstep c l acc hc ha he (tk_ind hnil hblank hfull herr hstep n _ _ (by rw [List.length_drop, List.length_cons]; omega))
        · exact herr c l acc hc ha he

theorem tk_max (l : List UInt8) (acc : List Tk) : acc.length ≤ 256 → (tk l acc).1.length ≤ 256 := by
  refine tk_ind (P := fun l acc => acc.length ≤ 256 → (tk l acc).1.length ≤ 256) ?_ ?_ ?_ ?_ ?_ l.length l acc (Nat.le_refl _)
  · intro acc h; rw [tk_nil]; exact h
  · intro l acc ih h; rw [tk_blank]; exact ih h
  · intro c l acc hc ha _; rw [tk_full c l acc hc ha]; simp
  · intro c l acc hc ha he _; rw [tk_err c l acc hc ha he]; simp
  · intro c l acc hc ha he ih h
    rw [tk_step c l acc hc ha he]
    exact ih (by rw [List.length_append, List.length_singleton]; omega)
theorem tk_bad (l : List UInt8) (acc : List Tk) : (tk l acc).2 ≠ 0 → (tk l acc).1 = [] := by
  refine tk_ind (P := fun l acc => (tk l acc).2 ≠ 0 → (tk l acc).1 = []) ?_ ?_ ?_ ?_ ?_ l.length l acc (Nat.le_refl _)
  · intro acc h; rw [tk_nil] at h; exact absurd rfl h
  · intro l acc ih h; rw [tk_blank] at h ⊢; exact ih h
  · intro c l acc hc ha _; rw [tk_full c l acc hc ha]
  · intro c l acc hc ha he _; rw [tk_err c l acc hc ha he]
  · intro c l acc hc ha he ih h
    rw [tk_step c l acc hc ha he] at h ⊢
    exact ih h

theorem run_take (b : Bool) (l : List UInt8) : run b (l.take (run b l)) = run b l := by
  have hle := run_le b l
  have hlen : (l.take (run b l)).length = run b l := by rw [List.length_take]; omega
  refine run_eq b _ _ (by omega) (fun j hj hjk => ?_) (fun h => absurd h (by omega))
  rw [List.getElem_take]
  exact runWithin b l j hjk (by omega)
theorem word_blank (b : Bool) : word b 32 = false := by cases b <;> decide
theorem run_noblank (b : Bool) (l : List UInt8) : ∀ x ∈ l.take (run b l), x ≠ 32 := by
  intro x hx e
  obtain ⟨j, hj, rfl⟩ := List.getElem_of_mem hx
  have hle := run_le b l
  rw [List.length_take] at hj
  rw [List.getElem_take] at e
  have := runWithin b l j (by omega) (by omega)
  rw [e, word_blank] at this
  cases this
theorem syms2_noblank : ∀ s ∈ syms2, ∀ x ∈ s, x ≠ 32 := by decide
/-- A token at the beginning of a line is one by itself, and holds no blank. -/
theorem nxt_take (c : UInt8) (l : List UInt8) (h : (nxt (c :: l)).2.2 = 0) :
    nxt ((c :: l).take (nxt (c :: l)).2.1) = ((nxt (c :: l)).1, (nxt (c :: l)).2.1, 0) ∧ ∀ x ∈ (c :: l).take (nxt (c :: l)).2.1, x ≠ 32 := by
  have hpos := nxt_len (c :: l) h
  obtain ⟨n, hn⟩ : ∃ n, n = (nxt (c :: l)).2.1 := ⟨_, rfl⟩
  rw [← hn] at hpos ⊢
  obtain ⟨m, rfl⟩ : ∃ m, n = m + 1 := ⟨n - 1, by omega⟩
  have htk : (c :: l).take (m + 1) = c :: l.take m := rfl
  revert h hn
  rw [nxt]
  by_cases hl : letter c = true
  · rw [if_pos hl]
    split
    · intro h; simp at h
    · rename_i h32
      intro _ hn
      have hn' : m + 1 = run true (c :: l) := hn
      have hr := run_take true (c :: l)
      have hb := run_noblank true (c :: l)
      rw [← hn'] at hr hb
      refine ⟨?_, hb⟩
      rw [htk] at hr ⊢
      rw [nxt, if_pos hl, hr, if_neg (by omega)]
  · rw [if_neg hl]
    by_cases hd : digit c = true
    · rw [if_pos hd]
      split
      · rename_i he
        intro h; exact absurd h he
      · rename_i he
        split
        · intro h; simp at h
        · intro _ hn
          have hn' : m + 1 = run false (c :: l) := hn
          have hr := run_take false (c :: l)
          have hb := run_noblank false (c :: l)
          rw [← hn'] at hr hb he
          refine ⟨?_, hb⟩
          have ht2 : ((c :: l).take (m + 1)).take (m + 1) = (c :: l).take (m + 1) := by rw [List.take_take, Nat.min_self]
          have hd2 : ((c :: l).take (m + 1)).drop (m + 1) = [] := List.drop_eq_nil_of_le (by rw [List.length_take]; omega)
          rw [htk] at hr ht2 hd2 he ⊢
          rw [nxt, if_neg hl, if_pos hd, hr, ht2, if_neg he, hd2, if_neg (by simp)]
    · rw [if_neg hd]
      split
      · intro h; simp at h
      · rename_i hs
        intro _ hn
        have hn' : m + 1 = sym (c :: l) := hn
        have key : sym (c :: l.take m) = m + 1 ∧ ∀ x ∈ c :: l.take m, x ≠ 32 := by
          rw [sym] at hn'
          by_cases h2 : isSym2 (c :: l) = true
          · rw [if_pos h2] at hn'
            obtain rfl : m = 1 := by omega
            have e : (c :: l.take 1) = (c :: l).take 2 := rfl
            have hs2 : isSym2 (c :: l.take 1) = true := by
              unfold isSym2 at h2 ⊢
              rw [e, List.take_take]
              exact h2
            refine ⟨by rw [sym, if_pos hs2], ?_⟩
            rw [e]
            exact syms2_noblank _ (by unfold isSym2 at h2; simpa using h2)
          · rw [if_neg h2] at hn'
            by_cases h1 : isChar c = true
            · rw [if_pos h1] at hn'
              obtain rfl : m = 0 := by omega
              have hs2 : ¬ isSym2 [c] = true := fun e => by have := sym2_len e; simp at this
              refine ⟨by rw [List.take_zero, sym, if_neg hs2, if_pos h1], ?_⟩
              intro x hx e
              simp at hx
              subst hx e
              exact absurd h1 (by decide)
            · rw [if_neg h1] at hn'; omega
        rw [htk]
        refine ⟨?_, key.2⟩
        rw [nxt, if_neg hl, if_neg hd, key.1, if_neg (by omega), hn']

/-- What is no blank. -/
def solid (l : List UInt8) : List UInt8 := l.filter (fun c => c != 32)
def flat (l : List Tk) : List UInt8 := l.flatMap fun t => t.2.data.toList
theorem solid_append (a b : List UInt8) : solid (a ++ b) = solid a ++ solid b := List.filter_append ..
theorem solid_all {l : List UInt8} (h : ∀ x ∈ l, x ≠ 32) : solid l = l := List.filter_eq_self.2 fun x hx => by simpa using h x hx
theorem tk_parts (l : List UInt8) (acc : List Tk) : (tk l acc).2 = 0 → ∃ y, (tk l acc).1 = acc ++ y ∧ allValid y = true ∧ flat y = solid l ∧ solid (flat y) = flat y ∧ ∀ t ∈ y, ∀ x ∈ t.2.data.toList, x ≠ 32 := by
  refine tk_ind (P := fun l acc => (tk l acc).2 = 0 → ∃ y, (tk l acc).1 = acc ++ y ∧ allValid y = true ∧ flat y = solid l ∧ solid (flat y) = flat y ∧ ∀ t ∈ y, ∀ x ∈ t.2.data.toList, x ≠ 32) ?_ ?_ ?_ ?_ ?_ l.length l acc (Nat.le_refl _)
  · intro acc _
    exact ⟨[], by rw [tk_nil, List.append_nil], rfl, rfl, rfl, fun _ h => by cases h⟩
  · intro l acc ih h
    rw [tk_blank] at h ⊢
    obtain ⟨y, h1, h2, h3, h4⟩ := ih h
    exact ⟨y, h1, h2, by rw [h3]; simp [solid], h4⟩
  · intro c l acc hc ha h; rw [tk_full c l acc hc ha] at h; simp at h
  · intro c l acc hc ha he h; rw [tk_err c l acc hc ha he] at h; exact absurd h he
  · intro c l acc hc ha he ih h
    rw [tk_step c l acc hc ha he] at h ⊢
    obtain ⟨y, h1, h2, h3, h4, h5⟩ := ih h
    obtain ⟨g1, g2⟩ := nxt_take c l he
    have hpos := nxt_len (c :: l) he
    generalize (nxt (c :: l)).1 = k at h1 g1 h2 h3 h4 h5 ⊢
    generalize (nxt (c :: l)).2.1 = n at h1 g1 g2 hpos h2 h3 h4 h5 ⊢
    have hlen : ((c :: l).take n).length = n := by rw [List.length_take]; omega
    refine ⟨(k, str ((c :: l).take n)) :: y, ?_, ?_, ?_, ?_, ?_⟩
    · rw [h1, List.append_assoc]; rfl
    · unfold allValid at h2 ⊢
      rw [List.all_cons, h2, Bool.and_true]
      unfold valid
      rw [str_data, hlen]
      exact decide_eq_true g1
    · show (str ((c :: l).take n)).data.toList ++ flat y = solid (c :: l)
      rw [str_data, h3]
      conv => rhs; rw [← List.take_append_drop n (c :: l)]
      rw [solid_append, solid_all g2]
    · show solid ((str ((c :: l).take n)).data.toList ++ flat y) = (str ((c :: l).take n)).data.toList ++ flat y
      rw [str_data, solid_append, solid_all g2, h4]
    · intro t ht
      rcases List.mem_cons.1 ht with rfl | ht
      · exact g2
      · exact h5 t ht
end K

theorem K.tk_sizes (l : List UInt8) (acc : List Tk) (n : Nat) : l.length ≤ n → (∀ t ∈ acc, t.2.size ≤ n) → ∀ t ∈ (K.tk l acc).1, t.2.size ≤ n := by
  refine K.tk_ind (P := fun l acc => l.length ≤ n → (∀ t ∈ acc, t.2.size ≤ n) → ∀ t ∈ (K.tk l acc).1, t.2.size ≤ n) ?_ ?_ ?_ ?_ ?_ l.length l acc (Nat.le_refl _)
  · intro acc _ h; rw [K.tk_nil]; exact h
  · intro l acc ih h1 h2; rw [K.tk_blank]; exact ih (by simp at h1; omega) h2
  · intro c l acc hc ha _ _; rw [K.tk_full c l acc hc ha]; simp
  · intro c l acc hc ha he _ _; rw [K.tk_err c l acc hc ha he]; simp
  · intro c l acc hc ha he ih h1 h2
    rw [K.tk_step c l acc hc ha he]
    refine ih (by rw [List.length_drop]; omega) fun t ht => ?_
    rcases List.mem_append.1 ht with h | h
    · exact h2 t h
    · rw [List.mem_singleton] at h
      subst h
      show (str _).size ≤ n
      rw [str_size, List.length_take]
      omega

end Go.Proofs.YtaniamfonkfekaaDoor
