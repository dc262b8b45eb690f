/- The tokens of two lines with a blank between them; the walk of TokenJoins. -/
import Derived.Test.YtaniamfonkfekaaH
import Derived.Deep.Upon
namespace Go.Proofs.Ytaniamfonkfekaa
open Go.RowKit Go.Lib

namespace K
theorem sym_any (t r : List UInt8) (hr : Stop r) (h0 : t ≠ []) : sym (t ++ r) = sym t := by
  cases t with
  | nil => exact absurd rfl h0
  | cons c t =>
    rw [List.cons_append, sym, sym]
    have e : isSym2 (c :: (t ++ r)) = isSym2 (c :: t) := by
      cases t with
      | nil =>
        rcases hr with rfl | ⟨x, rfl⟩
        · rfl
        · rw [List.nil_append, sym2_blank]
          symm
          rw [← Bool.not_eq_true]
          intro h
          have := sym2_len h
          simp at this
      | cons d t => rfl
    rw [e]
/-- What stands behind a blank does not matter. -/
theorem nxt_any (t r : List UInt8) (hr : Stop r) (h0 : t ≠ []) : nxt (t ++ r) = nxt t := by
  cases t with
  | nil => exact absurd rfl h0
  | cons c t =>
    have hrun := fun b => run_stop b (c :: t) r hr
    have hle := fun b => run_le b (c :: t)
    have hsym := sym_any (c :: t) r hr h0
    rw [List.cons_append, nxt, nxt, ← List.cons_append, hrun, hrun, hsym, List.take_append_of_le_length (hle false)]
    have hg : ((((c :: t) ++ r).drop (run false (c :: t))).head?.map letter).getD false = (((c :: t).drop (run false (c :: t))).head?.map letter).getD false := by
      rcases Nat.lt_or_ge (run false (c :: t)) (c :: t).length with h | h
      · rw [List.drop_append_of_le_length (by omega), List.drop_eq_getElem_cons h]
        rfl
      · have e : run false (c :: t) = (c :: t).length := by have := hle false; omega
        rw [e, List.drop_left, List.drop_length]
        rcases hr with rfl | ⟨x, rfl⟩
        · rfl
        · simp only [List.head?_cons, Option.map_some, Option.getD_some]; decide
    rw [hg]

theorem tk_ind {P : List UInt8 → List Tk → Prop} (hnil : ∀ acc, P [] acc) (hblank : ∀ l acc, P l acc → P (32 :: l) acc) (hfull : ∀ c l acc, c ≠ 32 → acc.length = 256 → P (c :: l) acc)
    (herr : ∀ c l acc, c ≠ 32 → acc.length ≠ 256 → (nxt (c :: l)).2.2 ≠ 0 → P (c :: l) acc)
    (hstep : ∀ c l acc, c ≠ 32 → acc.length ≠ 256 → (nxt (c :: l)).2.2 = 0 → P ((c :: l).drop (nxt (c :: l)).2.1) (acc ++ [((nxt (c :: l)).1, str ((c :: l).take (nxt (c :: l)).2.1))]) → P (c :: l) acc) :
    ∀ (n : Nat) (l : List UInt8) (acc : List Tk), l.length ≤ n → P l acc
  | _, [], acc, _ => hnil acc
  | 0, _ :: _, _, h => by simp at h
  | n + 1, c :: l, acc, h => by
    simp only [List.length_cons] at h
    by_cases hc : c = 32
    · subst hc
      exact hblank l acc (tk_ind hnil hblank hfull herr hstep n l acc (by omega))
    · by_cases ha : acc.length = 256
      · exact hfull c l acc hc ha
      · by_cases he : (nxt (c :: l)).2.2 = 0
        · have hn := nxt_len (c :: l) he
          exact hstep c l acc hc ha he (tk_ind hnil hblank hfull herr hstep n _ _ (by rw [List.length_drop, List.length_cons]; omega))
        · exact herr c l acc hc ha he

theorem tk_max (l : List UInt8) (acc : List Tk) : acc.length ≤ 256 → (tk l acc).1.length ≤ 256 := by
  refine tk_ind (P := fun l acc => acc.length ≤ 256 → (tk l acc).1.length ≤ 256) ?_ ?_ ?_ ?_ ?_ l.length l acc (Nat.le_refl _)
  · intro acc h; rw [tk_nil]; exact h
  · intro l acc ih h; rw [tk_blank]; exact ih h
  · intro c l acc hc ha _; rw [tk_full c l acc hc ha]; simp
  · intro c l acc hc ha he _; rw [tk_err c l acc hc ha he]; simp
  · intro c l acc hc ha he ih h
    rw [tk_step c l acc hc ha he]
    exact ih (by rw [List.length_append, List.length_singleton]; omega)
theorem tk_bad (l : List UInt8) (acc : List Tk) : (tk l acc).2 ≠ 0 → (tk l acc).1 = [] := by
  refine tk_ind (P := fun l acc => (tk l acc).2 ≠ 0 → (tk l acc).1 = []) ?_ ?_ ?_ ?_ ?_ l.length l acc (Nat.le_refl _)
  · intro acc h; rw [tk_nil] at h; exact absurd rfl h
  · intro l acc ih h; rw [tk_blank] at h ⊢; exact ih h
  · intro c l acc hc ha _; rw [tk_full c l acc hc ha]
  · intro c l acc hc ha he _; rw [tk_err c l acc hc ha he]
  · intro c l acc hc ha he ih h
    rw [tk_step c l acc hc ha he] at h ⊢
    exact ih h
/-- The first line, then the second. -/
theorem tk_first (b l : List UInt8) (acc : List Tk) : tk (l ++ 32 :: b) acc = if (tk l acc).2 = 0 then tk b (tk l acc).1 else tk l acc := by
  refine tk_ind (P := fun l acc => tk (l ++ 32 :: b) acc = if (tk l acc).2 = 0 then tk b (tk l acc).1 else tk l acc) ?_ ?_ ?_ ?_ ?_ l.length l acc (Nat.le_refl _)
  · intro acc
    rw [List.nil_append, tk_blank, tk_nil, if_pos rfl]
  · intro l acc ih
    rw [List.cons_append, tk_blank, tk_blank]
    exact ih
  · intro c l acc hc ha
    rw [List.cons_append, tk_full c _ acc hc ha, tk_full c l acc hc ha, if_neg (by decide)]
  · intro c l acc hc ha he
    have hn := nxt_any (c :: l) (32 :: b) (.inr ⟨b, rfl⟩) (by simp)
    rw [List.cons_append] at hn
    rw [List.cons_append, tk_err c _ acc hc ha (by rw [hn]; exact he), tk_err c l acc hc ha he, if_neg he, hn]
  · intro c l acc hc ha he ih
    have hn := nxt_any (c :: l) (32 :: b) (.inr ⟨b, rfl⟩) (by simp)
    have hlen := nxt_len (c :: l) he
    rw [List.cons_append] at hn
    rw [List.cons_append, tk_step c _ acc hc ha (by rw [hn]; exact he), tk_step c l acc hc ha he, hn, ← ih, ← List.cons_append, List.drop_append_of_le_length hlen.2, List.take_append_of_le_length hlen.2]
/-- Behind other tokens: the same, or too many. -/
theorem tk_behind (l : List UInt8) (acc x : List Tk) : x.length + acc.length ≤ 256 → acc.length ≤ 256 →
    tk l (x ++ acc) = if (tk l acc).2 = 0 then (if x.length + (tk l acc).1.length ≤ 256 then (x ++ (tk l acc).1, 0) else ([], 10)) else (if (tk l (x ++ acc)).2 = 10 then ([], 10) else tk l acc) := by
  refine tk_ind (P := fun l acc => x.length + acc.length ≤ 256 → acc.length ≤ 256 →
    tk l (x ++ acc) = if (tk l acc).2 = 0 then (if x.length + (tk l acc).1.length ≤ 256 then (x ++ (tk l acc).1, 0) else ([], 10)) else (if (tk l (x ++ acc)).2 = 10 then ([], 10) else tk l acc)) ?_ ?_ ?_ ?_ ?_ l.length l acc (Nat.le_refl _)
  · intro acc h1 h2
    rw [tk_nil, tk_nil, if_pos rfl, if_pos h1]
  · intro l acc ih h1 h2
    rw [tk_blank, tk_blank]
    exact ih h1 h2
  · intro c l acc hc ha h1 h2
    have hx : x = [] := List.eq_nil_of_length_eq_zero (by omega)
    subst hx
    rw [List.nil_append, tk_full c l acc hc ha, if_neg (by decide), if_pos rfl]
  · intro c l acc hc ha he h1 h2
    rw [tk_err c l acc hc ha he, if_neg he]
    by_cases hf : (x ++ acc).length = 256
    · rw [tk_full c l _ hc hf, if_pos rfl]
    · rw [tk_err c l _ hc hf he]
      by_cases h10 : (nxt (c :: l)).2.2 = 10
      · rw [if_pos h10, h10]
      · rw [if_neg h10]
  · intro c l acc hc ha he ih h1 h2
    rw [tk_step c l acc hc ha he]
    by_cases hf : (x ++ acc).length = 256
    · rw [tk_full c l _ hc hf, if_pos (c := (([], 10) : List Tk × Int).2 = 10) rfl]
      split
      · rename_i h0
        have hge : acc.length + 1 ≤ (tk ((c :: l).drop (nxt (c :: l)).2.1) (acc ++ [((nxt (c :: l)).1, str ((c :: l).take (nxt (c :: l)).2.1))])).1.length := by
          have key : ∀ (l : List UInt8) (a : List Tk), (tk l a).2 = 0 → a.length ≤ (tk l a).1.length := by
            intro l a
            refine tk_ind (P := fun l a => (tk l a).2 = 0 → a.length ≤ (tk l a).1.length) ?_ ?_ ?_ ?_ ?_ l.length l a (Nat.le_refl _)
            · intro acc _; rw [tk_nil]; exact Nat.le_refl _
            · intro l acc ih h; rw [tk_blank] at h ⊢; exact ih h
            · intro c l acc hc ha h; rw [tk_full c l acc hc ha] at h; cases h
            · intro c l acc hc ha he h; rw [tk_err c l acc hc ha he] at h; exact absurd h he
            · intro c l acc hc ha he ih h
              rw [tk_step c l acc hc ha he] at h ⊢
              have := ih h
              rw [List.length_append, List.length_singleton] at this
              omega
          have := key _ _ h0
          rw [List.length_append, List.length_singleton] at this
          exact this
        rw [List.length_append] at hf
        rw [if_neg (by omega)]
      · rfl
    · rw [List.length_append] at hf
      rw [tk_step c l (x ++ acc) hc (by rw [List.length_append]; exact hf) he, List.append_assoc]
      exact ih (by rw [List.length_append, List.length_singleton]; omega) (by rw [List.length_append, List.length_singleton]; omega)

/-- What TokenJoins says. -/
theorem joins (a b : List UInt8) :
    ((tk a []).2 ≠ 0 → tk (a ++ 32 :: b) [] = ([], (tk a []).2)) ∧
    ((tk a []).2 = 0 → (tk b []).2 = 0 → tk (a ++ 32 :: b) [] = if (tk a []).1.length + (tk b []).1.length ≤ 256 then ((tk a []).1 ++ (tk b []).1, 0) else ([], 10)) ∧
    ((tk a []).2 = 0 → (tk b []).2 ≠ 0 → tk (a ++ 32 :: b) [] = ([], 10) ∨ tk (a ++ 32 :: b) [] = ([], (tk b []).2)) := by
  have hmax := tk_max a [] (by simp)
  have hb := tk_behind b [] (tk a []).1 (by simpa using hmax) (by simp)
  rw [List.append_nil] at hb
  refine ⟨fun h => ?_, fun h1 h2 => ?_, fun h1 h2 => ?_⟩
  · rw [tk_first, if_neg h]
    have := tk_bad a [] h
    exact Prod.ext this rfl
  · rw [tk_first, if_pos h1, hb, if_pos h2]
  · rw [tk_first, if_pos h1, hb, if_neg h2]
    split
    · exact .inl rfl
    · exact .inr (Prod.ext (tk_bad b [] h2) rfl)
end K

theorem wpList_wanted {P : Program} {ops : Array Oper} {rest : List Oper} {o : Oper} {a : Act} {w : World} {Q : Exit → Act → World → Prop} (hw : Region.wanted o (yielded ops a.tmps) = true) (h : o.wp P a w (wpList P ops Q rest) Q) : wpList P ops Q (o :: rest) a w := by
  unfold wpList
  rw [if_pos hw]
  exact .inl h
/-- append(v, y...) of tokens, none too. -/
theorem wpList_append_toks {ops : Array Oper} {rest : List Oper} {o : Oper} {a : Act} {w : World} {Q : Exit → Act → World → Prop} (hw : Region.wanted o (yielded ops a.tmps) = true) (s x : Operand)
    (ho : o.op = .call { callee := .builtin .append, args := #[s, x], argTypes := #[23, 23] })
    (base : Nat) (v : Value) (l y : List Tk) (hs : a.eval s = v) (hown : OwnToks w base v l) (A : Option Addr) (m c : Nat) (hx : a.eval x = .slice A m c) (hy : ToksAt w A m y)
    (h63 : l.length + y.length ≤ 1000) (hbase : base ≤ w.heap.size)
    (h : ∀ v' w', OwnToks w' base v' (l ++ y) → Below base w w' → wpList Try.prog ops Q rest (a.put o.dst v') w') : wpList Try.prog ops Q (o :: rest) a w := by
  obtain ⟨i0, hi, hz0, hz1, hz2⟩ := info_parts tok_info
  refine wpList_wanted hw ?_
  by_cases hm : y = []
  · subst hm
    have hm0 : m = 0 := hy.1
    subst hm0
    have hsrc : Src Try.prog i0.size 23 (.slice A 0 c) 0 [] w := by
      cases A with
      | none => exact Src.ofNil w Try.underlying23 c
      | some ad => exact Src.ofSlice w Try.underlying23 ad 0 c [] (by simp) (fun j u hj => by simp at hj) (fun u hu => by simp at hu)
    have hrun : ∃ (b : Option Addr) (n cp : Nat), v = .slice b n cp ∧ n ≤ cp := by
      obtain ⟨_, ⟨rfl, _⟩ | ⟨g, off, cap, cur, rfl, _, _, hn, _⟩⟩ := hown
      · exact ⟨_, _, _, rfl, Nat.le_refl _⟩
      · exact ⟨_, _, _, rfl, hn⟩
    obtain ⟨b, n, cp, rfl, hle⟩ := hrun
    have hr := run_append_nothing (P := Try.prog) w 23 23 o.type 38 i0 Try.underlying23 hi b n cp hle _ hsrc
    unfold Oper.wp execOp
    simp only [ho, resolve, invoke, builtin, Sem.run_bind, Sem.run_pure, Result.andThen_ok, List.map_toArray, List.map_cons, List.map_nil, hs, hx, hr]
    exact h _ _ (by rw [List.append_nil]; exact hown) (Below.refl _ _)
  · have hpos : 0 < y.length := List.length_pos_iff.2 hm
    obtain ⟨hm1, _, _, hc⟩ := hy
    subst hm1
    obtain ⟨b, off, rfl, hcc⟩ := hc hm
    refine wp_append_ownAt w s x 23 ho base 38 i0 (.agg #[.int .i64 0, .string ⟨#[]⟩]) 2 24 Try.underlying23 hi hz0 hz1 hz2 rfl (by decide) v l.length (toks l) hs hown ⟨b, off, none⟩ y.length c (toks y) hx (toks_length y) ?_ (toks_one y) (by unfold maxLen; omega) (by omega) hbase hpos ?_
    · intro j u hj
      rw [Addr.add_lit]
      have hjl : j < y.length * 2 := by
        rcases Nat.lt_or_ge j (toks y).length with h | h
        · rwa [toks_length] at h
        · rw [List.getElem?_eq_none h] at hj; cases hj
      have h2 := hcc (j / 2) (by omega)
      have h3 := toks_get y (j / 2) (by omega)
      rcases Nat.mod_two_eq_zero_or_one j with e | e
      · have e2 : j / 2 * 2 = j := by omega
        rw [e2] at h2 h3
        rw [h3.1] at hj
        cases hj
        exact h2.1
      · have e2 : j / 2 * 2 + 1 = j := by omega
        rw [show off + j / 2 * 2 + 1 = off + j by omega] at h2
        rw [e2] at h3
        rw [h3.2] at hj
        cases hj
        exact h2.2
    · intro v' w' h2 h3 _ _
      refine h v' w' ?_ ?_
      · unfold OwnToks
        rw [toks_append, List.length_append]
        exact h2
      · refine Below.grown (Below.refl _ _) h3 hbase fun k hk => ?_
        obtain ⟨_, ⟨rfl, _⟩ | ⟨g, off', cap, cur, rfl, hb, _⟩⟩ := hown
        · simp [Value.ownBlock] at hk
        · simp [Value.ownBlock] at hk; omega
theorem own_toks_empty (w : World) (g : Nat) (hg : g = w.heap.size) : OwnToks (w.alloc (.cells #[] 38)) w.heap.size (.slice (some ⟨g, 0, none⟩) 0 0) [] := by
  subst hg
  exact ⟨rfl, .inr ⟨_, 0, 0, #[], rfl, Nat.le_refl _, heap_alloc_new w _, Nat.le_refl _, by omega, by simp, fun j hj => by simp at hj⟩⟩
theorem Tokens_cat (a b : ByteArray) (R : List Tk × Int) (w : World) (h : K.tk (a.data.toList ++ 32 :: b.data.toList) [] = R) (ha : a.size ≤ 500) (hb : b.size ≤ 500) : Calls Try.prog 10 #[.string (a ++ ⟨#[32]⟩ ++ b)] w (RetToks w R) := by
  have e : (a ++ ⟨#[32]⟩ ++ b).data.toList = a.data.toList ++ 32 :: b.data.toList := by simp
  have := Tokens_any (a ++ ⟨#[32]⟩ ++ b) w (by rw [← size_list, e, List.length_append, List.length_cons, size_list, size_list]; omega)
  rw [e, h] at this
  exact this
theorem Tokens_r (a : ByteArray) (R : List Tk × Int) (w : World) (h : K.tk a.data.toList [] = R) (ha : a.size ≤ 65536) : Calls Try.prog 10 #[.string a] w (RetToks w R) := h ▸ Tokens_any a w ha
theorem K.tk_sizes (l : List UInt8) (acc : List Tk) (n : Nat) : l.length ≤ n → (∀ t ∈ acc, t.2.size ≤ n) → ∀ t ∈ (K.tk l acc).1, t.2.size ≤ n := by
  refine K.tk_ind (P := fun l acc => l.length ≤ n → (∀ t ∈ acc, t.2.size ≤ n) → ∀ t ∈ (K.tk l acc).1, t.2.size ≤ n) ?_ ?_ ?_ ?_ ?_ l.length l acc (Nat.le_refl _)
  · intro acc _ h; rw [K.tk_nil]; exact h
  · intro l acc ih h1 h2; rw [K.tk_blank]; exact ih (by simp at h1; omega) h2
  · intro c l acc hc ha _ _; rw [K.tk_full c l acc hc ha]; simp
  · intro c l acc hc ha he _ _; rw [K.tk_err c l acc hc ha he]; simp
  · intro c l acc hc ha he ih h1 h2
    rw [K.tk_step c l acc hc ha he]
    refine ih (by rw [List.length_drop]; omega) fun t ht => ?_
    rcases List.mem_append.1 ht with h | h
    · exact h2 t h
    · rw [List.mem_singleton] at h
      subst h
      show (str _).size ≤ n
      rw [str_size, List.length_take]
      omega

set_option maxRecDepth 4000 in
set_option maxHeartbeats 2000000 in
theorem tokenJoins_walk (v0 v1 : Value) (a0 a1 : ByteArray) {w : World} (r0 : strR.val w a0 v0) (r1 : strR.val w a1 v1) : Calls Try.prog 7 #[v0, v1] w (Al (.bool true) w) := by
  obtain ⟨rfl, hs0⟩ := val_str r0
  obtain ⟨rfl, hs1⟩ := val_str r1
  clear r0 r1
  by_cases h0 : 500 < a0.size
  · go_enter Try.func7, Try.ntmps7
    go_wp2_with (go_at_call 9; refine (awake05 _).mono ?_; rintro e w1 ⟨rfl, d1⟩)
    go_ret
    exact ⟨rfl, d1⟩
  · by_cases h1 : 500 < a1.size
    · go_enter Try.func7, Try.ntmps7
      go_wp2_with (go_at_call 9; refine (awake05 _).mono ?_; rintro e w1 ⟨rfl, d1⟩)
      go_ret
      exact ⟨rfl, d1⟩
    · obtain ⟨x, e0, hx⟩ : ∃ x e, K.tk a0.data.toList [] = (x, e) := ⟨_, _, rfl⟩
      obtain ⟨y, f, hy⟩ : ∃ x e, K.tk a1.data.toList [] = (x, e) := ⟨_, _, rfl⟩
      obtain ⟨z, g, hz⟩ : ∃ x e, K.tk (a0.data.toList ++ 32 :: a1.data.toList) [] = (x, e) := ⟨_, _, rfl⟩
      obtain ⟨j1, j2, j3⟩ := K.joins a0.data.toList a1.data.toList
      have hxb := K.tk_bad a0.data.toList []
      have hyb := K.tk_bad a1.data.toList []
      have hxm := K.tk_max a0.data.toList [] (by simp)
      have hym := K.tk_max a1.data.toList [] (by simp)
      have hxs := K.tk_sizes a0.data.toList [] 9223372036854775807 (by rw [size_list]; omega) (by simp)
      have hys := K.tk_sizes a1.data.toList [] 9223372036854775807 (by rw [size_list]; omega) (by simp)
      have hzs := K.tk_sizes (a0.data.toList ++ 32 :: a1.data.toList) [] 9223372036854775807 (by rw [List.length_append, List.length_cons, size_list, size_list]; omega) (by simp)
      rw [hx] at j1 j2 j3 hxb hxm hxs
      rw [hy] at j2 j3 hyb hym hys
      rw [hz] at j1 j2 j3 hzs
      simp only at j1 j2 j3 hxb hyb hxm hym hxs hys hzs
      have HX := Lib.hid hx
      have HY := Lib.hid hy
      have HZ := Lib.hid hz
      have HXS := Lib.hid hxs
      have HYS := Lib.hid hys
      have HZS := Lib.hid hzs
      clear hx hy hz hxs hys hzs
      by_cases he : e0 = 0
      · subst he
        by_cases hf : f = 0
        · subst hf
          have j := j2 rfl rfl
          clear j1 j2 j3 hxb hyb
          by_cases hl : x.length + y.length ≤ 256
          · rw [if_pos hl] at j
            obtain ⟨rfl, rfl⟩ := Prod.mk.inj j
            clear j
            go_enter Try.func7, Try.ntmps7
            go_wp2_with (go_at_call 9; refine (awake05 _).mono ?_; rintro e w1 ⟨rfl, d1⟩)
            refine (Tokens_r a0 _ _ HX.out (by omega)).mono ?_
            rintro e w2 ⟨v2, rfl, o2, d2⟩
            go_wp2_with fail
            refine (Tokens_r a1 _ _ HY.out (by omega)).mono ?_
            rintro e w3 ⟨v3, rfl, o3, d3⟩
            go_wp2_with fail
            refine (Tokens_cat a0 a1 _ _ HZ.out (by omega) (by omega)).mono ?_
            rintro e w4 ⟨v4, rfl, o4, d4⟩
            obtain ⟨A2, c2, rfl, i2⟩ := ToksAt.of_own ((o2.ext d3).ext d4) HXS.out
            obtain ⟨A3, c3, rfl, i3⟩ := ToksAt.of_own (o3.ext d4) HYS.out
            obtain ⟨A4, c4, rfl, i4⟩ := ToksAt.of_own o4 HZS.out
            have HI2 := Lib.hid i2
            have HI3 := Lib.hid i3
            have HI4 := Lib.hid i4
            clear i2 i3 i4 o2 o3 o4
            have i4' : ToksAt w4 A4 (x.length + y.length) (x ++ y) := by have := HI4.out; rwa [List.length_append] at this
            have HI4' := Lib.hid i4'
            clear i4'
            go_wp2_with (first | (at_builtin; refine wpList_append_toks rfl (.tmp 87) (.tmp 88) rfl w4.heap.size _ [] x rfl (own_toks_empty w4 _ rfl) A2 _ c2 rfl (HI2.out.ext ((Ext.refl _).alloc _)) (by simp; omega) (by simp) ?_; intro v5 w5 o5 b5; have e5 : Ext w4 w5 := Below.trans ((Ext.refl w4).alloc _) b5) | (at_builtin; refine wpList_append_toks rfl (.tmp 89) (.tmp 90) rfl w4.heap.size _ ([] ++ x) y rfl o5 A3 _ c3 rfl (HI3.out.ext e5) (by simp; omega) e5.size ?_; intro v6 w6 o6 b6; have e6 : Ext w4 w6 := Below.trans e5 b6))
            obtain ⟨A6, c6, rfl, i6⟩ := ToksAt.of_own o6 (by simpa using HZS.out)
            have HI6 := Lib.hid i6
            clear i6 o6 o5
            go_wp2_with fail
            refine (Same_any (x ++ y) ([] ++ x ++ y) _ _ _ _ _ _ _ (HI4'.out.ext e6) HI6.out).mono ?_
            rintro e w7 ⟨rfl, d7⟩
            go_wp2_with fail
            go_ret
            exact ⟨by simp [K.same], ((((d1.trans d2).trans d3).trans d4).trans e6).dr d7⟩
          · rw [if_neg hl] at j
            obtain ⟨rfl, rfl⟩ := Prod.mk.inj j
            clear j
            have hl' : 256 < x.length + y.length := by omega
            go_enter Try.func7, Try.ntmps7
            go_wp2_with (go_at_call 9; refine (awake05 _).mono ?_; rintro e w1 ⟨rfl, d1⟩)
            refine (Tokens_r a0 _ _ HX.out (by omega)).mono ?_
            rintro e w2 ⟨v2, rfl, o2, d2⟩
            go_wp2_with fail
            refine (Tokens_r a1 _ _ HY.out (by omega)).mono ?_
            rintro e w3 ⟨v3, rfl, o3, d3⟩
            go_wp2_with fail
            refine (Tokens_cat a0 a1 _ _ HZ.out (by omega) (by omega)).mono ?_
            rintro e w4 ⟨v4, rfl, o4, d4⟩
            obtain ⟨A2, c2, rfl, i2⟩ := ToksAt.of_own ((o2.ext d3).ext d4) HXS.out
            obtain ⟨A3, c3, rfl, i3⟩ := ToksAt.of_own (o3.ext d4) HYS.out
            obtain ⟨A4, c4, rfl, i4⟩ := ToksAt.of_own o4 HZS.out
            have HI2 := Lib.hid i2
            have HI3 := Lib.hid i3
            have HI4 := Lib.hid i4
            clear i2 i3 i4 o2 o3 o4
            go_wp2_with fail
            go_ret
            exact ⟨by simp, ((d1.trans d2).trans d3).trans d4⟩
        · obtain rfl := hyb hf
          have t1 : (f != 0) = true := by simpa using hf
          have j := j3 rfl hf
          clear j1 j2 j3 hxb hyb hf
          rcases j with j | j
          · obtain ⟨rfl, rfl⟩ := Prod.mk.inj j
            clear j
            go_enter Try.func7, Try.ntmps7
            go_wp2_with (go_at_call 9; refine (awake05 _).mono ?_; rintro e w1 ⟨rfl, d1⟩)
            refine (Tokens_r a0 _ _ HX.out (by omega)).mono ?_
            rintro e w2 ⟨v2, rfl, o2, d2⟩
            go_wp2_with fail
            refine (Tokens_r a1 _ _ HY.out (by omega)).mono ?_
            rintro e w3 ⟨v3, rfl, o3, d3⟩
            go_wp2_with fail
            refine (Tokens_cat a0 a1 _ _ HZ.out (by omega) (by omega)).mono ?_
            rintro e w4 ⟨v4, rfl, o4, d4⟩
            obtain ⟨A2, c2, rfl, i2⟩ := ToksAt.of_own ((o2.ext d3).ext d4) HXS.out
            obtain ⟨A3, c3, rfl, i3⟩ := ToksAt.of_own (o3.ext d4) HYS.out
            obtain ⟨A4, c4, rfl, i4⟩ := ToksAt.of_own o4 HZS.out
            have HI2 := Lib.hid i2
            have HI3 := Lib.hid i3
            have HI4 := Lib.hid i4
            clear i2 i3 i4 o2 o3 o4
            go_wp2_with fail
            go_ret
            exact ⟨by simp, ((d1.trans d2).trans d3).trans d4⟩
          · obtain ⟨rfl, rfl⟩ := Prod.mk.inj j
            clear j
            obtain ⟨b10, h10⟩ : ∃ b, (g == 10) = b := ⟨_, rfl⟩
            cases b10
            all_goals
              go_enter Try.func7, Try.ntmps7
              go_wp2_with (go_at_call 9; refine (awake05 _).mono ?_; rintro e w1 ⟨rfl, d1⟩)
              refine (Tokens_r a0 _ _ HX.out (by omega)).mono ?_
              rintro e w2 ⟨v2, rfl, o2, d2⟩
              go_wp2_with fail
              refine (Tokens_r a1 _ _ HY.out (by omega)).mono ?_
              rintro e w3 ⟨v3, rfl, o3, d3⟩
              go_wp2_with fail
              refine (Tokens_cat a0 a1 _ _ HZ.out (by omega) (by omega)).mono ?_
              rintro e w4 ⟨v4, rfl, o4, d4⟩
              obtain ⟨A2, c2, rfl, i2⟩ := ToksAt.of_own ((o2.ext d3).ext d4) HXS.out
              obtain ⟨A3, c3, rfl, i3⟩ := ToksAt.of_own (o3.ext d4) HYS.out
              obtain ⟨A4, c4, rfl, i4⟩ := ToksAt.of_own o4 HZS.out
              have HI2 := Lib.hid i2
              have HI3 := Lib.hid i3
              have HI4 := Lib.hid i4
              clear i2 i3 i4 o2 o3 o4
              go_wp2_with fail
              go_ret
              exact ⟨by simp, ((d1.trans d2).trans d3).trans d4⟩
      · have j := j1 he
        have t1 : (e0 != 0) = true := by simpa using he
        obtain ⟨rfl, rfl⟩ := Prod.mk.inj j
        clear j1 j2 j3 hxb hyb he j
        go_enter Try.func7, Try.ntmps7
        go_wp2_with (go_at_call 9; refine (awake05 _).mono ?_; rintro e w1 ⟨rfl, d1⟩)
        refine (Tokens_r a0 _ _ HX.out (by omega)).mono ?_
        rintro e w2 ⟨v2, rfl, o2, d2⟩
        go_wp2_with fail
        refine (Tokens_r a1 _ _ HY.out (by omega)).mono ?_
        rintro e w3 ⟨v3, rfl, o3, d3⟩
        go_wp2_with fail
        refine (Tokens_cat a0 a1 _ _ HZ.out (by omega) (by omega)).mono ?_
        rintro e w4 ⟨v4, rfl, o4, d4⟩
        obtain ⟨A4, c4, rfl⟩ := own_form o4
        go_wp2_with fail
        go_ret
        exact ⟨by simp, ((d1.trans d2).trans d3).trans d4⟩
end Go.Proofs.Ytaniamfonkfekaa
