/- Plain facts on windows: the rightmost least position, the selected positions, and the queue that finds them. No program in sight. -/
import Derived.IntWalk
namespace Go.Proofs.YtmibpagajenndaaDoor.W

/-- The place of the rightmost least number among k from f on. -/
def lst (g : Nat → Int) (f : Nat) : Nat → Nat
  | 0 => f
  | k + 1 => if g (f + k) ≤ g (lst g f k) then f + k else lst g f k

theorem lst_spec (g : Nat → Int) (f : Nat) : ∀ k, 0 < k → f ≤ lst g f k ∧ lst g f k < f + k ∧ (∀ j, f ≤ j → j < f + k → g (lst g f k) ≤ g j) ∧ ∀ j, lst g f k < j → j < f + k → g (lst g f k) < g j
  | 0, h => absurd h (Nat.lt_irrefl 0)
  | 1, _ => by
    have : lst g f 1 = f := by simp [lst]
    rw [this]
    refine ⟨Nat.le_refl _, by omega, fun j h1 h2 => ?_, fun j h1 h2 => by omega⟩
    have : j = f := by omega
    rw [this]
    exact Int.le_refl _
  | k + 2, _ => by
    obtain ⟨h1, h2, h3, h4⟩ := lst_spec g f (k + 1) (by omega)
    rw [lst]
    split
    · rename_i hle
      refine ⟨by omega, by omega, fun j hj1 hj2 => ?_, fun j hj1 hj2 => by omega⟩
      by_cases hj : j < f + (k + 1)
      · exact Int.le_trans hle (h3 j hj1 hj)
      · have : j = f + (k + 1) := by omega
        rw [this]; exact Int.le_refl _
    · rename_i hgt
      refine ⟨h1, by omega, fun j hj1 hj2 => ?_, fun j hj1 hj2 => ?_⟩
      · by_cases hj : j < f + (k + 1)
        · exact h3 j hj1 hj
        · have : j = f + (k + 1) := by omega
          rw [this]; omega
      · by_cases hj : j < f + (k + 1)
        · exact h4 j hj1 hj
        · have : j = f + (k + 1) := by omega
          rw [this]; omega

theorem lst_unique {g : Nat → Int} {f k p : Nat} (h1 : f ≤ p) (h2 : p < f + k) (h3 : ∀ j, f ≤ j → j < p → g p ≤ g j) (h4 : ∀ j, p < j → j < f + k → g p < g j) : lst g f k = p := by
  obtain ⟨a, b, c, d⟩ := lst_spec g f k (by omega)
  rcases Nat.lt_trichotomy (lst g f k) p with h | h | h
  · have := d p h h2
    have := h3 _ a h
    omega
  · exact h
  · have := h4 _ h b
    have := c p h1 h2
    omega

theorem lst_mono (g : Nat → Int) (n w : Nat) (hw : 0 < w) : lst g n w ≤ lst g (n + 1) w := by
  obtain ⟨a, b, c, d⟩ := lst_spec g n w hw
  obtain ⟨a', b', c', d'⟩ := lst_spec g (n + 1) w hw
  rcases Nat.lt_or_ge (lst g (n + 1) w) (lst g n w) with h | h
  · have := d' _ h (by omega)
    have := c _ (by omega) (show lst g (n + 1) w < n + w by omega)
    omega
  · exact h

/-- The selected positions of the first n windows. -/
def sel (g : Nat → Int) (w : Nat) : Nat → List Nat
  | 0 => []
  | n + 1 => if (sel g w n).getLast? = none ∨ ∃ q, (sel g w n).getLast? = some q ∧ q < lst g n w then sel g w n ++ [lst g n w] else sel g w n

theorem sel_last (g : Nat → Int) (w : Nat) (hw : 0 < w) : ∀ n, (sel g w (n + 1)).getLast? = some (lst g n w)
  | 0 => by simp [sel]
  | n + 1 => by
    have ih := sel_last g w hw n
    rw [sel]
    split
    · simp
    · rename_i h
      have hm := lst_mono g n w hw
      rw [ih] at h ⊢
      simp only [reduceCtorEq, Option.some.injEq, exists_eq_left', false_or] at h
      congr 1
      omega

/-- One window more. -/
theorem sel_step (g : Nat → Int) (w n : Nat) (hw : 0 < w) : sel g w (n + 2) = if lst g n w < lst g (n + 1) w then sel g w (n + 1) ++ [lst g (n + 1) w] else sel g w (n + 1) := by
  conv => lhs; rw [sel]
  rw [sel_last g w hw n]
  simp
theorem sel_one (g : Nat → Int) (w : Nat) : sel g w 1 = [lst g 0 w] := by simp [sel]
theorem sel_step' (g : Nat → Int) (w n : Nat) (hw : 0 < w) : sel g w (n + 2) = if lst g (n + 1) w = lst g n w then sel g w (n + 1) else sel g w (n + 1) ++ [lst g (n + 1) w] := by
  have := lst_mono g n w hw
  rw [sel_step g w n hw]
  by_cases h : lst g (n + 1) w = lst g n w
  · rw [if_pos h, if_neg (by omega)]
  · rw [if_neg h, if_pos (by omega)]

theorem sel_mem (g : Nat → Int) (w : Nat) (hw : 0 < w) : ∀ n p, p ∈ sel g w n ↔ ∃ i, i < n ∧ p = lst g i w
  | 0, p => by simp [sel]
  | 1, p => by
    rw [sel_one]
    simp only [List.mem_singleton]
    constructor
    · intro h; exact ⟨0, by omega, h⟩
    · rintro ⟨i, h, h2⟩
      obtain rfl : i = 0 := by omega
      exact h2
  | n + 2, p => by
    have ih := sel_mem g w hw (n + 1) p
    rw [sel_step' g w n hw]
    split
    · rename_i h
      rw [ih]
      constructor
      · rintro ⟨i, h1, h2⟩; exact ⟨i, by omega, h2⟩
      · rintro ⟨i, h1, h2⟩
        by_cases hi : i < n + 1
        · exact ⟨i, hi, h2⟩
        · have : i = n + 1 := by omega
          subst this
          exact ⟨n, by omega, by rw [h2, h]⟩
    · rw [List.mem_append, ih, List.mem_singleton]
      constructor
      · rintro (⟨i, h1, h2⟩ | h)
        · exact ⟨i, by omega, h2⟩
        · exact ⟨n + 1, by omega, h⟩
      · rintro ⟨i, h1, h2⟩
        by_cases hi : i < n + 1
        · exact .inl ⟨i, hi, h2⟩
        · have : i = n + 1 := by omega
          subst this
          exact .inr h2

theorem sel_len (g : Nat → Int) (w : Nat) (hw : 0 < w) : ∀ n, (sel g w n).length ≤ n
  | 0 => by simp [sel]
  | 1 => by rw [sel_one]; simp
  | n + 2 => by
    have ih := sel_len g w hw (n + 1)
    rw [sel_step' g w n hw]
    split
    · omega
    · rw [List.length_append]; simp; omega
theorem sel_ne (g : Nat → Int) (w n : Nat) (hw : 0 < w) : sel g w (n + 1) ≠ [] := by
  intro h
  have := sel_last g w hw n
  rw [h] at this
  simp at this

/-- Neighbours of a list. -/
def Chain (R : Nat → Nat → Prop) (l : List Nat) : Prop := ∀ i (h : i + 1 < l.length), R l[i] l[i + 1]
theorem Chain.snoc {R : Nat → Nat → Prop} {l : List Nat} {x : Nat} (h : Chain R l) (hx : ∀ q, l.getLast? = some q → R q x) : Chain R (l ++ [x]) := by
  intro i hi
  simp only [List.length_append, List.length_singleton] at hi
  by_cases h1 : i + 1 < l.length
  · rw [List.getElem_append_left (by omega), List.getElem_append_left h1]
    exact h i h1
  · have hl : i + 1 = l.length := by omega
    rw [List.getElem_append_left (by omega), List.getElem_append_right (by omega)]
    simp only [hl, Nat.sub_self, List.getElem_singleton]
    refine hx _ ?_
    rw [List.getLast?_eq_getElem?]
    rw [show l.length - 1 = i by omega]
    exact List.getElem?_eq_getElem (by omega)

theorem sel_chain (g : Nat → Int) (w : Nat) (hw : 0 < w) : ∀ n, Chain (fun p q => p < q ∧ q ≤ p + w) (sel g w n)
  | 0 => fun i hi => by simp [sel] at hi
  | 1 => fun i hi => by rw [sel_one] at hi; simp at hi
  | n + 2 => by
    have ih := sel_chain g w hw (n + 1)
    have hm := lst_mono g n w hw
    obtain ⟨a, b, _⟩ := lst_spec g n w hw
    obtain ⟨a', b', _⟩ := lst_spec g (n + 1) w hw
    rw [sel_step' g w n hw]
    split
    · exact ih
    · refine ih.snoc fun q hq => ?_
      rw [sel_last g w hw n] at hq
      cases hq
      omega

/-! ### The queue -/
/-- The places from lo to hi - 1 behind which, up to hi - 1, all numbers are greater. -/
structure Queue (g : Nat → Int) (lo hi : Nat) (d : List Nat) : Prop where
  mem : ∀ j, j ∈ d ↔ lo ≤ j ∧ j < hi ∧ ∀ k, j < k → k < hi → g j < g k
  up : d.Pairwise (· < ·)
theorem Queue.head {g : Nat → Int} {lo hi p : Nat} {d : List Nat} (h : Queue g lo hi (p :: d)) : lst g lo (hi - lo) = p := by
  obtain ⟨h1, h2, h3⟩ := (h.mem p).1 (List.mem_cons_self)
  refine lst_unique h1 (by omega) (fun j hj1 hj2 => ?_) (fun j hj1 hj2 => h3 j hj1 (by omega))
  obtain ⟨a, b, c, e⟩ := lst_spec g lo (hi - lo) (by omega)
  have hm : lst g lo (hi - lo) ∈ p :: d := (h.mem _).2 ⟨a, by omega, fun k hk1 hk2 => e k hk1 (by omega)⟩
  have hle : p ≤ lst g lo (hi - lo) := by
    rcases List.mem_cons.1 hm with h5 | h5
    · omega
    · exact Nat.le_of_lt ((List.pairwise_cons.1 h.up).1 _ h5)
  rcases Nat.lt_or_ge p (lst g lo (hi - lo)) with h6 | h6
  · have := h3 _ h6 (by omega)
    have := c p h1 (by omega)
    omega
  · have : lst g lo (hi - lo) = p := by omega
    rw [this] at c
    exact c j hj1 (by omega)
theorem Queue.incr {g : Nat → Int} {lo hi : Nat} {d : List Nat} (h : Queue g lo hi d) (i j : Nat) (hij : i < j) (hj : j < d.length) : g d[i] < g d[j] := by
  have h1 := (h.mem d[i]).1 (List.getElem_mem _)
  have h2 := (h.mem d[j]).1 (List.getElem_mem _)
  exact h1.2.2 _ (List.pairwise_iff_getElem.1 h.up i j (by omega) hj hij) h2.2.1
/-- One number more: the greater ones go from the end, it comes behind. -/
theorem Queue.push {g : Nat → Int} {lo hi : Nat} {d : List Nat} (h : Queue g lo hi d) (hlo : lo ≤ hi) (m : Nat) (hm : m ≤ d.length) (hgone : ∀ i (hi' : i < d.length), m ≤ i → g hi ≤ g d[i]) (hleft : 0 < m → ∀ (h1 : m - 1 < d.length), g d[m - 1] < g hi) :
    Queue g lo (hi + 1) (d.take m ++ [hi]) := by
  constructor
  · intro j
    rw [List.mem_append, List.mem_singleton]
    constructor
    · rintro (hj | rfl)
      · obtain ⟨i, hi', rfl⟩ := List.getElem_of_mem hj
        rw [List.length_take] at hi'
        rw [List.getElem_take]
        obtain ⟨a, b, c⟩ := (h.mem d[i]).1 (List.getElem_mem _)
        refine ⟨a, by omega, fun k hk1 hk2 => ?_⟩
        by_cases hk : k < hi
        · exact c k hk1 hk
        · have : k = hi := by omega
          subst this
          have h5 := hleft (by omega) (by omega)
          by_cases hi2 : i = m - 1
          · subst hi2; exact h5
          · have := h.incr i (m - 1) (by omega) (by omega)
            omega
      · exact ⟨hlo, by omega, fun k h1 h2 => by omega⟩
    · rintro ⟨h1, h2, h3⟩
      by_cases hj : j = hi
      · exact .inr hj
      · left
        have hmem := (h.mem j).2 ⟨h1, by omega, fun k hk1 hk2 => h3 k hk1 (by omega)⟩
        obtain ⟨i, hi', rfl⟩ := List.getElem_of_mem hmem
        have h4 := h3 hi (by omega) (by omega)
        by_cases hmi : m ≤ i
        · have := hgone i hi' hmi
          omega
        · have : (d.take m)[i]'(by rw [List.length_take]; omega) = d[i] := List.getElem_take
          rw [← this]
          exact List.getElem_mem _
  · rw [List.pairwise_append]
    refine ⟨h.up.sublist (List.take_sublist _ _), List.pairwise_singleton _ _, fun a ha b hb => ?_⟩
    rw [List.mem_singleton] at hb
    subst hb
    exact ((h.mem a).1 (List.mem_of_mem_take ha)).2.1
/-- The window moves on: its first number goes, if it is there. -/
theorem Queue.move {g : Nat → Int} {lo hi p : Nat} {d : List Nat} (h : Queue g lo hi (p :: d)) : Queue g (lo + 1) hi (if p ≤ lo then d else p :: d) := by
  have hp := (h.mem p).1 (List.mem_cons_self)
  have hup := List.pairwise_cons.1 h.up
  split
  · rename_i hle
    have : p = lo := by omega
    subst this
    constructor
    · intro j
      constructor
      · intro hj
        have h1 := hup.1 j hj
        have h2 := (h.mem j).1 (List.mem_cons_of_mem _ hj)
        exact ⟨by omega, h2.2⟩
      · rintro ⟨h1, h2⟩
        rcases List.mem_cons.1 ((h.mem j).2 ⟨by omega, h2⟩) with h3 | h3
        · omega
        · exact h3
    · exact hup.2
  · rename_i hgt
    constructor
    · intro j
      rw [h.mem j]
      constructor
      · rintro ⟨h1, h2⟩
        refine ⟨?_, h2⟩
        rcases Nat.lt_or_ge lo j with h3 | h3
        · omega
        · have hj : j = lo := by omega
          subst hj
          have hm := (h.mem j).2 ⟨h1, h2⟩
          rcases List.mem_cons.1 hm with h4 | h4
          · omega
          · have := hup.1 _ h4; omega
      · rintro ⟨h1, h2⟩; exact ⟨by omega, h2⟩
    · exact h.up

attribute [irreducible] lst sel

end Go.Proofs.YtmibpagajenndaaDoor.W
