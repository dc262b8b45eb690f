/- Plain facts on fingerprints: their order, their hashes; equal runs share one. -/
import Derived.Test.YtmibpagajenndaaDoorPm
namespace Go.Proofs.YtmibpagajenndaaDoor
open Go.RowKit

theorem W.lst_shift (g g' : Nat → Int) (a : Nat) : ∀ k, (∀ j, j < k → g (a + j) = g' j) → W.lst g a k = a + W.lst g' 0 k
  | 0, _ => by simp [W.lst]
  | k + 1, h => by
    have ih := W.lst_shift g g' a k fun j hj => h j (by omega)
    have hk := h k (by omega)
    rw [W.lst, W.lst, ih, hk, Nat.zero_add]
    rcases Nat.eq_zero_or_pos k with e | e
    · subst e
      simp only [W.lst, Nat.add_zero]
      split <;> split <;> rfl
    · have hb := W.lst_spec g' 0 k e
      rw [h _ (by omega)]
      split <;> rfl
theorem grams_at (l : List (ByteArray × Int)) (k : Nat) : ∀ (n i : Nat), i < n → gt (grams l k n) i = M.hash (texts ((l.drop i).take k))
  | 0, i, h => absurd h (Nat.not_lt_zero _)
  | n + 1, i, h => by
    have hl := grams_length l k n
    unfold gt
    rw [grams]
    by_cases hi : i < n
    · rw [← grams_at l k n i hi]
      unfold gt
      rw [List.getD_eq_getElem?_getD, List.getD_eq_getElem?_getD, List.getElem?_append_left (by omega)]
    · have : i = n := by omega
      subst this
      rw [List.getD_eq_getElem?_getD, List.getElem?_append_right (by omega), hl]
      simp
theorem gramsL_is (l : List (ByteArray × Int)) (k : Nat) (h1 : 1 ≤ k) (h2 : k ≤ 1024) : gramsL l (k : Int) = grams l k (l.length + 1 - k) := by
  unfold gramsL
  rw [if_pos (by omega), Int.toNat_natCast]
theorem selL_is (g : List Int) (q : Nat) (h1 : 1 ≤ q) (h2 : q ≤ 1024) : selL g (q : Int) = selI g q (g.length + 1 - q) := by
  unfold selL
  rw [if_pos (by simp [okW]; omega), Int.toNat_natCast]
theorem fp_at (g S : List Int) (j : Nat) (h : j < S.length) : hh (prl g S S.length) j = gt g (gt S j).toNat ∧ pp (prl g S S.length) j = gt S j := by
  have hl := prl_len g S S.length (Nat.le_refl _)
  have e : (prl g S S.length)[j]'(by omega) = (gt g (gt S j).toNat, gt S j) := by
    unfold prl
    simp only [List.take_length, List.getElem_map]
    rw [gt_get S j h]
  rw [← hh_get _ _ (by omega), ← pp_get _ _ (by omega), e]
  exact ⟨rfl, rfl⟩
theorem sel_incr (g : List Int) (q : Int) (j : Nat) (h : j + 1 < (selL g q).length) : gt (selL g q) j < gt (selL g q) (j + 1) := by
  unfold selL at h ⊢
  by_cases hq : okW q = true
  · rw [if_pos hq] at h ⊢
    have hq' : 1 ≤ q ∧ q ≤ 1024 := by simpa [okW] using hq
    by_cases hg : q.toNat ≤ g.length
    · obtain ⟨M, hM⟩ : ∃ M, g.length + 1 - q.toNat = M + 1 := ⟨g.length - q.toNat, by omega⟩
      rw [hM] at h ⊢
      exact ((selFacts g q.toNat M (by omega)).chain j h).1
    · rw [show g.length + 1 - q.toNat = 0 by omega, selI_zero] at h
      simp at h
  · rw [if_neg hq] at h
    simp at h
theorem fp_ord (l : List (ByteArray × Int)) (k q : Int) : ordB (fpL l k q) = true := by
  unfold ordB
  rw [decide_eq_true_iff]
  intro i h1 h2
  unfold fpL at *
  rw [prl_len _ _ _ (Nat.le_refl _)] at h1 h2
  rw [(fp_at _ _ i h1).2, (fp_at _ _ (i + 1) h2).2]
  exact sel_incr _ _ _ h2
theorem fp_len (l : List (ByteArray × Int)) (k q : Int) : (fpL l k q).length = (selL (gramsL l k) q).length := prl_len _ _ _ (Nat.le_refl _)
/-- Each fingerprint is the hash of the run at its place. -/
theorem fp_run (l : List (ByteArray × Int)) (k : Nat) (q : Int) (j : Nat) (h1 : 1 ≤ k) (h2 : k ≤ 1024) (hj : j < (fpL l (k : Int) q).length) :
    0 ≤ pp (fpL l (k : Int) q) j ∧ (pp (fpL l (k : Int) q) j).toNat + k ≤ l.length ∧ hh (fpL l (k : Int) q) j = M.hash (texts ((l.drop (pp (fpL l (k : Int) q) j).toNat).take k)) := by
  rw [fp_len] at hj
  have hf := fp_at (gramsL l k) (selL (gramsL l k) q) j hj
  have hi := sel_in (gramsL l k) q j hj
  unfold fpL
  rw [hf.1, hf.2]
  rw [gramsL_is l k h1 h2] at hi ⊢
  rw [grams_length] at hi
  rw [grams_at l k _ _ (by omega)]
  exact ⟨hi.1, by omega, rfl⟩
theorem fp_wf (l : List (ByteArray × Int)) (k : Nat) (q : Int) (h1 : 1 ≤ k) (h2 : k ≤ 1024) (hl : l.length ≤ 40) : PrWf (fpL l (k : Int) q) := by
  intro j hj
  obtain ⟨a, b, c⟩ := fp_run l k q j h1 h2 hj
  have hr := M.hash_range (texts ((l.drop (pp (fpL l (k : Int) q) j).toNat).take k))
  have e1 : IntKind.i64.min = -9223372036854775808 := by decide
  have e2 : IntKind.i64.max = 9223372036854775807 := by decide
  rw [c]
  constructor <;> simp only [Lit.wf, e1, e2] <;> simp <;> omega

theorem col_mem (b : List (Int × Int)) (h : Int) : ∀ (m j : Nat), j < m → hh b j = h → pp b j ∈ col b h m
  | 0, j, hj, _ => absurd hj (Nat.not_lt_zero _)
  | m + 1, j, hj, hh' => by
    rw [col]
    by_cases e : j = m
    · subst e
      rw [if_pos hh']
      simp
    · exact List.mem_append_left _ (col_mem b h m j (by omega) hh')
theorem prs_mem (a b : List (Int × Int)) (m : Nat) : ∀ (n i j : Nat), i < n → j < m → hh a i = hh b j → (pp a i, pp b j) ∈ prs a b m n
  | 0, i, j, hi, _, _ => absurd hi (Nat.not_lt_zero _)
  | n + 1, i, j, hi, hj, h => by
    rw [prs]
    by_cases e : i = n
    · subst e
      exact List.mem_append_right _ (List.mem_map.2 ⟨_, col_mem b (hh a i) m j hj h.symm, rfl⟩)
    · exact List.mem_append_left _ (prs_mem a b m n i j (by omega) hj h)

/-- A shared pair stands at one place of both runs. -/
def hitB (p q k n : Int) (z : Int × Int) : Bool := decide (z.1 - p = z.2 - q) && decide (p ≤ z.1) && decide (z.1 + k ≤ p + n)
theorem complete (a b : List (ByteArray × Int)) (p q n k w : Nat) (hk : 1 ≤ k) (hk2 : k ≤ 1024) (hw : 1 ≤ w) (hw2 : w ≤ 1024) (hr : sameRun a b p q n) (hn : k + w - 1 ≤ n) (ha : p + n ≤ a.length) (hb : q + n ≤ b.length) :
    (prs (fpL a k w) (fpL b k w) (fpL b k w).length (fpL a k w).length).any (hitB p q k n) = true := by
  have hga := gramsL_is a k hk hk2
  have hgb := gramsL_is b k hk hk2
  have la : (gramsL a k).length = a.length + 1 - k := by rw [hga, grams_length]
  have lb : (gramsL b k).length = b.length + 1 - k := by rw [hgb, grams_length]
  have hsame : ∀ t, t < w → gt (gramsL b k) (q + t) = gt (gramsL a k) (p + t) := by
    intro t ht
    rw [hga, hgb, grams_at _ _ _ _ (by omega), grams_at _ _ _ _ (by omega)]
    have hr' : sameRun a b (p + t) (q + t) (n - t) := by
      intro s hs
      have := hr (t + s) (by omega)
      rwa [← Nat.add_assoc, ← Nat.add_assoc] at this
    rw [same_texts hr' (show k ≤ n - t by omega) (by omega) (by omega)]
  have ea := W.lst_shift (gt (gramsL a k)) (fun t => gt (gramsL a k) (p + t)) p w (fun _ _ => rfl)
  have eb := W.lst_shift (gt (gramsL b k)) (fun t => gt (gramsL a k) (p + t)) q w hsame
  have hs := W.lst_spec (fun t => gt (gramsL a k) (p + t)) 0 w hw
  obtain ⟨t, ht⟩ : ∃ t, t = W.lst (fun t => gt (gramsL a k) (p + t)) 0 w := ⟨_, rfl⟩
  rw [← ht] at ea eb hs
  have ma := selI_has (gramsL a k) w ((gramsL a k).length + 1 - w) p hw (by omega)
  have mb := selI_has (gramsL b k) w ((gramsL b k).length + 1 - w) q hw (by omega)
  rw [← selL_is _ _ hw hw2, ea] at ma
  rw [← selL_is _ _ hw hw2, eb] at mb
  obtain ⟨i, hi, ei⟩ := List.getElem_of_mem ma
  obtain ⟨j, hj, ej⟩ := List.getElem_of_mem mb
  rw [gt_get _ _ hi] at ei
  rw [gt_get _ _ hj] at ej
  have fa := fp_at (gramsL a k) (selL (gramsL a k) w) i hi
  have fb := fp_at (gramsL b k) (selL (gramsL b k) w) j hj
  have hm := prs_mem (fpL a k w) (fpL b k w) (fpL b k w).length (fpL a k w).length i j (by rw [fp_len]; exact hi) (by rw [fp_len]; exact hj) (by
    unfold fpL
    rw [fa.1, fb.1, ei, ej, Int.toNat_natCast, Int.toNat_natCast, hsame t (by omega)])
  rw [List.any_eq_true]
  refine ⟨_, hm, ?_⟩
  unfold hitB fpL
  rw [fa.2, fb.2, ei, ej]
  simp
  omega

end Go.Proofs.YtmibpagajenndaaDoor
