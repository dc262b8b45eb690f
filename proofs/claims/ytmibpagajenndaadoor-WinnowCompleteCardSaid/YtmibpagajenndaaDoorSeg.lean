/- Plain facts on strings: the parts between bytes of a kind; whether all letters are of a kind. No program in sight. -/
import Derived.Lib.SplitLaws
import Derived.Lib.Replace
import Derived.Laws.RangeAny
import Derived.Laws.RangeString
import Derived.Shelf.GgClosure.StringsIndexFunc
namespace Go.Proofs.YtmibpagajenndaaDoor.Seg

/-- The parts between the bytes c. -/
def segs (c : UInt8) : List UInt8 → List (List UInt8)
  | [] => [[]]
  | x :: l => if x = c then [] :: segs c l else match segs c l with
    | y :: r => (x :: y) :: r
    | [] => [[x]]
theorem segs_ne (c : UInt8) : ∀ l, segs c l ≠ []
  | [] => by simp [segs]
  | x :: l => by
    unfold segs
    split
    · simp
    · split <;> simp
theorem segs_stop (c : UInt8) : ∀ x : List UInt8, (∀ b ∈ x, b ≠ c) → segs c x = [x]
  | [], _ => rfl
  | b :: x, h => by
    unfold segs
    rw [if_neg (h b List.mem_cons_self), segs_stop c x fun b hb => h b (List.mem_cons_of_mem _ hb)]
theorem segs_cons (c x : UInt8) (l : List UInt8) : segs c (x :: l) = if x = c then [] :: segs c l else match segs c l with
    | y :: r => (x :: y) :: r
    | [] => [[x]] := rfl
theorem segs_cut (c : UInt8) (r : List UInt8) : ∀ x : List UInt8, (∀ b ∈ x, b ≠ c) → segs c (x ++ c :: r) = x :: segs c r
  | [], _ => by simp [segs]
  | b :: x, h => by
    rw [List.cons_append, segs_cons, if_neg (h b List.mem_cons_self), segs_cut c r x fun b hb => h b (List.mem_cons_of_mem _ hb)]
/-- At a place where the byte stands, and behind which it has not stood since f. -/
theorem segs_at (c : UInt8) (l : List UInt8) (f k : Nat) (hfk : f ≤ k) (hk : k < l.length) (hno : ∀ j (h : j < l.length), f ≤ j → j < k → l[j] ≠ c) (hc : l[k] = c) :
    segs c (l.drop f) = (l.drop f).take (k - f) :: segs c (l.drop (k + 1)) := by
  have e : l.drop f = (l.drop f).take (k - f) ++ c :: l.drop (k + 1) := by
    conv => lhs; rw [← List.take_append_drop (k - f) (l.drop f)]
    rw [List.drop_drop, show f + (k - f) = k by omega, List.drop_eq_getElem_cons hk, hc]
  conv => lhs; rw [e]
  refine segs_cut c _ _ fun b hb => ?_
  obtain ⟨j, hj, rfl⟩ := List.getElem_of_mem hb
  simp only [List.length_take, List.length_drop] at hj
  have := hno (f + j) (by omega) (by omega) (by omega)
  simpa using this
theorem segs_end (c : UInt8) (l : List UInt8) (f : Nat) (hno : ∀ j (h : j < l.length), f ≤ j → l[j] ≠ c) : segs c (l.drop f) = [l.drop f] := by
  refine segs_stop c _ fun b hb => ?_
  obtain ⟨j, hj, rfl⟩ := List.getElem_of_mem hb
  simp only [List.length_drop] at hj
  have := hno (f + j) (by omega) (by omega)
  simpa using this

theorem occ_one {s : List UInt8} {c : UInt8} {i : Nat} : Lib.occAt s [c] i = true ↔ s[i]? = some c := by
  unfold Lib.occAt
  cases h : s.drop i with
  | nil =>
    have := List.drop_eq_nil_iff.1 h
    simp [List.getElem?_eq_none this]
  | cons a t =>
    have : s[i]? = some a := by rw [← Nat.add_zero i, ← List.getElem?_drop, h]; rfl
    rw [this]
    simp [List.isPrefixOf]
    exact eq_comm
theorem splitK_segs (c : UInt8) : ∀ (k : Nat) (s : List UInt8), Lib.count s [c] = k → Lib.splitK [c] 0 k s = segs c s
  | 0, s, h => by
    rcases Lib.index_spec s [c] with ⟨_, hn⟩ | ⟨i, hi, _⟩
    · show [s] = _
      refine (segs_stop c s fun b hb he => ?_).symm
      obtain ⟨j, hj, rfl⟩ := List.getElem_of_mem hb
      have := hn j (by omega)
      rw [Bool.eq_false_iff] at this
      exact this (occ_one.2 (by rw [List.getElem?_eq_getElem hj, he]))
    · rw [Lib.count_hit (by simp) hi] at h
      omega
  | k + 1, s, h => by
    rcases Lib.index_spec s [c] with ⟨hm, _⟩ | ⟨i, hi, hle, ho, hno⟩
    · rw [Lib.count_miss hm] at h
      omega
    · have hc := occ_one.1 ho
      have hil : i < s.length := by
        rcases Nat.lt_or_ge i s.length with h | h
        · exact h
        · rw [List.getElem?_eq_none h] at hc; cases hc
      have hcg : s[i] = c := by rw [List.getElem?_eq_getElem hil] at hc; exact Option.some.inj hc
      rw [Lib.count_hit (by simp) hi] at h
      have hm : ¬ (Lib.index s [c] == -1) = true := fun e => by have := beq_iff_eq.1 e; omega
      rw [Lib.splitK, if_neg hm, hi]
      have e := segs_at c s 0 i (Nat.zero_le _) hil (fun j hj _ hji he => by
        have := hno j hji
        rw [Bool.eq_false_iff] at this
        exact this (occ_one.2 (by rw [List.getElem?_eq_getElem hj, he]))) hcg
      rw [List.drop_zero, Nat.sub_zero] at e
      rw [e]
      have hk := splitK_segs c k (s.drop (i + 1)) (by simp at h; omega)
      simp only [List.length_singleton, Nat.add_zero, Int.toNat_natCast]
      rw [hk]
/-- strings.Split at one byte. -/
theorem splitB_segs (c : UInt8) (s : ByteArray) : (Lib.splitB ⟨#[c]⟩ 0 (Lib.countB s ⟨#[c]⟩) s).map (·.data.toList) = segs c s.data.toList := by
  rw [Lib.splitB_data]
  exact splitK_segs c _ _ rfl

/-- strings.IndexFunc finds a letter that is not of the kind, where one is. -/
theorem idxFrom_all (q : Nat → Bool) (hq : ∀ n, 128 ≤ n → q n = true) (s : ByteArray) : ∀ (f pos : Nat), s.size - pos ≤ f → pos ≤ s.size →
    decide (0 ≤ Lib.idxFuncFrom q true s f pos) = (s.data.toList.drop pos).any fun c => q c.toNat
  | 0, pos, h, h2 => by
    have e : s.data.toList.drop pos = [] := List.drop_eq_nil_of_le (by simp [ByteArray.size_data] at *; omega)
    rw [e]
    rfl
  | f + 1, pos, h, h2 => by
    unfold Lib.idxFuncFrom
    by_cases hlt : pos < s.size
    · rw [if_pos hlt]
      have hl : s.data.toList.length = s.size := by simp
      have e : s.data.toList.drop pos = s[pos] :: s.data.toList.drop (pos + 1) := by
        rw [List.drop_eq_getElem_cons (by omega)]
        congr 1
      rw [e, List.any_cons]
      by_cases hc : q s[pos].toNat = true
      · have : q (Utf8.decode s pos).1 = true := by
          rcases Nat.lt_or_ge s[pos].toNat 128 with h5 | h5
          · rw [decode_ascii s pos hlt h5]; exact hc
          · exact hq _ (decode_high s pos hlt h5).1
        rw [if_pos (by rw [this]), hc]
        simp
      · have h5 : s[pos].toNat < 128 := by
          rcases Nat.lt_or_ge s[pos].toNat 128 with h5 | h5
          · exact h5
          · exact absurd (hq _ h5) hc
        rw [decode_ascii s pos hlt h5, if_neg (by simpa using hc), idxFrom_all q hq s f (pos + 1) (by omega) (by omega)]
        simp [Bool.not_eq_true _ ▸ hc]
    · have e : s.data.toList.drop pos = [] := List.drop_eq_nil_of_le (by simp [ByteArray.size_data] at *; omega)
      rw [if_neg hlt, e]
      rfl
theorem idxFunc_all (q : Nat → Bool) (hq : ∀ n, 128 ≤ n → q n = true) (s : ByteArray) : decide (0 ≤ Lib.idxFunc q true s) = s.data.toList.any fun c => q c.toNat := by
  unfold Lib.idxFunc
  rw [idxFrom_all q hq s _ 0 (by omega) (by omega)]
  simp

end Go.Proofs.YtmibpagajenndaaDoor.Seg
