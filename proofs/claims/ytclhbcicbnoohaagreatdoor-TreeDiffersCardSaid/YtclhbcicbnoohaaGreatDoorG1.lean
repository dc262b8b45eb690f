/- The texts Tre Seg Trg Rep Own of the seat, joined. -/
import Derived.Lib.ItoaNum
import Derived.Lib.SlicesCompact
import Derived.Lib.SplitLaws
import Derived.Lib.Replace
import Derived.Laws.RangeAny
import Derived.Laws.RangeString
import Derived.Shelf.GgClosure.StringsIndexFunc
import Derived.WalkKit
import Derived.ProofKit
import Derived.OpenShut
import Derived.ChangeOld
import Derived.Below
import Derived.WalkSpells
import Derived.WalkLawsBesides
import Derived.Deep.QuietTactic
import Derived.BigQuiet
import Derived.Lib.Hide
import Derived.Deep.Slices
import Derived.ArgAppend
import Derived.Maps.AppendAt
/- Plain facts on trees of files: when they are valid, what is found, put, dropped, moved. No program in sight. -/
namespace Go.Proofs.YtclhbcicbnoohaaGreatDoor.T

abbrev Bs := List UInt8
/-- A file: its path, its data. -/
abbrev File := ByteArray × ByteArray
abbrev Tr := List File
def pth (f : File) : Bs := f.1.data.toList
def dat (f : File) : Bs := f.2.data.toList
/-- p lies below d. -/
def below (p d : Bs) : Bool := (d ++ [47]).isPrefixOf p
theorem below_iff {p d : Bs} : below p d = true ↔ ∃ r, p = d ++ 47 :: r := by
  unfold below
  rw [List.isPrefixOf_iff_prefix]
  constructor
  · rintro ⟨r, h⟩; exact ⟨r, by rw [← h]; simp⟩
  · rintro ⟨r, h⟩; exact ⟨r, by rw [h]; simp⟩
theorem below_self (p : Bs) : below p p = false := by
  rw [Bool.eq_false_iff]
  intro h
  obtain ⟨r, h⟩ := below_iff.1 h
  have := congrArg List.length h
  simp at this
theorem lt_irrefl (x : Bs) : ¬ x < x := List.lt_irrefl x
theorem lt_trans {x y z : Bs} (h : x < y) (k : y < z) : x < z := List.lt_trans h k
theorem lt_of_not_le {x y : Bs} (h : ¬ x ≤ y) : y < x := by
  rcases List.le_total y x with h1 | h1
  · rcases List.le_iff_lt_or_eq.1 h1 with h2 | h2
    · exact h2
    · subst h2; exact absurd (List.le_refl y) h
  · exact absurd h1 h
theorem not_le_of_lt {x y : Bs} (h : x < y) : ¬ y ≤ x := fun k => by
  rcases List.le_iff_lt_or_eq.1 k with h1 | h1
  · exact lt_irrefl _ (lt_trans h h1)
  · subst h1; exact lt_irrefl _ h
theorem le_of_lt {x y : Bs} (h : x < y) : x ≤ y := List.le_iff_lt_or_eq.2 (.inl h)
theorem lt_ways (x y : Bs) : x < y ∨ x = y ∨ y < x := by
  by_cases h : x ≤ y
  · rcases List.le_iff_lt_or_eq.1 h with h1 | h1
    · exact .inl h1
    · exact .inr (.inl h1)
  · exact .inr (.inr (lt_of_not_le h))
theorem below_lt {p d : Bs} (h : below p d = true) : d < p := by
  obtain ⟨r, rfl⟩ := below_iff.1 h
  clear h
  induction d with
  | nil => exact List.nil_lt_cons _ _
  | cons a d ih => exact List.cons_lt_cons_iff.2 (.inr ⟨rfl, ih⟩)

/-! ### Valid trees -/
section
variable (okP : ByteArray → Bool)
/-- The file before file k is not before it. -/
def ordE (t : Tr) (k : Nat) (f : File) : Bool := decide (0 < k) && (match t[k - 1]? with | some g => decide (pth f ≤ pth g) | none => false)
/-- What is wrong with file k of a tree; 0: nothing. -/
def fileE (t : Tr) (k : Nat) (f : File) : Int :=
  if okP f.1 then (if 65536 < f.2.size then 10 else if ordE t k f then 5 else if (t.take k).any (fun g => below (pth f) (pth g)) then 6 else 0) else 2
def errs (t : Tr) : List Int := (List.range t.length).map fun i => match t[i]? with | some f => fileE okP t i f | none => 0
def checkE (t : Tr) : Int := if 64 < t.length then 10 else ((errs okP t).find? (· ≠ 0)).getD 0
/-- The first k files are right. -/
def okTo (t : Tr) (k : Nat) : Prop := ∀ i (h : i < t.length), i < k → fileE okP t i t[i] = 0
theorem errs_get (t : Tr) (i : Nat) (h : i < t.length) : (errs okP t)[i]? = some (fileE okP t i t[i]) := by
  unfold errs
  rw [List.getElem?_map, List.getElem?_range h, Option.map_some, List.getElem?_eq_getElem h]
theorem checkE_big {t : Tr} (h : 64 < t.length) : checkE okP t = 10 := if_pos h
theorem checkE_at {t : Tr} {k : Nat} (hl : t.length ≤ 64) (h : okTo okP t k) (hk : k < t.length) (he : fileE okP t k t[k] ≠ 0) : checkE okP t = fileE okP t k t[k] := by
  unfold checkE
  rw [if_neg (by omega)]
  have hlen : (errs okP t).length = t.length := by simp [errs]
  have : (errs okP t).find? (· ≠ 0) = some (fileE okP t k t[k]) := by
    rw [List.find?_eq_some_iff_getElem]
    refine ⟨by simpa using he, k, by omega, ?_, fun j hj => ?_⟩
    · have := errs_get okP t k hk
      rw [List.getElem?_eq_getElem (by omega)] at this
      exact Option.some.inj this
    · have h1 := errs_get okP t j (by omega)
      rw [List.getElem?_eq_getElem (by omega)] at h1
      rw [Option.some.inj h1, h j (by omega) hj]
      rfl
  rw [this]
  rfl
theorem checkE_end {t : Tr} (hl : t.length ≤ 64) (h : okTo okP t t.length) : checkE okP t = 0 := by
  unfold checkE
  rw [if_neg (by omega)]
  have : (errs okP t).find? (· ≠ 0) = none := by
    rw [List.find?_eq_none]
    intro x hx
    obtain ⟨i, hi, rfl⟩ := List.getElem_of_mem hx
    have hlen : (errs okP t).length = t.length := by simp [errs]
    have h1 := errs_get okP t i (by omega)
    rw [List.getElem?_eq_getElem hi] at h1
    rw [Option.some.inj h1, h i (by omega) (by omega)]
    simp
  rw [this]
  rfl
theorem okTo_succ {t : Tr} {k : Nat} (h : okTo okP t k) (hk : k < t.length) (he : fileE okP t k t[k] = 0) : okTo okP t (k + 1) := by
  intro i hi hik
  by_cases e : i = k
  · subst e; exact he
  · exact h i hi (by omega)
/-- A valid tree. -/
structure Ok (t : Tr) : Prop where
  few : t.length ≤ 64
  path : ∀ f ∈ t, okP f.1 = true
  size : ∀ f ∈ t, f.2.size ≤ 65536
  sorted : t.Pairwise fun f g => pth f < pth g
  apart : ∀ f ∈ t, ∀ g ∈ t, below (pth f) (pth g) = false
theorem fileE_zero {t : Tr} {k : Nat} {f : File} : fileE okP t k f = 0 ↔ okP f.1 = true ∧ f.2.size ≤ 65536 ∧ (∀ g, 0 < k → t[k - 1]? = some g → pth g < pth f) ∧ ∀ g ∈ t.take k, below (pth f) (pth g) = false := by
  unfold fileE
  constructor
  · intro h
    by_cases h1 : okP f.1 = true
    · rw [if_pos h1] at h
      by_cases h2 : 65536 < f.2.size
      · rw [if_pos h2] at h; cases h
      · rw [if_neg h2] at h
        split at h
        · cases h
        · rename_i h3
          split at h
          · cases h
          · rename_i h4
            refine ⟨h1, by omega, fun g hk hg => ?_, fun g hg => ?_⟩
            · refine lt_of_not_le fun h' => h3 ?_
              unfold ordE
              rw [hg]
              simp [hk, h']
            · rw [Bool.eq_false_iff]
              exact fun h' => h4 (List.any_eq_true.2 ⟨g, hg, h'⟩)
    · rw [if_neg h1] at h; cases h
  · rintro ⟨h1, h2, h3, h4⟩
    rw [if_pos h1, if_neg (by omega), if_neg, if_neg]
    · intro h
      obtain ⟨g, hg, hb⟩ := List.any_eq_true.1 h
      rw [h4 g hg] at hb
      cases hb
    · intro h
      unfold ordE at h
      rw [Bool.and_eq_true, decide_eq_true_eq] at h
      obtain ⟨hk, h⟩ := h
      cases hg : t[k - 1]? with
      | none => rw [hg] at h; cases h
      | some g =>
        rw [hg] at h
        exact not_le_of_lt (h3 g hk hg) (of_decide_eq_true h)
theorem fileE_ways (t : Tr) (k : Nat) (f : File) : fileE okP t k f = 0 ∨ fileE okP t k f = 2 ∨ fileE okP t k f = 10 ∨ fileE okP t k f = 5 ∨ fileE okP t k f = 6 := by
  unfold fileE
  split
  · split
    · simp
    · split
      · simp
      · split <;> simp
  · simp
theorem checkE_zero {t : Tr} : checkE okP t = 0 ↔ t.length ≤ 64 ∧ okTo okP t t.length := by
  constructor
  · intro h
    by_cases hl : 64 < t.length
    · rw [checkE_big okP hl] at h; cases h
    · refine ⟨by omega, ?_⟩
      have key : ∀ k, k ≤ t.length → okTo okP t k := by
        intro k
        induction k with
        | zero => exact fun _ i _ h => absurd h (Nat.not_lt_zero _)
        | succ k ih =>
          intro hk
          have := ih (by omega)
          by_cases he : fileE okP t k t[k] = 0
          · exact okTo_succ okP this (by omega) he
          · rw [checkE_at okP (by omega) this (by omega) he] at h
            exact absurd h he
      exact key _ (Nat.le_refl _)
  · rintro ⟨hl, h⟩
    exact checkE_end okP hl h
theorem ok_iff {t : Tr} : checkE okP t = 0 ↔ Ok okP t := by
  rw [checkE_zero]
  constructor
  · rintro ⟨hl, h⟩
    have hz : ∀ i (hi : i < t.length), _ := fun i hi => (fileE_zero okP).1 (h i hi hi)
    have hs : ∀ i j (hi : i < t.length) (hj : j < t.length), i < j → pth t[i] < pth t[j] := by
      intro i j hi hj hij
      induction j with
      | zero => omega
      | succ j ih =>
        have h1 := (hz (j + 1) hj).2.2.1 t[j] (by omega) (by rw [Nat.add_sub_cancel, List.getElem?_eq_getElem (by omega)])
        by_cases e : i = j
        · subst e; exact h1
        · exact lt_trans (ih (by omega) (by omega)) h1
    refine ⟨hl, fun f hf => ?_, fun f hf => ?_, ?_, fun f hf g hg => ?_⟩
    · obtain ⟨i, hi, rfl⟩ := List.getElem_of_mem hf; exact (hz i hi).1
    · obtain ⟨i, hi, rfl⟩ := List.getElem_of_mem hf; exact (hz i hi).2.1
    · rw [List.pairwise_iff_getElem]; exact hs
    · obtain ⟨i, hi, rfl⟩ := List.getElem_of_mem hf
      obtain ⟨j, hj, rfl⟩ := List.getElem_of_mem hg
      rcases Nat.lt_trichotomy i j with h1 | h1 | h1
      · rw [Bool.eq_false_iff]
        intro hb
        exact lt_irrefl _ (lt_trans (hs i j hi hj h1) (below_lt hb))
      · subst h1; exact below_self _
      · refine (hz i hi).2.2.2 t[j] ?_
        have : (t.take i)[j]'(by simp; omega) = t[j] := by simp
        rw [← this]
        exact List.getElem_mem _
  · intro h
    refine ⟨h.few, fun i hi _ => (fileE_zero okP).2 ⟨h.path _ (List.getElem_mem hi), h.size _ (List.getElem_mem hi), fun g hk hg => ?_, fun g hg => ?_⟩⟩
    · have hk1 : i - 1 < t.length := by omega
      rw [List.getElem?_eq_getElem hk1] at hg
      cases hg
      exact List.pairwise_iff_getElem.1 h.sorted (i - 1) i hk1 hi (by omega)
    · exact h.apart _ (List.getElem_mem hi) g (List.mem_of_mem_take hg)
end

/-! ### Finding -/
/-- The first k files have another path. -/
def noTo (t : Tr) (p : Bs) (k : Nat) : Prop := ∀ i (h : i < t.length), i < k → pth t[i] ≠ p
def findT (t : Tr) (p : Bs) : Option File := t.find? fun f => decide (pth f = p)
def idxT (t : Tr) (p : Bs) : Option Nat := t.findIdx? fun f => decide (pth f = p)
theorem noTo_zero (t : Tr) (p : Bs) : noTo t p 0 := fun _ _ h => absurd h (Nat.not_lt_zero _)
theorem noTo_succ {t : Tr} {p : Bs} {k : Nat} (h : noTo t p k) (hk : k < t.length) (h1 : pth t[k] ≠ p) : noTo t p (k + 1) := by
  intro i hi hik
  by_cases e : i = k
  · subst e; exact h1
  · exact h i hi (by omega)
theorem findT_at {t : Tr} {p : Bs} {k : Nat} (h : noTo t p k) (hk : k < t.length) (he : pth t[k] = p) : findT t p = some t[k] := by
  unfold findT
  rw [List.find?_eq_some_iff_getElem]
  exact ⟨by simpa using he, k, hk, rfl, fun j hj => by simpa using h j (by omega) hj⟩
theorem findT_none {t : Tr} {p : Bs} (h : noTo t p t.length) : findT t p = none := by
  unfold findT
  rw [List.find?_eq_none]
  intro x hx
  obtain ⟨i, hi, rfl⟩ := List.getElem_of_mem hx
  simpa using h i hi hi
theorem idxT_at {t : Tr} {p : Bs} {k : Nat} (h : noTo t p k) (hk : k < t.length) (he : pth t[k] = p) : idxT t p = some k := by
  unfold idxT
  rw [List.findIdx?_eq_some_iff_getElem]
  exact ⟨hk, by simpa using he, fun j hj => by simpa using h j (by omega) hj⟩
theorem idxT_none {t : Tr} {p : Bs} (h : noTo t p t.length) : idxT t p = none := by
  unfold idxT
  rw [List.findIdx?_eq_none_iff]
  intro x hx
  obtain ⟨i, hi, rfl⟩ := List.getElem_of_mem hx
  simpa using h i hi hi
theorem idxT_some {t : Tr} {p : Bs} {k : Nat} (h : idxT t p = some k) : ∃ hk : k < t.length, pth t[k] = p ∧ noTo t p k ∧ findT t p = some t[k] := by
  unfold idxT at h
  rw [List.findIdx?_eq_some_iff_getElem] at h
  obtain ⟨hk, h1, h2⟩ := h
  have h3 : noTo t p k := fun i hi hik => by simpa using h2 i hik
  have h4 : pth t[k] = p := by simpa using h1
  exact ⟨hk, h4, h3, findT_at h3 hk h4⟩
theorem idxT_no {t : Tr} {p : Bs} (h : idxT t p = none) : noTo t p t.length ∧ findT t p = none := by
  unfold idxT at h
  rw [List.findIdx?_eq_none_iff] at h
  have h1 : noTo t p t.length := fun i hi _ => by simpa using h _ (List.getElem_mem hi)
  exact ⟨h1, findT_none h1⟩

/-! ### Putting, dropping -/
abbrev Srt (t : Tr) : Prop := t.Pairwise fun f g => pth f < pth g
def insT (t : Tr) (f : File) : Tr := (t.filter fun g => decide (pth g < pth f)) ++ f :: t.filter fun g => decide (pth f < pth g)
def dropT (t : Tr) (p : Bs) : Tr := t.filter fun g => decide (pth g ≠ p)
theorem srt_lt {t : Tr} (h : Srt t) {i j : Nat} (hi : i < t.length) (hj : j < t.length) (hij : i < j) : pth t[i] < pth t[j] := List.pairwise_iff_getElem.1 h i j hi hj hij
theorem filter_all {t : Tr} {p : File → Bool} (h : ∀ g ∈ t, p g = true) : t.filter p = t := List.filter_eq_self.2 h
theorem filter_no {t : Tr} {p : File → Bool} (h : ∀ g ∈ t, p g = false) : t.filter p = [] := List.filter_eq_nil_iff.2 fun g hg => by rw [h g hg]; exact Bool.false_ne_true
theorem mem_take {t : Tr} {k : Nat} {g : File} (h : g ∈ t.take k) : ∃ i, ∃ h : i < t.length, i < k ∧ t[i] = g := by
  obtain ⟨i, hi, rfl⟩ := List.getElem_of_mem h
  simp only [List.length_take] at hi
  exact ⟨i, by omega, by omega, by simp⟩
theorem mem_drop {t : Tr} {k : Nat} {g : File} (h : g ∈ t.drop k) : ∃ i, ∃ h : i < t.length, k ≤ i ∧ t[i] = g := by
  obtain ⟨i, hi, rfl⟩ := List.getElem_of_mem h
  simp only [List.length_drop] at hi
  exact ⟨k + i, by omega, by omega, by simp⟩
/-- Parted at place k: what lies before it is less. -/
theorem split_lt {t : Tr} {p : Bs} {k : Nat} (h1 : ∀ i (h : i < t.length), i < k → pth t[i] < p) (h2 : ∀ i (h : i < t.length), k ≤ i → ¬ pth t[i] < p) : (t.filter fun g => decide (pth g < p)) = t.take k := by
  conv => lhs; rw [← List.take_append_drop k t]
  rw [List.filter_append, filter_all, filter_no, List.append_nil]
  · intro g hg
    obtain ⟨i, hi, hk, rfl⟩ := mem_drop hg
    exact decide_eq_false (h2 i hi hk)
  · intro g hg
    obtain ⟨i, hi, hk, rfl⟩ := mem_take hg
    exact decide_eq_true (h1 i hi hk)
theorem split_gt {t : Tr} {p : Bs} {k : Nat} (h1 : ∀ i (h : i < t.length), i < k → ¬ p < pth t[i]) (h2 : ∀ i (h : i < t.length), k ≤ i → p < pth t[i]) : (t.filter fun g => decide (p < pth g)) = t.drop k := by
  conv => lhs; rw [← List.take_append_drop k t]
  rw [List.filter_append, filter_no, List.nil_append, filter_all]
  · intro g hg
    obtain ⟨i, hi, hk, rfl⟩ := mem_drop hg
    exact decide_eq_true (h2 i hi hk)
  · intro g hg
    obtain ⟨i, hi, hk, rfl⟩ := mem_take hg
    exact decide_eq_false (h1 i hi hk)
/-- A file of the path is replaced. -/
theorem set_ins {t : Tr} (h : Srt t) {f : File} {k : Nat} (hk : k < t.length) (he : pth t[k] = pth f) : t.set k f = insT t f := by
  unfold insT
  rw [split_lt (k := k) (fun i hi hik => by rw [← he]; exact srt_lt h hi hk hik) (fun i hi hik hlt => by
      rw [← he] at hlt
      rcases Nat.eq_or_lt_of_le hik with e | e
      · subst e; exact lt_irrefl _ hlt
      · exact lt_irrefl _ (lt_trans hlt (srt_lt h hk hi e))),
    split_gt (k := k + 1) (fun i hi hik hlt => by
      rw [← he] at hlt
      rcases Nat.lt_or_ge i k with e | e
      · exact lt_irrefl _ (lt_trans hlt (srt_lt h hi hk e))
      · obtain rfl : i = k := by omega
        exact lt_irrefl _ hlt) (fun i hi hik => by rw [← he]; exact srt_lt h hk hi (by omega))]
  rw [List.set_eq_take_append_cons_drop, if_pos hk]
/-- No file of the path: it is put in its place. -/
theorem put_ins {t : Tr} {f : File} {k : Nat} (h1 : ∀ i (h : i < t.length), i < k → pth t[i] < pth f) (h2 : ∀ i (h : i < t.length), k ≤ i → pth f < pth t[i]) : t.take k ++ f :: t.drop k = insT t f := by
  unfold insT
  rw [split_lt (k := k) h1 (fun i hi hik hlt => lt_irrefl _ (lt_trans hlt (h2 i hi hik))), split_gt (k := k) (fun i hi hik hlt => lt_irrefl _ (lt_trans hlt (h1 i hi hik))) h2]
theorem filter_two (p : File → Bool) : ∀ t : Tr, (t.filter p).length + (t.filter fun g => !p g).length = t.length
  | [] => rfl
  | x :: t => by
    have ih := filter_two p t
    rw [List.filter_cons, List.filter_cons]
    cases hx : p x <;> simp <;> omega
theorem insT_length {t : Tr} (h : Srt t) (f : File) : (insT t f).length = if (idxT t (pth f)).isSome then t.length else t.length + 1 := by
  cases hi : idxT t (pth f) with
  | some k =>
    obtain ⟨hk, he, _⟩ := idxT_some hi
    rw [← set_ins h hk he]
    simp
  | none =>
    have hn := (idxT_no hi).1
    have e : ∀ g ∈ t, (decide (pth f < pth g)) = !decide (pth g < pth f) := by
      intro g hg
      obtain ⟨i, hi, rfl⟩ := List.getElem_of_mem hg
      rcases lt_ways (pth f) (pth t[i]) with h1 | h1 | h1
      · rw [decide_eq_true h1, decide_eq_false fun h2 => lt_irrefl _ (lt_trans h1 h2)]; rfl
      · exact absurd h1.symm (hn i hi hi)
      · rw [decide_eq_true h1, decide_eq_false fun h2 => lt_irrefl _ (lt_trans h1 h2)]; rfl
    unfold insT
    rw [List.length_append, List.length_cons, List.filter_congr e]
    have := filter_two (fun g => decide (pth g < pth f)) t
    simp only [Option.isSome_none, Bool.false_eq_true, if_false]
    omega
/-- The reference's loop of Put, behind k files: what came out, and whether the file was put. -/
def putK (t : Tr) (f : File) : Nat → Tr × Bool
  | 0 => ([], false)
  | k + 1 => match t[k]? with
    | some x =>
      let s := putK t f k
      let o := if !s.2 && decide (pth f ≤ pth x) then s.1 ++ [f] else s.1
      (if pth x ≠ pth f then o ++ [x] else o, s.2 || decide (pth f ≤ pth x))
    | none => putK t f k
theorem putK_ins {t : Tr} (h : Srt t) (f : File) : ∀ k, k ≤ t.length → putK t f k = (if (t.take k).any (fun g => decide (pth f ≤ pth g)) then insT (t.take k) f else t.take k, (t.take k).any fun g => decide (pth f ≤ pth g))
  | 0, _ => rfl
  | k + 1, hk => by
    have ih := putK_ins h f k (by omega)
    have hkl : k < t.length := by omega
    have hlt : ∀ g ∈ t.take k, pth g < pth t[k] := by
      intro g hg
      obtain ⟨i, hi, hik, rfl⟩ := mem_take hg
      exact srt_lt h hi hkl hik
    rw [putK, List.getElem?_eq_getElem hkl]
    simp only [ih]
    rw [List.take_succ_eq_append_getElem hkl, List.any_append]
    simp only [List.any_cons, List.any_nil, Bool.or_false]
    have hins : ∀ (l : Tr) (x : File), insT (l ++ [x]) f = (l.filter (fun g => decide (pth g < pth f)) ++ (if pth x < pth f then [x] else [])) ++ f :: (l.filter (fun g => decide (pth f < pth g)) ++ (if pth f < pth x then [x] else [])) := by
      intro l x
      unfold insT
      rw [List.filter_append, List.filter_append]
      simp only [List.filter_cons, List.filter_nil, decide_eq_true_eq]
    cases ha : (t.take k).any fun g => decide (pth f ≤ pth g) with
    | true =>
      obtain ⟨g, hg, hle⟩ := List.any_eq_true.1 ha
      have hle := of_decide_eq_true hle
      have hfx : pth f < pth t[k] := by
        rcases List.le_iff_lt_or_eq.1 hle with h1 | h1
        · exact lt_trans h1 (hlt g hg)
        · rw [h1]; exact hlt g hg
      have hne : pth t[k] ≠ pth f := fun e => lt_irrefl _ (e ▸ hfx)
      simp only [Bool.not_true, Bool.false_and, Bool.false_eq_true, if_false, if_true, Bool.true_or]
      rw [if_pos hne, hins, if_neg fun h1 => lt_irrefl _ (lt_trans h1 hfx), if_pos hfx]
      unfold insT
      simp
    | false =>
      have hno : ∀ g ∈ t.take k, pth g < pth f := by
        intro g hg
        have := List.any_eq_false.1 ha g hg
        exact lt_of_not_le (by simpa using this)
      have e1 : (t.take k).filter (fun g => decide (pth g < pth f)) = t.take k := filter_all fun g hg => decide_eq_true (hno g hg)
      have e2 : (t.take k).filter (fun g => decide (pth f < pth g)) = [] := filter_no fun g hg => decide_eq_false fun h1 => lt_irrefl _ (lt_trans h1 (hno g hg))
      simp only [Bool.not_false, Bool.true_and, Bool.false_eq_true, if_false, Bool.false_or]
      by_cases hle : pth f ≤ pth t[k]
      · rw [decide_eq_true hle]
        simp only [if_true]
        rw [hins, e1, e2]
        rcases List.le_iff_lt_or_eq.1 hle with h1 | h1
        · rw [if_pos fun e => lt_irrefl _ (e ▸ h1), if_neg fun h2 => lt_irrefl _ (lt_trans h1 h2), if_pos h1]
          simp
        · rw [if_neg (by simp [h1]), if_neg (by rw [h1]; exact lt_irrefl _), if_neg (by rw [h1]; exact lt_irrefl _)]
          simp
      · rw [decide_eq_false hle]
        simp only [Bool.false_eq_true, if_false]
        rw [if_pos fun e => hle (by rw [e]; exact List.le_refl _)]
theorem putK_end {t : Tr} (h : Srt t) (f : File) : (if (putK t f t.length).2 then (putK t f t.length).1 else (putK t f t.length).1 ++ [f]) = insT t f := by
  rw [putK_ins h f _ (Nat.le_refl _), List.take_length]
  cases ha : t.any fun g => decide (pth f ≤ pth g) with
  | true => simp
  | false =>
    have hno : ∀ g ∈ t, pth g < pth f := by
      intro g hg
      have := List.any_eq_false.1 ha g hg
      exact lt_of_not_le (by simpa using this)
    simp only [Bool.false_eq_true, if_false]
    unfold insT
    rw [filter_all fun g hg => decide_eq_true (hno g hg), filter_no fun g hg => decide_eq_false fun h1 => lt_irrefl _ (lt_trans h1 (hno g hg))]
/-- One file is left out. -/
theorem erase_drop {t : Tr} (h : Srt t) {p : Bs} {k : Nat} (hk : k < t.length) (he : pth t[k] = p) : t.take k ++ t.drop (k + 1) = dropT t p := by
  unfold dropT
  conv => rhs; rw [← List.take_append_drop k t]
  rw [List.filter_append, List.drop_eq_getElem_cons hk, List.filter_cons, if_neg (by simp [he]), filter_all, filter_all]
  · intro g hg
    obtain ⟨i, hi, hik, rfl⟩ := mem_drop hg
    refine decide_eq_true fun e => ?_
    have := srt_lt h hk hi (by omega)
    rw [e, he] at this
    exact lt_irrefl _ this
  · intro g hg
    obtain ⟨i, hi, hik, rfl⟩ := mem_take hg
    refine decide_eq_true fun e => ?_
    have := srt_lt h hi hk hik
    rw [e, he] at this
    exact lt_irrefl _ this
theorem dropT_same {t : Tr} {p : Bs} : (dropT t p).length = t.length ↔ findT t p = none := by
  unfold dropT findT
  rw [List.length_filter_eq_length_iff, List.find?_eq_none]
  simp

end Go.Proofs.YtclhbcicbnoohaaGreatDoor.T

/- Plain facts on strings: the parts between bytes of a kind; whether all letters are of a kind. No program in sight. -/
namespace Go.Proofs.YtclhbcicbnoohaaGreatDoor.Seg

/-- The parts between the bytes c. -/
def segs (c : UInt8) : List UInt8 → List (List UInt8)
  | [] => [[]]
  | x :: l => if x = c then [] :: segs c l else match segs c l with
    | y :: r => (x :: y) :: r
    | [] => [[x]]
theorem segs_ne (c : UInt8) : ∀ l, segs c l ≠ []
  | [] => by simp [segs]
  | x :: l => by
    unfold segs
    split
    · simp
    · split <;> simp
theorem segs_stop (c : UInt8) : ∀ x : List UInt8, (∀ b ∈ x, b ≠ c) → segs c x = [x]
  | [], _ => rfl
  | b :: x, h => by
    unfold segs
    rw [if_neg (h b List.mem_cons_self), segs_stop c x fun b hb => h b (List.mem_cons_of_mem _ hb)]
theorem segs_cons (c x : UInt8) (l : List UInt8) : segs c (x :: l) = if x = c then [] :: segs c l else match segs c l with
    | y :: r => (x :: y) :: r
    | [] => [[x]] := rfl
theorem segs_cut (c : UInt8) (r : List UInt8) : ∀ x : List UInt8, (∀ b ∈ x, b ≠ c) → segs c (x ++ c :: r) = x :: segs c r
  | [], _ => by simp [segs]
  | b :: x, h => by
    rw [List.cons_append, segs_cons, if_neg (h b List.mem_cons_self), segs_cut c r x fun b hb => h b (List.mem_cons_of_mem _ hb)]
/-- At a place where the byte stands, and behind which it has not stood since f. -/
theorem segs_at (c : UInt8) (l : List UInt8) (f k : Nat) (hfk : f ≤ k) (hk : k < l.length) (hno : ∀ j (h : j < l.length), f ≤ j → j < k → l[j] ≠ c) (hc : l[k] = c) :
    segs c (l.drop f) = (l.drop f).take (k - f) :: segs c (l.drop (k + 1)) := by
  have e : l.drop f = (l.drop f).take (k - f) ++ c :: l.drop (k + 1) := by
    conv => lhs; rw [← List.take_append_drop (k - f) (l.drop f)]
    rw [List.drop_drop, show f + (k - f) = k by omega, List.drop_eq_getElem_cons hk, hc]
  conv => lhs; rw [e]
  refine segs_cut c _ _ fun b hb => ?_
  obtain ⟨j, hj, rfl⟩ := List.getElem_of_mem hb
  simp only [List.length_take, List.length_drop] at hj
  have := hno (f + j) (by omega) (by omega) (by omega)
  simpa using this
theorem segs_end (c : UInt8) (l : List UInt8) (f : Nat) (hno : ∀ j (h : j < l.length), f ≤ j → l[j] ≠ c) : segs c (l.drop f) = [l.drop f] := by
  refine segs_stop c _ fun b hb => ?_
  obtain ⟨j, hj, rfl⟩ := List.getElem_of_mem hb
  simp only [List.length_drop] at hj
  have := hno (f + j) (by omega) (by omega)
  simpa using this

theorem occ_one {s : List UInt8} {c : UInt8} {i : Nat} : Lib.occAt s [c] i = true ↔ s[i]? = some c := by
  unfold Lib.occAt
  cases h : s.drop i with
  | nil =>
    have := List.drop_eq_nil_iff.1 h
    simp [List.getElem?_eq_none this]
  | cons a t =>
    have : s[i]? = some a := by rw [← Nat.add_zero i, ← List.getElem?_drop, h]; rfl
    rw [this]
    simp [List.isPrefixOf]
    exact eq_comm
theorem splitK_segs (c : UInt8) : ∀ (k : Nat) (s : List UInt8), Lib.count s [c] = k → Lib.splitK [c] 0 k s = segs c s
  | 0, s, h => by
    rcases Lib.index_spec s [c] with ⟨_, hn⟩ | ⟨i, hi, _⟩
    · show [s] = _
      refine (segs_stop c s fun b hb he => ?_).symm
      obtain ⟨j, hj, rfl⟩ := List.getElem_of_mem hb
      have := hn j (by omega)
      rw [Bool.eq_false_iff] at this
      exact this (occ_one.2 (by rw [List.getElem?_eq_getElem hj, he]))
    · rw [Lib.count_hit (by simp) hi] at h
      omega
  | k + 1, s, h => by
    rcases Lib.index_spec s [c] with ⟨hm, _⟩ | ⟨i, hi, hle, ho, hno⟩
    · rw [Lib.count_miss hm] at h
      omega
    · have hc := occ_one.1 ho
      have hil : i < s.length := by
        rcases Nat.lt_or_ge i s.length with h | h
        · exact h
        · rw [List.getElem?_eq_none h] at hc; cases hc
      have hcg : s[i] = c := by rw [List.getElem?_eq_getElem hil] at hc; exact Option.some.inj hc
      rw [Lib.count_hit (by simp) hi] at h
      have hm : ¬ (Lib.index s [c] == -1) = true := fun e => by have := beq_iff_eq.1 e; omega
      rw [Lib.splitK, if_neg hm, hi]
      have e := segs_at c s 0 i (Nat.zero_le _) hil (fun j hj _ hji he => by
        have := hno j hji
        rw [Bool.eq_false_iff] at this
        exact this (occ_one.2 (by rw [List.getElem?_eq_getElem hj, he]))) hcg
      rw [List.drop_zero, Nat.sub_zero] at e
      rw [e]
      have hk := splitK_segs c k (s.drop (i + 1)) (by simp at h; omega)
      simp only [List.length_singleton, Nat.add_zero, Int.toNat_natCast]
      rw [hk]
/-- strings.Split at one byte. -/
theorem splitB_segs (c : UInt8) (s : ByteArray) : (Lib.splitB ⟨#[c]⟩ 0 (Lib.countB s ⟨#[c]⟩) s).map (·.data.toList) = segs c s.data.toList := by
  rw [Lib.splitB_data]
  exact splitK_segs c _ _ rfl

/-- strings.IndexFunc finds a letter that is not of the kind, where one is. -/
theorem idxFrom_all (q : Nat → Bool) (hq : ∀ n, 128 ≤ n → q n = true) (s : ByteArray) : ∀ (f pos : Nat), s.size - pos ≤ f → pos ≤ s.size →
    decide (0 ≤ Lib.idxFuncFrom q true s f pos) = (s.data.toList.drop pos).any fun c => q c.toNat
  | 0, pos, h, h2 => by
    have e : s.data.toList.drop pos = [] := List.drop_eq_nil_of_le (by simp [ByteArray.size_data] at *; omega)
    rw [e]
    rfl
  | f + 1, pos, h, h2 => by
    unfold Lib.idxFuncFrom
    by_cases hlt : pos < s.size
    · rw [if_pos hlt]
      have hl : s.data.toList.length = s.size := by simp
      have e : s.data.toList.drop pos = s[pos] :: s.data.toList.drop (pos + 1) := by
        rw [List.drop_eq_getElem_cons (by omega)]
        congr 1
      rw [e, List.any_cons]
      by_cases hc : q s[pos].toNat = true
      · have : q (Utf8.decode s pos).1 = true := by
          rcases Nat.lt_or_ge s[pos].toNat 128 with h5 | h5
          · rw [decode_ascii s pos hlt h5]; exact hc
          · exact hq _ (decode_high s pos hlt h5).1
        rw [if_pos (by rw [this]), hc]
        simp
      · have h5 : s[pos].toNat < 128 := by
          rcases Nat.lt_or_ge s[pos].toNat 128 with h5 | h5
          · exact h5
          · exact absurd (hq _ h5) hc
        rw [decode_ascii s pos hlt h5, if_neg (by simpa using hc), idxFrom_all q hq s f (pos + 1) (by omega) (by omega)]
        simp [Bool.not_eq_true _ ▸ hc]
    · have e : s.data.toList.drop pos = [] := List.drop_eq_nil_of_le (by simp [ByteArray.size_data] at *; omega)
      rw [if_neg hlt, e]
      rfl
theorem idxFunc_all (q : Nat → Bool) (hq : ∀ n, 128 ≤ n → q n = true) (s : ByteArray) : decide (0 ≤ Lib.idxFunc q true s) = s.data.toList.any fun c => q c.toNat := by
  unfold Lib.idxFunc
  rw [idxFrom_all q hq s _ 0 (by omega) (by omega)]
  simp

end Go.Proofs.YtclhbcicbnoohaaGreatDoor.Seg

/- Plain facts on trees: directories, lines, differences; what leads from one tree to another. No program in sight. -/
namespace Go.Proofs.YtclhbcicbnoohaaGreatDoor.T

def mkF (l : Bs) : ByteArray := ⟨l.toArray⟩
theorem mkF_data (l : Bs) : (mkF l).data.toList = l := by simp [mkF]
theorem mkF_eq (s : ByteArray) : mkF s.data.toList = s := by cases s; rfl
theorem mkF_inj {a b : Bs} (h : mkF a = mkF b) : a = b := by rw [← mkF_data a, h, mkF_data]
theorem file_eq {f g : File} (h1 : pth f = pth g) (h2 : dat f = dat g) : f = g := by
  obtain ⟨a, b⟩ := f
  obtain ⟨c, d⟩ := g
  have e1 : a = c := by rw [← mkF_eq a, ← mkF_eq c]; exact congrArg mkF h1
  have e2 : b = d := by rw [← mkF_eq b, ← mkF_eq d]; exact congrArg mkF h2
  rw [e1, e2]

/-! ### Directories -/
def cutF (d : Bs) (f : File) : Option File := if below (pth f) d then some (mkF ((pth f).drop (d.length + 1)), f.2) else none
def underT (t : Tr) (d : Bs) : Tr := if d = [] then t else t.filterMap (cutF d)
def inD (d : Bs) (f : File) : File := (mkF (d ++ 47 :: pth f), f.2)
def mountT (t : Tr) (d : Bs) : Tr := t.map (inD d)
theorem pth_inD (d : Bs) (f : File) : pth (inD d f) = d ++ 47 :: pth f := mkF_data _
theorem cut_inD (d : Bs) (f : File) : cutF d (inD d f) = some f := by
  unfold cutF
  rw [if_pos (below_iff.2 ⟨pth f, pth_inD d f⟩), pth_inD]
  have e : (d ++ 47 :: pth f).drop (d.length + 1) = pth f := by simp
  rw [e]
  unfold pth inD
  rw [mkF_eq]
theorem under_mount {t : Tr} {d : Bs} (hd : d ≠ []) : underT (mountT t d) d = t := by
  unfold underT mountT
  rw [if_neg hd, List.filterMap_map]
  have : cutF d ∘ inD d = some := funext fun f => cut_inD d f
  rw [this, List.filterMap_some]
theorem append_lt {d x y : Bs} : d ++ x < d ++ y ↔ x < y := by
  induction d with
  | nil => exact Iff.rfl
  | cons a d ih =>
    rw [List.cons_append, List.cons_append, List.cons_lt_cons_iff]
    constructor
    · rintro (h | ⟨_, h⟩)
      · exact absurd h (UInt8.lt_irrefl a)
      · exact ih.1 h
    · exact fun h => .inr ⟨rfl, ih.2 h⟩
theorem below_inD (d p q : Bs) : below (d ++ 47 :: p) (d ++ 47 :: q) = below p q := by
  rw [Bool.eq_iff_iff, below_iff, below_iff]
  constructor
  · rintro ⟨r, h⟩
    refine ⟨r, ?_⟩
    rw [List.append_assoc] at h
    have := List.append_cancel_left h
    simpa using this
  · rintro ⟨r, h⟩
    exact ⟨r, by rw [h]; simp⟩
theorem ok_mount {okP : ByteArray → Bool} {t : Tr} {d : Bs} (h : Ok okP t) (hp : ∀ f ∈ t, okP (inD d f).1 = true) : Ok okP (mountT t d) := by
  refine ⟨by unfold mountT; rw [List.length_map]; exact h.few, fun f hf => ?_, fun f hf => ?_, ?_, fun f hf g hg => ?_⟩
  · obtain ⟨x, hx, rfl⟩ := List.mem_map.1 hf; exact hp x hx
  · obtain ⟨x, hx, rfl⟩ := List.mem_map.1 hf; exact h.size x hx
  · unfold mountT
    rw [List.pairwise_map]
    refine h.sorted.imp fun {x y} hxy => ?_
    rw [pth_inD, pth_inD]
    exact append_lt.2 (List.cons_lt_cons_iff.2 (.inr ⟨rfl, hxy⟩))
  · obtain ⟨x, hx, rfl⟩ := List.mem_map.1 hf
    obtain ⟨y, hy, rfl⟩ := List.mem_map.1 hg
    rw [pth_inD, pth_inD, below_inD]
    exact h.apart x hx y hy

/-! ### What the functions give: a tree and an error -/
section
variable (okP : ByteArray → Bool)
def clash (t : Tr) (f : File) : Bool := t.any fun g => below (pth f) (pth g) || below (pth g) (pth f)
def putE (t : Tr) (f : File) : Tr × Int :=
  if checkE okP t ≠ 0 then ([], 1) else if okP f.1 = false then ([], 2) else if 65536 < f.2.size then ([], 10) else if clash t f then ([], 6) else if 64 < (insT t f).length then ([], 10) else (insT t f, 0)
def dropE (t : Tr) (p : Bs) : Tr × Int := if checkE okP t ≠ 0 then ([], 1) else if findT t p = none then ([], 7) else (dropT t p, 0)
def underE (t : Tr) (d : ByteArray) : Tr := if checkE okP t ≠ 0 then [] else if d.size = 0 then t else if okP d then underT t d.data.toList else []
def mountE (t : Tr) (d : ByteArray) : Tr × Int :=
  if checkE okP t ≠ 0 then ([], 1) else if okP d = false then ([], 2) else if t.all (fun f => okP (inD d.data.toList f).1) then (mountT t d.data.toList, 0) else ([], 2)
theorem ok_ins {t : Tr} {f : File} (h : Ok okP t) (h1 : okP f.1 = true) (h2 : f.2.size ≤ 65536) (h3 : clash t f = false) (h4 : (insT t f).length ≤ 64) : Ok okP (insT t f) := by
  have hm : ∀ g, g ∈ insT t f → g = f ∨ g ∈ t := by
    intro g hg
    unfold insT at hg
    rcases List.mem_append.1 hg with h5 | h5
    · exact .inr (List.mem_filter.1 h5).1
    · rcases List.mem_cons.1 h5 with h6 | h6
      · exact .inl h6
      · exact .inr (List.mem_filter.1 h6).1
  have hcl : ∀ g ∈ t, below (pth f) (pth g) = false ∧ below (pth g) (pth f) = false := by
    intro g hg
    have := List.any_eq_false.1 h3 g hg
    simpa using this
  refine ⟨h4, fun g hg => ?_, fun g hg => ?_, ?_, fun g hg k hk => ?_⟩
  · rcases hm g hg with rfl | h5
    · exact h1
    · exact h.path g h5
  · rcases hm g hg with rfl | h5
    · exact h2
    · exact h.size g h5
  · unfold insT
    rw [List.pairwise_append]
    refine ⟨h.sorted.filter _, List.pairwise_cons.2 ⟨fun g hg => of_decide_eq_true (List.mem_filter.1 hg).2, h.sorted.filter _⟩, fun g hg k hk => ?_⟩
    have h5 : pth g < pth f := of_decide_eq_true (List.mem_filter.1 hg).2
    rcases List.mem_cons.1 hk with h6 | h6
    · subst h6; exact h5
    · exact lt_trans h5 (of_decide_eq_true (List.mem_filter.1 h6).2)
  · rcases hm g hg with rfl | h5 <;> rcases hm k hk with rfl | h6
    · exact below_self _
    · exact (hcl k h6).1
    · exact (hcl g h5).2
    · exact h.apart g h5 k h6
theorem ok_sub {t u : Tr} (h : Ok okP t) (hs : u.Sublist t) : Ok okP u :=
  ⟨Nat.le_trans hs.length_le h.few, fun f hf => h.path f (hs.subset hf), fun f hf => h.size f (hs.subset hf), h.sorted.sublist hs, fun f hf g hg => h.apart f (hs.subset hf) g (hs.subset hg)⟩
theorem ok_drop {t : Tr} (h : Ok okP t) (p : Bs) : Ok okP (dropT t p) := ok_sub okP h List.filter_sublist
theorem putE_ok {t : Tr} {f : File} (h : (putE okP t f).2 = 0) : Ok okP t ∧ okP f.1 = true ∧ f.2.size ≤ 65536 ∧ clash t f = false ∧ (insT t f).length ≤ 64 ∧ (putE okP t f).1 = insT t f := by
  unfold putE at h ⊢
  by_cases h0 : checkE okP t ≠ 0
  · rw [if_pos h0] at h; cases h
  rw [if_neg h0] at h ⊢
  by_cases h1 : okP f.1 = false
  · rw [if_pos h1] at h; cases h
  rw [if_neg h1] at h ⊢
  by_cases h2 : 65536 < f.2.size
  · rw [if_pos h2] at h; cases h
  rw [if_neg h2] at h ⊢
  by_cases h3 : clash t f = true
  · rw [if_pos h3] at h; cases h
  rw [if_neg h3] at h ⊢
  by_cases h4 : 64 < (insT t f).length
  · rw [if_pos h4] at h; cases h
  rw [if_neg h4]
  exact ⟨(ok_iff okP).1 (Classical.not_not.1 h0), by simpa using h1, by omega, by simpa using h3, by omega, rfl⟩
theorem putE_is {t : Tr} {f : File} (h : Ok okP t) (h1 : okP f.1 = true) (h2 : f.2.size ≤ 65536) (h3 : clash t f = false) (h4 : (insT t f).length ≤ 64) : putE okP t f = (insT t f, 0) := by
  unfold putE
  rw [if_neg (Classical.not_not.2 ((ok_iff okP).2 h)), if_neg (by rw [h1]; exact Bool.noConfusion), if_neg (by omega), if_neg (by rw [h3]; exact Bool.noConfusion), if_neg (by omega)]
end
theorem find_ins (t : Tr) (f : File) : findT (insT t f) (pth f) = some f := by
  unfold findT insT
  rw [List.find?_append, List.find?_cons_of_pos (by simp)]
  have : (t.filter fun g => decide (pth g < pth f)).find? (fun g => decide (pth g = pth f)) = none := by
    rw [List.find?_eq_none]
    intro g hg
    have h1 : pth g < pth f := of_decide_eq_true (List.mem_filter.1 hg).2
    simp only [decide_eq_true_eq]
    exact fun e => lt_irrefl _ (e ▸ h1)
  rw [this]
  rfl
theorem drop_ins {t : Tr} {f : File} (hs : Srt t) (h : findT t (pth f) = none) : dropT (insT t f) (pth f) = t := by
  have hn : ∀ g ∈ t, pth g ≠ pth f := by
    intro g hg e
    have := List.find?_eq_none.1 h g hg
    simp [e] at this
  unfold dropT insT
  rw [List.filter_append, List.filter_cons, if_neg (by simp), List.filter_filter, List.filter_filter]
  have e1 : (t.filter fun g => decide (pth g ≠ pth f) && decide (pth g < pth f)) = t.filter fun g => decide (pth g < pth f) :=
    List.filter_congr fun g hg => by rw [decide_eq_true (hn g hg), Bool.true_and]
  have e2 : (t.filter fun g => decide (pth g ≠ pth f) && decide (pth f < pth g)) = t.filter fun g => decide (pth f < pth g) :=
    List.filter_congr fun g hg => by rw [decide_eq_true (hn g hg), Bool.true_and]
  rw [e1, e2]
  clear e1 e2 h
  induction t with
  | nil => rfl
  | cons x t ih =>
    obtain ⟨h1, h2⟩ := List.pairwise_cons.1 hs
    have ih := ih h2 fun g hg => hn g (List.mem_cons_of_mem _ hg)
    rw [List.filter_cons, List.filter_cons]
    rcases lt_ways (pth x) (pth f) with h3 | h3 | h3
    · rw [if_pos (decide_eq_true h3), if_neg (by simp only [decide_eq_true_eq]; exact fun h4 => lt_irrefl _ (lt_trans h3 h4)), List.cons_append, ih]
    · exact absurd h3 (hn x List.mem_cons_self)
    · have h5 : ∀ g ∈ t, pth f < pth g := fun g hg => lt_trans h3 (h1 g hg)
      rw [if_neg (by simp only [decide_eq_true_eq]; exact fun h4 => lt_irrefl _ (lt_trans h3 h4)), if_pos (decide_eq_true h3), filter_no fun g hg => decide_eq_false fun h4 => lt_irrefl _ (lt_trans h4 (h5 g hg)), filter_all fun g hg => decide_eq_true (h5 g hg)]
      rfl

/-! ### Lines -/
def joinL : List Bs → Bs
  | [] => []
  | [x] => x
  | x :: y :: l => x ++ 10 :: joinL (y :: l)
def sizeL (l : List Bs) : Nat := (l.map List.length).sum
theorem joinL_length : ∀ (l : List Bs), l ≠ [] → (joinL l).length + 1 = sizeL l + l.length
  | [], h => absurd rfl h
  | [x], _ => by simp [joinL, sizeL]
  | x :: y :: l, _ => by
    have ih := joinL_length (y :: l) (by simp)
    simp only [joinL, List.length_append, List.length_cons, sizeL, List.map_cons, List.sum_cons] at *
    omega
theorem segs_join : ∀ (l : List Bs), l ≠ [] → (∀ x ∈ l, ∀ b ∈ x, b ≠ 10) → Seg.segs 10 (joinL l) = l
  | [], h, _ => absurd rfl h
  | [x], _, h => Seg.segs_stop 10 x (h x List.mem_cons_self)
  | x :: y :: l, _, h => by
    have ih := segs_join (y :: l) (by simp) fun z hz => h z (List.mem_cons_of_mem _ hz)
    have key : ∀ (x : Bs), (∀ b ∈ x, b ≠ 10) → ∀ r, Seg.segs 10 (x ++ 10 :: r) = x :: Seg.segs 10 r := by
      intro x
      induction x with
      | nil => intro _ r; simp [Seg.segs]
      | cons a x ihx =>
        intro hx r
        rw [List.cons_append, Seg.segs, if_neg (hx a List.mem_cons_self), ihx fun b hb => hx b (List.mem_cons_of_mem _ hb)]
    rw [joinL, key x (h x List.mem_cons_self), ih]
theorem segs_clean (l : Bs) : ∀ x ∈ Seg.segs 10 l, ∀ b ∈ x, b ≠ 10 := by
  induction l with
  | nil => intro x hx; simp [Seg.segs] at hx; subst hx; intro b hb; cases hb
  | cons a l ih =>
    intro x hx
    rw [Seg.segs] at hx
    by_cases h : a = 10
    · rw [if_pos h] at hx
      rcases List.mem_cons.1 hx with rfl | hx
      · intro b hb; cases hb
      · exact ih x hx
    · rw [if_neg h] at hx
      cases hs : Seg.segs 10 l with
      | nil => exact absurd hs (Seg.segs_ne 10 l)
      | cons y r =>
        rw [hs] at hx ih
        simp only at hx
        rcases List.mem_cons.1 hx with rfl | hx
        · intro b hb
          rcases List.mem_cons.1 hb with rfl | hb
          · exact h
          · exact ih y List.mem_cons_self b hb
        · exact ih x (List.mem_cons_of_mem _ hx)
theorem join_segs (l : Bs) : joinL (Seg.segs 10 l) = l := by
  induction l with
  | nil => rfl
  | cons a l ih =>
    rw [Seg.segs]
    by_cases h : a = 10
    · rw [if_pos h]
      cases hs : Seg.segs 10 l with
      | nil => exact absurd hs (Seg.segs_ne 10 l)
      | cons y r =>
        rw [hs] at ih
        rw [joinL, ih, h]
        rfl
    · rw [if_neg h]
      cases hs : Seg.segs 10 l with
      | nil => exact absurd hs (Seg.segs_ne 10 l)
      | cons y r =>
        rw [hs] at ih
        simp only
        cases r with
        | nil => rw [joinL] at ih ⊢; rw [ih]
        | cons z r => rw [joinL] at ih ⊢; rw [List.cons_append, ih]

/-! ### Differences -/
/-- A change: its path, its kind (1 added, 2 removed, 3 changed), the old and the new identifier. -/
abbrev Ch := ByteArray × (Int × (ByteArray × ByteArray))
section
variable (sid : Bs → ByteArray)
def remC (f : File) : Ch := (f.1, 2, sid (dat f), ⟨#[]⟩)
def addC (f : File) : Ch := (f.1, 1, ⟨#[]⟩, sid (dat f))
def chgC (f g : File) : Ch := (f.1, 3, sid (dat f), sid (dat g))
def diffT : Tr → Tr → List Ch
  | [], [] => []
  | x :: a, [] => remC sid x :: diffT a []
  | [], y :: b => addC sid y :: diffT [] b
  | x :: a, y :: b => if pth x < pth y then remC sid x :: diffT a (y :: b) else if pth y < pth x then addC sid y :: diffT (x :: a) b else (if dat x = dat y then [] else [chgC sid x y]) ++ diffT a b
termination_by a b => a.length + b.length
end

end Go.Proofs.YtclhbcicbnoohaaGreatDoor.T

/- What a Go value of plain data holds, said by records: numbers, strings, slices, pairs. For any program. -/
namespace Go.Proofs.YtclhbcicbnoohaaGreatDoor
open Go.RowKit

/-! ### Contracts -/
theorem ret_int {k : IntKind} {a b : Int} (h : a = b) : Ending.returned (.int k a) = .returned (.int k b) := by rw [h]
theorem ret_bool {a b : Bool} (h : a = b) : Ending.returned (.bool a) = .returned (.bool b) := by rw [h]

/-- The world has drawn at most. -/
def Dr (w w' : World) : Prop := ∃ m, w' = w.drewN m
theorem Dr.refl (w : World) : Dr w w := ⟨0, rfl⟩
theorem Dr.trans {a b c : World} (h : Dr a b) (k : Dr b c) : Dr a c := by
  obtain ⟨m, rfl⟩ := h
  obtain ⟨n, rfl⟩ := k
  exact ⟨m + n, World.drewN_drewN _ _ _⟩
theorem Dr.drewN {a b : World} (h : Dr a b) (n : Nat) : Dr a (b.drewN n) := h.trans ⟨n, rfl⟩
theorem Dr.drew {a b : World} (h : Dr a b) : Dr a b.drew := h.trans ⟨1, rfl⟩
theorem Dr.cell {a b : World} (h : Dr a b) (p : Addr) : b.cell? p = a.cell? p := by obtain ⟨m, rfl⟩ := h; rfl
/-- It returns v; the world has drawn at most. -/
def Qu (v : Value) (w : World) (e : Ending) (w' : World) : Prop := e = .returned v ∧ Dr w w'
theorem toQ {P : Program} {f : FuncId} {args : Array Value} {w : World} {v : Value} (h : Calls P f args w fun e w' => e = .returned v ∧ w = w') : Calls P f args w (Qu v w) :=
  h.mono fun _ _ ⟨he, hw⟩ => ⟨he, hw ▸ Dr.refl _⟩
theorem quiet_at {P : Program} {f : FuncId} {args : Array Value} {w : World} {n : Nat} {v : Value} (h : Calls P f args (w.drewN n) (Qu v (w.drewN n))) :
    Calls P f args (w.drewN n) fun e w'' => e = .returned v ∧ ∃ m, w'' = w.drewN m :=
  h.mono fun _ _ ⟨he, m, hm⟩ => ⟨he, n + m, by rw [hm, World.drewN_drewN]⟩

/-- What was there is there still. -/
def Ext (w w' : World) : Prop := Below w.heap.size w w'
theorem Ext.refl (w : World) : Ext w w := Below.refl _ _
theorem Ext.trans {a b c : World} (h : Ext a b) (k : Ext b c) : Ext a c := Below.trans h (Below.mono k (Below.size h))
theorem Ext.size {a b : World} (h : Ext a b) : a.heap.size ≤ b.heap.size := Below.size h
theorem Ext.cell {a b : World} (h : Ext a b) {p : Addr} (hp : p.block < a.heap.size) : b.cell? p = a.cell? p := Below.cell h hp
theorem Ext.alloc {a b : World} (h : Ext a b) (o : Obj) : Ext a (b.alloc o) := Below.alloc h (Ext.size h) o
theorem Ext.drew {a b : World} (h : Ext a b) : Ext a b.drew := Below.drew h
theorem Ext.drewN {a b : World} (h : Ext a b) (n : Nat) : Ext a (b.drewN n) := ⟨h.os, h.tape, h.output, h.size, h.block⟩
theorem Ext.setCell {a b : World} (h : Ext a b) {p : Addr} (hp : a.heap.size ≤ p.block) (u : Value) : Ext a (b.setCell p u) := Below.setCell h hp u
theorem Dr.ext {a b : World} (h : Dr a b) : Ext a b := by obtain ⟨m, rfl⟩ := h; exact (Ext.refl a).drewN m
theorem Ext.dr {a b c : World} (h : Ext a b) (k : Dr b c) : Ext a c := h.trans k.ext
theorem Dr.size {a b : World} (h : Dr a b) : b.heap.size = a.heap.size := by obtain ⟨m, rfl⟩ := h; rfl
/-- It returns v; what was there is there still. -/
def Al (v : Value) (w : World) (e : Ending) (w' : World) : Prop := e = .returned v ∧ Ext w w'
theorem toA {P : Program} {f : FuncId} {args : Array Value} {w : World} {v : Value} (h : Calls P f args w (Qu v w)) : Calls P f args w (Al v w) :=
  h.mono fun _ _ ⟨he, hw⟩ => ⟨he, hw.ext⟩

theorem Ext.keepc {a b : World} (h : Ext a b) {p : Addr} {v : Value} (hc : a.cell? p = some v) : b.cell? p = some v := (h.cell (World.block_lt_of_cell? a _ hc)).trans hc
theorem Dr.keepc {a b : World} (h : Dr a b) {p : Addr} {v : Value} (hc : a.cell? p = some v) : b.cell? p = some v := (h.cell p).trans hc
theorem grown_keepc {a b : World} {row : Option Nat} (h : a.grownBy b row) {p : Addr} {v : Value} (hc : a.cell? p = some v) (hne : row ≠ some p.block) : b.cell? p = some v :=
  (World.cell?_of_block (h.block p.block (World.block_lt_of_cell? a _ hc) (fun e => hne e.symm))).trans hc
theorem alloc_keepc {a : World} {p : Addr} {v : Value} (o : Obj) (hc : a.cell? p = some v) : (a.alloc o).cell? p = some v := ((Ext.refl a).alloc o).keepc hc
theorem cell_new (w : World) (cs : Array Value) (t : TypeId) (i : Nat) : (w.alloc (.cells cs t)).cell? ⟨w.heap.size, i, none⟩ = cs[i]? := cell_of_row _ _ _ _ _ _ (heap_alloc_new w _)

/-! ### Data -/
structure Rep (α : Type) where
  size : Nat
  is : World → (Nat → Prop) → α → List Value → Prop
  len : ∀ {w : World} {B : Nat → Prop} {a : α} {us : List Value}, is w B a us → us.length = size
  keep : ∀ {w w' : World} {B B' : Nat → Prop} {a : α} {us : List Value}, is w B a us → (∀ k, B k → B' k) → (∀ k, B k → w'.heap[k]? = w.heap[k]?) → is w' B' a us

/-- The blocks that are there. -/
def Old (w : World) : Nat → Prop := fun k => k < w.heap.size
theorem Old.ext {w w' : World} (h : Ext w w') : ∀ k, Old w k → Old w' k := fun _ hk => Nat.lt_of_lt_of_le hk h.size

/-- The value v holds a, in blocks that were there. -/
def Rep.val {α : Type} (r : Rep α) (w : World) (a : α) (v : Value) : Prop := r.is w (Old w) a v.cells.toList ∧ (r.size = 1 → v.cells = #[v])
theorem Rep.ext {α : Type} (r : Rep α) {w w' : World} {a : α} {us : List Value} (h : r.is w (Old w) a us) (he : Ext w w') : r.is w' (Old w') a us :=
  r.keep h (Old.ext he) fun k hk => he.block k hk
theorem Rep.val_ext {α : Type} (r : Rep α) {w w' : World} {a : α} {v : Value} (h : r.val w a v) (he : Ext w w') : r.val w' a v := ⟨r.ext h.1 he, h.2⟩
theorem Rep.val_dr {α : Type} (r : Rep α) {w w' : World} {a : α} {v : Value} (h : r.val w a v) (he : Dr w w') : r.val w' a v := ⟨r.ext h.1 he.ext, h.2⟩

def intR (k : IntKind) : Rep Int where
  size := 1
  is := fun _ _ n us => us = [.int k n] ∧ (Lit.int k n).wf = true
  len := by rintro _ _ _ _ ⟨rfl, _⟩; rfl
  keep := by rintro _ _ _ _ _ _ h _ _; exact h
def boolR : Rep Bool where
  size := 1
  is := fun _ _ b us => us = [.bool b]
  len := by rintro _ _ _ _ rfl; rfl
  keep := by rintro _ _ _ _ _ _ h _ _; exact h
def strR : Rep ByteArray where
  size := 1
  is := fun _ _ s us => us = [.string s] ∧ s.size ≤ 9223372036854775807
  len := by rintro _ _ _ _ ⟨rfl, _⟩; rfl
  keep := by rintro _ _ _ _ _ _ h _ _; exact h
def prodR {α β : Type} (r : Rep α) (s : Rep β) : Rep (α × β) where
  size := r.size + s.size
  is := fun w B p us => ∃ x y, us = x ++ y ∧ r.is w B p.1 x ∧ s.is w B p.2 y
  len := by rintro _ _ _ _ ⟨x, y, rfl, h, k⟩; rw [List.length_append, r.len h, s.len k]
  keep := by rintro _ _ _ _ _ _ ⟨x, y, rfl, h, k⟩ hB hw; exact ⟨x, y, rfl, r.keep h hB hw, s.keep k hB hw⟩

/-- The cells of a row: element i lies at off + i * size. -/
def RowAt {α : Type} (r : Rep α) (w : World) (B : Nat → Prop) (b off : Nat) (l : List α) : Prop :=
  ∀ i (h : i < l.length), ∃ us, r.is w B l[i] us ∧ ∀ j u, us[j]? = some u → w.cell? ⟨b, off + (i * r.size + j), none⟩ = some u
theorem RowAt.keep {α : Type} {r : Rep α} {w w' : World} {B B' : Nat → Prop} {b off : Nat} {l : List α} (h : RowAt r w B b off l) (hb : B b) (hB : ∀ k, B k → B' k) (hw : ∀ k, B k → w'.heap[k]? = w.heap[k]?) : RowAt r w' B' b off l := by
  intro i hi
  obtain ⟨us, h1, h2⟩ := h i hi
  exact ⟨us, r.keep h1 hB hw, fun j u hj => (World.cell?_of_block (hw b hb)).trans (h2 j u hj)⟩
/-- A slice, apart from its length: its address and capacity. -/
def SliceAt {α : Type} (r : Rep α) (w : World) (B : Nat → Prop) (A : Option Addr) (c : Nat) (l : List α) : Prop :=
  l.length ≤ c ∧ c ≤ 9223372036854775807 ∧ (l ≠ [] → ∃ b off, A = some ⟨b, off, none⟩ ∧ B b ∧ RowAt r w B b off l)
theorem SliceAt.keep {α : Type} {r : Rep α} {w w' : World} {B B' : Nat → Prop} {A : Option Addr} {c : Nat} {l : List α} (h : SliceAt r w B A c l) (hB : ∀ k, B k → B' k) (hw : ∀ k, B k → w'.heap[k]? = w.heap[k]?) : SliceAt r w' B' A c l := by
  obtain ⟨h1, h2, h3⟩ := h
  refine ⟨h1, h2, fun hn => ?_⟩
  obtain ⟨b, off, hA, hb, hr⟩ := h3 hn
  exact ⟨b, off, hA, hB b hb, hr.keep hb hB hw⟩
theorem SliceAt.ext {α : Type} {r : Rep α} {w w' : World} {A : Option Addr} {c : Nat} {l : List α} (h : SliceAt r w (Old w) A c l) (he : Ext w w') : SliceAt r w' (Old w') A c l :=
  h.keep (Old.ext he) fun k hk => he.block k hk
theorem SliceAt.dr {α : Type} {r : Rep α} {w w' : World} {A : Option Addr} {c : Nat} {l : List α} (h : SliceAt r w (Old w) A c l) (he : Dr w w') : SliceAt r w' (Old w') A c l := h.ext he.ext
theorem SliceAt.nil {α : Type} (r : Rep α) (w : World) (B : Nat → Prop) (A : Option Addr) (c : Nat) (hc : c ≤ 9223372036854775807) : SliceAt r w B A c [] := ⟨Nat.zero_le _, hc, fun h => absurd rfl h⟩
def sliceR {α : Type} (r : Rep α) : Rep (List α) where
  size := 1
  is := fun w B l us => ∃ A c, us = [.slice A l.length c] ∧ SliceAt r w B A c l
  len := by rintro _ _ _ _ ⟨A, c, rfl, _⟩; rfl
  keep := by rintro _ _ _ _ _ _ ⟨A, c, rfl, h⟩ hB hw; exact ⟨A, c, rfl, h.keep hB hw⟩

/-- The cells of some elements, one behind the other. -/
def Flat {α : Type} (r : Rep α) (w : World) (S : Nat → Prop) : List α → List Value → Prop
  | [], xs => xs = []
  | a :: l, xs => ∃ us ys, xs = us ++ ys ∧ r.is w S a us ∧ Flat r w S l ys
theorem Flat.keep {α : Type} {r : Rep α} {w w' : World} {S S' : Nat → Prop} (hS : ∀ k, S k → S' k) (hw : ∀ k, S k → w'.heap[k]? = w.heap[k]?) : ∀ {l : List α} {xs : List Value}, Flat r w S l xs → Flat r w' S' l xs
  | [], _, h => h
  | _ :: _, _, ⟨us, ys, h1, h2, h3⟩ => ⟨us, ys, h1, r.keep h2 hS hw, Flat.keep hS hw h3⟩
theorem Flat.length {α : Type} {r : Rep α} {w : World} {S : Nat → Prop} : ∀ {l : List α} {xs : List Value}, Flat r w S l xs → xs.length = l.length * r.size
  | [], _, h => by rw [show _ = [] from h]; simp
  | _ :: _, _, ⟨us, ys, h1, h2, h3⟩ => by rw [h1, List.length_append, r.len h2, h3.length, List.length_cons, Nat.succ_mul, Nat.add_comm]
theorem Flat.append {α : Type} {r : Rep α} {w : World} {S : Nat → Prop} {l' : List α} {xs' : List Value} (h' : Flat r w S l' xs') : ∀ {l : List α} {xs : List Value}, Flat r w S l xs → Flat r w S (l ++ l') (xs ++ xs')
  | [], _, h => by rw [show _ = [] from h]; exact h'
  | _ :: _, _, ⟨us, ys, h1, h2, h3⟩ => ⟨us, ys ++ xs', by rw [h1, List.append_assoc], h2, Flat.append h' h3⟩
theorem Flat.one {α : Type} {r : Rep α} {w : World} {S : Nat → Prop} {a : α} {us : List Value} (h : r.is w S a us) : Flat r w S [a] us := ⟨us, [], by simp, h, rfl⟩
theorem Flat.row {α : Type} {r : Rep α} {w : World} {S : Nat → Prop} {b : Nat} : ∀ {l : List α} {xs : List Value} {off : Nat}, Flat r w S l xs → (∀ j u, xs[j]? = some u → w.cell? ⟨b, off + j, none⟩ = some u) → RowAt r w S b off l
  | [], _, _, _, _ => fun i hi => absurd hi (Nat.not_lt_zero _)
  | a :: l, xs, off, ⟨us, ys, h1, h2, h3⟩, hc => by
    have hul := r.len h2
    have ih : RowAt r w S b (off + r.size) l := h3.row fun j u hj => by
      have := hc (r.size + j) u (by rw [h1, List.getElem?_append_right (by omega), hul, show r.size + j - r.size = j by omega]; exact hj)
      rwa [← Nat.add_assoc] at this
    intro i hi
    match i, hi with
    | 0, _ => exact ⟨us, h2, fun j u hj => by
        have hlt : j < us.length := by
          rcases Nat.lt_or_ge j us.length with h | h
          · exact h
          · rw [List.getElem?_eq_none h] at hj; cases hj
        have := hc j u (by rw [h1, List.getElem?_append_left hlt]; exact hj)
        rwa [Nat.zero_mul, Nat.zero_add]⟩
    | i + 1, hi =>
      obtain ⟨vs, g1, g2⟩ := ih i (by simpa using hi)
      refine ⟨vs, g1, fun j u hj => ?_⟩
      have := g2 j u hj
      rwa [show off + ((i + 1) * r.size + j) = off + r.size + (i * r.size + j) by rw [Nat.succ_mul]; omega]

/-! ### What comes in reads so -/
section
variable {H : Type} {enc : TypeId × Value → H} {P : Program} {w : World}

/-- Type t's values read as r says. -/
def Opens (enc : TypeId × Value → H) (P : Program) (w : World) (t : TypeId) {α : Type} (r : Rep α) : Prop :=
  P.cellsOf t = r.size ∧ ∀ (fuel : Nat) (cs : List Value) (x : DataW H × List MemPlace), DataW.trod enc P w 0 (fun _ => true) true fuel t cs = some x → ∃ a, r.is w (Old w) a cs

theorem Opens.int {t : TypeId} {k : IntKind} (ht : P.underlying t = some (.int k)) (hc : P.cellsOf t = 1) : Opens enc P w t (intR k) :=
  ⟨hc, fun _ _ _ h => by obtain ⟨n, rfl, _, hw⟩ := DataW.trod_int ht h; exact ⟨n, rfl, hw⟩⟩
theorem Opens.bool {t : TypeId} (ht : P.underlying t = some .bool) (hc : P.cellsOf t = 1) : Opens enc P w t boolR :=
  ⟨hc, fun _ _ _ h => by obtain ⟨n, rfl, _⟩ := DataW.trod_bool ht h; exact ⟨n, rfl⟩⟩
theorem Opens.str {t : TypeId} (ht : P.underlying t = some .string) (hc : P.cellsOf t = 1) : Opens enc P w t strR :=
  ⟨hc, fun _ _ _ h => by obtain ⟨s, rfl, _, hs⟩ := DataW.trod_string ht h; exact ⟨s, rfl, hs⟩⟩

theorem list_of_lt {α : Type} {n : Nat} {p : Nat → α → Prop} (h : ∀ i, i < n → ∃ x, p i x) : ∃ l : List α, l.length = n ∧ ∀ i (hi : i < l.length), p i l[i] := by
  induction n with
  | zero => exact ⟨[], rfl, fun i hi => absurd hi (Nat.not_lt_zero _)⟩
  | succ n ih =>
    obtain ⟨l, hl, hp⟩ := ih fun i hi => h i (Nat.lt_succ_of_lt hi)
    obtain ⟨x, hx⟩ := h n (Nat.lt_succ_self n)
    refine ⟨l ++ [x], by simp [hl], fun i hi => ?_⟩
    by_cases hin : i < n
    · rw [List.getElem_append_left (by omega)]; exact hp i (by omega)
    · have : i = n := by simp at hi; omega
      subst this
      rw [List.getElem_append_right (by omega)]
      simpa [hl] using hx

theorem Opens.slice {t e : TypeId} {α : Type} {r : Rep α} (ht : P.underlying t = some (.slice e)) (hc : P.cellsOf t = 1) (hpos : 0 < r.size) (he : Opens enc P w e r) : Opens enc P w t (sliceR r) := by
  refine ⟨hc, fun fuel cs x h => ?_⟩
  rcases Go.Deep.open_slice ht h with ⟨rfl, _⟩ | ⟨a, len, cap, m, n, D, Pl, rfl, _, hl, hm, hmm, _, hall⟩
  · exact ⟨[], none, 0, rfl, SliceAt.nil _ _ _ _ _ (by omega)⟩
  · simp only [ite_true] at hmm
    have hex : ∀ i, i < len → ∃ y, ∃ us, r.is w (Old w) y us ∧ us.length = r.size ∧ ∀ j, j < r.size → w.cell? ((a.add (i * r.size)).add j) = us[j]? := by
      intro i hi
      obtain ⟨cs', h1, h2⟩ := hall i (by omega)
      rw [he.1] at h1
      obtain ⟨y, hy⟩ := he.2 _ _ _ h2
      obtain ⟨_, g2, g3⟩ := World.cells?_some h1
      exact ⟨y, cs', hy, g2, g3⟩
    obtain ⟨l, hlen, hp⟩ := list_of_lt hex
    refine ⟨l, some a, cap, by rw [hlen], by omega, by unfold maxLen at hm; omega, fun hne => ?_⟩
    have hlpos : 0 < l.length := List.length_pos_iff.2 hne
    obtain ⟨us, _, hul, hc0⟩ := hp 0 hlpos
    have hc00 := hc0 0 hpos
    obtain ⟨u0, hu0⟩ : ∃ u0, us[0]? = some u0 := ⟨us[0]'(by omega), by simp [hul, hpos]⟩
    rw [hu0] at hc00
    have hc00' : w.cell? a = some u0 := by simpa [Addr.add] using hc00
    have hspot := World.cell?_spot hc00'
    have hblk := World.block_lt_of_cell? w _ hc00'
    obtain ⟨b, off, sp⟩ := a
    simp only at hspot
    subst hspot
    refine ⟨b, off, rfl, hblk, fun i hi => ?_⟩
    obtain ⟨us, h1, h2, h3⟩ := hp i hi
    refine ⟨us, h1, fun j u hj => ?_⟩
    have hj' : j < r.size := by
      rcases Nat.lt_or_ge j us.length with h | h
      · omega
      · rw [List.getElem?_eq_none h] at hj; cases hj
    have := h3 j hj'
    rw [hj] at this
    have e : ((⟨b, off, none⟩ : Addr).add (i * r.size)).add j = ⟨b, off + (i * r.size + j), none⟩ := by
      rw [Go.Deep.add_add]
      unfold Addr.add
      split
      · rename_i h0; rw [h0]; rfl
      · rfl
    rwa [e] at this

/-- The fields from number k on, at offset o, read as r says. -/
def OpensFields (enc : TypeId × Value → H) (P : Program) (w : World) (fs : List Field) (o : Nat) {α : Type} (r : Rep α) : Prop :=
  ∀ (fuel : Nat) (cs : List Value) (xs : List (DataW H × List MemPlace)), cs.length = o + r.size →
    (∀ (i : Nat) (f : Field), fs[i]? = some f → DataW.trod enc P w 0 (fun _ => true) true fuel f.type ((cs.drop f.offset).take (P.cellsOf f.type)) = xs[i]?) → fs.length ≤ xs.length → ∃ a, r.is w (Old w) a (cs.drop o)

theorem OpensFields.one {f : Field} {o : Nat} {α : Type} {r : Rep α} (h : Opens enc P w f.type r) (ho : f.offset = o) : OpensFields enc P w [f] o r := by
  intro fuel cs xs hl hf hx
  have h0 := hf 0 f rfl
  obtain ⟨x, hx0⟩ : ∃ x, xs[0]? = some x := ⟨xs[0]'(by simp at hx; omega), by simp⟩
  rw [hx0, ho, h.1, List.take_of_length_le (by rw [List.length_drop]; omega)] at h0
  exact h.2 _ _ _ h0
theorem OpensFields.cons {f : Field} {fs : List Field} {o : Nat} {α β : Type} {r : Rep α} {s : Rep β} (h : Opens enc P w f.type r) (ho : f.offset = o) (hs : OpensFields enc P w fs (o + r.size) s) : OpensFields enc P w (f :: fs) o (prodR r s) := by
  intro fuel cs xs hl hf hx
  have h0 := hf 0 f rfl
  have hx' : 0 < xs.length := by simp at hx; omega
  obtain ⟨x, hx0⟩ : ∃ x, xs[0]? = some x := ⟨xs[0]'hx', by simp⟩
  rw [hx0, ho, h.1] at h0
  obtain ⟨a, ha⟩ := h.2 _ _ _ h0
  have hl' : cs.length = o + (r.size + s.size) := hl
  obtain ⟨b, hb⟩ := hs fuel cs xs.tail (by omega) (fun i g hg => by have := hf (i + 1) g (by simpa using hg); simpa using this) (by simp at hx ⊢; omega)
  refine ⟨(a, b), _, _, ?_, ha, hb⟩
  rw [← List.drop_drop]
  exact (List.take_append_drop _ _).symm
theorem Opens.struct {t : TypeId} {fs : Array Field} {α : Type} {r : Rep α} (ht : P.underlying t = some (.struct fs)) (hc : P.cellsOf t = r.size) (h : OpensFields enc P w fs.toList 0 r) : Opens enc P w t r := by
  refine ⟨hc, fun fuel cs x hx => ?_⟩
  obtain ⟨xs, n, _, _, hl, hxl, hf⟩ := DataW.trod_struct ht hx
  have := h n cs xs (by omega) (fun i f hi => hf i f (by simpa using hi)) (by simp [hxl])
  simpa using this
/-- An array of two. -/
theorem Opens.array2 {t e : TypeId} {α : Type} {r : Rep α} (ht : P.underlying t = some (.array 2 e)) (hc : P.cellsOf t = r.size + r.size) (h : Opens enc P w e r) : Opens enc P w t (prodR r r) := by
  refine ⟨hc, fun fuel cs x hx => ?_⟩
  obtain ⟨xs, m, _, _, hl, hxl, hf⟩ := DataW.trod_array ht hx
  have h0 := hf 0 (by omega)
  have h1 := hf 1 (by omega)
  obtain ⟨x0, hx0⟩ : ∃ x, xs[0]? = some x := ⟨xs[0]'(by omega), by simp⟩
  obtain ⟨x1, hx1⟩ : ∃ x, xs[1]? = some x := ⟨xs[1]'(by omega), by simp⟩
  rw [hx0, h.1] at h0
  rw [hx1, h.1] at h1
  obtain ⟨a, ha⟩ := h.2 _ _ _ h0
  obtain ⟨b, hb⟩ := h.2 _ _ _ h1
  have hlen : cs.length = r.size + r.size := hl.trans hc
  refine ⟨(a, b), _, _, ?_, ha, hb⟩
  simp only [Nat.zero_mul, List.drop_zero, Nat.one_mul]
  rw [List.take_of_length_le (l := cs.drop r.size) (by rw [List.length_drop]; omega)]
  exact (List.take_append_drop _ _).symm

/-- An argument of the row, opened. -/
theorem Opens.arg {t : TypeId} {α : Type} {r : Rep α} (h : Opens enc P w t r) {v : Value} {d : DataW H} {p : List MemPlace} (ht : DataW.Trod enc P w 0 (fun _ => true) true t v d p) (hv : r.size = 1 → v.cells = #[v]) : ∃ a, r.val w a v := by
  obtain ⟨fuel, hf⟩ := ht
  obtain ⟨a, ha⟩ := h.2 _ _ _ hf
  exact ⟨a, ha, hv⟩
end

theorem val_bool {w : World} {b : Bool} {v : Value} (h : boolR.val w b v) : v = .bool b := by
  obtain ⟨h, hv⟩ := h
  rw [hv rfl] at h
  simpa [boolR] using h
theorem val_str {w : World} {s : ByteArray} {v : Value} (h : strR.val w s v) : v = .string s ∧ s.size ≤ 9223372036854775807 := by
  obtain ⟨h, hv⟩ := h
  rw [hv rfl] at h
  exact ⟨by simpa using h.1, h.2⟩
theorem val_int {w : World} {k : IntKind} {n : Int} {v : Value} (h : (intR k).val w n v) : v = .int k n ∧ (Lit.int k n).wf = true := by
  obtain ⟨h, hv⟩ := h
  rw [hv rfl] at h
  exact ⟨by simpa using h.1, h.2⟩
theorem val_slice {α : Type} {r : Rep α} {w : World} {l : List α} {v : Value} (h : (sliceR r).val w l v) : ∃ A c, v = .slice A l.length c ∧ SliceAt r w (Old w) A c l := by
  obtain ⟨⟨A, c, h, hs⟩, hv⟩ := h
  rw [hv rfl] at h
  exact ⟨A, c, by simpa using h, hs⟩
theorem wf_i64 {n : Int} (h : (Lit.int .i64 n).wf = true) : -9223372036854775808 ≤ n ∧ n ≤ 9223372036854775807 := by
  have h' : IntKind.i64.min ≤ n ∧ n ≤ IntKind.i64.max := by simpa [Lit.wf] using h
  have e1 : IntKind.i64.min = -9223372036854775808 := by decide
  have e2 : IntKind.i64.max = 9223372036854775807 := by decide
  omega
theorem wf_u8 {n : Int} (h : (Lit.int .u8 n).wf = true) : 0 ≤ n ∧ n ≤ 255 := by
  have h' : IntKind.u8.min ≤ n ∧ n ≤ IntKind.u8.max := by simpa [Lit.wf] using h
  have e1 : IntKind.u8.min = 0 := by decide
  have e2 : IntKind.u8.max = 255 := by decide
  omega

end Go.Proofs.YtclhbcicbnoohaaGreatDoor

/- Slices that the call itself made, at any place of their rows; append to them. For any program. -/
namespace Go.Proofs.YtclhbcicbnoohaaGreatDoor
open Go.RowKit

/-- The values vs from place o on. -/
def setArr (cur : Array Value) : Nat → List Value → Array Value
  | _, [] => cur
  | o, v :: vs => setArr (cur.setIfInBounds o v) (o + 1) vs
theorem setArr_size : ∀ (vs : List Value) (cur : Array Value) (o : Nat), (setArr cur o vs).size = cur.size
  | [], _, _ => rfl
  | v :: vs, cur, o => by rw [setArr, setArr_size vs]; simp
theorem setArr_lt : ∀ (vs : List Value) (cur : Array Value) (o j : Nat), j < o → (setArr cur o vs)[j]? = cur[j]?
  | [], _, _, _, _ => rfl
  | v :: vs, cur, o, j, h => by
    rw [setArr, setArr_lt vs _ _ _ (by omega), Array.getElem?_setIfInBounds_ne (by omega)]
theorem setArr_in : ∀ (vs : List Value) (cur : Array Value) (o j : Nat), j < vs.length → o + vs.length ≤ cur.size → (setArr cur o vs)[o + j]? = vs[j]?
  | [], _, _, _, h, _ => absurd h (Nat.not_lt_zero _)
  | v :: vs, cur, o, 0, _, h2 => by
    simp only [List.length_cons] at h2
    rw [setArr, setArr_lt vs _ _ _ (by omega)]
    show (cur.setIfInBounds o v)[o]? = some v
    rw [Array.getElem?_setIfInBounds_self_of_lt (by omega)]
  | v :: vs, cur, o, j + 1, h1, h2 => by
    simp only [List.length_cons] at h1 h2
    rw [setArr, show o + (j + 1) = o + 1 + j by omega, setArr_in vs _ _ _ (by omega) (by simp; omega)]
    rfl
theorem heap_setCells_at (b : Nat) : ∀ (vs : List Value) (o : Nat) (w : World) (cur : Array Value) (e : TypeId), w.heap[b]? = some (.cells cur e (0, 0)) → (w.setCells b o vs).heap[b]? = some (.cells (setArr cur o vs) e (0, 0))
  | [], _, _, _, _, h => h
  | v :: vs, o, w, cur, e, h => by
    refine heap_setCells_at b vs (o + 1) (w.setCell ⟨b, o, none⟩ v) (cur.setIfInBounds o v) e ?_
    simp [World.setCell, Array.getElem?_modify, h]
theorem grownBy_setCells (b : Nat) : ∀ (vs : List Value) (o : Nat) (w : World), w.grownBy (w.setCells b o vs) (some b)
  | [], _, w => World.grownBy.refl w _
  | v :: vs, o, w => by
    have h := grownBy_setCells b vs (o + 1) (w.setCell ⟨b, o, none⟩ v)
    refine ⟨h.os, h.tape, h.output, ?_, fun k hk hne => ?_⟩
    · exact Nat.le_trans (by simp [World.setCell]) h.size
    · have h2 := h.block k (by simpa [World.setCell] using hk) hne
      refine h2.trans (Below.heap_setCell _ _ _ _ ?_)
      rintro rfl
      exact hne rfl

/-- The slice value v of n elements holds the cells xs in a row of the call's own (from block 'base' on), with its spare room behind them; or it is nil. -/
def OwnAt (w : World) (base : Nat) (e : TypeId) (size : Nat) (v : Value) (n : Nat) (xs : List Value) : Prop :=
  xs.length = n * size ∧
  ((v = .slice none 0 0 ∧ n = 0) ∨
   ∃ g off cap cur, v = .slice (some ⟨g, off, none⟩) n cap ∧ base ≤ g ∧ w.heap[g]? = some (.cells cur e (0, 0)) ∧ n ≤ cap ∧ cap ≤ 9223372036854775807 ∧ off + cap * size ≤ cur.size ∧ ∀ j, j < n * size → cur[off + j]? = xs[j]?)

theorem OwnAt.nil (w : World) (base : Nat) (e : TypeId) (size : Nat) : OwnAt w base e size (.slice none 0 0) 0 [] := ⟨by simp, .inl ⟨rfl, rfl⟩⟩
theorem OwnAt.keep {w w' : World} {base : Nat} {e : TypeId} {size : Nat} {v : Value} {n : Nat} {xs : List Value} (h : OwnAt w base e size v n xs)
    (hk : ∀ g, v.ownBlock = some g → g < w.heap.size → w'.heap[g]? = w.heap[g]?) : OwnAt w' base e size v n xs := by
  obtain ⟨h1, h2 | ⟨g, off, cap, cur, rfl, hb, hh, r⟩⟩ := h
  · exact ⟨h1, .inl h2⟩
  · have hlt : g < w.heap.size := by
      rcases Nat.lt_or_ge g w.heap.size with h | h
      · exact h
      · rw [Array.getElem?_eq_none h] at hh; cases hh
    exact ⟨h1, .inr ⟨g, off, cap, cur, rfl, hb, (hk g rfl hlt).trans hh, r⟩⟩
theorem OwnAt.ext {w w' : World} {base : Nat} {e : TypeId} {size : Nat} {v : Value} {n : Nat} {xs : List Value} (h : OwnAt w base e size v n xs) (he : Ext w w') : OwnAt w' base e size v n xs :=
  h.keep fun g _ hg => he.block g hg
theorem OwnAt.dr {w w' : World} {base : Nat} {e : TypeId} {size : Nat} {v : Value} {n : Nat} {xs : List Value} (h : OwnAt w base e size v n xs) (he : Dr w w') : OwnAt w' base e size v n xs := h.ext he.ext
theorem OwnAt.alloc {w : World} {base : Nat} {e : TypeId} {size : Nat} {v : Value} {n : Nat} {xs : List Value} (h : OwnAt w base e size v n xs) (o : Obj) : OwnAt (w.alloc o) base e size v n xs := h.ext ((Ext.refl w).alloc o)
theorem OwnAt.grown {w w' : World} {base : Nat} {e : TypeId} {size : Nat} {v u : Value} {n : Nat} {xs : List Value} (h : OwnAt w base e size v n xs) (hg : w.grownBy w' u.ownBlock)
    (hne : ∀ g, v.ownBlock = some g → u.ownBlock ≠ some g) : OwnAt w' base e size v n xs :=
  h.keep fun g hv hlt => hg.block g hlt (fun e => hne g hv e.symm)
theorem OwnAt.of_row {w : World} {base : Nat} {e : TypeId} {size : Nat} {v : Value} {n : Nat} {xs : List Value} (h : w.ownsRow base e size v n xs) : OwnAt w base e size v n xs := by
  obtain ⟨h1, h2 | ⟨g, cap, cur, rfl, hb, hh, hn, hc, hs, ht⟩⟩ := h
  · exact ⟨h1, .inl h2⟩
  · refine ⟨h1, .inr ⟨g, 0, cap, cur, rfl, hb, hh, hn, by unfold maxLen at hc; omega, by omega, fun j hj => ?_⟩⟩
    rw [← ht, List.getElem?_take_of_lt hj]
    simp
theorem OwnAt.mono {w : World} {base base' : Nat} {e : TypeId} {size : Nat} {v : Value} {n : Nat} {xs : List Value} (h : OwnAt w base e size v n xs) (hb : base' ≤ base) : OwnAt w base' e size v n xs := by
  obtain ⟨h1, h2 | ⟨g, off, cap, cur, rfl, hg, r⟩⟩ := h
  · exact ⟨h1, .inl h2⟩
  · exact ⟨h1, .inr ⟨g, off, cap, cur, rfl, by omega, r⟩⟩
/-- Its cells, where it has any. -/
theorem OwnAt.cells {w : World} {base : Nat} {e : TypeId} {size : Nat} {v : Value} {n : Nat} {xs : List Value} (h : OwnAt w base e size v n xs) (hn : 0 < n) :
    ∃ g off cap, v = .slice (some ⟨g, off, none⟩) n cap ∧ base ≤ g ∧ g < w.heap.size ∧ n ≤ cap ∧ cap ≤ 9223372036854775807 ∧ ∀ j u, xs[j]? = some u → w.cell? ⟨g, off + j, none⟩ = some u := by
  obtain ⟨h1, ⟨rfl, rfl⟩ | ⟨g, off, cap, cur, rfl, hb, hh, hnc, hc, hs, hx⟩⟩ := h
  · omega
  · refine ⟨g, off, cap, rfl, hb, ?_, hnc, hc, fun j u hj => ?_⟩
    · rcases Nat.lt_or_ge g w.heap.size with h | h
      · exact h
      · rw [Array.getElem?_eq_none h] at hh; cases hh
    · have hj' : j < n * size := by
        rcases Nat.lt_or_ge j xs.length with h | h
        · omega
        · rw [List.getElem?_eq_none h] at hj; cases hj
      rw [cell_of_row w g _ cur e (0, 0) hh, hx j hj', hj]

theorem Ext.grown {a b b' c : World} {e : TypeId} {size : Nat} {v : Value} {n : Nat} {xs : List Value} (h : Ext a b) (ho : OwnAt b' a.heap.size e size v n xs) (hg : b.grownBy c v.ownBlock) : Ext a c := by
  refine Below.grown h hg h.size fun k hk => ?_
  obtain ⟨_, ⟨rfl, _⟩ | ⟨g, off, cap, cur, rfl, hb, _⟩⟩ := ho
  · simp [Value.ownBlock] at hk
  · simp [Value.ownBlock] at hk; omega

section
variable {P : Program} (w : World)

theorem run_append_ownAt (base : Nat) (t ty e : TypeId) (i : TypeInfo) (z : Value) (size bytes : Nat) (ht : P.underlying t = some (.slice e)) (hi : P.info? e = some i) (hz : i.zero = some z)
    (hsize : i.size = size) (hby : i.bytes = bytes) (hzs : z.cells.size = size) (hsz : 0 < size)
    (v : Value) (n : Nat) (xs : List Value) (hown : OwnAt w base e size v n xs)
    (ad : Addr) (m c : Nat) (news : List Value) (hl : news.length = m * size) (hnews : ∀ j u, news[j]? = some u → w.cell? (ad.add j) = some u) (h1 : ∀ u ∈ news, u.oneCell' = true)
    (h63 : n + m ≤ maxLen) (hbytes : (n + m) * bytes ≤ 140737488355328) (hbase : base ≤ w.heap.size) (hm : 0 < m) :
    ∃ v' w', (Builtin.append_ #[t, t] ty #[v, .slice (some ad) m c]).run P w = .ok v' w' ∧ OwnAt w' base e size v' (n + m) (xs ++ news) ∧ w.grownBy w' v.ownBlock ∧
      OwnAt w' base e size v n xs ∧ (v'.ownBlock = v.ownBlock ∨ ∃ g, v'.ownBlock = some g ∧ w.heap.size ≤ g ∧ g < w'.heap.size) := by
  obtain ⟨hx1, ⟨rfl, rfl⟩ | ⟨g, off, cap, cur, rfl, hb, hh, hnc, hc, hs, hx⟩⟩ := hown
  · have hxs : xs = [] := List.eq_nil_of_length_eq_zero (by simpa using hx1)
    subst hxs
    obtain ⟨v', w', hrun, h2, h3, h4⟩ := run_append_own (P := P) w w.heap.size t ty e i z size bytes ht hi hz hsize hby hzs hsz (.slice none 0 0) 0 [] ⟨by simp, .inl ⟨rfl, rfl⟩⟩ ad m c news hl hnews h1 h63 hbytes (Nat.le_refl _)
    refine ⟨v', w', hrun, (OwnAt.of_row h2).mono hbase, h3, ⟨by simp, .inl ⟨rfl, rfl⟩⟩, .inr ?_⟩
    obtain ⟨k1, ⟨_, k2⟩ | ⟨g, cap, cur, rfl, hg, hh, _⟩⟩ := h2
    · omega
    · exact ⟨g, rfl, hg, by
        rcases Nat.lt_or_ge g w'.heap.size with h | h
        · exact h
        · rw [Array.getElem?_eq_none h] at hh; cases hh⟩
  · by_cases hroom : n + m ≤ cap
    · subst hsize
      have hcapm : (n + m) * i.size ≤ cap * i.size := Nat.mul_le_mul_right _ hroom
      have hadd : (n + m) * i.size = n * i.size + m * i.size := Nat.add_mul _ _ _
      have hcell : ∀ j, j < news.length → (w.cell? ⟨g, off + n * i.size + j, none⟩).isSome = true := by
        intro j hj
        rw [cell_of_row w g _ cur e (0, 0) hh]
        simp
        omega
      have hfro : ∀ j, j < news.length → w.frozen? ⟨g, off + n * i.size + j, none⟩ = false := by
        intro j hj
        simp [World.frozen?, hh]
      have hrun := run_append_room_cells (P := P) w t ty e i ht hi g off n cap ad m c news hl hnews h1 hroom hcell hfro
      refine ⟨_, _, hrun, ⟨by rw [List.length_append, hx1, hl, Nat.add_mul], .inr ⟨g, off, cap, _, rfl, hb, heap_setCells_at g news _ w cur e hh, hroom, hc, by rw [setArr_size]; exact hs, fun j hj => ?_⟩⟩, grownBy_setCells g news _ w,
        ⟨hx1, .inr ⟨g, off, cap, _, rfl, hb, heap_setCells_at g news _ w cur e hh, hnc, hc, by rw [setArr_size]; exact hs, fun j hj => by rw [setArr_lt _ _ _ _ (by omega)]; exact hx j hj⟩⟩, .inl rfl⟩
      by_cases hj1 : j < n * i.size
      · rw [setArr_lt _ _ _ _ (by omega), hx j hj1, List.getElem?_append_left (by omega)]
      · obtain ⟨q, rfl⟩ : ∃ q, j = n * i.size + q := ⟨j - n * i.size, by omega⟩
        rw [show off + (n * i.size + q) = off + n * i.size + q by omega, setArr_in _ _ _ _ (by omega) (by omega), List.getElem?_append_right (by omega)]
        congr 1
        omega
    · obtain ⟨v', w', hrun, h2, h3⟩ := run_append_arg_grows (P := P) w t ty e i z size bytes ht hi hz hsize hby hzs hsz ⟨g, off, none⟩ n cap xs hx1
        (fun j u hj => by
          have hj' : j < n * size := by
            rcases Nat.lt_or_ge j xs.length with h | h
            · omega
            · rw [List.getElem?_eq_none h] at hj; cases hj
          rw [Addr.add_lit, cell_of_row w g _ cur e (0, 0) hh, hx j hj', hj])
        ad m c news hl hnews (by omega) h63 hbytes
      refine ⟨v', w', hrun, (OwnAt.of_row h2).mono hbase, ⟨h3.os, h3.tape, h3.output, h3.size, fun k hk _ => h3.block k hk (by simp)⟩, ?_, .inr ?_⟩
      · refine ⟨hx1, .inr ⟨g, off, cap, cur, rfl, hb, (h3.block g ?_ (by simp)).trans hh, hnc, hc, hs, hx⟩⟩
        rcases Nat.lt_or_ge g w.heap.size with h | h
        · exact h
        · rw [Array.getElem?_eq_none h] at hh; cases hh
      obtain ⟨k1, ⟨_, k2⟩ | ⟨g', cap', cur', rfl, hg, hh', _⟩⟩ := h2
      · omega
      · exact ⟨g', rfl, hg, by
          rcases Nat.lt_or_ge g' w'.heap.size with h | h
          · exact h
          · rw [Array.getElem?_eq_none h] at hh'; cases hh'⟩

theorem wp_append_ownAt {o : Oper} {a : Act} {K : Act → World → Prop} {Q : Exit → Act → World → Prop} (s x : Operand) (t : TypeId)
    (ho : o.op = .call { callee := .builtin .append, args := #[s, x], argTypes := #[t, t] })
    (base : Nat) (e : TypeId) (i : TypeInfo) (z : Value) (size bytes : Nat) (ht : P.underlying t = some (.slice e)) (hi : P.info? e = some i) (hz : i.zero = some z)
    (hsize : i.size = size) (hby : i.bytes = bytes) (hzs : z.cells.size = size) (hsz : 0 < size)
    (v : Value) (n : Nat) (xs : List Value) (hs : a.eval s = v) (hown : OwnAt w base e size v n xs)
    (ad : Addr) (m c : Nat) (news : List Value) (hx : a.eval x = .slice (some ad) m c) (hl : news.length = m * size) (hnews : ∀ j u, news[j]? = some u → w.cell? (ad.add j) = some u) (h1 : ∀ u ∈ news, u.oneCell' = true)
    (h63 : n + m ≤ maxLen) (hbytes : (n + m) * bytes ≤ 140737488355328) (hbase : base ≤ w.heap.size) (hm : 0 < m)
    (h : ∀ v' w', OwnAt w' base e size v' (n + m) (xs ++ news) → w.grownBy w' v.ownBlock → OwnAt w' base e size v n xs → (v'.ownBlock = v.ownBlock ∨ ∃ g, v'.ownBlock = some g ∧ w.heap.size ≤ g ∧ g < w'.heap.size) → K (a.put o.dst v') w') : o.wp P a w K Q := by
  obtain ⟨v', w', hrun, h2, h3, h5, h4⟩ := run_append_ownAt (P := P) w base t o.type e i z size bytes ht hi hz hsize hby hzs hsz v n xs hown ad m c news hl hnews h1 h63 hbytes hbase hm
  unfold Oper.wp execOp
  simp only [ho, resolve, invoke, builtin, Sem.run_bind, Sem.run_pure, Result.andThen_ok, List.map_toArray, List.map_cons, List.map_nil, hs, hx, hrun]
  exact h v' w' h2 h3 h5 h4

theorem wpList_append_ownAt {ops : Array Oper} {rest : List Oper} {o : Oper} {a : Act} {Q : Exit → Act → World → Prop} (hgd : o.guard = none) (s x : Operand) (t : TypeId)
    (ho : o.op = .call { callee := .builtin .append, args := #[s, x], argTypes := #[t, t] })
    (base : Nat) (e : TypeId) (i : TypeInfo) (z : Value) (size bytes : Nat) (ht : P.underlying t = some (.slice e)) (hi : P.info? e = some i) (hz : i.zero = some z)
    (hsize : i.size = size) (hby : i.bytes = bytes) (hzs : z.cells.size = size) (hsz : 0 < size)
    (v : Value) (n : Nat) (xs : List Value) (hs : a.eval s = v) (hown : OwnAt w base e size v n xs)
    (ad : Addr) (m c : Nat) (news : List Value) (hx : a.eval x = .slice (some ad) m c) (hl : news.length = m * size) (hnews : ∀ j u, news[j]? = some u → w.cell? (ad.add j) = some u) (h1 : ∀ u ∈ news, u.oneCell' = true)
    (h63 : n + m ≤ maxLen) (hbytes : (n + m) * bytes ≤ 140737488355328) (hbase : base ≤ w.heap.size) (hm : 0 < m)
    (h : ∀ v' w', OwnAt w' base e size v' (n + m) (xs ++ news) → w.grownBy w' v.ownBlock → OwnAt w' base e size v n xs → (v'.ownBlock = v.ownBlock ∨ ∃ g, v'.ownBlock = some g ∧ w.heap.size ≤ g ∧ g < w'.heap.size) → wpList P ops Q rest (a.put o.dst v') w') :
    wpList P ops Q (o :: rest) a w :=
  wpList_plain hgd fun _ hK => wp_append_ownAt w s x t ho base e i z size bytes ht hi hz hsize hby hzs hsz v n xs hs hown ad m c news hx hl hnews h1 h63 hbytes hbase hm fun v' w' h2 h3 h5 h4 => hK _ _ (h v' w' h2 h3 h5 h4)
end

end Go.Proofs.YtclhbcicbnoohaaGreatDoor
