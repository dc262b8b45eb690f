/- Plain facts on tokens: letters, digits, runs, numbers, symbols, the next token, the tokens of a line. No program in sight. -/
import Derived.IntWalk
import Derived.Laws.RangeAny
import Derived.Laws.RangeString
import Derived.Shelf.GgClosure.StringsIndexFunc
namespace Go.Proofs.YtaniamfonkfekaaDoor.K

def letterN (n : Int) : Bool := decide (97 ≤ n ∧ n ≤ 122) || decide (n = 95)
def digitN (n : Int) : Bool := decide (48 ≤ n ∧ n ≤ 57)
def letter (c : UInt8) : Bool := letterN c.toNat
def digit (c : UInt8) : Bool := digitN c.toNat
def wordN (names : Bool) (n : Int) : Bool := digitN n || (names && letterN n)
def word (names : Bool) (c : UInt8) : Bool := wordN names c.toNat
theorem wordN_high (names : Bool) (n : Int) (h : 128 ≤ n) : wordN names n = false := by
  have h1 : digitN n = false := by simp [digitN]; omega
  have h2 : letterN n = false := by simp [letterN]; omega
  simp [wordN, h1, h2]
/-- The length of the run at the beginning. -/
def run (names : Bool) (l : List UInt8) : Nat := (l.takeWhile (word names)).length
theorem run_le (names : Bool) (l : List UInt8) : run names l ≤ l.length := by
  unfold run
  have := List.takeWhile_append_dropWhile (p := word names) (l := l)
  conv => rhs; rw [← this]
  rw [List.length_append]
  omega
theorem run_cons (names : Bool) (c : UInt8) (l : List UInt8) : run names (c :: l) = if word names c then run names l + 1 else 0 := by
  unfold run
  rw [List.takeWhile_cons]
  split <;> simp
theorem run_nil (names : Bool) : run names [] = 0 := rfl
/-- Behind some of the run. -/
theorem run_drop (names : Bool) : ∀ (l : List UInt8) (k : Nat), k ≤ run names l → run names (l.drop k) = run names l - k
  | [], k, h => by simp [run]
  | c :: l, 0, h => by simp
  | c :: l, k + 1, h => by
    rw [run_cons] at h ⊢
    split at h
    · rename_i hc
      rw [if_pos hc, List.drop_succ_cons, run_drop names l k (by omega)]
      omega
    · omega
theorem run_at (names : Bool) : ∀ (l : List UInt8) (h : run names l < l.length), word names l[run names l] = false
  | [], h => by simp [run] at h
  | c :: l, h => by
    by_cases hc : word names c = true
    · have e : run names (c :: l) = run names l + 1 := by rw [run_cons, if_pos hc]
      have h' : run names l < l.length := by rw [e] at h; simpa using h
      have := run_at names l h'
      simp only [e, List.getElem_cons_succ]
      exact this
    · have e : run names (c :: l) = 0 := by rw [run_cons, if_neg hc]
      simp only [e, List.getElem_cons_zero]
      simpa using hc
theorem runWithin (names : Bool) : ∀ (l : List UInt8) (k : Nat) (_ : k < run names l) (h' : k < l.length), word names l[k] = true
  | [], k, _, h' => by simp at h'
  | c :: l, k, h, h' => by
    rw [run_cons] at h
    split at h
    · rename_i hc
      cases k with
      | zero => exact hc
      | succ k => exact runWithin names l k (by omega) (by simpa using h')
    · omega
/-- The run is what it is: k bytes of the kind, and then none. -/
theorem run_eq (names : Bool) (l : List UInt8) (k : Nat) (hk : k ≤ l.length) (h1 : ∀ j (h : j < l.length), j < k → word names l[j] = true) (h2 : ∀ h : k < l.length, word names l[k] = false) : run names l = k := by
  rcases Nat.lt_trichotomy (run names l) k with h | h | h
  · have := run_at names l (by omega)
    rw [h1 _ (by omega) h] at this
    cases this
  · exact h
  · have hle := run_le names l
    have := runWithin names l k h (by omega)
    rw [h2 (by omega)] at this
    cases this

/-- strings.IndexFunc finds the run's end. -/
theorem idxFrom (names : Bool) (p : Nat → Bool) (hp : ∀ r, p r = !wordN names r) (s : ByteArray) : ∀ (f pos : Nat), s.size - pos ≤ f → pos ≤ s.size →
    Lib.idxFuncFrom p true s f pos = if run names (s.data.toList.drop pos) = s.size - pos then -1 else (pos : Int) + run names (s.data.toList.drop pos)
  | 0, pos, h, h2 => by
    have e : s.data.toList.drop pos = [] := List.drop_eq_nil_of_le (by simp [ByteArray.size_data] at *; omega)
    rw [e, run_nil, if_pos (by omega)]
    rfl
  | f + 1, pos, h, h2 => by
    unfold Lib.idxFuncFrom
    by_cases hlt : pos < s.size
    · rw [if_pos hlt]
      have hl : s.data.toList.length = s.size := by simp
      have e : s.data.toList.drop pos = s[pos] :: s.data.toList.drop (pos + 1) := by
        rw [List.drop_eq_getElem_cons (by omega)]
        congr 1
      rw [e, run_cons]
      by_cases hc : word names s[pos] = true
      · rw [if_pos hc]
        have hlo : s[pos].toNat < 128 := by
          rcases Nat.lt_or_ge s[pos].toNat 128 with h5 | h5
          · exact h5
          · rw [word, wordN_high _ _ (by omega)] at hc; cases hc
        have hlen := List.length_drop (i := pos + 1) (l := s.data.toList)
        rw [decode_ascii s pos hlt hlo, if_neg (by rw [hp]; unfold word at hc; rw [hc]; simp), idxFrom names p hp s f (pos + 1) (by omega) (by omega)]
        have hle := run_le names (s.data.toList.drop (pos + 1))
        simp only [List.length_drop, hl] at hle
        by_cases h6 : run names (s.data.toList.drop (pos + 1)) = s.size - (pos + 1)
        · rw [if_pos h6, if_pos (by omega)]
        · rw [if_neg h6, if_neg (by omega)]
          omega
      · rw [if_neg hc]
        have : p (Utf8.decode s pos).1 = true := by
          rw [hp]
          rcases Nat.lt_or_ge s[pos].toNat 128 with h5 | h5
          · rw [decode_ascii s pos hlt h5]
            unfold word at hc
            simpa using hc
          · rw [wordN_high _ _ (by have := (decode_high s pos hlt h5).1; omega)]
            rfl
        rw [if_pos this, if_neg (by omega)]
        simp
    · have e : s.data.toList.drop pos = [] := List.drop_eq_nil_of_le (by simp [ByteArray.size_data] at *; omega)
      rw [if_neg hlt, e, run_nil, if_pos (by omega)]
theorem idxFunc_run (names : Bool) (p : Nat → Bool) (hp : ∀ r, p r = !wordN names r) (s : ByteArray) :
    Lib.idxFunc p true s = if run names s.data.toList = s.size then -1 else (run names s.data.toList : Int) := by
  unfold Lib.idxFunc
  rw [idxFrom names p hp s _ 0 (by omega) (by omega)]
  simp

/-- The value of digits. -/
def val (l : List UInt8) : Nat := l.foldl (fun n c => 10 * n + (c.toNat - 48)) 0
theorem val_snoc (l : List UInt8) (c : UInt8) : val (l ++ [c]) = 10 * val l + (c.toNat - 48) := by simp [val, List.foldl_append]
theorem val_from (l : List UInt8) : ∀ n, n ≤ l.foldl (fun n c => 10 * n + (c.toNat - 48)) n := by
  induction l with
  | nil => intro n; exact Nat.le_refl _
  | cons c l ih =>
    intro n
    refine Nat.le_trans ?_ (ih _)
    show n ≤ 10 * n + (c.toNat - 48)
    omega
theorem val_take (l : List UInt8) (k : Nat) : val (l.take k) ≤ val l := by
  conv => rhs; rw [← List.take_append_drop k l]
  unfold val
  rw [List.foldl_append]
  exact val_from _ _
/-- What Number gives. -/
def numOk (l : List UInt8) : Bool := decide (l ≠ []) && decide (run false l = l.length) && !(decide (1 < l.length) && decide (l[0]? = some 48))
def number (l : List UInt8) : Nat × Int := if numOk l = true then (if 4294967295 < val l then (0, 3) else (val l, 0)) else (0, 4)

def syms2 : List (List UInt8) := [[124, 124], [38, 38], [61, 61], [33, 61], [60, 61], [62, 61], [60, 60], [62, 62]]
def chars : List UInt8 := [124, 94, 38, 60, 62, 43, 45, 42, 47, 37, 126, 33, 40, 41, 44, 61]
def isSym2 (l : List UInt8) : Bool := syms2.contains (l.take 2)
def isChar (c : UInt8) : Bool := chars.contains c
/-- The length of the longest symbol at the beginning. -/
def sym : List UInt8 → Nat
  | [] => 0
  | c :: l => if isSym2 (c :: l) then 2 else if isChar c then 1 else 0

/-- The token at the beginning: its kind, its length, the error. -/
def nxt : List UInt8 → Int × Nat × Int
  | [] => (0, 0, 4)
  | c :: l =>
    if letter c then (if 32 < run true (c :: l) then (0, 0, 2) else (1, run true (c :: l), 0))
    else if digit c then
      (if (number ((c :: l).take (run false (c :: l)))).2 ≠ 0 then (0, 0, (number ((c :: l).take (run false (c :: l)))).2)
       else if (((c :: l).drop (run false (c :: l))).head?.map letter).getD false then (0, 0, 4) else (2, run false (c :: l), 0))
    else if sym (c :: l) = 0 then (0, 0, 4) else (3, sym (c :: l), 0)

end Go.Proofs.YtaniamfonkfekaaDoor.K
