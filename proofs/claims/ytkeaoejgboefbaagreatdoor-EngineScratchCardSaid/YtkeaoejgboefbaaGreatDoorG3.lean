/- The texts Trg Trl Eni Rep Mpf Own Ha of the seat, joined. -/
import Derived.Test.YtkeaoejgboefbaaGreatDoorG2
import Derived.WalkKit
import Derived.ProofKit
import Derived.OpenShut
import Derived.ChangeOld
import Derived.Below
import Derived.WalkSpells
import Derived.WalkLawsBesides
import Derived.Deep.QuietTactic
import Derived.BigQuiet
import Derived.Lib.Hide
import Derived.Deep.Slices
import Derived.Maps.Own
import Derived.Maps.OwnSet
import Derived.Maps.Views
import Derived.Sort.KeysCollected
import Derived.ArgAppend
import Derived.Maps.AppendAt
/- Plain facts on trees: directories, lines, differences; what leads from one tree to another. No program in sight. -/
namespace Go.Proofs.YtkeaoejgboefbaaGreatDoor.T

def mkF (l : Bs) : ByteArray := ⟨l.toArray⟩
theorem mkF_data (l : Bs) : (mkF l).data.toList = l := by simp [mkF]
theorem mkF_eq (s : ByteArray) : mkF s.data.toList = s := by cases s; rfl
theorem mkF_inj {a b : Bs} (h : mkF a = mkF b) : a = b := by rw [← mkF_data a, h, mkF_data]
theorem file_eq {f g : File} (h1 : pth f = pth g) (h2 : dat f = dat g) : f = g := by
  obtain ⟨a, b⟩ := f
  obtain ⟨c, d⟩ := g
  have e1 : a = c := by rw [← mkF_eq a, ← mkF_eq c]; exact congrArg mkF h1
  have e2 : b = d := by rw [← mkF_eq b, ← mkF_eq d]; exact congrArg mkF h2
  rw [e1, e2]

/-! ### Directories -/
def cutF (d : Bs) (f : File) : Option File := if below (pth f) d then some (mkF ((pth f).drop (d.length + 1)), f.2) else none
def underT (t : Tr) (d : Bs) : Tr := if d = [] then t else t.filterMap (cutF d)
def inD (d : Bs) (f : File) : File := (mkF (d ++ 47 :: pth f), f.2)
def mountT (t : Tr) (d : Bs) : Tr := t.map (inD d)
theorem pth_inD (d : Bs) (f : File) : pth (inD d f) = d ++ 47 :: pth f := mkF_data _
theorem cut_inD (d : Bs) (f : File) : cutF d (inD d f) = some f := by
  unfold cutF
  rw [if_pos (below_iff.2 ⟨pth f, pth_inD d f⟩), pth_inD]
  have e : (d ++ 47 :: pth f).drop (d.length + 1) = pth f := by simp
  rw [e]
  unfold pth inD
  rw [mkF_eq]
theorem under_mount {t : Tr} {d : Bs} (hd : d ≠ []) : underT (mountT t d) d = t := by
  unfold underT mountT
  rw [if_neg hd, List.filterMap_map]
  have : cutF d ∘ inD d = some := funext fun f => cut_inD d f
  rw [this, List.filterMap_some]
theorem append_lt {d x y : Bs} : d ++ x < d ++ y ↔ x < y := by
  induction d with
  | nil => exact Iff.rfl
  | cons a d ih =>
    rw [List.cons_append, List.cons_append, List.cons_lt_cons_iff]
    constructor
    · rintro (h | ⟨_, h⟩)
      · exact absurd h (UInt8.lt_irrefl a)
      · exact ih.1 h
    · exact fun h => .inr ⟨rfl, ih.2 h⟩
theorem below_inD (d p q : Bs) : below (d ++ 47 :: p) (d ++ 47 :: q) = below p q := by
  rw [Bool.eq_iff_iff, below_iff, below_iff]
  constructor
  · rintro ⟨r, h⟩
    refine ⟨r, ?_⟩
    rw [List.append_assoc] at h
    have := List.append_cancel_left h
    simpa using this
  · rintro ⟨r, h⟩
    exact ⟨r, by rw [h]; simp⟩
theorem ok_mount {okP : ByteArray → Bool} {t : Tr} {d : Bs} (h : Ok okP t) (hp : ∀ f ∈ t, okP (inD d f).1 = true) : Ok okP (mountT t d) := by
  refine ⟨by unfold mountT; rw [List.length_map]; exact h.few, fun f hf => ?_, fun f hf => ?_, ?_, fun f hf g hg => ?_⟩
  · obtain ⟨x, hx, rfl⟩ := List.mem_map.1 hf; exact hp x hx
  · obtain ⟨x, hx, rfl⟩ := List.mem_map.1 hf; exact h.size x hx
  · unfold mountT
    rw [List.pairwise_map]
    refine h.sorted.imp fun {x y} hxy => ?_
    rw [pth_inD, pth_inD]
    exact append_lt.2 (List.cons_lt_cons_iff.2 (.inr ⟨rfl, hxy⟩))
  · obtain ⟨x, hx, rfl⟩ := List.mem_map.1 hf
    obtain ⟨y, hy, rfl⟩ := List.mem_map.1 hg
    rw [pth_inD, pth_inD, below_inD]
    exact h.apart x hx y hy

/-! ### What the functions give: a tree and an error -/
section
variable (okP : ByteArray → Bool)
def clash (t : Tr) (f : File) : Bool := t.any fun g => below (pth f) (pth g) || below (pth g) (pth f)
def putE (t : Tr) (f : File) : Tr × Int :=
  if checkE okP t ≠ 0 then ([], 1) else if okP f.1 = false then ([], 2) else if 65536 < f.2.size then ([], 10) else if clash t f then ([], 6) else if 64 < (insT t f).length then ([], 10) else (insT t f, 0)
def dropE (t : Tr) (p : Bs) : Tr × Int := if checkE okP t ≠ 0 then ([], 1) else if findT t p = none then ([], 7) else (dropT t p, 0)
def underE (t : Tr) (d : ByteArray) : Tr := if checkE okP t ≠ 0 then [] else if d.size = 0 then t else if okP d then underT t d.data.toList else []
def mountE (t : Tr) (d : ByteArray) : Tr × Int :=
  if checkE okP t ≠ 0 then ([], 1) else if okP d = false then ([], 2) else if t.all (fun f => okP (inD d.data.toList f).1) then (mountT t d.data.toList, 0) else ([], 2)
theorem ok_ins {t : Tr} {f : File} (h : Ok okP t) (h1 : okP f.1 = true) (h2 : f.2.size ≤ 65536) (h3 : clash t f = false) (h4 : (insT t f).length ≤ 64) : Ok okP (insT t f) := by
  have hm : ∀ g, g ∈ insT t f → g = f ∨ g ∈ t := by
    intro g hg
    unfold insT at hg
    rcases List.mem_append.1 hg with h5 | h5
    · exact .inr (List.mem_filter.1 h5).1
    · rcases List.mem_cons.1 h5 with h6 | h6
      · exact .inl h6
      · exact .inr (List.mem_filter.1 h6).1
  have hcl : ∀ g ∈ t, below (pth f) (pth g) = false ∧ below (pth g) (pth f) = false := by
    intro g hg
    have := List.any_eq_false.1 h3 g hg
    simpa using this
  refine ⟨h4, fun g hg => ?_, fun g hg => ?_, ?_, fun g hg k hk => ?_⟩
  · rcases hm g hg with rfl | h5
    · exact h1
    · exact h.path g h5
  · rcases hm g hg with rfl | h5
    · exact h2
    · exact h.size g h5
  · unfold insT
    rw [List.pairwise_append]
    refine ⟨h.sorted.filter _, List.pairwise_cons.2 ⟨fun g hg => of_decide_eq_true (List.mem_filter.1 hg).2, h.sorted.filter _⟩, fun g hg k hk => ?_⟩
    have h5 : pth g < pth f := of_decide_eq_true (List.mem_filter.1 hg).2
    rcases List.mem_cons.1 hk with h6 | h6
    · subst h6; exact h5
    · exact lt_trans h5 (of_decide_eq_true (List.mem_filter.1 h6).2)
  · rcases hm g hg with rfl | h5 <;> rcases hm k hk with rfl | h6
    · exact below_self _
    · exact (hcl k h6).1
    · exact (hcl g h5).2
    · exact h.apart g h5 k h6
theorem ok_sub {t u : Tr} (h : Ok okP t) (hs : u.Sublist t) : Ok okP u :=
  ⟨Nat.le_trans hs.length_le h.few, fun f hf => h.path f (hs.subset hf), fun f hf => h.size f (hs.subset hf), h.sorted.sublist hs, fun f hf g hg => h.apart f (hs.subset hf) g (hs.subset hg)⟩
theorem ok_drop {t : Tr} (h : Ok okP t) (p : Bs) : Ok okP (dropT t p) := ok_sub okP h List.filter_sublist
theorem putE_ok {t : Tr} {f : File} (h : (putE okP t f).2 = 0) : Ok okP t ∧ okP f.1 = true ∧ f.2.size ≤ 65536 ∧ clash t f = false ∧ (insT t f).length ≤ 64 ∧ (putE okP t f).1 = insT t f := by
  unfold putE at h ⊢
  by_cases h0 : checkE okP t ≠ 0
  · rw [if_pos h0] at h; cases h
  rw [if_neg h0] at h ⊢
  by_cases h1 : okP f.1 = false
  · rw [if_pos h1] at h; cases h
  rw [if_neg h1] at h ⊢
  by_cases h2 : 65536 < f.2.size
  · rw [if_pos h2] at h; cases h
  rw [if_neg h2] at h ⊢
  by_cases h3 : clash t f = true
  · rw [if_pos h3] at h; cases h
  rw [if_neg h3] at h ⊢
  by_cases h4 : 64 < (insT t f).length
  · rw [if_pos h4] at h; cases h
  rw [if_neg h4]
  exact ⟨(ok_iff okP).1 (Classical.not_not.1 h0), by simpa using h1, by omega, by simpa using h3, by omega, rfl⟩
theorem putE_is {t : Tr} {f : File} (h : Ok okP t) (h1 : okP f.1 = true) (h2 : f.2.size ≤ 65536) (h3 : clash t f = false) (h4 : (insT t f).length ≤ 64) : putE okP t f = (insT t f, 0) := by
  unfold putE
  rw [if_neg (Classical.not_not.2 ((ok_iff okP).2 h)), if_neg (by rw [h1]; exact Bool.noConfusion), if_neg (by omega), if_neg (by rw [h3]; exact Bool.noConfusion), if_neg (by omega)]
end
theorem find_ins (t : Tr) (f : File) : findT (insT t f) (pth f) = some f := by
  unfold findT insT
  rw [List.find?_append, List.find?_cons_of_pos (by simp)]
  have : (t.filter fun g => decide (pth g < pth f)).find? (fun g => decide (pth g = pth f)) = none := by
    rw [List.find?_eq_none]
    intro g hg
    have h1 : pth g < pth f := of_decide_eq_true (List.mem_filter.1 hg).2
    simp only [decide_eq_true_eq]
    exact fun e => lt_irrefl _ (e ▸ h1)
  rw [this]
  rfl
theorem drop_ins {t : Tr} {f : File} (hs : Srt t) (h : findT t (pth f) = none) : dropT (insT t f) (pth f) = t := by
  have hn : ∀ g ∈ t, pth g ≠ pth f := by
    intro g hg e
    have := List.find?_eq_none.1 h g hg
    simp [e] at this
  unfold dropT insT
  rw [List.filter_append, List.filter_cons, if_neg (by simp), List.filter_filter, List.filter_filter]
  have e1 : (t.filter fun g => decide (pth g ≠ pth f) && decide (pth g < pth f)) = t.filter fun g => decide (pth g < pth f) :=
    List.filter_congr fun g hg => by rw [decide_eq_true (hn g hg), Bool.true_and]
  have e2 : (t.filter fun g => decide (pth g ≠ pth f) && decide (pth f < pth g)) = t.filter fun g => decide (pth f < pth g) :=
    List.filter_congr fun g hg => by rw [decide_eq_true (hn g hg), Bool.true_and]
  rw [e1, e2]
  clear e1 e2 h
  induction t with
  | nil => rfl
  | cons x t ih =>
    obtain ⟨h1, h2⟩ := List.pairwise_cons.1 hs
    have ih := ih h2 fun g hg => hn g (List.mem_cons_of_mem _ hg)
    rw [List.filter_cons, List.filter_cons]
    rcases lt_ways (pth x) (pth f) with h3 | h3 | h3
    · rw [if_pos (decide_eq_true h3), if_neg (by simp only [decide_eq_true_eq]; exact fun h4 => lt_irrefl _ (lt_trans h3 h4)), List.cons_append, ih]
    · exact absurd h3 (hn x List.mem_cons_self)
    · have h5 : ∀ g ∈ t, pth f < pth g := fun g hg => lt_trans h3 (h1 g hg)
      rw [if_neg (by simp only [decide_eq_true_eq]; exact fun h4 => lt_irrefl _ (lt_trans h3 h4)), if_pos (decide_eq_true h3), filter_no fun g hg => decide_eq_false fun h4 => lt_irrefl _ (lt_trans h4 (h5 g hg)), filter_all fun g hg => decide_eq_true (h5 g hg)]
      rfl

/-! ### Lines -/
def joinL : List Bs → Bs
  | [] => []
  | [x] => x
  | x :: y :: l => x ++ 10 :: joinL (y :: l)
def sizeL (l : List Bs) : Nat := (l.map List.length).sum
theorem joinL_length : ∀ (l : List Bs), l ≠ [] → (joinL l).length + 1 = sizeL l + l.length
  | [], h => absurd rfl h
  | [x], _ => by simp [joinL, sizeL]
  | x :: y :: l, _ => by
    have ih := joinL_length (y :: l) (by simp)
    simp only [joinL, List.length_append, List.length_cons, sizeL, List.map_cons, List.sum_cons] at *
    omega
theorem segs_join : ∀ (l : List Bs), l ≠ [] → (∀ x ∈ l, ∀ b ∈ x, b ≠ 10) → Seg.segs 10 (joinL l) = l
  | [], h, _ => absurd rfl h
  | [x], _, h => Seg.segs_stop 10 x (h x List.mem_cons_self)
  | x :: y :: l, _, h => by
    have ih := segs_join (y :: l) (by simp) fun z hz => h z (List.mem_cons_of_mem _ hz)
    have key : ∀ (x : Bs), (∀ b ∈ x, b ≠ 10) → ∀ r, Seg.segs 10 (x ++ 10 :: r) = x :: Seg.segs 10 r := by
      intro x
      induction x with
      | nil => intro _ r; simp [Seg.segs]
      | cons a x ihx =>
        intro hx r
        rw [List.cons_append, Seg.segs, if_neg (hx a List.mem_cons_self), ihx fun b hb => hx b (List.mem_cons_of_mem _ hb)]
    rw [joinL, key x (h x List.mem_cons_self), ih]
theorem segs_clean (l : Bs) : ∀ x ∈ Seg.segs 10 l, ∀ b ∈ x, b ≠ 10 := by
  induction l with
  | nil => intro x hx; simp [Seg.segs] at hx; subst hx; intro b hb; cases hb
  | cons a l ih =>
    intro x hx
    rw [Seg.segs] at hx
    by_cases h : a = 10
    · rw [if_pos h] at hx
      rcases List.mem_cons.1 hx with rfl | hx
      · intro b hb; cases hb
      · exact ih x hx
    · rw [if_neg h] at hx
      cases hs : Seg.segs 10 l with
      | nil => exact absurd hs (Seg.segs_ne 10 l)
      | cons y r =>
        rw [hs] at hx ih
        simp only at hx
        rcases List.mem_cons.1 hx with rfl | hx
        · intro b hb
          rcases List.mem_cons.1 hb with rfl | hb
          · exact h
          · exact ih y List.mem_cons_self b hb
        · exact ih x (List.mem_cons_of_mem _ hx)
theorem join_segs (l : Bs) : joinL (Seg.segs 10 l) = l := by
  induction l with
  | nil => rfl
  | cons a l ih =>
    rw [Seg.segs]
    by_cases h : a = 10
    · rw [if_pos h]
      cases hs : Seg.segs 10 l with
      | nil => exact absurd hs (Seg.segs_ne 10 l)
      | cons y r =>
        rw [hs] at ih
        rw [joinL, ih, h]
        rfl
    · rw [if_neg h]
      cases hs : Seg.segs 10 l with
      | nil => exact absurd hs (Seg.segs_ne 10 l)
      | cons y r =>
        rw [hs] at ih
        simp only
        cases r with
        | nil => rw [joinL] at ih ⊢; rw [ih]
        | cons z r => rw [joinL] at ih ⊢; rw [List.cons_append, ih]

/-! ### Differences -/
/-- A change: its path, its kind (1 added, 2 removed, 3 changed), the old and the new identifier. -/
abbrev Ch := ByteArray × (Int × (ByteArray × ByteArray))
section
variable (sid : Bs → ByteArray)
def remC (f : File) : Ch := (f.1, 2, sid (dat f), ⟨#[]⟩)
def addC (f : File) : Ch := (f.1, 1, ⟨#[]⟩, sid (dat f))
def chgC (f g : File) : Ch := (f.1, 3, sid (dat f), sid (dat g))
def diffT : Tr → Tr → List Ch
  | [], [] => []
  | x :: a, [] => remC sid x :: diffT a []
  | [], y :: b => addC sid y :: diffT [] b
  | x :: a, y :: b => if pth x < pth y then remC sid x :: diffT a (y :: b) else if pth y < pth x then addC sid y :: diffT (x :: a) b else (if dat x = dat y then [] else [chgC sid x y]) ++ diffT a b
termination_by a b => a.length + b.length
end

end Go.Proofs.YtkeaoejgboefbaaGreatDoor.T

/- Plain facts on differences: dropping what is removed and putting what is added or changed leads from one tree to the other. No program in sight. -/
namespace Go.Proofs.YtkeaoejgboefbaaGreatDoor.T

theorem srt_inj {t : Tr} (h : Srt t) {f g : File} (hf : f ∈ t) (hg : g ∈ t) (he : pth f = pth g) : f = g := by
  obtain ⟨i, hi, rfl⟩ := List.getElem_of_mem hf
  obtain ⟨j, hj, rfl⟩ := List.getElem_of_mem hg
  rcases Nat.lt_trichotomy i j with h1 | h1 | h1
  · exact absurd (srt_lt h hi hj h1) (by rw [he]; exact lt_irrefl _)
  · subst h1; rfl
  · exact absurd (srt_lt h hj hi h1) (by rw [he]; exact lt_irrefl _)
theorem mem_find {t : Tr} (h : Srt t) {p : Bs} {f : File} : findT t p = some f ↔ f ∈ t ∧ pth f = p := by
  constructor
  · intro h1
    unfold findT at h1
    exact ⟨List.mem_of_find?_eq_some h1, by simpa using List.find?_some h1⟩
  · rintro ⟨h1, h2⟩
    cases hf : findT t p with
    | none =>
      have := List.find?_eq_none.1 hf f h1
      simp [h2] at this
    | some g =>
      unfold findT at hf
      have h3 := List.mem_of_find?_eq_some hf
      have h4 : pth g = p := by simpa using List.find?_some hf
      rw [srt_inj h h3 h1 (by rw [h4, h2])]
theorem find_no {t : Tr} {p : Bs} : findT t p = none ↔ ∀ f ∈ t, pth f ≠ p := by
  unfold findT
  rw [List.find?_eq_none]
  simp
theorem sorted_ext : ∀ {l m : Tr}, Srt l → Srt m → (∀ g, g ∈ l ↔ g ∈ m) → l = m
  | [], [], _, _, _ => rfl
  | [], y :: m, _, _, h => absurd ((h y).2 List.mem_cons_self) (by simp)
  | x :: l, [], _, _, h => absurd ((h x).1 List.mem_cons_self) (by simp)
  | x :: l, y :: m, hl, hm, h => by
    obtain ⟨l1, l2⟩ := List.pairwise_cons.1 hl
    obtain ⟨m1, m2⟩ := List.pairwise_cons.1 hm
    have e : x = y := by
      rcases List.mem_cons.1 ((h x).1 List.mem_cons_self) with h1 | h1
      · exact h1
      · rcases List.mem_cons.1 ((h y).2 List.mem_cons_self) with h2 | h2
        · exact h2.symm
        · exact absurd (lt_trans (l1 y h2) (m1 x h1)) (lt_irrefl _)
    subst e
    rw [sorted_ext l2 m2 fun g => ?_]
    constructor
    · intro hg
      rcases List.mem_cons.1 ((h g).1 (List.mem_cons_of_mem _ hg)) with h1 | h1
      · subst h1; exact absurd (l1 g hg) (lt_irrefl _)
      · exact h1
    · intro hg
      rcases List.mem_cons.1 ((h g).2 (List.mem_cons_of_mem _ hg)) with h1 | h1
      · subst h1; exact absurd (m1 g hg) (lt_irrefl _)
      · exact h1
theorem mem_ins {t : Tr} {f g : File} : g ∈ insT t f ↔ g = f ∨ (g ∈ t ∧ pth g ≠ pth f) := by
  unfold insT
  rw [List.mem_append, List.mem_cons, List.mem_filter, List.mem_filter, decide_eq_true_eq, decide_eq_true_eq]
  constructor
  · rintro (⟨h1, h2⟩ | h1 | ⟨h1, h2⟩)
    · exact .inr ⟨h1, fun e => lt_irrefl _ (e ▸ h2)⟩
    · exact .inl h1
    · exact .inr ⟨h1, fun e => lt_irrefl _ (e ▸ h2)⟩
  · rintro (h1 | ⟨h1, h2⟩)
    · exact .inr (.inl h1)
    · rcases lt_ways (pth g) (pth f) with h3 | h3 | h3
      · exact .inl ⟨h1, h3⟩
      · exact absurd h3 h2
      · exact .inr (.inr ⟨h1, h3⟩)
theorem srt_ins {t : Tr} (h : Srt t) (f : File) : Srt (insT t f) := by
  unfold insT
  refine List.pairwise_append.2 ⟨h.filter _, List.pairwise_cons.2 ⟨fun g hg => of_decide_eq_true (List.mem_filter.1 hg).2, h.filter _⟩, fun g hg k hk => ?_⟩
  have h5 : pth g < pth f := of_decide_eq_true (List.mem_filter.1 hg).2
  rcases List.mem_cons.1 hk with h6 | h6
  · subst h6; exact h5
  · exact lt_trans h5 (of_decide_eq_true (List.mem_filter.1 h6).2)
theorem mem_drop' {t : Tr} {p : Bs} {g : File} : g ∈ dropT t p ↔ g ∈ t ∧ pth g ≠ p := by
  unfold dropT
  rw [List.mem_filter, decide_eq_true_eq]
/-- The paths of t are paths of b. -/
def Within (b t : Tr) : Prop := ∀ g ∈ t, ∃ y ∈ b, pth g = pth y
theorem within_length : ∀ {b t : Tr}, Srt b → Srt t → Within b t → t.length ≤ b.length
  | _, [], _, _, _ => Nat.zero_le _
  | [], x :: t, _, _, h => by
    obtain ⟨y, hy, _⟩ := h x List.mem_cons_self
    cases hy
  | y :: b, x :: t, hb, ht, h => by
    obtain ⟨b1, b2⟩ := List.pairwise_cons.1 hb
    obtain ⟨t1, t2⟩ := List.pairwise_cons.1 ht
    have : t.length ≤ b.length := by
      refine within_length b2 t2 fun g hg => ?_
      obtain ⟨z, hz, e⟩ := h g (List.mem_cons_of_mem _ hg)
      rcases List.mem_cons.1 hz with h1 | h1
      · subst h1
        obtain ⟨z', hz', e'⟩ := h x List.mem_cons_self
        have hx : pth x < pth g := t1 g hg
        rw [e, e'] at hx
        rcases List.mem_cons.1 hz' with h2 | h2
        · subst h2; exact absurd hx (lt_irrefl _)
        · exact absurd (lt_trans hx (b1 z' h2)) (lt_irrefl _)
      · exact ⟨z, h1, e⟩
    simp only [List.length_cons]
    omega
section
variable (okP : ByteArray → Bool)
/-- A tree on the way to b. -/
structure Way (b t : Tr) : Prop where
  srt : Srt t
  path : ∀ f ∈ t, okP f.1 = true
  size : ∀ f ∈ t, f.2.size ≤ 65536
  within : Within b t
theorem Way.ok {b t : Tr} (hb : Ok okP b) (h : Way okP b t) : Ok okP t := by
  refine ⟨Nat.le_trans (within_length hb.sorted h.srt h.within) hb.few, h.path, h.size, h.srt, fun f hf g hg => ?_⟩
  obtain ⟨y, hy, e⟩ := h.within f hf
  obtain ⟨z, hz, e'⟩ := h.within g hg
  rw [e, e']
  exact hb.apart y hy z hz
theorem Way.ins {b t : Tr} (hb : Ok okP b) (h : Way okP b t) {y : File} (hy : y ∈ b) : Way okP b (insT t y) ∧ putE okP t y = (insT t y, 0) := by
  have hw : Way okP b (insT t y) := by
    refine ⟨srt_ins h.srt y, fun f hf => ?_, fun f hf => ?_, fun f hf => ?_⟩
    all_goals rcases mem_ins.1 hf with h1 | h1
    · subst h1; exact hb.path f hy
    · exact h.path f h1.1
    · subst h1; exact hb.size f hy
    · exact h.size f h1.1
    · exact ⟨y, hy, by rw [h1]⟩
    · exact h.within f h1.1
  refine ⟨hw, putE_is okP (h.ok okP hb) (hb.path y hy) (hb.size y hy) ?_ (hw.ok okP hb).few⟩
  refine List.any_eq_false.2 fun g hg => ?_
  obtain ⟨z, hz, e⟩ := h.within g hg
  rw [e, hb.apart y hy z hz, hb.apart z hz y hy]
  simp
end

/-! ### The changes -/
section
variable (sid : Bs → ByteArray)
def gone (a b : Tr) : List Bs := (a.filter fun x => (findT b (pth x)).isNone).map pth
def came (a b : Tr) : Tr := b.filter fun y => decide (findT a (pth y) ≠ some y)
def isRem (c : Ch) : Bool := decide (c.2.1 = 2)
def cpth (c : Ch) : Bs := c.1.data.toList
theorem find_lt {t : Tr} {p : Bs} (h : ∀ f ∈ t, p < pth f) : findT t p = none := find_no.2 fun f hf e => lt_irrefl p (by have := h f hf; rwa [e] at this)
theorem find_skip {x : File} {t : Tr} {p : Bs} (h : pth x ≠ p) : findT (x :: t) p = findT t p := by
  unfold findT
  rw [List.find?_cons_of_neg (by simpa using h)]
theorem filter_skip_a {x : File} {a b : Tr} (h : ∀ y ∈ b, pth x ≠ pth y) : (b.filter fun y => decide (findT (x :: a) (pth y) ≠ some y)) = b.filter fun y => decide (findT a (pth y) ≠ some y) :=
  List.filter_congr fun y hy => by rw [find_skip (h y hy)]
theorem filter_skip_b {y : File} {a b : Tr} (h : ∀ x ∈ a, pth y ≠ pth x) : (a.filter fun x => (findT (y :: b) (pth x)).isNone) = a.filter fun x => (findT b (pth x)).isNone :=
  List.filter_congr fun x hx => by rw [find_skip (h x hx)]
theorem diff_parts : ∀ {a b : Tr}, Srt a → Srt b → ((diffT sid a b).filter isRem).map cpth = gone a b ∧ ((diffT sid a b).filter fun c => !isRem c).map cpth = (came a b).map pth
  | [], [], _, _ => by unfold diffT; exact ⟨rfl, rfl⟩
  | x :: a, [], ha, hb => by
    obtain ⟨_, a2⟩ := List.pairwise_cons.1 ha
    obtain ⟨h1, h2⟩ := diff_parts a2 hb
    unfold diffT
    refine ⟨?_, ?_⟩
    · rw [List.filter_cons, if_pos (show isRem (remC sid x) = true from rfl), List.map_cons, h1]
      unfold gone
      rw [List.filter_cons, if_pos (show (findT [] (pth x)).isNone = true from rfl)]
      rfl
    · rw [List.filter_cons, if_neg (by simp [isRem, remC]), h2]
      rfl
  | [], y :: b, ha, hb => by
    obtain ⟨_, b2⟩ := List.pairwise_cons.1 hb
    obtain ⟨h1, h2⟩ := diff_parts ha b2
    unfold diffT
    refine ⟨?_, ?_⟩
    · rw [List.filter_cons, if_neg (by simp [isRem, addC]), h1]
      rfl
    · rw [List.filter_cons, if_pos (by simp [isRem, addC]), List.map_cons, h2]
      unfold came
      rw [List.filter_cons, if_pos (by simp [findT])]
      rfl
  | x :: a, y :: b, ha, hb => by
    obtain ⟨a1, a2⟩ := List.pairwise_cons.1 ha
    obtain ⟨b1, b2⟩ := List.pairwise_cons.1 hb
    unfold diffT
    by_cases hxy : pth x < pth y
    · rw [if_pos hxy]
      obtain ⟨h1, h2⟩ := diff_parts a2 hb
      have hxb : ∀ z ∈ y :: b, pth x < pth z := fun z hz => by
        rcases List.mem_cons.1 hz with h | h
        · rw [h]; exact hxy
        · exact lt_trans hxy (b1 z h)
      refine ⟨?_, ?_⟩
      · rw [List.filter_cons, if_pos (show isRem (remC sid x) = true from rfl), List.map_cons, h1]
        unfold gone
        rw [List.filter_cons, if_pos (by rw [find_lt hxb]; rfl)]
        rfl
      · rw [List.filter_cons, if_neg (by simp [isRem, remC]), h2]
        unfold came
        rw [filter_skip_a fun z hz e => lt_irrefl _ (e ▸ hxb z hz)]
    · rw [if_neg hxy]
      by_cases hyx : pth y < pth x
      · rw [if_pos hyx]
        obtain ⟨h1, h2⟩ := diff_parts ha b2
        have hya : ∀ z ∈ x :: a, pth y < pth z := fun z hz => by
          rcases List.mem_cons.1 hz with h | h
          · rw [h]; exact hyx
          · exact lt_trans hyx (a1 z h)
        refine ⟨?_, ?_⟩
        · rw [List.filter_cons, if_neg (by simp [isRem, addC]), h1]
          unfold gone
          rw [filter_skip_b fun z hz e => lt_irrefl _ (e ▸ hya z hz)]
        · rw [List.filter_cons, if_pos (by simp [isRem, addC]), List.map_cons, h2]
          unfold came
          rw [List.filter_cons, if_pos (by rw [find_lt hya]; simp)]
          rfl
      · rw [if_neg hyx]
        have he : pth x = pth y := by
          rcases lt_ways (pth x) (pth y) with h | h | h
          · exact absurd h hxy
          · exact h
          · exact absurd h hyx
        obtain ⟨h1, h2⟩ := diff_parts a2 b2
        have hya : ∀ z ∈ a, pth y ≠ pth z := fun z hz e => lt_irrefl _ (by have := a1 z hz; rwa [he, e] at this)
        have hxb : ∀ z ∈ b, pth x ≠ pth z := fun z hz e => lt_irrefl _ (by have := b1 z hz; rwa [← he, e] at this)
        have hg : gone (x :: a) (y :: b) = gone a b := by
          unfold gone
          rw [List.filter_cons, if_neg (by unfold findT; rw [List.find?_cons_of_pos (by simp [he])]; simp), filter_skip_b hya]
        have hfx : findT (x :: a) (pth y) = some x := by unfold findT; rw [List.find?_cons_of_pos (by simp [he])]
        rw [List.filter_append, List.filter_append, List.map_append, List.map_append, h1, h2, hg]
        unfold came
        rw [List.filter_cons, filter_skip_a hxb, hfx]
        by_cases hd : dat x = dat y
        · have hxe : x = y := file_eq he hd
          rw [if_pos hd, if_neg (by simp [hxe])]
          exact ⟨rfl, rfl⟩
        · have hxe : x ≠ y := fun e => hd (by rw [e])
          rw [if_neg hd, if_pos (by simp [hxe])]
          refine ⟨by simp [isRem, chgC], ?_⟩
          rw [List.filter_cons, if_pos (by simp [isRem, chgC])]
          show cpth (chgC sid x y) :: _ = _
          rw [List.map_cons, ← he]
          rfl
termination_by a b => a.length + b.length
theorem diff_self : ∀ (a : Tr), diffT sid a a = []
  | [] => by unfold diffT; rfl
  | x :: a => by
    unfold diffT
    rw [if_neg (lt_irrefl _), if_neg (lt_irrefl _), if_pos rfl, diff_self a]
    rfl
end
/-- Behind the drops. -/
def left (a : Tr) (ps : List Bs) : Tr := a.filter fun x => decide (pth x ∉ ps)
theorem left_nil (a : Tr) : left a [] = a := filter_all fun _ _ => by simp
theorem left_snoc (a : Tr) (ps : List Bs) (p : Bs) : left a (ps ++ [p]) = dropT (left a ps) p := by
  unfold left dropT
  rw [List.filter_filter]
  refine List.filter_congr fun x _ => ?_
  by_cases h1 : pth x ∈ ps <;> by_cases h2 : pth x = p <;> simp [h1, h2]
theorem left_find {a : Tr} {ps : List Bs} {p : Bs} (h1 : p ∉ ps) (h2 : ∃ x ∈ a, pth x = p) : findT (left a ps) p ≠ none := by
  obtain ⟨x, hx, e⟩ := h2
  intro h
  exact find_no.1 h x (List.mem_filter.2 ⟨hx, by rw [e]; exact decide_eq_true h1⟩) e
theorem gone_nodup {a b : Tr} (h : Srt a) : (gone a b).Pairwise (· ≠ ·) := by
  unfold gone
  rw [List.pairwise_map]
  exact (h.filter _).imp fun {x y} (h1 : pth x < pth y) (e : pth x = pth y) => lt_irrefl (pth y) (by rwa [e] at h1)
theorem gone_mem {a b : Tr} {p : Bs} (h : p ∈ gone a b) : ∃ x ∈ a, pth x = p := by
  obtain ⟨x, hx, e⟩ := List.mem_map.1 h
  exact ⟨x, (List.mem_filter.1 hx).1, e⟩
/-- Behind all drops, the tree is on its way. -/
theorem left_way {okP : ByteArray → Bool} {a b : Tr} (ha : Ok okP a) : Way okP b (left a (gone a b)) := by
  refine ⟨ha.sorted.filter _, fun f hf => ha.path f (List.mem_filter.1 hf).1, fun f hf => ha.size f (List.mem_filter.1 hf).1, fun f hf => ?_⟩
  obtain ⟨h1, h2⟩ := List.mem_filter.1 hf
  have h2 := of_decide_eq_true h2
  cases hb : findT b (pth f) with
  | none => exact absurd (List.mem_map.2 ⟨f, List.mem_filter.2 ⟨h1, by rw [hb]; rfl⟩, rfl⟩) h2
  | some y =>
    unfold findT at hb
    exact ⟨y, List.mem_of_find?_eq_some hb, by have := List.find?_some hb; simp at this; exact this.symm⟩
/-- Behind the puts. -/
def laid (t : Tr) (ys : Tr) : Tr := ys.foldl insT t
theorem laid_snoc (t ys : Tr) (y : File) : laid t (ys ++ [y]) = insT (laid t ys) y := by unfold laid; rw [List.foldl_append]; rfl
theorem laid_mem {t : Tr} : ∀ {ys : Tr}, Srt ys → ∀ {g : File}, g ∈ laid t ys ↔ g ∈ ys ∨ (g ∈ t ∧ ∀ y ∈ ys, pth g ≠ pth y) := by
  intro ys
  induction ys generalizing t with
  | nil => intro _ g; simp [laid]
  | cons y ys ih =>
    intro hs g
    obtain ⟨s1, s2⟩ := List.pairwise_cons.1 hs
    have := ih (t := insT t y) s2 (g := g)
    unfold laid at this ⊢
    rw [List.foldl_cons, this, mem_ins]
    constructor
    · rintro (h | ⟨h | ⟨h1, h2⟩, h3⟩)
      · exact .inl (List.mem_cons_of_mem _ h)
      · exact .inl (by rw [h]; exact List.mem_cons_self)
      · refine .inr ⟨h1, fun z hz => ?_⟩
        rcases List.mem_cons.1 hz with h4 | h4
        · rw [h4]; exact h2
        · exact h3 z h4
    · rintro (h | ⟨h1, h2⟩)
      · rcases List.mem_cons.1 h with h4 | h4
        · exact .inr ⟨.inl h4, fun z hz e => lt_irrefl _ (by have := s1 z hz; rwa [← e, h4] at this)⟩
        · exact .inl h4
      · exact .inr ⟨.inr ⟨h1, h2 y List.mem_cons_self⟩, fun z hz => h2 z (List.mem_cons_of_mem _ hz)⟩
theorem srt_laid {t : Tr} (h : Srt t) : ∀ ys : Tr, Srt (laid t ys) := by
  intro ys
  induction ys generalizing t with
  | nil => exact h
  | cons y ys ih => exact ih (srt_ins h y)
theorem laid_end {a b : Tr} (ha : Srt a) (hb : Srt b) : laid (left a (gone a b)) (came a b) = b := by
  have hs : Srt (came a b) := hb.filter _
  refine sorted_ext (srt_laid (ha.filter _) _) hb fun g => ?_
  rw [laid_mem hs]
  constructor
  · rintro (h | ⟨h1, h2⟩)
    · exact (List.mem_filter.1 h).1
    · obtain ⟨h3, h4⟩ := List.mem_filter.1 h1
      have h4 := of_decide_eq_true h4
      cases hf : findT b (pth g) with
      | none => exact absurd (List.mem_map.2 ⟨g, List.mem_filter.2 ⟨h3, by rw [hf]; rfl⟩, rfl⟩) h4
      | some y =>
        obtain ⟨h5, h6⟩ := (mem_find hb).1 hf
        by_cases hy : findT a (pth y) = some y
        · obtain ⟨h7, _⟩ := (mem_find ha).1 hy
          rw [srt_inj ha h3 h7 h6.symm]
          exact h5
        · exact absurd h6.symm (h2 y (List.mem_filter.2 ⟨h5, decide_eq_true hy⟩))
  · intro h
    by_cases hy : findT a (pth g) = some g
    · obtain ⟨h7, _⟩ := (mem_find ha).1 hy
      refine .inr ⟨List.mem_filter.2 ⟨h7, decide_eq_true fun hm => ?_⟩, fun y hym e => ?_⟩
      · obtain ⟨x, hx, e⟩ := List.mem_map.1 hm
        obtain ⟨h8, h9⟩ := List.mem_filter.1 hx
        rw [e, (mem_find hb).2 ⟨h, rfl⟩] at h9
        cases h9
      · obtain ⟨h8, h9⟩ := List.mem_filter.1 hym
        have := srt_inj hb h h8 e
        subst this
        exact (of_decide_eq_true h9) hy
    · exact .inl (List.mem_filter.2 ⟨h, decide_eq_true hy⟩)

end Go.Proofs.YtkeaoejgboefbaaGreatDoor.T

/- The inputs of an engine, as a sorted list. No program in sight. -/
namespace Go.Proofs.YtkeaoejgboefbaaGreatDoor.E
open Go.Proofs.YtkeaoejgboefbaaGreatDoor

/-- Only inputs have values, none too large. -/
def Sup (e : En) : Prop := ∀ n s, e.vals n = some s → inputB e n = true ∧ s.size ≤ 65536
theorem sup_fresh (cs : List Cell) : Sup (fresh cs) := fun _ _ h => by cases h
theorem change_cells (e : En) (n : Nm) (v : V) : (change e n v).cells = e.cells := by unfold change; split <;> rfl
theorem change_vals (e : En) (n : Nm) (v : V) : (change e n v).vals = putV e.vals n v := by
  unfold change
  split
  · rename_i h
    funext x
    unfold putV
    split
    · rename_i hx; rw [hx, h]
    · rfl
  · rfl
theorem sup_change {e : En} (h : Sup e) {n : Nm} {v : V} (h1 : inputB e n = true) (h2 : ∀ s, v = some s → s.size ≤ 65536) : Sup (change e n v) := by
  intro x s hx
  rw [change_vals] at hx
  rw [input_cells (change_cells e n v)]
  unfold putV at hx
  split at hx
  · rename_i hxn
    rw [hxn]
    exact ⟨h1, h2 s hx⟩
  · exact h x s hx
theorem sup_set {e : En} (h : Sup e) (n : Nm) (s : ByteArray) : Sup (setE e n s).2 := by
  unfold setE
  by_cases h1 : inputB e n = false
  · rw [if_pos h1]; exact h
  · rw [if_neg h1]
    by_cases h2 : 65536 < s.size
    · rw [if_pos h2]; exact h
    · rw [if_neg h2]
      exact sup_change h (by simpa using h1) fun t ht => by cases ht; omega
theorem sup_clear {e : En} (h : Sup e) (n : Nm) : Sup (clearE e n).2 := by
  unfold clearE
  by_cases h1 : inputB e n = false
  · rw [if_pos h1]; exact h
  · rw [if_neg h1]
    exact sup_change h (by simpa using h1) fun t ht => by cases ht
theorem sup_st {e : En} (h : Sup e) (S : St) : Sup { e with st := S } := h
theorem get_st (e : En) (n : Nm) : ∃ S, (getE e n).2.2 = { e with st := S } := by
  unfold getE
  split
  · exact ⟨e.st, rfl⟩
  · split
    · exact ⟨e.st, rfl⟩
    · exact ⟨_, rfl⟩
theorem sup_get {e : En} (h : Sup e) (n : Nm) : Sup (getE e n).2.2 := by
  obtain ⟨S, hS⟩ := get_st e n
  rw [hS]
  exact sup_st h S
/-- One cell's value, put into a sorted list. -/
def inStep (vals : Nm → V) (t : T.Tr) (c : Cell) : T.Tr := match vals c.1 with
  | none => t
  | some s => T.insT t (c.1, s)
def inputsK (e : En) (k : Nat) : T.Tr := (e.cells.take k).foldl (inStep e.vals) []
def inputsE (e : En) : T.Tr := e.cells.foldl (inStep e.vals) []
theorem inputsK_end (e : En) : inputsK e e.cells.length = inputsE e := by unfold inputsK inputsE; rw [List.take_length]
theorem inputsK_succ (e : En) {k : Nat} (h : k < e.cells.length) : inputsK e (k + 1) = inStep e.vals (inputsK e k) e.cells[k] := by
  unfold inputsK
  rw [List.take_succ_eq_append_getElem h, List.foldl_append]
  rfl
theorem srt_step (vals : Nm → V) {t : T.Tr} (h : T.Srt t) (c : Cell) : T.Srt (inStep vals t c) := by
  unfold inStep
  split
  · exact h
  · exact T.srt_ins h _
theorem srt_fold (vals : Nm → V) : ∀ (cs : List Cell) (t : T.Tr), T.Srt t → T.Srt (cs.foldl (inStep vals) t)
  | [], _, h => h
  | c :: cs, _, h => srt_fold vals cs _ (srt_step vals h c)
theorem srt_inputs (e : En) : T.Srt (inputsE e) := srt_fold _ _ _ List.Pairwise.nil
theorem srt_inputsK (e : En) (k : Nat) : T.Srt (inputsK e k) := srt_fold _ _ _ List.Pairwise.nil
theorem pth_inj {f g : T.File} (h : T.pth f = T.pth g) : f.1 = g.1 := by rw [← T.mkF_eq f.1, ← T.mkF_eq g.1]; exact congrArg T.mkF h
theorem mem_fold (vals : Nm → V) : ∀ (cs : List Cell) (t : T.Tr), (∀ f ∈ t, vals f.1 = some f.2) → ∀ f, f ∈ cs.foldl (inStep vals) t ↔ f ∈ t ∨ (vals f.1 = some f.2 ∧ ∃ c ∈ cs, c.1 = f.1)
  | [], _, _, f => by simp
  | c :: cs, t, ht, f => by
    have hs : ∀ g ∈ inStep vals t c, vals g.1 = some g.2 := by
      intro g hg
      unfold inStep at hg
      cases hv : vals c.1 with
      | none => rw [hv] at hg; exact ht g hg
      | some s =>
        rw [hv] at hg
        rcases T.mem_ins.1 hg with e | ⟨h1, _⟩
        · rw [e]; exact hv
        · exact ht g h1
    rw [List.foldl_cons, mem_fold vals cs _ hs f]
    unfold inStep
    cases hv : vals c.1 with
    | none =>
      simp only
      constructor
      · rintro (h | ⟨h1, c2, h2, h3⟩)
        · exact .inl h
        · exact .inr ⟨h1, c2, List.mem_cons_of_mem _ h2, h3⟩
      · rintro (h | ⟨h1, c2, h2, h3⟩)
        · exact .inl h
        · rcases List.mem_cons.1 h2 with e | h2
          · rw [e] at h3; rw [← h3, hv] at h1; cases h1
          · exact .inr ⟨h1, c2, h2, h3⟩
    | some s =>
      simp only
      rw [T.mem_ins]
      constructor
      · rintro ((h | ⟨h, _⟩) | ⟨h1, c2, h2, h3⟩)
        · refine .inr ⟨?_, c, List.mem_cons_self, ?_⟩
          · rw [h]; exact hv
          · rw [h]
        · exact .inl h
        · exact .inr ⟨h1, c2, List.mem_cons_of_mem _ h2, h3⟩
      · have hsame : f.1 = c.1 → vals f.1 = some f.2 → f = (c.1, s) := fun h1 h2 => by
          rw [h1, hv] at h2
          exact Prod.ext h1 (Option.some.inj h2).symm
        rintro (h | ⟨h1, c2, h2, h3⟩)
        · by_cases hp : T.pth f = T.pth (c.1, s)
          · exact .inl (.inl (hsame (pth_inj hp) (ht f h)))
          · exact .inl (.inr ⟨h, hp⟩)
        · rcases List.mem_cons.1 h2 with e | h2
          · exact .inl (.inl (hsame (by rw [← h3, e]) h1))
          · exact .inr ⟨h1, c2, h2, h3⟩
theorem mem_inputs {e : En} (h : Sup e) (f : T.File) : f ∈ inputsE e ↔ e.vals f.1 = some f.2 := by
  unfold inputsE
  rw [mem_fold e.vals e.cells [] (fun _ h => by cases h) f]
  constructor
  · rintro (h | ⟨h, _⟩)
    · cases h
    · exact h
  · intro hv
    refine .inr ⟨hv, ?_⟩
    have h1 := (h _ _ hv).1
    unfold inputB at h1
    cases hc : findC e.cells f.1 with
    | none => rw [hc] at h1; cases h1
    | some c => obtain ⟨h2, h3⟩ := findC_some hc; exact ⟨c, h2, h3⟩
/-- Any sorted list of these values is that list. -/
theorem inputs_only {e : En} (h : Sup e) {l : T.Tr} (hs : T.Srt l) (hm : ∀ f, f ∈ l ↔ e.vals f.1 = some f.2) : l = inputsE e :=
  T.sorted_ext hs (srt_inputs e) fun f => by rw [hm, mem_inputs h]
theorem srt_nodup {l : T.Tr} (h : T.Srt l) : (l.map (·.1)).Nodup := by
  unfold List.Nodup
  rw [List.pairwise_map]
  exact h.imp fun {x y} hxy (e : x.1 = y.1) => T.lt_irrefl (T.pth y) (by have : T.pth x = T.pth y := congrArg (fun s : ByteArray => s.data.toList) e; rwa [this] at hxy)
/-- Get answers what Value answers out of the engine's inputs. -/
theorem scratch_get {e : En} (h : OkE e) (hs : Sup e) (hn : newErr e.cells = 0) (n : Nm) : valueE e.cells (inputsE e) n = ((getE e n).1, (getE e n).2.1) :=
  value_get h hn (srt_nodup (srt_inputs e)) (fun x hx => by have h1 := (mem_inputs hs x).1 hx; obtain ⟨h2, h3⟩ := hs _ _ h1; exact ⟨h2, h3, h1⟩) (fun n s h1 => (mem_inputs hs (n, s)).2 h1) n
end Go.Proofs.YtkeaoejgboefbaaGreatDoor.E

/- What a Go value of plain data holds, said by records: numbers, strings, slices, pairs. For any program. -/
namespace Go.Proofs.YtkeaoejgboefbaaGreatDoor
open Go.RowKit

/-! ### Contracts -/
theorem ret_int {k : IntKind} {a b : Int} (h : a = b) : Ending.returned (.int k a) = .returned (.int k b) := by rw [h]
theorem ret_bool {a b : Bool} (h : a = b) : Ending.returned (.bool a) = .returned (.bool b) := by rw [h]

/-- The world has drawn at most. -/
def Dr (w w' : World) : Prop := ∃ m, w' = w.drewN m
theorem Dr.refl (w : World) : Dr w w := ⟨0, rfl⟩
theorem Dr.trans {a b c : World} (h : Dr a b) (k : Dr b c) : Dr a c := by
  obtain ⟨m, rfl⟩ := h
  obtain ⟨n, rfl⟩ := k
  exact ⟨m + n, World.drewN_drewN _ _ _⟩
theorem Dr.drewN {a b : World} (h : Dr a b) (n : Nat) : Dr a (b.drewN n) := h.trans ⟨n, rfl⟩
theorem Dr.drew {a b : World} (h : Dr a b) : Dr a b.drew := h.trans ⟨1, rfl⟩
theorem Dr.cell {a b : World} (h : Dr a b) (p : Addr) : b.cell? p = a.cell? p := by obtain ⟨m, rfl⟩ := h; rfl
/-- It returns v; the world has drawn at most. -/
def Qu (v : Value) (w : World) (e : Ending) (w' : World) : Prop := e = .returned v ∧ Dr w w'
theorem toQ {P : Program} {f : FuncId} {args : Array Value} {w : World} {v : Value} (h : Calls P f args w fun e w' => e = .returned v ∧ w = w') : Calls P f args w (Qu v w) :=
  h.mono fun _ _ ⟨he, hw⟩ => ⟨he, hw ▸ Dr.refl _⟩
theorem quiet_at {P : Program} {f : FuncId} {args : Array Value} {w : World} {n : Nat} {v : Value} (h : Calls P f args (w.drewN n) (Qu v (w.drewN n))) :
    Calls P f args (w.drewN n) fun e w'' => e = .returned v ∧ ∃ m, w'' = w.drewN m :=
  h.mono fun _ _ ⟨he, m, hm⟩ => ⟨he, n + m, by rw [hm, World.drewN_drewN]⟩

/-- What was there is there still. -/
def Ext (w w' : World) : Prop := Below w.heap.size w w'
theorem Ext.refl (w : World) : Ext w w := Below.refl _ _
theorem Ext.trans {a b c : World} (h : Ext a b) (k : Ext b c) : Ext a c := Below.trans h (Below.mono k (Below.size h))
theorem Ext.size {a b : World} (h : Ext a b) : a.heap.size ≤ b.heap.size := Below.size h
theorem Ext.cell {a b : World} (h : Ext a b) {p : Addr} (hp : p.block < a.heap.size) : b.cell? p = a.cell? p := Below.cell h hp
theorem Ext.alloc {a b : World} (h : Ext a b) (o : Obj) : Ext a (b.alloc o) := Below.alloc h (Ext.size h) o
theorem Ext.drew {a b : World} (h : Ext a b) : Ext a b.drew := Below.drew h
theorem Ext.drewN {a b : World} (h : Ext a b) (n : Nat) : Ext a (b.drewN n) := ⟨h.os, h.tape, h.output, h.size, h.block⟩
theorem Ext.setCell {a b : World} (h : Ext a b) {p : Addr} (hp : a.heap.size ≤ p.block) (u : Value) : Ext a (b.setCell p u) := Below.setCell h hp u
theorem Dr.ext {a b : World} (h : Dr a b) : Ext a b := by obtain ⟨m, rfl⟩ := h; exact (Ext.refl a).drewN m
theorem Ext.dr {a b c : World} (h : Ext a b) (k : Dr b c) : Ext a c := h.trans k.ext
theorem Dr.size {a b : World} (h : Dr a b) : b.heap.size = a.heap.size := by obtain ⟨m, rfl⟩ := h; rfl
/-- It returns v; what was there is there still. -/
def Al (v : Value) (w : World) (e : Ending) (w' : World) : Prop := e = .returned v ∧ Ext w w'
theorem toA {P : Program} {f : FuncId} {args : Array Value} {w : World} {v : Value} (h : Calls P f args w (Qu v w)) : Calls P f args w (Al v w) :=
  h.mono fun _ _ ⟨he, hw⟩ => ⟨he, hw.ext⟩

theorem Ext.keepc {a b : World} (h : Ext a b) {p : Addr} {v : Value} (hc : a.cell? p = some v) : b.cell? p = some v := (h.cell (World.block_lt_of_cell? a _ hc)).trans hc
theorem Dr.keepc {a b : World} (h : Dr a b) {p : Addr} {v : Value} (hc : a.cell? p = some v) : b.cell? p = some v := (h.cell p).trans hc
theorem grown_keepc {a b : World} {row : Option Nat} (h : a.grownBy b row) {p : Addr} {v : Value} (hc : a.cell? p = some v) (hne : row ≠ some p.block) : b.cell? p = some v :=
  (World.cell?_of_block (h.block p.block (World.block_lt_of_cell? a _ hc) (fun e => hne e.symm))).trans hc
theorem alloc_keepc {a : World} {p : Addr} {v : Value} (o : Obj) (hc : a.cell? p = some v) : (a.alloc o).cell? p = some v := ((Ext.refl a).alloc o).keepc hc
theorem cell_new (w : World) (cs : Array Value) (t : TypeId) (i : Nat) : (w.alloc (.cells cs t)).cell? ⟨w.heap.size, i, none⟩ = cs[i]? := cell_of_row _ _ _ _ _ _ (heap_alloc_new w _)

/-! ### Data -/
structure Rep (α : Type) where
  size : Nat
  is : World → (Nat → Prop) → α → List Value → Prop
  len : ∀ {w : World} {B : Nat → Prop} {a : α} {us : List Value}, is w B a us → us.length = size
  keep : ∀ {w w' : World} {B B' : Nat → Prop} {a : α} {us : List Value}, is w B a us → (∀ k, B k → B' k) → (∀ k, B k → w'.heap[k]? = w.heap[k]?) → is w' B' a us

/-- The blocks that are there. -/
def Old (w : World) : Nat → Prop := fun k => k < w.heap.size
theorem Old.ext {w w' : World} (h : Ext w w') : ∀ k, Old w k → Old w' k := fun _ hk => Nat.lt_of_lt_of_le hk h.size

/-- The value v holds a, in blocks that were there. -/
def Rep.val {α : Type} (r : Rep α) (w : World) (a : α) (v : Value) : Prop := r.is w (Old w) a v.cells.toList ∧ (r.size = 1 → v.cells = #[v])
theorem Rep.ext {α : Type} (r : Rep α) {w w' : World} {a : α} {us : List Value} (h : r.is w (Old w) a us) (he : Ext w w') : r.is w' (Old w') a us :=
  r.keep h (Old.ext he) fun k hk => he.block k hk
theorem Rep.val_ext {α : Type} (r : Rep α) {w w' : World} {a : α} {v : Value} (h : r.val w a v) (he : Ext w w') : r.val w' a v := ⟨r.ext h.1 he, h.2⟩
theorem Rep.val_dr {α : Type} (r : Rep α) {w w' : World} {a : α} {v : Value} (h : r.val w a v) (he : Dr w w') : r.val w' a v := ⟨r.ext h.1 he.ext, h.2⟩

def intR (k : IntKind) : Rep Int where
  size := 1
  is := fun _ _ n us => us = [.int k n] ∧ (Lit.int k n).wf = true
  len := by rintro _ _ _ _ ⟨rfl, _⟩; rfl
  keep := by rintro _ _ _ _ _ _ h _ _; exact h
def boolR : Rep Bool where
  size := 1
  is := fun _ _ b us => us = [.bool b]
  len := by rintro _ _ _ _ rfl; rfl
  keep := by rintro _ _ _ _ _ _ h _ _; exact h
def strR : Rep ByteArray where
  size := 1
  is := fun _ _ s us => us = [.string s] ∧ s.size ≤ 9223372036854775807
  len := by rintro _ _ _ _ ⟨rfl, _⟩; rfl
  keep := by rintro _ _ _ _ _ _ h _ _; exact h
def prodR {α β : Type} (r : Rep α) (s : Rep β) : Rep (α × β) where
  size := r.size + s.size
  is := fun w B p us => ∃ x y, us = x ++ y ∧ r.is w B p.1 x ∧ s.is w B p.2 y
  len := by rintro _ _ _ _ ⟨x, y, rfl, h, k⟩; rw [List.length_append, r.len h, s.len k]
  keep := by rintro _ _ _ _ _ _ ⟨x, y, rfl, h, k⟩ hB hw; exact ⟨x, y, rfl, r.keep h hB hw, s.keep k hB hw⟩

/-- The cells of a row: element i lies at off + i * size. -/
def RowAt {α : Type} (r : Rep α) (w : World) (B : Nat → Prop) (b off : Nat) (l : List α) : Prop :=
  ∀ i (h : i < l.length), ∃ us, r.is w B l[i] us ∧ ∀ j u, us[j]? = some u → w.cell? ⟨b, off + (i * r.size + j), none⟩ = some u
theorem RowAt.keep {α : Type} {r : Rep α} {w w' : World} {B B' : Nat → Prop} {b off : Nat} {l : List α} (h : RowAt r w B b off l) (hb : B b) (hB : ∀ k, B k → B' k) (hw : ∀ k, B k → w'.heap[k]? = w.heap[k]?) : RowAt r w' B' b off l := by
  intro i hi
  obtain ⟨us, h1, h2⟩ := h i hi
  exact ⟨us, r.keep h1 hB hw, fun j u hj => (World.cell?_of_block (hw b hb)).trans (h2 j u hj)⟩
/-- A slice, apart from its length: its address and capacity. -/
def SliceAt {α : Type} (r : Rep α) (w : World) (B : Nat → Prop) (A : Option Addr) (c : Nat) (l : List α) : Prop :=
  l.length ≤ c ∧ c ≤ 9223372036854775807 ∧ (l ≠ [] → ∃ b off, A = some ⟨b, off, none⟩ ∧ B b ∧ RowAt r w B b off l)
theorem SliceAt.keep {α : Type} {r : Rep α} {w w' : World} {B B' : Nat → Prop} {A : Option Addr} {c : Nat} {l : List α} (h : SliceAt r w B A c l) (hB : ∀ k, B k → B' k) (hw : ∀ k, B k → w'.heap[k]? = w.heap[k]?) : SliceAt r w' B' A c l := by
  obtain ⟨h1, h2, h3⟩ := h
  refine ⟨h1, h2, fun hn => ?_⟩
  obtain ⟨b, off, hA, hb, hr⟩ := h3 hn
  exact ⟨b, off, hA, hB b hb, hr.keep hb hB hw⟩
theorem SliceAt.ext {α : Type} {r : Rep α} {w w' : World} {A : Option Addr} {c : Nat} {l : List α} (h : SliceAt r w (Old w) A c l) (he : Ext w w') : SliceAt r w' (Old w') A c l :=
  h.keep (Old.ext he) fun k hk => he.block k hk
theorem SliceAt.dr {α : Type} {r : Rep α} {w w' : World} {A : Option Addr} {c : Nat} {l : List α} (h : SliceAt r w (Old w) A c l) (he : Dr w w') : SliceAt r w' (Old w') A c l := h.ext he.ext
theorem SliceAt.nil {α : Type} (r : Rep α) (w : World) (B : Nat → Prop) (A : Option Addr) (c : Nat) (hc : c ≤ 9223372036854775807) : SliceAt r w B A c [] := ⟨Nat.zero_le _, hc, fun h => absurd rfl h⟩
def sliceR {α : Type} (r : Rep α) : Rep (List α) where
  size := 1
  is := fun w B l us => ∃ A c, us = [.slice A l.length c] ∧ SliceAt r w B A c l
  len := by rintro _ _ _ _ ⟨A, c, rfl, _⟩; rfl
  keep := by rintro _ _ _ _ _ _ ⟨A, c, rfl, h⟩ hB hw; exact ⟨A, c, rfl, h.keep hB hw⟩

/-- The cells of some elements, one behind the other. -/
def Flat {α : Type} (r : Rep α) (w : World) (S : Nat → Prop) : List α → List Value → Prop
  | [], xs => xs = []
  | a :: l, xs => ∃ us ys, xs = us ++ ys ∧ r.is w S a us ∧ Flat r w S l ys
theorem Flat.keep {α : Type} {r : Rep α} {w w' : World} {S S' : Nat → Prop} (hS : ∀ k, S k → S' k) (hw : ∀ k, S k → w'.heap[k]? = w.heap[k]?) : ∀ {l : List α} {xs : List Value}, Flat r w S l xs → Flat r w' S' l xs
  | [], _, h => h
  | _ :: _, _, ⟨us, ys, h1, h2, h3⟩ => ⟨us, ys, h1, r.keep h2 hS hw, Flat.keep hS hw h3⟩
theorem Flat.length {α : Type} {r : Rep α} {w : World} {S : Nat → Prop} : ∀ {l : List α} {xs : List Value}, Flat r w S l xs → xs.length = l.length * r.size
  | [], _, h => by rw [show _ = [] from h]; simp
  | _ :: _, _, ⟨us, ys, h1, h2, h3⟩ => by rw [h1, List.length_append, r.len h2, h3.length, List.length_cons, Nat.succ_mul, Nat.add_comm]
theorem Flat.append {α : Type} {r : Rep α} {w : World} {S : Nat → Prop} {l' : List α} {xs' : List Value} (h' : Flat r w S l' xs') : ∀ {l : List α} {xs : List Value}, Flat r w S l xs → Flat r w S (l ++ l') (xs ++ xs')
  | [], _, h => by rw [show _ = [] from h]; exact h'
  | _ :: _, _, ⟨us, ys, h1, h2, h3⟩ => ⟨us, ys ++ xs', by rw [h1, List.append_assoc], h2, Flat.append h' h3⟩
theorem Flat.one {α : Type} {r : Rep α} {w : World} {S : Nat → Prop} {a : α} {us : List Value} (h : r.is w S a us) : Flat r w S [a] us := ⟨us, [], by simp, h, rfl⟩
theorem Flat.row {α : Type} {r : Rep α} {w : World} {S : Nat → Prop} {b : Nat} : ∀ {l : List α} {xs : List Value} {off : Nat}, Flat r w S l xs → (∀ j u, xs[j]? = some u → w.cell? ⟨b, off + j, none⟩ = some u) → RowAt r w S b off l
  | [], _, _, _, _ => fun i hi => absurd hi (Nat.not_lt_zero _)
  | a :: l, xs, off, ⟨us, ys, h1, h2, h3⟩, hc => by
    have hul := r.len h2
    have ih : RowAt r w S b (off + r.size) l := h3.row fun j u hj => by
      have := hc (r.size + j) u (by rw [h1, List.getElem?_append_right (by omega), hul, show r.size + j - r.size = j by omega]; exact hj)
      rwa [← Nat.add_assoc] at this
    intro i hi
    match i, hi with
    | 0, _ => exact ⟨us, h2, fun j u hj => by
        have hlt : j < us.length := by
          rcases Nat.lt_or_ge j us.length with h | h
          · exact h
          · rw [List.getElem?_eq_none h] at hj; cases hj
        have := hc j u (by rw [h1, List.getElem?_append_left hlt]; exact hj)
        rwa [Nat.zero_mul, Nat.zero_add]⟩
    | i + 1, hi =>
      obtain ⟨vs, g1, g2⟩ := ih i (by simpa using hi)
      refine ⟨vs, g1, fun j u hj => ?_⟩
      have := g2 j u hj
      rwa [show off + ((i + 1) * r.size + j) = off + r.size + (i * r.size + j) by rw [Nat.succ_mul]; omega]

/-! ### What comes in reads so -/
section
variable {H : Type} {enc : TypeId × Value → H} {P : Program} {w : World}

/-- Type t's values read as r says. -/
def Opens (enc : TypeId × Value → H) (P : Program) (w : World) (t : TypeId) {α : Type} (r : Rep α) : Prop :=
  P.cellsOf t = r.size ∧ ∀ (fuel : Nat) (cs : List Value) (x : DataW H × List MemPlace), DataW.trod enc P w 0 (fun _ => true) true fuel t cs = some x → ∃ a, r.is w (Old w) a cs

theorem Opens.int {t : TypeId} {k : IntKind} (ht : P.underlying t = some (.int k)) (hc : P.cellsOf t = 1) : Opens enc P w t (intR k) :=
  ⟨hc, fun _ _ _ h => by obtain ⟨n, rfl, _, hw⟩ := DataW.trod_int ht h; exact ⟨n, rfl, hw⟩⟩
theorem Opens.bool {t : TypeId} (ht : P.underlying t = some .bool) (hc : P.cellsOf t = 1) : Opens enc P w t boolR :=
  ⟨hc, fun _ _ _ h => by obtain ⟨n, rfl, _⟩ := DataW.trod_bool ht h; exact ⟨n, rfl⟩⟩
theorem Opens.str {t : TypeId} (ht : P.underlying t = some .string) (hc : P.cellsOf t = 1) : Opens enc P w t strR :=
  ⟨hc, fun _ _ _ h => by obtain ⟨s, rfl, _, hs⟩ := DataW.trod_string ht h; exact ⟨s, rfl, hs⟩⟩

theorem list_of_lt {α : Type} {n : Nat} {p : Nat → α → Prop} (h : ∀ i, i < n → ∃ x, p i x) : ∃ l : List α, l.length = n ∧ ∀ i (hi : i < l.length), p i l[i] := by
  induction n with
  | zero => exact ⟨[], rfl, fun i hi => absurd hi (Nat.not_lt_zero _)⟩
  | succ n ih =>
    obtain ⟨l, hl, hp⟩ := ih fun i hi => h i (Nat.lt_succ_of_lt hi)
    obtain ⟨x, hx⟩ := h n (Nat.lt_succ_self n)
    refine ⟨l ++ [x], by simp [hl], fun i hi => ?_⟩
    by_cases hin : i < n
    · rw [List.getElem_append_left (by omega)]; exact hp i (by omega)
    · have : i = n := by simp at hi; omega
      subst this
      rw [List.getElem_append_right (by omega)]
      simpa [hl] using hx

theorem Opens.slice {t e : TypeId} {α : Type} {r : Rep α} (ht : P.underlying t = some (.slice e)) (hc : P.cellsOf t = 1) (hpos : 0 < r.size) (he : Opens enc P w e r) : Opens enc P w t (sliceR r) := by
  refine ⟨hc, fun fuel cs x h => ?_⟩
  rcases Go.Deep.open_slice ht h with ⟨rfl, _⟩ | ⟨a, len, cap, m, n, D, Pl, rfl, _, hl, hm, hmm, _, hall⟩
  · exact ⟨[], none, 0, rfl, SliceAt.nil _ _ _ _ _ (by omega)⟩
  · simp only [ite_true] at hmm
    have hex : ∀ i, i < len → ∃ y, ∃ us, r.is w (Old w) y us ∧ us.length = r.size ∧ ∀ j, j < r.size → w.cell? ((a.add (i * r.size)).add j) = us[j]? := by
      intro i hi
      obtain ⟨cs', h1, h2⟩ := hall i (by omega)
      rw [he.1] at h1
      obtain ⟨y, hy⟩ := he.2 _ _ _ h2
      obtain ⟨_, g2, g3⟩ := World.cells?_some h1
      exact ⟨y, cs', hy, g2, g3⟩
    obtain ⟨l, hlen, hp⟩ := list_of_lt hex
    refine ⟨l, some a, cap, by rw [hlen], by omega, by unfold maxLen at hm; omega, fun hne => ?_⟩
    have hlpos : 0 < l.length := List.length_pos_iff.2 hne
    obtain ⟨us, _, hul, hc0⟩ := hp 0 hlpos
    have hc00 := hc0 0 hpos
    obtain ⟨u0, hu0⟩ : ∃ u0, us[0]? = some u0 := ⟨us[0]'(by omega), by simp [hul, hpos]⟩
    rw [hu0] at hc00
    have hc00' : w.cell? a = some u0 := by simpa [Addr.add] using hc00
    have hspot := World.cell?_spot hc00'
    have hblk := World.block_lt_of_cell? w _ hc00'
    obtain ⟨b, off, sp⟩ := a
    simp only at hspot
    subst hspot
    refine ⟨b, off, rfl, hblk, fun i hi => ?_⟩
    obtain ⟨us, h1, h2, h3⟩ := hp i hi
    refine ⟨us, h1, fun j u hj => ?_⟩
    have hj' : j < r.size := by
      rcases Nat.lt_or_ge j us.length with h | h
      · omega
      · rw [List.getElem?_eq_none h] at hj; cases hj
    have := h3 j hj'
    rw [hj] at this
    have e : ((⟨b, off, none⟩ : Addr).add (i * r.size)).add j = ⟨b, off + (i * r.size + j), none⟩ := by
      rw [Go.Deep.add_add]
      unfold Addr.add
      split
      · rename_i h0; rw [h0]; rfl
      · rfl
    rwa [e] at this

/-- The fields from number k on, at offset o, read as r says. -/
def OpensFields (enc : TypeId × Value → H) (P : Program) (w : World) (fs : List Field) (o : Nat) {α : Type} (r : Rep α) : Prop :=
  ∀ (fuel : Nat) (cs : List Value) (xs : List (DataW H × List MemPlace)), cs.length = o + r.size →
    (∀ (i : Nat) (f : Field), fs[i]? = some f → DataW.trod enc P w 0 (fun _ => true) true fuel f.type ((cs.drop f.offset).take (P.cellsOf f.type)) = xs[i]?) → fs.length ≤ xs.length → ∃ a, r.is w (Old w) a (cs.drop o)

theorem OpensFields.one {f : Field} {o : Nat} {α : Type} {r : Rep α} (h : Opens enc P w f.type r) (ho : f.offset = o) : OpensFields enc P w [f] o r := by
  intro fuel cs xs hl hf hx
  have h0 := hf 0 f rfl
  obtain ⟨x, hx0⟩ : ∃ x, xs[0]? = some x := ⟨xs[0]'(by simp at hx; omega), by simp⟩
  rw [hx0, ho, h.1, List.take_of_length_le (by rw [List.length_drop]; omega)] at h0
  exact h.2 _ _ _ h0
theorem OpensFields.cons {f : Field} {fs : List Field} {o : Nat} {α β : Type} {r : Rep α} {s : Rep β} (h : Opens enc P w f.type r) (ho : f.offset = o) (hs : OpensFields enc P w fs (o + r.size) s) : OpensFields enc P w (f :: fs) o (prodR r s) := by
  intro fuel cs xs hl hf hx
  have h0 := hf 0 f rfl
  have hx' : 0 < xs.length := by simp at hx; omega
  obtain ⟨x, hx0⟩ : ∃ x, xs[0]? = some x := ⟨xs[0]'hx', by simp⟩
  rw [hx0, ho, h.1] at h0
  obtain ⟨a, ha⟩ := h.2 _ _ _ h0
  have hl' : cs.length = o + (r.size + s.size) := hl
  obtain ⟨b, hb⟩ := hs fuel cs xs.tail (by omega) (fun i g hg => by have := hf (i + 1) g (by simpa using hg); simpa using this) (by simp at hx ⊢; omega)
  refine ⟨(a, b), _, _, ?_, ha, hb⟩
  rw [← List.drop_drop]
  exact (List.take_append_drop _ _).symm
theorem Opens.struct {t : TypeId} {fs : Array Field} {α : Type} {r : Rep α} (ht : P.underlying t = some (.struct fs)) (hc : P.cellsOf t = r.size) (h : OpensFields enc P w fs.toList 0 r) : Opens enc P w t r := by
  refine ⟨hc, fun fuel cs x hx => ?_⟩
  obtain ⟨xs, n, _, _, hl, hxl, hf⟩ := DataW.trod_struct ht hx
  have := h n cs xs (by omega) (fun i f hi => hf i f (by simpa using hi)) (by simp [hxl])
  simpa using this
/-- An array of two. -/
theorem Opens.array2 {t e : TypeId} {α : Type} {r : Rep α} (ht : P.underlying t = some (.array 2 e)) (hc : P.cellsOf t = r.size + r.size) (h : Opens enc P w e r) : Opens enc P w t (prodR r r) := by
  refine ⟨hc, fun fuel cs x hx => ?_⟩
  obtain ⟨xs, m, _, _, hl, hxl, hf⟩ := DataW.trod_array ht hx
  have h0 := hf 0 (by omega)
  have h1 := hf 1 (by omega)
  obtain ⟨x0, hx0⟩ : ∃ x, xs[0]? = some x := ⟨xs[0]'(by omega), by simp⟩
  obtain ⟨x1, hx1⟩ : ∃ x, xs[1]? = some x := ⟨xs[1]'(by omega), by simp⟩
  rw [hx0, h.1] at h0
  rw [hx1, h.1] at h1
  obtain ⟨a, ha⟩ := h.2 _ _ _ h0
  obtain ⟨b, hb⟩ := h.2 _ _ _ h1
  have hlen : cs.length = r.size + r.size := hl.trans hc
  refine ⟨(a, b), _, _, ?_, ha, hb⟩
  simp only [Nat.zero_mul, List.drop_zero, Nat.one_mul]
  rw [List.take_of_length_le (l := cs.drop r.size) (by rw [List.length_drop]; omega)]
  exact (List.take_append_drop _ _).symm

/-- An argument of the row, opened. -/
theorem Opens.arg {t : TypeId} {α : Type} {r : Rep α} (h : Opens enc P w t r) {v : Value} {d : DataW H} {p : List MemPlace} (ht : DataW.Trod enc P w 0 (fun _ => true) true t v d p) (hv : r.size = 1 → v.cells = #[v]) : ∃ a, r.val w a v := by
  obtain ⟨fuel, hf⟩ := ht
  obtain ⟨a, ha⟩ := h.2 _ _ _ hf
  exact ⟨a, ha, hv⟩
end

theorem val_bool {w : World} {b : Bool} {v : Value} (h : boolR.val w b v) : v = .bool b := by
  obtain ⟨h, hv⟩ := h
  rw [hv rfl] at h
  simpa [boolR] using h
theorem val_str {w : World} {s : ByteArray} {v : Value} (h : strR.val w s v) : v = .string s ∧ s.size ≤ 9223372036854775807 := by
  obtain ⟨h, hv⟩ := h
  rw [hv rfl] at h
  exact ⟨by simpa using h.1, h.2⟩
theorem val_int {w : World} {k : IntKind} {n : Int} {v : Value} (h : (intR k).val w n v) : v = .int k n ∧ (Lit.int k n).wf = true := by
  obtain ⟨h, hv⟩ := h
  rw [hv rfl] at h
  exact ⟨by simpa using h.1, h.2⟩
theorem val_slice {α : Type} {r : Rep α} {w : World} {l : List α} {v : Value} (h : (sliceR r).val w l v) : ∃ A c, v = .slice A l.length c ∧ SliceAt r w (Old w) A c l := by
  obtain ⟨⟨A, c, h, hs⟩, hv⟩ := h
  rw [hv rfl] at h
  exact ⟨A, c, by simpa using h, hs⟩
theorem wf_i64 {n : Int} (h : (Lit.int .i64 n).wf = true) : -9223372036854775808 ≤ n ∧ n ≤ 9223372036854775807 := by
  have h' : IntKind.i64.min ≤ n ∧ n ≤ IntKind.i64.max := by simpa [Lit.wf] using h
  have e1 : IntKind.i64.min = -9223372036854775808 := by decide
  have e2 : IntKind.i64.max = 9223372036854775807 := by decide
  omega
theorem wf_u8 {n : Int} (h : (Lit.int .u8 n).wf = true) : 0 ≤ n ∧ n ≤ 255 := by
  have h' : IntKind.u8.min ≤ n ∧ n ≤ IntKind.u8.max := by simpa [Lit.wf] using h
  have e1 : IntKind.u8.min = 0 := by decide
  have e2 : IntKind.u8.max = 255 := by decide
  omega

end Go.Proofs.YtkeaoejgboefbaaGreatDoor

/- Maps from strings, as functions: what a map of the call's own holds at each key. For any program. -/
namespace Go.Proofs.YtkeaoejgboefbaaGreatDoor
open Go.RowKit Go.Maps

/-- An element reads as the value that it is. -/
def asIs (v : Value) : Option (DataW Value × List MemPlace) := some (.held v, [])
abbrev FnV := ByteArray → Option Value
def putF (f : FnV) (s : ByteArray) (v : Option Value) : FnV := fun x => if x = s then v else f x
def MapF (P : Program) (w : World) (b : Nat) (f : FnV) : Prop :=
  ∃ D n, w.ownsMap P 9 asIs b n D ∧ (∀ x : ByteArray, Maps.has D (.string x.data.toList) = (f x).isSome) ∧ ∀ (x : ByteArray) (z : Value), D.atKey (.string x.data.toList) (.held z) = .held ((f x).getD z)
section
variable {P : Program} {w : World} {b : Nat} {f : FnV}
theorem bytes_inj {x y : ByteArray} (h : x.data.toList = y.data.toList) : x = y := by
  cases x; cases y
  exact congrArg _ (Array.toList_inj.1 h)
theorem strLit_ne {x y : ByteArray} (h : x ≠ y) : Lit.string x.data.toList ≠ Lit.string y.data.toList := fun e => h (bytes_inj (Lit.string.inj e))
theorem strKey (h9 : P.underlying 9 = some .string) {s : ByteArray} (h : s.size ≤ 9223372036854775807) : keyOf P 9 (.string s) = some (.string s.data.toList) := by
  rw [keyOf_string h9]
  simp [mapKey, h9, maxLen, h]
theorem MapF.kept {w' : World} {row : Option Nat} (h : MapF P w b f) (hg : w.grownBy w' row) (hne : some b ≠ row) : MapF P w' b f := by
  obtain ⟨D, n, h1, h2⟩ := h
  exact ⟨D, n, h1.kept hg hne, h2⟩
theorem MapF.ext {w' : World} (h : MapF P w b f) (he : Ext w w') : MapF P w' b f := h.kept (row := none) ⟨he.os, he.tape, he.output, he.size, fun i hi _ => he.block i hi⟩ (by simp)
theorem MapF.lt (h : MapF P w b f) : b < w.heap.size := by obtain ⟨D, n, h1, _⟩ := h; exact h1.lt
theorem MapF.made (w : World) : MapF P (w.alloc (.map #[] 0)) w.heap.size fun _ => none :=
  ⟨.map [], 0, World.ownsMap_made w _ _ _, fun _ => rfl, fun _ _ => rfl⟩
theorem MapF.congr {g : FnV} (h : MapF P w b f) (hg : ∀ x, g x = f x) : MapF P w b g := by
  have : g = f := funext hg
  rw [this]; exact h
/-- 'v, ok := m[k]'. -/
theorem MapF.look {t e : TypeId} {z : Value} {s : ByteArray} (h : MapF P w b f) (h9 : P.underlying 9 = some .string) (ht : P.underlying t = some (.map 9 e)) (hz : (zeroValue e).run P w = .ok z w) (hs : s.size ≤ 9223372036854775807) :
    (Instr.lookup t (.map (some b)) (.string s) true).run P w = .ok (.tuple #[(f s).getD z, .bool (f s).isSome]) w := by
  obtain ⟨D, n, h1, h2, h3⟩ := h
  obtain ⟨v, ps, hrun, hv⟩ := h1.look_ok (string_keyed h9) ht hz (zd := .held z) (zp := []) rfl (strKey h9 hs)
  rw [h3] at hv
  have hv : some (DataW.held v, []) = some (.held ((f s).getD z), ps) := hv
  obtain rfl : v = (f s).getD z := by
    have := congrArg Prod.fst (Option.some.inj hv)
    simpa using this
  rw [hrun, h2]
/-- 'm[k]'. -/
theorem MapF.look1 {t e : TypeId} {z : Value} {s : ByteArray} (h : MapF P w b f) (h9 : P.underlying 9 = some .string) (ht : P.underlying t = some (.map 9 e)) (hz : (zeroValue e).run P w = .ok z w) (hs : s.size ≤ 9223372036854775807) :
    (Instr.lookup t (.map (some b)) (.string s) false).run P w = .ok ((f s).getD z) w := by
  obtain ⟨D, n, h1, h2, h3⟩ := h
  obtain ⟨v, ps, hrun, hv⟩ := h1.lookup (string_keyed h9) ht hz (zd := .held z) (zp := []) rfl (strKey h9 hs)
  rw [h3] at hv
  have hv : some (DataW.held v, []) = some (.held ((f s).getD z), ps) := hv
  obtain rfl : v = (f s).getD z := by
    have := congrArg Prod.fst (Option.some.inj hv)
    simpa using this
  exact hrun
/-- As few entries as keys. -/
theorem own_tight {R : Value → Option (DataW Value × List MemPlace)} {n : Nat} {D : DataW Value} (h : w.ownsMap P 9 R b n D) : w.ownsMap P 9 R b (Maps.size D) D := by
  obtain ⟨es, clock, hb, F, hs, rfl⟩ := h
  exact ⟨es, clock, hb, F, by simp [Maps.size, length_sorted], rfl⟩
theorem MapF.size (h : MapF P w b f) (h9 : P.underlying 9 = some .string) {dom : List ByteArray} (hd : ∀ x, f x ≠ none → x ∈ dom) : ∃ D, w.ownsMap P 9 asIs b dom.length D ∧ (∀ x : ByteArray, Maps.has D (.string x.data.toList) = (f x).isSome) ∧ ∀ (x : ByteArray) (z : Value), D.atKey (.string x.data.toList) (.held z) = .held ((f x).getD z) := by
  obtain ⟨D, n, h1, h2, h3⟩ := h
  refine ⟨D, (own_tight h1).mono ?_, h2, h3⟩
  obtain ⟨es, hD, hpw, _⟩ := h1.entries (string_keyed h9)
  obtain ⟨es', hD', hko⟩ := h1.keysOf
  obtain rfl : es = es' := by rw [hD] at hD'; simpa using hD'
  subst hD
  have hstr : ∀ p ∈ es, ∃ x, p.1 = .string x := fun p hp => by obtain ⟨v, hv⟩ := hko p hp; obtain ⟨x, _, hx, _⟩ := Maps.keyOf_str h9 hv; exact ⟨x, hx⟩
  have hnd : (es.map fun p => strOf p.1).Nodup := by
    refine List.pairwise_map.2 (hpw.imp_of_mem fun {p q} hp' hq' hne e => hne ?_)
    obtain ⟨a, ha⟩ := hstr p hp'
    obtain ⟨c, hc⟩ := hstr q hq'
    rw [ha, hc] at e ⊢
    exact congrArg _ e
  have hsub : ∀ x ∈ es.map (fun p => strOf p.1), x ∈ dom.map fun s => s.data.toList := fun x hx => by
    obtain ⟨p, hp, rfl⟩ := List.mem_map.1 hx
    obtain ⟨a, ha⟩ := hstr p hp
    have hh : Maps.has (.map es) (.string a) = true := by
      rw [has_eq, List.any_eq_true]
      exact ⟨p, hp, by rw [ha]; simp [Lit.sameKey]⟩
    have h4 := h2 ⟨a.toArray⟩
    have e : (⟨a.toArray⟩ : ByteArray).data.toList = a := rfl
    rw [e, hh] at h4
    refine List.mem_map.2 ⟨⟨a.toArray⟩, hd _ (fun e => by rw [e] at h4; cases h4), ?_⟩
    rw [ha]
    rfl
  have key : ∀ (l m : List (List UInt8)), l.Nodup → (∀ x ∈ l, x ∈ m) → l.length ≤ m.length := by
    intro l
    induction l with
    | nil => intro m _ _; exact Nat.zero_le _
    | cons x l ih =>
      intro m hn hm
      obtain ⟨h1, h2⟩ := List.nodup_cons.1 hn
      obtain ⟨s, t, rfl⟩ := List.append_of_mem (hm x List.mem_cons_self)
      have := ih (s ++ t) h2 fun y hy => by
        rcases List.mem_append.1 (hm y (List.mem_cons_of_mem _ hy)) with h | h
        · exact List.mem_append_left _ h
        · rcases List.mem_cons.1 h with e | h
          · exact absurd (e ▸ hy) h1
          · exact List.mem_append_right _ h
      simp only [List.length_append, List.length_cons] at this ⊢
      omega
  have := key _ _ hnd hsub
  rw [List.length_map, List.length_map] at this
  exact this
/-- 'm[k] = v'. -/
theorem wpList_mapF_put {ops : Array Oper} {rest : List Oper} {o : Oper} {a : Act} {Q : Exit → Act → World → Prop} (h : MapF P w b f) (h9 : P.underlying 9 = some .string) (dom : List ByteArray) (hd : ∀ x, f x ≠ none → x ∈ dom) (hl : dom.length < 1000000)
    (hg : o.guard = none) (m x v : Operand) (t e : TypeId) (hop : o.op = Op.mapUpdate t m x v) (ht : P.underlying t = some (.map 9 e)) (hm : a.eval m = .map (some b)) (s : ByteArray) (val : Value) (hx : a.eval x = .string s) (hv : a.eval v = val) (hs : s.size ≤ 9223372036854775807)
    (hK : ∀ w', MapF P w' b (putF f s (some val)) → w.mapTurned w' b → wpList P ops Q rest (a.put o.dst undef) w') : wpList P ops Q (o :: rest) a w := by
  obtain ⟨D, h1, h2, h3⟩ := h.size h9 hd
  refine wpList_mapUpdate_in w hg m x v t hop 9 e (string_keyed h9) ht asIs b dom.length D hm h1 (by unfold maxLen; omega) (.string s) val (.string s.data.toList) hx hv (strKey h9 hs) (.held val) [] rfl fun w' ho ht => hK w' ⟨_, _, ho, fun y => ?_, fun y z => ?_⟩ ht
  · unfold putF
    by_cases e : y = s
    · subst e; rw [if_pos rfl, has_put_same h1.isMap (show WideAt.IsKeyLit (.string _) from trivial)]; rfl
    · rw [if_neg e, has_put_other (strLit_ne e), h2]
  · unfold putF
    by_cases e : y = s
    · subst e; rw [if_pos rfl]; exact atKey_put_same h1.isMap (show WideAt.IsKeyLit (.string _) from trivial) _ _
    · rw [if_neg e, atKey_put_other (strLit_ne e), h3]
/-- 'delete(m, k)', on its run. -/
theorem MapF.drop {t e : TypeId} {s : ByteArray} (h : MapF P w b f) (h9 : P.underlying 9 = some .string) (ht : P.underlying t = some (.map 9 e)) (hs : s.size ≤ 9223372036854775807) (ty : TypeId) :
    ∃ w', (Builtin.delete_ #[t, 9] ty #[.map (some b), .string s]).run P w = .ok (.tuple #[]) w' ∧ MapF P w' b (putF f s none) ∧ w.mapTurned w' b := by
  obtain ⟨D, n, h1, h2, h3⟩ := h
  obtain ⟨w', hrun, ho, ht'⟩ := h1.drop (string_keyed h9) ht (strKey h9 hs) ty
  refine ⟨w', hrun, ⟨_, n, ho, fun y => ?_, fun y z => ?_⟩, ht'⟩
  · unfold putF
    by_cases e : y = s
    · subst e; rw [if_pos rfl, has_del_same]; rfl
    · rw [if_neg e, has_del_other (strLit_ne e), h2]
  · unfold putF
    by_cases e : y = s
    · subst e; rw [if_pos rfl, atKey_del_same]; rfl
    · rw [if_neg e, atKey_del_other (strLit_ne e), h3]
end
end Go.Proofs.YtkeaoejgboefbaaGreatDoor

/- Slices that the call itself made, at any place of their rows; append to them. For any program. -/
namespace Go.Proofs.YtkeaoejgboefbaaGreatDoor
open Go.RowKit

/-- The values vs from place o on. -/
def setArr (cur : Array Value) : Nat → List Value → Array Value
  | _, [] => cur
  | o, v :: vs => setArr (cur.setIfInBounds o v) (o + 1) vs
theorem setArr_size : ∀ (vs : List Value) (cur : Array Value) (o : Nat), (setArr cur o vs).size = cur.size
  | [], _, _ => rfl
  | v :: vs, cur, o => by rw [setArr, setArr_size vs]; simp
theorem setArr_lt : ∀ (vs : List Value) (cur : Array Value) (o j : Nat), j < o → (setArr cur o vs)[j]? = cur[j]?
  | [], _, _, _, _ => rfl
  | v :: vs, cur, o, j, h => by
    rw [setArr, setArr_lt vs _ _ _ (by omega), Array.getElem?_setIfInBounds_ne (by omega)]
theorem setArr_in : ∀ (vs : List Value) (cur : Array Value) (o j : Nat), j < vs.length → o + vs.length ≤ cur.size → (setArr cur o vs)[o + j]? = vs[j]?
  | [], _, _, _, h, _ => absurd h (Nat.not_lt_zero _)
  | v :: vs, cur, o, 0, _, h2 => by
    simp only [List.length_cons] at h2
    rw [setArr, setArr_lt vs _ _ _ (by omega)]
    show (cur.setIfInBounds o v)[o]? = some v
    rw [Array.getElem?_setIfInBounds_self_of_lt (by omega)]
  | v :: vs, cur, o, j + 1, h1, h2 => by
    simp only [List.length_cons] at h1 h2
    rw [setArr, show o + (j + 1) = o + 1 + j by omega, setArr_in vs _ _ _ (by omega) (by simp; omega)]
    rfl
theorem heap_setCells_at (b : Nat) : ∀ (vs : List Value) (o : Nat) (w : World) (cur : Array Value) (e : TypeId), w.heap[b]? = some (.cells cur e (0, 0)) → (w.setCells b o vs).heap[b]? = some (.cells (setArr cur o vs) e (0, 0))
  | [], _, _, _, _, h => h
  | v :: vs, o, w, cur, e, h => by
    refine heap_setCells_at b vs (o + 1) (w.setCell ⟨b, o, none⟩ v) (cur.setIfInBounds o v) e ?_
    simp [World.setCell, Array.getElem?_modify, h]
theorem grownBy_setCells (b : Nat) : ∀ (vs : List Value) (o : Nat) (w : World), w.grownBy (w.setCells b o vs) (some b)
  | [], _, w => World.grownBy.refl w _
  | v :: vs, o, w => by
    have h := grownBy_setCells b vs (o + 1) (w.setCell ⟨b, o, none⟩ v)
    refine ⟨h.os, h.tape, h.output, ?_, fun k hk hne => ?_⟩
    · exact Nat.le_trans (by simp [World.setCell]) h.size
    · have h2 := h.block k (by simpa [World.setCell] using hk) hne
      refine h2.trans (Below.heap_setCell _ _ _ _ ?_)
      rintro rfl
      exact hne rfl

/-- The slice value v of n elements holds the cells xs in a row of the call's own (from block 'base' on), with its spare room behind them; or it is nil. -/
def OwnAt (w : World) (base : Nat) (e : TypeId) (size : Nat) (v : Value) (n : Nat) (xs : List Value) : Prop :=
  xs.length = n * size ∧
  ((v = .slice none 0 0 ∧ n = 0) ∨
   ∃ g off cap cur, v = .slice (some ⟨g, off, none⟩) n cap ∧ base ≤ g ∧ w.heap[g]? = some (.cells cur e (0, 0)) ∧ n ≤ cap ∧ cap ≤ 9223372036854775807 ∧ off + cap * size ≤ cur.size ∧ ∀ j, j < n * size → cur[off + j]? = xs[j]?)

theorem OwnAt.nil (w : World) (base : Nat) (e : TypeId) (size : Nat) : OwnAt w base e size (.slice none 0 0) 0 [] := ⟨by simp, .inl ⟨rfl, rfl⟩⟩
theorem OwnAt.keep {w w' : World} {base : Nat} {e : TypeId} {size : Nat} {v : Value} {n : Nat} {xs : List Value} (h : OwnAt w base e size v n xs)
    (hk : ∀ g, v.ownBlock = some g → g < w.heap.size → w'.heap[g]? = w.heap[g]?) : OwnAt w' base e size v n xs := by
  obtain ⟨h1, h2 | ⟨g, off, cap, cur, rfl, hb, hh, r⟩⟩ := h
  · exact ⟨h1, .inl h2⟩
  · have hlt : g < w.heap.size := by
      rcases Nat.lt_or_ge g w.heap.size with h | h
      · exact h
      · rw [Array.getElem?_eq_none h] at hh; cases hh
    exact ⟨h1, .inr ⟨g, off, cap, cur, rfl, hb, (hk g rfl hlt).trans hh, r⟩⟩
theorem OwnAt.ext {w w' : World} {base : Nat} {e : TypeId} {size : Nat} {v : Value} {n : Nat} {xs : List Value} (h : OwnAt w base e size v n xs) (he : Ext w w') : OwnAt w' base e size v n xs :=
  h.keep fun g _ hg => he.block g hg
theorem OwnAt.dr {w w' : World} {base : Nat} {e : TypeId} {size : Nat} {v : Value} {n : Nat} {xs : List Value} (h : OwnAt w base e size v n xs) (he : Dr w w') : OwnAt w' base e size v n xs := h.ext he.ext
theorem OwnAt.alloc {w : World} {base : Nat} {e : TypeId} {size : Nat} {v : Value} {n : Nat} {xs : List Value} (h : OwnAt w base e size v n xs) (o : Obj) : OwnAt (w.alloc o) base e size v n xs := h.ext ((Ext.refl w).alloc o)
theorem OwnAt.grown {w w' : World} {base : Nat} {e : TypeId} {size : Nat} {v u : Value} {n : Nat} {xs : List Value} (h : OwnAt w base e size v n xs) (hg : w.grownBy w' u.ownBlock)
    (hne : ∀ g, v.ownBlock = some g → u.ownBlock ≠ some g) : OwnAt w' base e size v n xs :=
  h.keep fun g hv hlt => hg.block g hlt (fun e => hne g hv e.symm)
theorem OwnAt.of_row {w : World} {base : Nat} {e : TypeId} {size : Nat} {v : Value} {n : Nat} {xs : List Value} (h : w.ownsRow base e size v n xs) : OwnAt w base e size v n xs := by
  obtain ⟨h1, h2 | ⟨g, cap, cur, rfl, hb, hh, hn, hc, hs, ht⟩⟩ := h
  · exact ⟨h1, .inl h2⟩
  · refine ⟨h1, .inr ⟨g, 0, cap, cur, rfl, hb, hh, hn, by unfold maxLen at hc; omega, by omega, fun j hj => ?_⟩⟩
    rw [← ht, List.getElem?_take_of_lt hj]
    simp
theorem OwnAt.mono {w : World} {base base' : Nat} {e : TypeId} {size : Nat} {v : Value} {n : Nat} {xs : List Value} (h : OwnAt w base e size v n xs) (hb : base' ≤ base) : OwnAt w base' e size v n xs := by
  obtain ⟨h1, h2 | ⟨g, off, cap, cur, rfl, hg, r⟩⟩ := h
  · exact ⟨h1, .inl h2⟩
  · exact ⟨h1, .inr ⟨g, off, cap, cur, rfl, by omega, r⟩⟩
/-- Its cells, where it has any. -/
theorem OwnAt.cells {w : World} {base : Nat} {e : TypeId} {size : Nat} {v : Value} {n : Nat} {xs : List Value} (h : OwnAt w base e size v n xs) (hn : 0 < n) :
    ∃ g off cap, v = .slice (some ⟨g, off, none⟩) n cap ∧ base ≤ g ∧ g < w.heap.size ∧ n ≤ cap ∧ cap ≤ 9223372036854775807 ∧ ∀ j u, xs[j]? = some u → w.cell? ⟨g, off + j, none⟩ = some u := by
  obtain ⟨h1, ⟨rfl, rfl⟩ | ⟨g, off, cap, cur, rfl, hb, hh, hnc, hc, hs, hx⟩⟩ := h
  · omega
  · refine ⟨g, off, cap, rfl, hb, ?_, hnc, hc, fun j u hj => ?_⟩
    · rcases Nat.lt_or_ge g w.heap.size with h | h
      · exact h
      · rw [Array.getElem?_eq_none h] at hh; cases hh
    · have hj' : j < n * size := by
        rcases Nat.lt_or_ge j xs.length with h | h
        · omega
        · rw [List.getElem?_eq_none h] at hj; cases hj
      rw [cell_of_row w g _ cur e (0, 0) hh, hx j hj', hj]

theorem Ext.grown {a b b' c : World} {e : TypeId} {size : Nat} {v : Value} {n : Nat} {xs : List Value} (h : Ext a b) (ho : OwnAt b' a.heap.size e size v n xs) (hg : b.grownBy c v.ownBlock) : Ext a c := by
  refine Below.grown h hg h.size fun k hk => ?_
  obtain ⟨_, ⟨rfl, _⟩ | ⟨g, off, cap, cur, rfl, hb, _⟩⟩ := ho
  · simp [Value.ownBlock] at hk
  · simp [Value.ownBlock] at hk; omega

section
variable {P : Program} (w : World)

theorem run_append_ownAt (base : Nat) (t ty e : TypeId) (i : TypeInfo) (z : Value) (size bytes : Nat) (ht : P.underlying t = some (.slice e)) (hi : P.info? e = some i) (hz : i.zero = some z)
    (hsize : i.size = size) (hby : i.bytes = bytes) (hzs : z.cells.size = size) (hsz : 0 < size)
    (v : Value) (n : Nat) (xs : List Value) (hown : OwnAt w base e size v n xs)
    (ad : Addr) (m c : Nat) (news : List Value) (hl : news.length = m * size) (hnews : ∀ j u, news[j]? = some u → w.cell? (ad.add j) = some u) (h1 : ∀ u ∈ news, u.oneCell' = true)
    (h63 : n + m ≤ maxLen) (hbytes : (n + m) * bytes ≤ 140737488355328) (hbase : base ≤ w.heap.size) (hm : 0 < m) :
    ∃ v' w', (Builtin.append_ #[t, t] ty #[v, .slice (some ad) m c]).run P w = .ok v' w' ∧ OwnAt w' base e size v' (n + m) (xs ++ news) ∧ w.grownBy w' v.ownBlock ∧
      OwnAt w' base e size v n xs ∧ (v'.ownBlock = v.ownBlock ∨ ∃ g, v'.ownBlock = some g ∧ w.heap.size ≤ g ∧ g < w'.heap.size) := by
  obtain ⟨hx1, ⟨rfl, rfl⟩ | ⟨g, off, cap, cur, rfl, hb, hh, hnc, hc, hs, hx⟩⟩ := hown
  · have hxs : xs = [] := List.eq_nil_of_length_eq_zero (by simpa using hx1)
    subst hxs
    obtain ⟨v', w', hrun, h2, h3, h4⟩ := run_append_own (P := P) w w.heap.size t ty e i z size bytes ht hi hz hsize hby hzs hsz (.slice none 0 0) 0 [] ⟨by simp, .inl ⟨rfl, rfl⟩⟩ ad m c news hl hnews h1 h63 hbytes (Nat.le_refl _)
    refine ⟨v', w', hrun, (OwnAt.of_row h2).mono hbase, h3, ⟨by simp, .inl ⟨rfl, rfl⟩⟩, .inr ?_⟩
    obtain ⟨k1, ⟨_, k2⟩ | ⟨g, cap, cur, rfl, hg, hh, _⟩⟩ := h2
    · omega
    · exact ⟨g, rfl, hg, by
        rcases Nat.lt_or_ge g w'.heap.size with h | h
        · exact h
        · rw [Array.getElem?_eq_none h] at hh; cases hh⟩
  · by_cases hroom : n + m ≤ cap
    · subst hsize
      have hcapm : (n + m) * i.size ≤ cap * i.size := Nat.mul_le_mul_right _ hroom
      have hadd : (n + m) * i.size = n * i.size + m * i.size := Nat.add_mul _ _ _
      have hcell : ∀ j, j < news.length → (w.cell? ⟨g, off + n * i.size + j, none⟩).isSome = true := by
        intro j hj
        rw [cell_of_row w g _ cur e (0, 0) hh]
        simp
        omega
      have hfro : ∀ j, j < news.length → w.frozen? ⟨g, off + n * i.size + j, none⟩ = false := by
        intro j hj
        simp [World.frozen?, hh]
      have hrun := run_append_room_cells (P := P) w t ty e i ht hi g off n cap ad m c news hl hnews h1 hroom hcell hfro
      refine ⟨_, _, hrun, ⟨by rw [List.length_append, hx1, hl, Nat.add_mul], .inr ⟨g, off, cap, _, rfl, hb, heap_setCells_at g news _ w cur e hh, hroom, hc, by rw [setArr_size]; exact hs, fun j hj => ?_⟩⟩, grownBy_setCells g news _ w,
        ⟨hx1, .inr ⟨g, off, cap, _, rfl, hb, heap_setCells_at g news _ w cur e hh, hnc, hc, by rw [setArr_size]; exact hs, fun j hj => by rw [setArr_lt _ _ _ _ (by omega)]; exact hx j hj⟩⟩, .inl rfl⟩
      by_cases hj1 : j < n * i.size
      · rw [setArr_lt _ _ _ _ (by omega), hx j hj1, List.getElem?_append_left (by omega)]
      · obtain ⟨q, rfl⟩ : ∃ q, j = n * i.size + q := ⟨j - n * i.size, by omega⟩
        rw [show off + (n * i.size + q) = off + n * i.size + q by omega, setArr_in _ _ _ _ (by omega) (by omega), List.getElem?_append_right (by omega)]
        congr 1
        omega
    · obtain ⟨v', w', hrun, h2, h3⟩ := run_append_arg_grows (P := P) w t ty e i z size bytes ht hi hz hsize hby hzs hsz ⟨g, off, none⟩ n cap xs hx1
        (fun j u hj => by
          have hj' : j < n * size := by
            rcases Nat.lt_or_ge j xs.length with h | h
            · omega
            · rw [List.getElem?_eq_none h] at hj; cases hj
          rw [Addr.add_lit, cell_of_row w g _ cur e (0, 0) hh, hx j hj', hj])
        ad m c news hl hnews (by omega) h63 hbytes
      refine ⟨v', w', hrun, (OwnAt.of_row h2).mono hbase, ⟨h3.os, h3.tape, h3.output, h3.size, fun k hk _ => h3.block k hk (by simp)⟩, ?_, .inr ?_⟩
      · refine ⟨hx1, .inr ⟨g, off, cap, cur, rfl, hb, (h3.block g ?_ (by simp)).trans hh, hnc, hc, hs, hx⟩⟩
        rcases Nat.lt_or_ge g w.heap.size with h | h
        · exact h
        · rw [Array.getElem?_eq_none h] at hh; cases hh
      obtain ⟨k1, ⟨_, k2⟩ | ⟨g', cap', cur', rfl, hg, hh', _⟩⟩ := h2
      · omega
      · exact ⟨g', rfl, hg, by
          rcases Nat.lt_or_ge g' w'.heap.size with h | h
          · exact h
          · rw [Array.getElem?_eq_none h] at hh'; cases hh'⟩

theorem wp_append_ownAt {o : Oper} {a : Act} {K : Act → World → Prop} {Q : Exit → Act → World → Prop} (s x : Operand) (t : TypeId)
    (ho : o.op = .call { callee := .builtin .append, args := #[s, x], argTypes := #[t, t] })
    (base : Nat) (e : TypeId) (i : TypeInfo) (z : Value) (size bytes : Nat) (ht : P.underlying t = some (.slice e)) (hi : P.info? e = some i) (hz : i.zero = some z)
    (hsize : i.size = size) (hby : i.bytes = bytes) (hzs : z.cells.size = size) (hsz : 0 < size)
    (v : Value) (n : Nat) (xs : List Value) (hs : a.eval s = v) (hown : OwnAt w base e size v n xs)
    (ad : Addr) (m c : Nat) (news : List Value) (hx : a.eval x = .slice (some ad) m c) (hl : news.length = m * size) (hnews : ∀ j u, news[j]? = some u → w.cell? (ad.add j) = some u) (h1 : ∀ u ∈ news, u.oneCell' = true)
    (h63 : n + m ≤ maxLen) (hbytes : (n + m) * bytes ≤ 140737488355328) (hbase : base ≤ w.heap.size) (hm : 0 < m)
    (h : ∀ v' w', OwnAt w' base e size v' (n + m) (xs ++ news) → w.grownBy w' v.ownBlock → OwnAt w' base e size v n xs → (v'.ownBlock = v.ownBlock ∨ ∃ g, v'.ownBlock = some g ∧ w.heap.size ≤ g ∧ g < w'.heap.size) → K (a.put o.dst v') w') : o.wp P a w K Q := by
  obtain ⟨v', w', hrun, h2, h3, h5, h4⟩ := run_append_ownAt (P := P) w base t o.type e i z size bytes ht hi hz hsize hby hzs hsz v n xs hown ad m c news hl hnews h1 h63 hbytes hbase hm
  unfold Oper.wp execOp
  simp only [ho, resolve, invoke, builtin, Sem.run_bind, Sem.run_pure, Result.andThen_ok, List.map_toArray, List.map_cons, List.map_nil, hs, hx, hrun]
  exact h v' w' h2 h3 h5 h4

theorem wpList_append_ownAt {ops : Array Oper} {rest : List Oper} {o : Oper} {a : Act} {Q : Exit → Act → World → Prop} (hgd : o.guard = none) (s x : Operand) (t : TypeId)
    (ho : o.op = .call { callee := .builtin .append, args := #[s, x], argTypes := #[t, t] })
    (base : Nat) (e : TypeId) (i : TypeInfo) (z : Value) (size bytes : Nat) (ht : P.underlying t = some (.slice e)) (hi : P.info? e = some i) (hz : i.zero = some z)
    (hsize : i.size = size) (hby : i.bytes = bytes) (hzs : z.cells.size = size) (hsz : 0 < size)
    (v : Value) (n : Nat) (xs : List Value) (hs : a.eval s = v) (hown : OwnAt w base e size v n xs)
    (ad : Addr) (m c : Nat) (news : List Value) (hx : a.eval x = .slice (some ad) m c) (hl : news.length = m * size) (hnews : ∀ j u, news[j]? = some u → w.cell? (ad.add j) = some u) (h1 : ∀ u ∈ news, u.oneCell' = true)
    (h63 : n + m ≤ maxLen) (hbytes : (n + m) * bytes ≤ 140737488355328) (hbase : base ≤ w.heap.size) (hm : 0 < m)
    (h : ∀ v' w', OwnAt w' base e size v' (n + m) (xs ++ news) → w.grownBy w' v.ownBlock → OwnAt w' base e size v n xs → (v'.ownBlock = v.ownBlock ∨ ∃ g, v'.ownBlock = some g ∧ w.heap.size ≤ g ∧ g < w'.heap.size) → wpList P ops Q rest (a.put o.dst v') w') :
    wpList P ops Q (o :: rest) a w :=
  wpList_plain hgd fun _ hK => wp_append_ownAt w s x t ho base e i z size bytes ht hi hz hsize hby hzs hsz v n xs hs hown ad m c news hx hl hnews h1 h63 hbytes hbase hm fun v' w' h2 h3 h5 h4 => hK _ _ (h v' w' h2 h3 h5 h4)
end

end Go.Proofs.YtkeaoejgboefbaaGreatDoor

/- Names: engine.named. -/
namespace Go.Proofs.YtkeaoejgboefbaaGreatDoor
open Go.RowKit

def byteB (b : UInt8) : Bool := decide (33 ≤ b.toNat) && decide (b.toNat ≤ 126)
theorem nameB_is (s : ByteArray) : E.nameB s = (decide (1 ≤ s.size) && decide (s.size ≤ 128) && s.data.toList.all byteB) := rfl
def okTo (s : ByteArray) (k : Nat) : Prop := (s.data.toList.take k).all byteB = true
theorem okTo_succ {s : ByteArray} {k : Nat} (h : okTo s k) (hk : k < s.size) (hb : byteB s[k] = true) : okTo s (k + 1) := by
  unfold okTo at h ⊢
  have hl : k < s.data.toList.length := by rw [Array.length_toList]; exact hk
  rw [List.take_succ_eq_append_getElem hl, List.all_append, h]
  have e : s.data.toList[k] = s[k] := by rw [Array.getElem_toList]; rfl
  simp [e, hb]
theorem okTo_end {s : ByteArray} (h : okTo s s.size) : s.data.toList.all byteB = true := by
  unfold okTo at h
  rwa [List.take_of_length_le (by rw [Array.length_toList]; exact Nat.le_refl _)] at h
theorem all_miss {s : ByteArray} {k : Nat} (hk : k < s.size) (hb : byteB s[k] = false) : s.data.toList.all byteB = false := by
  rw [Bool.eq_false_iff]
  intro h
  have hl : k < s.data.toList.length := by rw [Array.length_toList]; exact hk
  have e : s.data.toList[k] = s[k] := by rw [Array.getElem_toList]; rfl
  have := List.all_eq_true.1 h _ (List.getElem_mem hl)
  rw [e, hb] at this
  cases this
set_option maxRecDepth 100000 in
theorem named_any (s : ByteArray) (w : World) (hs : s.size ≤ 9223372036854775807) : Calls Tryz.prog 42 #[.string s] w fun e w' => e = .returned (.bool (E.nameB s)) ∧ w = w' := by
  obtain ⟨R, hR⟩ : ∃ R, R = E.nameB s := ⟨_, rfl⟩
  rw [← hR]
  have HR := Lib.hid hR
  clear hR
  by_cases h0 : s.size < 1
  · have HF : Hid (R = false) := by unfold Hid; rw [HR.out, nameB_is, decide_eq_false (by omega)]; rfl
    go_enter Tryz.func42, Tryz.ntmps42
    go_wp2_with fail
    go_ret
    exact ⟨by rw [HF.out]; rfl, rfl⟩
  by_cases h1 : 128 < s.size
  · have HF : Hid (R = false) := by unfold Hid; rw [HR.out, nameB_is, decide_eq_false (p := s.size ≤ 128) (by omega)]; simp
    go_enter Tryz.func42, Tryz.ntmps42
    go_wp2_with fail
    go_ret
    exact ⟨by rw [HF.out]; rfl, rfl⟩
  have HB : Hid (R = s.data.toList.all byteB) := by unfold Hid; rw [HR.out, nameB_is, decide_eq_true (by omega), decide_eq_true (by omega)]; rfl
  clear HR
  go_enter Tryz.func42, Tryz.ntmps42
  go_wp2_with fail
  go_loopw [14] (fun i wr => ∃ k : Nat, k ≤ s.size ∧ i = .int .i64 k ∧ Hid (okTo s k) ∧ wr = w) (fun i _ => s.size - (intOf i).toNat)
  case atStart => exact ⟨0, Nat.zero_le _, rfl, rfl, rfl⟩
  case round =>
    obtain ⟨k, hk, rfl, HK, rfl⟩ := hrel
    by_cases hlt : k < s.size
    · have hb255 : s[k].toNat ≤ 255 := by have := s[k].toNat_lt; omega
      have HS := Lib.hid (fun hb => okTo_succ HK.out hlt hb)
      have HM := Lib.hid (fun hb => all_miss hlt hb)
      have hby : byteB s[k] = (decide (33 ≤ s[k].toNat) && decide (s[k].toNat ≤ 126)) := rfl
      have HBY := Lib.hid hby
      clear hby
      generalize hbn : s[k].toNat = n at hb255 HBY
      by_cases hlo : n < 33
      · have HF : Hid (R = false) := by unfold Hid; rw [HB.out, HM.out (by rw [HBY.out, decide_eq_false (by omega)]; rfl)]
        go_wp2_with fail
        go_ret
        exact ⟨by rw [HF.out]; rfl, rfl⟩
      by_cases hhi : 126 < n
      · have HF : Hid (R = false) := by unfold Hid; rw [HB.out, HM.out (by rw [HBY.out, decide_eq_false (p := n ≤ 126) (by omega)]; simp)]
        go_wp2_with fail
        go_ret
        exact ⟨by rw [HF.out]; rfl, rfl⟩
      have HK2 := Lib.hid (HS.out (by rw [HBY.out, decide_eq_true (by omega), decide_eq_true (by omega)]; rfl))
      go_wp2_with fail
      go_roundw
      case rel => exact ⟨k + 1, by omega, by go_num, HK2.out, trivial⟩
      case measure => simp [intOf]; omega
    · have HT : Hid (R = true) := by
        have : k = s.size := by omega
        have h8 := HK.out
        rw [this] at h8
        unfold Hid; rw [HB.out, okTo_end h8]
      go_wp2_with fail
      go_ret
      exact ⟨by rw [HT.out]; rfl, rfl⟩
end Go.Proofs.YtkeaoejgboefbaaGreatDoor
