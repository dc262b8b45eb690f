/- Grams at every number; equality of lists; the walks of RollingMoves and RollingHashes. -/
import Derived.Test.YtmibpagajenndaaDoorH
namespace Go.Proofs.YtmibpagajenndaaDoor
open Go.RowKit

/-- What Grams gives. -/
def gramsL (l : List (ByteArray × Int)) (k : Int) : List Int := if 1 ≤ k ∧ k ≤ 8192 then grams l k.toNat (l.length + 1 - k.toNat) else []
def gramsE (k : Int) : Int := if 1 ≤ k ∧ k ≤ 8192 then 0 else 3
/-- It returns a list of the call's own, and e. -/
def RetInts (w : World) (L : List Int) (er : Int) (e : Ending) (w' : World) : Prop := ∃ v, e = .returned (.tuple #[v, .int .i64 er]) ∧ OwnInts w' w.heap.size v L ∧ Ext w w'

theorem own_nil (w : World) (b : Nat) : OwnInts w b (.slice none 0 0) [] := OwnAt.nil _ _ _ _

set_option maxHeartbeats 800000 in
theorem Grams_any (l : List (ByteArray × Int)) (A : Option Addr) (c : Nat) (k : Int) (w : World) (hA : SliceAt lexR w (Old w) A c l) (hl : l.length ≤ 8192) :
    Calls Tryd.prog 26 #[.slice A l.length c, .int .i64 k] w (RetInts w (gramsL l k) (gramsE k)) := by
  have hlc := hA.1
  have hcc := hA.2.1
  by_cases hk : 1 ≤ k ∧ k ≤ 8192
  · have e1 : gramsL l k = grams l k.toNat (l.length + 1 - k.toNat) := if_pos hk
    have e2 : gramsE k = 0 := if_pos hk
    obtain ⟨q, rfl⟩ := Int.eq_ofNat_of_zero_le (show 0 ≤ k by omega)
    rw [e1, e2]
    rw [Int.toNat_natCast]
    by_cases hq : q ≤ l.length
    · exact Grams_walk l A c q w hA (by omega) hq hl
    · rw [show l.length + 1 - q = 0 by omega]
      have hg : Hid (grams l q 0 = []) := rfl
      go_enter Tryd.func26, Tryd.ntmps26
      go_wp2
      go_ret2
      exact ⟨_, rfl, own_nil _ _, Ext.refl _⟩
  · have e1 : gramsL l k = [] := if_neg hk
    have e2 : gramsE k = 3 := if_neg hk
    rw [e1, e2]
    by_cases h1 : k < 1
    · go_enter Tryd.func26, Tryd.ntmps26
      go_wp2
      go_ret2
      exact ⟨_, rfl, own_nil _ _, Ext.refl _⟩
    · have h2 : 8192 < k := by omega
      go_enter Tryd.func26, Tryd.ntmps26
      go_wp2
      go_ret2
      exact ⟨_, rfl, own_nil _ _, Ext.refl _⟩

set_option maxHeartbeats 800000 in
theorem refGrams_any (l : List (ByteArray × Int)) (A : Option Addr) (c : Nat) (k : Int) (w : World) (hA : SliceAt lexR w (Old w) A c l) (hl : l.length ≤ 8192) :
    Calls Tryd.prog 29 #[.slice A l.length c, .int .i64 k] w (RetInts w (gramsL l k) (gramsE k)) := by
  have hlc := hA.1
  have hcc := hA.2.1
  by_cases hk : 1 ≤ k ∧ k ≤ 8192
  · have e1 : gramsL l k = grams l k.toNat (l.length + 1 - k.toNat) := if_pos hk
    have e2 : gramsE k = 0 := if_pos hk
    obtain ⟨q, rfl⟩ := Int.eq_ofNat_of_zero_le (show 0 ≤ k by omega)
    rw [e1, e2]
    rw [Int.toNat_natCast]
    exact refGrams_walk l A c q w hA (by omega) (by omega) hl
  · have e1 : gramsL l k = [] := if_neg hk
    have e2 : gramsE k = 3 := if_neg hk
    rw [e1, e2]
    by_cases h1 : k < 1
    · go_enter Tryd.func29, Tryd.ntmps29
      go_wp2
      go_ret2
      exact ⟨_, rfl, own_nil _ _, Ext.refl _⟩
    · have h2 : 8192 < k := by omega
      go_enter Tryd.func29, Tryd.ntmps29
      go_wp2
      go_ret2
      exact ⟨_, rfl, own_nil _ _, Ext.refl _⟩

/-- A slice of numbers that reads as the list. -/
def IntsAt (w : World) (A : Option Addr) (n : Nat) (l : List Int) : Prop :=
  n = l.length ∧ l.length ≤ 9223372036854775807 ∧ (l ≠ [] → ∃ b off, A = some ⟨b, off, none⟩ ∧ ∀ j (h : j < l.length), w.cell? ⟨b, off + j, none⟩ = some (.int .i64 l[j]))
theorem IntsAt.of_own {w : World} {b : Nat} {v : Value} {l : List Int} (h : OwnInts w b v l) : ∃ A c, v = .slice A l.length c ∧ IntsAt w A l.length l := by
  by_cases hl : l = []
  · subst hl
    obtain ⟨_, ⟨rfl, _⟩ | ⟨g, off, cap, cur, rfl, _, _, hn, hc, _⟩⟩ := h
    · exact ⟨none, 0, rfl, rfl, by simp, fun h => absurd rfl h⟩
    · exact ⟨_, cap, rfl, rfl, by simp, fun h => absurd rfl h⟩
  · obtain ⟨g, off, cap, rfl, _, _, hn, hc, hcell⟩ := OwnAt.cells h (List.length_pos_iff.2 hl)
    exact ⟨_, cap, rfl, rfl, by omega, fun _ => ⟨g, off, rfl, fun j hj => hcell j _ (by simp [ints, hj])⟩⟩
theorem IntsAt.of_slice {w : World} {S : Nat → Prop} {A : Option Addr} {c : Nat} {l : List Int} (h : SliceAt (intR .i64) w S A c l) : IntsAt w A l.length l := by
  obtain ⟨h1, h2, h3⟩ := h
  refine ⟨rfl, by omega, fun hl => ?_⟩
  obtain ⟨b, off, rfl, _, hr⟩ := h3 hl
  refine ⟨b, off, rfl, fun j hj => ?_⟩
  obtain ⟨us, ⟨rfl, _⟩, h4⟩ := hr j hj
  have := h4 0 _ rfl
  rwa [show off + (j * (intR .i64).size + 0) = off + j by show off + (j * 1 + 0) = _; omega] at this
theorem IntsAt.cell {w : World} {b off n : Nat} {l : List Int} (h : IntsAt w (some ⟨b, off, none⟩) n l) (j : Nat) (hj : j < l.length) : w.cell? ⟨b, off + j, none⟩ = some (.int .i64 l[j]) := by
  obtain ⟨b', off', e, hc⟩ := h.2.2 (by rintro rfl; exact absurd hj (Nat.not_lt_zero _))
  cases e
  exact hc j hj
theorem IntsAt.same {w w' : World} {A : Option Addr} {n : Nat} {l : List Int} (h : IntsAt w A n l) (hw : ∀ p, w'.cell? p = w.cell? p) : IntsAt w' A n l := by
  refine ⟨h.1, h.2.1, fun hl => ?_⟩
  obtain ⟨b, off, e, hc⟩ := h.2.2 hl
  exact ⟨b, off, e, fun j hj => (hw _).trans (hc j hj)⟩
theorem IntsAt.ext {w w' : World} {A : Option Addr} {n : Nat} {l : List Int} (h : IntsAt w A n l) (he : Ext w w') : IntsAt w' A n l := by
  refine ⟨h.1, h.2.1, fun hl => ?_⟩
  obtain ⟨b, off, e, hc⟩ := h.2.2 hl
  exact ⟨b, off, e, fun j hj => he.keepc (hc j hj)⟩

theorem Equal_q (xs ys : List Int) (A B : Option Addr) (n m c d : Nat) (w : World) (hA : IntsAt w A n xs) (hB : IntsAt w B m ys) :
    Calls Tryd.prog 24 #[.slice A n c, .slice B m d] w (Qu (.bool (xs == ys)) w) := by
  obtain ⟨rfl, hx, hA⟩ := hA
  obtain ⟨rfl, hy, hB⟩ := hB
  by_cases hlen : xs.length = ys.length
  · by_cases h0 : xs = []
    · subst h0
      obtain rfl : ys = [] := List.eq_nil_of_length_eq_zero hlen.symm
      refine (Tryd.slices_Equal_int_empty A B c _ d w (by simp)).mono ?_
      rintro e w' ⟨rfl, rfl⟩
      exact ⟨by simp, Dr.refl _⟩
    · obtain ⟨b1, o1, rfl, h1⟩ := hA h0
      obtain ⟨b2, o2, rfl, h2⟩ := hB (by rintro rfl; exact h0 (List.eq_nil_of_length_eq_zero hlen))
      refine (Tryd.slices_Equal_int b1 o1 _ c b2 o2 _ d xs ys w (Nat.le_refl _) (Nat.le_refl _) hx hy (fun j hj => by rw [h1 j hj]; simp [List.getD, hj]) (fun j hj => by rw [h2 j hj]; simp [List.getD, hj])).mono ?_
      rintro e w' ⟨rfl, q, rfl⟩
      exact ⟨by rw [List.take_length, List.take_length], q, rfl⟩
  · refine (Tryd.slices_Equal_int_lens A B _ c _ d w hlen).mono ?_
    rintro e w' ⟨rfl, rfl⟩
    refine ⟨?_, Dr.refl _⟩
    have : (xs == ys) = false := by
      rw [beq_eq_false_iff_ne]
      rintro rfl
      exact hlen rfl
    rw [this]

theorem few_len {l : List (ByteArray × Int)} (h : fewB l = true) : l.length ≤ 40 := by
  unfold fewB at h
  rw [Bool.and_eq_true] at h
  simpa using h.1

end Go.Proofs.YtmibpagajenndaaDoor
