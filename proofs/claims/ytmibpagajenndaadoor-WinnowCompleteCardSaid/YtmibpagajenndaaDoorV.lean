/- Fingerprints as pairs of numbers; ordered; the reference's Shared. -/
import Derived.Test.YtmibpagajenndaaDoorT
namespace Go.Proofs.YtmibpagajenndaaDoor
open Go.RowKit

/-- A fingerprint: its hash and its place. -/
def prR : Rep (Int × Int) := prodR (intR .i64) (intR .i64)
def hh (l : List (Int × Int)) (j : Nat) : Int := (l.getD j (0, 0)).1
def pp (l : List (Int × Int)) (j : Nat) : Int := (l.getD j (0, 0)).2
theorem hh_get (l : List (Int × Int)) (j : Nat) (h : j < l.length) : l[j].1 = hh l j := by unfold hh; simp [h]
theorem pp_get (l : List (Int × Int)) (j : Nat) (h : j < l.length) : l[j].2 = pp l j := by unfold pp; simp [h]
attribute [irreducible] hh pp

/-- n fingerprints at A. -/
def PrAt (w : World) (A : Option Addr) (n : Nat) (l : List (Int × Int)) : Prop :=
  n = l.length ∧ n ≤ 9223372036854775807 ∧ (0 < n → ∃ b off, A = some ⟨b, off, none⟩ ∧ ∀ j, j < n → w.cell? ⟨b, off + j * 2, none⟩ = some (.int .i64 (hh l j)) ∧ w.cell? ⟨b, off + j * 2 + 1, none⟩ = some (.int .i64 (pp l j)))
theorem PrAt.ext {w w' : World} {A : Option Addr} {n : Nat} {l : List (Int × Int)} (h : PrAt w A n l) (he : Ext w w') : PrAt w' A n l := by
  obtain ⟨h1, h2, h3⟩ := h
  refine ⟨h1, h2, fun hn => ?_⟩
  obtain ⟨b, off, e, hc⟩ := h3 hn
  exact ⟨b, off, e, fun j hj => ⟨he.keepc (hc j hj).1, he.keepc (hc j hj).2⟩⟩
theorem PrAt.of_slice {w : World} {S : Nat → Prop} {A : Option Addr} {c : Nat} {l : List (Int × Int)} (h : SliceAt prR w S A c l) : PrAt w A l.length l := by
  obtain ⟨h1, h2, h3⟩ := h
  refine ⟨rfl, by omega, fun hn => ?_⟩
  obtain ⟨b, off, hA, _, hr⟩ := h3 (List.length_pos_iff.1 hn)
  refine ⟨b, off, hA, fun j hj => ?_⟩
  obtain ⟨us, hu, hc⟩ := hr j hj
  obtain ⟨x, y, rfl, ⟨rfl, _⟩, rfl, _⟩ := hu
  have c0 := hc 0 _ rfl
  have c1 := hc 1 _ rfl
  rw [show prR.size = 2 from rfl] at c0 c1
  rw [hh_get _ _ hj] at c0
  rw [pp_get _ _ hj] at c1
  exact ⟨c0, c1⟩

/-- The order of the places. -/
def ordB (l : List (Int × Int)) : Bool := decide (∀ i, i < l.length → i + 1 < l.length → pp l i < pp l (i + 1))

set_option maxHeartbeats 400000 in
theorem ordered_q (l : List (Int × Int)) (A : Option Addr) (c n : Nat) (w : World) (hA : PrAt w A n l) (hl : n ≤ 60) : Calls Tryd.prog 34 #[.slice A n c] w (Qu (.bool (ordB l)) w) := by
  by_cases hn : n ≤ 1
  · have hb : ordB l = true := by unfold ordB; have := hA.1; exact decide_eq_true fun i _ h => absurd h (by omega)
    have hz : max ((n : Int) - 1) 0 = 0 := by omega
    rw [hb]
    clear hb hA
    go_enter Tryd.func34, Tryd.ntmps34
    go_wp2_with fail
    refine wp_loop_rounds 1 ?_
    rw [rounds_succ]
    go_wp2_with fail
    go_ret
    exact ⟨rfl, Dr.refl _⟩
  · obtain ⟨b, off, rfl, hc⟩ := hA.2.2 (by omega)
    have HC := Lib.hid hc
    have HL := Lib.hid hA.1
    have hz : max ((n : Int) - 1) 0 = (n : Int) - 1 := by omega
    clear hc hA
    obtain ⟨B, hB⟩ : ∃ B, B = ordB l := ⟨_, rfl⟩
    rw [← hB]
    have HB := Lib.hid hB
    clear hB
    go_enter Tryd.func34, Tryd.ntmps34
    go_wp2_with fail
    go_loopw [8] (fun i wr => ∃ k : Nat, k + 1 ≤ n ∧ i = .int .i64 k ∧ Hid (∀ j, j < k → pp l j < pp l (j + 1)) ∧ Dr w wr) (fun i _ => n - (intOf i).toNat)
    case atStart => exact ⟨0, by omega, rfl, fun j hj => absurd hj (Nat.not_lt_zero _), Dr.refl _⟩
    case round =>
      obtain ⟨k, hk, rfl, hup, hd⟩ := hrel
      by_cases hlt : k + 1 < n
      · have c0 := hd.keepc (HC.out k (by omega)).2
        have c1 := hd.keepc (HC.out (k + 1) (by omega)).2
        by_cases hle : pp l k < pp l (k + 1)
        · go_wp2_with fail
          go_quiet (fail)
          go_wp2_with fail
          go_roundw
          case rel =>
            refine ⟨k + 1, by omega, by go_num, fun j hj => ?_, hd.drewN _⟩
            by_cases e : j = k
            · subst e; exact hle
            · exact hup.out j (by omega)
          case measure => simp [intOf]; omega
        · have hb : B = false := by rw [HB.out]; unfold ordB; exact decide_eq_false fun h => hle (h k (by have := HL.out; omega) (by have := HL.out; omega))
          subst hb
          go_wp2_with fail
          go_quiet (fail)
          go_wp2_with fail
          go_ret
          exact ⟨rfl, hd.drewN _⟩
      · have hb : B = true := by rw [HB.out]; unfold ordB; exact decide_eq_true fun i _ h => hup.out i (by have := HL.out; omega)
        subst hb
        go_wp2_with fail
        go_ret
        exact ⟨rfl, hd⟩

/-- The places of the first j fingerprints with hash h. -/
def col (b : List (Int × Int)) (h : Int) : Nat → List Int
  | 0 => []
  | j + 1 => col b h j ++ (if hh b j = h then [pp b j] else [])
def with1 (x : Int) (l : List Int) : List (Int × Int) := l.map fun y => (x, y)
theorem with1_len (x : Int) (l : List Int) : (with1 x l).length = l.length := by simp [with1]
theorem with1_append (x : Int) (l m : List Int) : with1 x (l ++ m) = with1 x l ++ with1 x m := by simp [with1]
theorem col_len (b : List (Int × Int)) (h : Int) : ∀ j, (col b h j).length ≤ j
  | 0 => Nat.le_refl _
  | j + 1 => by
    have := col_len b h j
    rw [col, List.length_append]
    split <;> simp <;> omega
/-- The pairs of the first k of one list with the first m of the other one. -/
def prs (a b : List (Int × Int)) (m : Nat) : Nat → List (Int × Int)
  | 0 => []
  | k + 1 => prs a b m k ++ with1 (pp a k) (col b (hh a k) m)
theorem prs_len (a b : List (Int × Int)) (m : Nat) : ∀ k, (prs a b m k).length ≤ k * m
  | 0 => by simp [prs]
  | k + 1 => by
    have := prs_len a b m k
    have := col_len b (hh a k) m
    rw [prs, List.length_append, with1_len, Nat.succ_mul]
    omega
theorem prs_mono (a b : List (Int × Int)) (m : Nat) : ∀ k d, (prs a b m k).length ≤ (prs a b m (k + d)).length
  | _, 0 => Nat.le_refl _
  | k, d + 1 => by
    have := prs_mono a b m k d
    rw [← Nat.add_assoc, prs, List.length_append]
    omega

/-- Pairs of the call's own. -/
def pcells (l : List (Int × Int)) : List Value := l.flatMap fun p => [.int .i64 p.1, .int .i64 p.2]
theorem pcells_len : ∀ l : List (Int × Int), (pcells l).length = l.length * 2
  | [] => rfl
  | p :: l => by
    have := pcells_len l
    unfold pcells at *
    rw [List.flatMap_cons, List.length_append, this, List.length_cons]
    simp
    omega
theorem pcells_append (l m : List (Int × Int)) : pcells (l ++ m) = pcells l ++ pcells m := by unfold pcells; exact List.flatMap_append
theorem pcells_one (l : List (Int × Int)) : ∀ u ∈ pcells l, u.oneCell' = true := by
  intro u hu
  obtain ⟨p, _, hp⟩ := List.mem_flatMap.1 hu
  simp at hp
  rcases hp with rfl | rfl <;> rfl
theorem pcells_get : ∀ (l : List (Int × Int)) (j : Nat) (h : j < l.length), (pcells l)[j * 2]? = some (.int .i64 l[j].1) ∧ (pcells l)[j * 2 + 1]? = some (.int .i64 l[j].2)
  | p :: l, 0, _ => by simp [pcells]
  | p :: l, j + 1, h => by
    have := pcells_get l j (by simpa using h)
    rw [show (p :: l)[j + 1] = l[j]'(by simpa using h) from rfl]
    have e : pcells (p :: l) = [.int .i64 p.1, .int .i64 p.2] ++ pcells l := rfl
    rw [e, List.getElem?_append_right (by simp; omega), List.getElem?_append_right (by simp; omega)]
    simp only [List.length_cons, List.length_nil]
    rw [show (j + 1) * 2 - (0 + 1 + 1) = j * 2 by omega, show (j + 1) * 2 + 1 - (0 + 1 + 1) = j * 2 + 1 by omega]
    exact this
def OwnPairs (w : World) (base : Nat) (v : Value) (l : List (Int × Int)) : Prop := OwnAt w base 45 2 v l.length (pcells l)
theorem pair_info : (Tryd.prog.info? 45).map (fun i => (i.zero, i.size, i.bytes)) = some (some (.agg #[.int .i64 0, .int .i64 0]), 2, 16) := by kernel_rfl
theorem cells_new_pair (w : World) (x y : Int) : ∀ j u, (pcells [(x, y)])[j]? = some u → (w.alloc (.cells #[.int .i64 x, .int .i64 y] 45)).cell? ((⟨w.heap.size, 0, none⟩ : Addr).add j) = some u := by
  intro j u hj
  rw [Addr.add_lit, Nat.zero_add, cell_new, ← hj]
  simp [pcells]
theorem own_pairs_empty (w : World) (g : Nat) (hg : g = w.heap.size) : OwnPairs (w.alloc (.cells #[] 45)) w.heap.size (.slice (some ⟨g, 0, none⟩) 0 0) [] := by
  subst hg
  exact ⟨by simp [pcells], .inr ⟨w.heap.size, 0, 0, #[], rfl, Nat.le_refl _, heap_alloc_new _ _, Nat.le_refl _, by omega, by simp, fun j hj => by simp at hj⟩⟩
theorem own_pairs_snoc {w : World} {base : Nat} {v : Value} {l : List (Int × Int)} {x y : Int} {n : Nat} (hn : n = l.length) (h : OwnAt w base 45 2 v (n + 1) (pcells l ++ pcells [(x, y)])) : OwnPairs w base v (l ++ [(x, y)]) := by
  subst hn
  unfold OwnPairs
  rw [List.length_append, pcells_append]
  exact h

end Go.Proofs.YtmibpagajenndaaDoor
