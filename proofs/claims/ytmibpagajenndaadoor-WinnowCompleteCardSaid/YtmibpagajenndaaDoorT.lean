/- The walk of WinnowWindows. -/
import Derived.Test.YtmibpagajenndaaDoorS
import Derived.Maps.OwnSet
namespace Go.Proofs.YtmibpagajenndaaDoor
open Go.RowKit Go.Maps

theorem W.keys_sel (g : Nat → Int) (q : Nat) (hq : 0 < q) : ∀ N, ((List.range N).map fun i => Lit.int .i64 ((W.lst g i q : Nat) : Int)).foldl addKey [] = (W.sel g q N).map fun p => Lit.int .i64 ((p : Nat) : Int)
  | 0 => by simp [W.sel]
  | 1 => by
    rw [W.sel_one]
    simp [addKey]
  | N + 2 => by
    have ih := W.keys_sel g q hq (N + 1)
    rw [List.range_succ, List.map_append, List.foldl_append, ih, W.sel_step' g q N hq]
    have hm := W.lst_mono g N q hq
    simp only [List.map_cons, List.map_nil, List.foldl_cons, List.foldl_nil, addKey]
    by_cases h : W.lst g (N + 1) q = W.lst g N q
    · rw [if_pos h, if_pos]
      rw [List.any_eq_true]
      refine ⟨_, List.mem_map.2 ⟨W.lst g N q, (W.sel_mem g q hq (N + 1) _).2 ⟨N, by omega, rfl⟩, rfl⟩, ?_⟩
      rw [h]
      exact WideAt.sameKey_self trivial
    · rw [if_neg h, if_neg]
      · rw [List.map_append]; rfl
      · rw [List.any_eq_true]
        rintro ⟨x, hx, hs⟩
        obtain ⟨p, hp, rfl⟩ := List.mem_map.1 hx
        obtain ⟨i, hi, e⟩ := (W.sel_mem g q hq (N + 1) p).1 hp
        have hs' := WideAt.sameKey_eq hs
        simp only [Lit.int.injEq, Int.natCast_inj, true_and] at hs'
        have : W.lst g i q ≤ W.lst g N q := by
          have hmo : ∀ d, W.lst g (N - d) q ≤ W.lst g N q := by
            intro d
            induction d with
            | zero => exact Nat.le_refl _
            | succ d ihd =>
              by_cases hd : d < N
              · have := W.lst_mono g (N - (d + 1)) q hq
                rw [show N - (d + 1) + 1 = N - d by omega] at this
                omega
              · rw [show N - (d + 1) = N - d by omega]; exact ihd
          have := hmo (N - i)
          rwa [show N - (N - i) = i by omega] at this
        omega

def keysW (g : Nat → Int) (q N : Nat) : List Lit := (List.range N).map fun i => Lit.int .i64 ((W.lst g i q : Nat) : Int)
def setW (g : Nat → Int) (q N : Nat) : DataW Unit := setOf (.lit (.bool true)) (keysW g q N)
theorem setW_zero (g : Nat → Int) (q : Nat) : setW g q 0 = .map [] := rfl
theorem setW_succ (g : Nat → Int) (q N : Nat) : setW g q (N + 1) = (setW g q N).put (Lit.int .i64 ((W.lst g N q : Nat) : Int)) (.lit (.bool true)) := by
  unfold setW keysW
  rw [List.range_succ, List.map_append]
  exact setOf_snoc _ _ _
theorem setW_size (l : List Int) (q N : Nat) (hq : 0 < q) : Maps.size (setW (gt l) q N) = (selI l q N).length := by
  unfold setW selI
  rw [size_setOf _ _ (by intro x hx; obtain ⟨i, _, rfl⟩ := List.mem_map.1 hx; trivial), keysW, W.keys_sel _ _ hq]
  simp
attribute [irreducible] setW

theorem law3 : Keyed Tryd.prog 3 := int_keyed Tryd.underlying3
theorem map_dr {H : Type} {w w' : World} {k : TypeId} {R : Value → Option (DataW H × List MemPlace)} {b n : Nat} {D : DataW H} (h : w.ownsMap Tryd.prog k R b n D) (d : Dr w w') : w'.ownsMap Tryd.prog k R b n D := by
  obtain ⟨m, rfl⟩ := d
  exact h
theorem selI_width1 (l : List Int) : ∀ N, (selI l 1 N).length = N
  | 0 => by rw [selI_zero]; rfl
  | 1 => by rw [selI_one]; rfl
  | N + 2 => by
    have h1 : ∀ i, W.lst (gt l) i 1 = i := fun i => by
      have := W.lst_spec (gt l) i 1 (by omega)
      omega
    rw [selI_step l 1 N (by omega), if_pos (by rw [h1, h1]; omega), List.length_append, selI_width1 l (N + 1)]
    rfl
theorem selI_has (l : List Int) (q N i : Nat) (hq : 0 < q) (hi : i < N) : ((W.lst (gt l) i q : Nat) : Int) ∈ selI l q N := by
  unfold selI
  exact List.mem_map.2 ⟨_, (W.sel_mem (gt l) q hq N _).2 ⟨i, hi, rfl⟩, rfl⟩

end Go.Proofs.YtmibpagajenndaaDoor
