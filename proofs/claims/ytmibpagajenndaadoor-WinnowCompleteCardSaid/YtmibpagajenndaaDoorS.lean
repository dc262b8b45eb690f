/- The walk of WinnowGaps. -/
import Derived.Test.YtmibpagajenndaaDoorR
namespace Go.Proofs.YtmibpagajenndaaDoor
open Go.RowKit

theorem W.sel_first (g : Nat → Int) (w : Nat) (hw : 0 < w) : ∀ n, (W.sel g w (n + 1))[0]? = some (W.lst g 0 w)
  | 0 => by rw [W.sel_one]; rfl
  | n + 1 => by
    have ih := W.sel_first g w hw n
    rw [W.sel_step' g w n hw]
    split
    · exact ih
    · rw [List.getElem?_append_left (List.length_pos_iff.2 (W.sel_ne g w n hw))]
      exact ih
theorem gt_sel (l : List Int) (q n j : Nat) (h : j < (selI l q n).length) : gt (selI l q n) j = (((W.sel (gt l) q n)[j]'(by unfold selI at h; simpa using h) : Nat) : Int) := by
  have h2 : j < (W.sel (gt l) q n).length := by unfold selI at h; simpa using h
  have : (selI l q n)[j]? = some (((W.sel (gt l) q n)[j] : Nat) : Int) := by unfold selI; rw [List.getElem?_map, List.getElem?_eq_getElem h2]; rfl
  rw [List.getElem?_eq_getElem h] at this
  rw [← gt_get _ _ h]
  exact Option.some.inj this
structure SelFacts (l : List Int) (q M : Nat) (T : List Int) : Prop where
  pos : 0 < T.length
  first : 0 ≤ gt T 0 ∧ gt T 0 < q
  last : (M : Int) ≤ gt T (T.length - 1) ∧ gt T (T.length - 1) < (M : Int) + q
  range : ∀ j, j < T.length → 0 ≤ gt T j ∧ gt T j < (M : Int) + q
  chain : ∀ j, j + 1 < T.length → gt T j < gt T (j + 1) ∧ gt T (j + 1) ≤ gt T j + q
theorem selFacts (l : List Int) (q M : Nat) (hq : 0 < q) : SelFacts l q M (selI l q (M + 1)) := by
  have hpos := selI_pos l q M hq
  have hlen : (selI l q (M + 1)).length = (W.sel (gt l) q (M + 1)).length := by unfold selI; simp
  refine ⟨hpos, ?_, ?_, fun j hj => ?_, fun j hj => ?_⟩
  · rw [gt_sel _ _ _ _ hpos]
    have h1 := W.sel_first (gt l) q hq M
    rw [List.getElem?_eq_getElem (by omega)] at h1
    have h2 := Option.some.inj h1
    have := (W.lst_spec (gt l) 0 q hq).2.1
    omega
  · rw [gt_sel _ _ _ _ (by omega)]
    have h1 := W.sel_last (gt l) q hq M
    rw [List.getLast?_eq_getElem?, List.getElem?_eq_getElem (by omega)] at h1
    have h2 := Option.some.inj h1
    have h3 := W.lst_spec (gt l) M q hq
    simp only [hlen] at *
    omega
  · rw [gt_sel _ _ _ _ hj]
    have hm := (W.sel_mem (gt l) q hq (M + 1) _).1 (List.getElem_mem (show j < (W.sel (gt l) q (M + 1)).length by omega))
    obtain ⟨i, hi, e⟩ := hm
    have h3 := W.lst_spec (gt l) i q hq
    omega
  · rw [gt_sel _ _ _ _ hj, gt_sel _ _ _ _ (by omega)]
    have := W.sel_chain (gt l) q hq (M + 1) j (by omega)
    omega

theorem Select_nat (l : List Int) (A : Option Addr) (c n q : Nat) (k : Int) (w : World) (hk : k = (q : Int)) (hA : IntsAt w A n l) (h1 : 1 ≤ q) (h2 : q ≤ 1024) (hl : n ≤ 8192) :
    Calls Tryd.prog 23 #[.slice A n c, .int .i64 k] w (RetInts w (selI l q (n + 1 - q)) 0) := hk ▸ Select_walk l A c n q w hA h1 h2 hl

end Go.Proofs.YtmibpagajenndaaDoor
