/- The walk of WinnowPrints. -/
import Derived.Test.YtmibpagajenndaaDoorPl
namespace Go.Proofs.YtmibpagajenndaaDoor
open Go.RowKit

theorem box2 {w w1 : World} {x y : Value} {t : TypeId} (h : Ext (w.alloc (.cells #[x, y] t)) w1) :
    w1.cell? ⟨w.heap.size, 0, none⟩ = some x ∧ w1.cell? ⟨w.heap.size, 1, none⟩ = some y ∧ Ext w w1 :=
  ⟨h.keepc (cell_new w #[x, y] t 0), h.keepc (cell_new w #[x, y] t 1), ((Ext.refl w).alloc _).trans h⟩
theorem prl_of (l : List (ByteArray × Int)) (k q : Int) (t okk okq : Bool) : (printsL t okk okq l k q).length ≤ l.length := by
  unfold printsL
  split
  · unfold fpL
    rw [prl_len _ _ _ (Nat.le_refl _)]
    exact Nat.le_trans (sel_le _ _) (grams_le _ _)
  · simp

set_option maxRecDepth 8000 in
set_option maxHeartbeats 1000000 in
theorem prints_few (p : ByteArray) (l : List (ByteArray × Int)) (A : Option Addr) (c n : Nat) (k q : Int) (w : World) (hn : n = l.length) (hp : p.size ≤ 9223372036854775807) (hA : SliceAt lexR w (Old w) A c l) (h : fewB l = false ∨ (fewB l = true ∧ 200 < p.size)) :
    Calls Tryd.prog 4 #[.agg #[.string p, .slice A n c], .int .i64 k, .int .i64 q] w (Al (.bool true) w) := by
  rcases h with h | ⟨h, h2⟩
  all_goals
    have FA := Lib.hid (Few_at l A c n _ w hn hA h)
    clear h hA hn
    go_enter Tryd.func4, Tryd.ntmps4
    go_wp2_with fail
    refine (awake25 _).mono ?_
    rintro e w1 ⟨rfl, d1⟩
    obtain ⟨b0, b1, e1⟩ := box2 d1
    clear d1
    go_wp2_with fail
    refine (FA.out _ e1).mono ?_
    rintro e w' ⟨rfl, rfl⟩
    go_wp2_with fail
    go_ret
    exact ⟨rfl, e1⟩

set_option maxRecDepth 8000 in
set_option maxHeartbeats 1000000 in
theorem prints_main (p : ByteArray) (l : List (ByteArray × Int)) (A : Option Addr) (c n : Nat) (k q m : Int) (w : World) (hn : n = l.length) (hp : p.size ≤ 200) (hA : SliceAt lexR w (Old w) A c l) (hm : w.cell? ⟨0, 0, none⟩ = some (.int .i64 m)) (h : fewB l = true) :
    Calls Tryd.prog 4 #[.agg #[.string p, .slice A n c], .int .i64 k, .int .i64 q] w (Al (.bool true) w) := by
  have hl := few_len h
  rw [← hn] at hl
  have FA := Lib.hid (Few_at l A c n true w hn hA h)
  have hw : ∀ x ∈ l, x.1.size ≤ 9000000 := fun x hx => by have := few_words h x hx; omega
  have P1 := Lib.hid (fun w' (h : Ext w w') => Prints_any p l A c n k q m w' hn (by omega) (hA.ext h) (by omega) hw (h.keepc hm))
  have P2 := Lib.hid (fun w' (h : Ext w w') => refPrints_any p l A c n k q w' hn (by omega) (hA.ext h) (by omega) hw)
  have G1 := Lib.hid (Guarantee_any k q)
  have G2 := Lib.hid (refGuarantee_any k q)
  generalize printsL (textB p l) (okW k) (okW q) l k q = L at P1 P2
  generalize printsE (textB p l) (okW k) (okW q) = E at P1 P2
  generalize guarV k q = V at G1 G2
  generalize guarE k q = U at G1 G2
  clear h hA hm hw hn
  have eE : (E == E) = true := by simp
  have eV : (V == V) = true := by simp
  have eU : (U == U) = true := by simp
  go_enter Tryd.func4, Tryd.ntmps4
  go_wp2_with fail
  refine (awake25 _).mono ?_
  rintro e w1 ⟨rfl, d1⟩
  obtain ⟨b0, b1, e1⟩ := box2 d1
  clear d1
  go_wp2_with fail
  refine (FA.out _ e1).mono ?_
  rintro e w' ⟨rfl, rfl⟩
  go_wp2_with fail
  refine (P1.out _ e1).mono ?_
  rintro e w2 ⟨v2, rfl, o2, d2⟩
  obtain ⟨A2, c2, rfl, i2⟩ := PrAt.of_prs o2
  have b0' := d2.keepc b0
  have b1' := d2.keepc b1
  have e2 := e1.trans d2
  clear o2 b0 b1
  go_wp2_with fail
  refine (P2.out _ e2).mono ?_
  rintro e w3 ⟨v3, rfl, o3, d3⟩
  obtain ⟨A3, c3, rfl, i3⟩ := PrAt.of_prs o3
  have i2' := i2.ext d3
  have EQ := Lib.hid (EqualPrs_q L A2 A3 c2 c3 L.length w3 i2' i3)
  generalize L.length = nl at EQ ⊢
  have e3 := e2.trans d3
  clear o3 i2 i2' i3
  go_wp2_with fail
  refine (G1.out _).mono ?_
  rintro e w' ⟨rfl, rfl⟩
  go_wp2_with fail
  refine (G2.out _).mono ?_
  rintro e w' ⟨rfl, rfl⟩
  go_wp2_with fail
  refine EQ.out.mono ?_
  rintro e w4 ⟨rfl, d4⟩
  go_wp2_with fail
  go_ret
  exact ⟨rfl, e3.dr d4⟩

theorem winnowPrints_walk (v0 v1 v2 : Value) (a0 : ByteArray × List (ByteArray × Int)) (a1 a2 m : Int) (w : World) (hm : w.cell? ⟨0, 0, none⟩ = some (.int .i64 m)) (h0 : ∃ cs, v0 = .agg cs)
    (r0 : textR.val w a0 v0) (r1 : (intR .i64).val w a1 v1) (r2 : (intR .i64).val w a2 v2) : Calls Tryd.prog 4 #[v0, v1, v2] w (Al (.bool true) w) := by
  obtain ⟨A, c, rfl, hp, hA⟩ := text_val h0 r0
  obtain ⟨rfl, _⟩ := val_int r1
  obtain ⟨rfl, _⟩ := val_int r2
  cases hf : fewB a0.2 with
  | false => exact prints_few _ _ _ _ _ _ _ _ rfl hp hA (.inl hf)
  | true =>
    by_cases h2 : 200 < a0.1.size
    · exact prints_few _ _ _ _ _ _ _ _ rfl hp hA (.inr ⟨hf, h2⟩)
    · exact prints_main _ _ _ _ _ _ _ _ _ rfl (by omega) hA hm hf

end Go.Proofs.YtmibpagajenndaaDoor
