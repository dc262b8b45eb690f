/- What comes in reads so; the example of chapter 24; RollingNumbers. -/
import Derived.Test.YtmibpagajenndaaDoorF
namespace Go.Proofs.YtmibpagajenndaaDoor
open Go.RowKit
section
variable {H : Type} {enc : TypeId × Value → H} {w : World}
theorem op3 : Opens enc Tryd.prog w 3 (intR .i64) := Opens.int Tryd.underlying3 (by kernel_rfl)
theorem op5 : Opens enc Tryd.prog w 5 (intR .u8) := Opens.int Tryd.underlying5 (by kernel_rfl)
theorem op9 : Opens enc Tryd.prog w 9 strR := Opens.str Tryd.underlying9 (by kernel_rfl)
theorem op53 : Opens enc Tryd.prog w 53 (sliceR (intR .i64)) := Opens.slice Tryd.underlying53 (by kernel_rfl) (by decide) op3
theorem op49 : Opens enc Tryd.prog w 49 lexR := Opens.struct Tryd.underlying49 (by kernel_rfl) (.cons op9 rfl (.one op3 rfl))
theorem op22 : Opens enc Tryd.prog w 22 (sliceR lexR) := Opens.slice Tryd.underlying22 (by kernel_rfl) (by decide) op49
end

theorem code_at (s : ByteArray) (n : Int) (hs : s.size ≤ 9223372036854775807) (h : M.code s.data.toList = n) (w : World) : Calls Tryd.prog 20 #[.string s] w (Qu (.int .i64 n) w) := h ▸ code_q s w hs

theorem lex_slice {w : World} {B : Nat → Prop} {b off c : Nat} {l : List (ByteArray × Int)} (hb : B b) (hl : l.length ≤ c) (hc : c ≤ 9223372036854775807)
    (h : ∀ i (hi : i < l.length), w.cell? ⟨b, off + i * 2, none⟩ = some (.string l[i].1) ∧ w.cell? ⟨b, off + i * 2 + 1, none⟩ = some (.int .i64 l[i].2) ∧ l[i].1.size ≤ 9223372036854775807 ∧ (Lit.int .i64 l[i].2).wf = true) :
    SliceAt lexR w B (some ⟨b, off, none⟩) c l := by
  refine ⟨hl, hc, fun _ => ⟨b, off, rfl, hb, fun i hi => ?_⟩⟩
  obtain ⟨h0, h1, h2, h3⟩ := h i hi
  refine ⟨_, ⟨_, _, rfl, ⟨rfl, h2⟩, rfl, h3⟩, fun j u hj => ?_⟩
  match j, hj with
  | 0, hj => cases hj; exact h0
  | 1, hj => cases hj; exact h1

theorem awake24 (w : World) : Calls Tryd.prog 6 #[] w (Al (.bool true) w) := by
  have c0 := Lib.hid (code_at ⟨#[]⟩ 0 (by decide) (by simp [M.code]))
  have c1 := Lib.hid (code_at ⟨#[97]⟩ 98 (by decide) (by simp [M.code]))
  have c2 := Lib.hid (code_at ⟨#[97, 98]⟩ 25285 (by decide) (by simp [M.code]))
  have hp : powS 1 = 1000003 := by unfold powS; rw [if_pos (by omega)]; simp [M.pw]
  have hh : M.hash (texts [(⟨#[97]⟩, 0), (⟨#[98]⟩, 7)]) = 99000397 := by simp [M.hash, texts, M.next, M.code]
  have Hp := Lib.hid hp
  have Hh := Lib.hid hh
  clear hp hh
  go_enter Tryd.func6, Tryd.ntmps6
  go_wp2_with fail
  refine (c0.out _).mono ?_
  rintro e w1 ⟨rfl, d1⟩
  go_wp2_with fail
  refine (c1.out _).mono ?_
  rintro e w2 ⟨rfl, d2⟩
  go_wp2_with fail
  refine (c2.out _).mono ?_
  rintro e w3 ⟨rfl, d3⟩
  have D := (d1.trans d2).trans d3
  have hsl : SliceAt lexR w3 (Old w3) (some ⟨w.heap.size, 0, none⟩) 2 [(⟨#[97]⟩, 0), (⟨#[98]⟩, 7)] := by
    refine lex_slice (show _ < _ by rw [D.size]; simp) (by decide) (by omega) fun i hi => ?_
    simp only [D.cell]
    match i, hi with
    | 0, _ => exact ⟨cell_new _ _ _ 0, cell_new _ _ _ 1, by dsimp only [List.getElem_cons_zero]; decide, by dsimp only [List.getElem_cons_zero]; decide⟩
    | 1, _ => exact ⟨cell_new _ _ _ 2, cell_new _ _ _ 3, by dsimp only [List.getElem_cons_zero, List.getElem_cons_succ]; decide, by dsimp only [List.getElem_cons_zero, List.getElem_cons_succ]; decide⟩
  go_wp2_with fail
  refine (Hash_a _ _ _ _ hsl).mono ?_
  rw [Hh.out]
  rintro e w4 ⟨rfl, d4⟩
  go_wp2_with fail
  refine (Power_any _ _).mono ?_
  rw [Hp.out]
  rintro e w' ⟨rfl, rfl⟩
  go_wp2_with fail
  go_ret
  exact ⟨rfl, (((Ext.refl w).alloc _).dr D).trans d4⟩

end Go.Proofs.YtmibpagajenndaaDoor
