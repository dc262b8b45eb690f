/- The row and the card of WinnowComplete: for every input the law returns true, and the arguments read as before; the listed variables as the card says. No conditions of its own. -/
import Derived.Test.YtmibpagajenndaaDoorJ
import Derived.Test.YtmibpagajenndaaDoorPq
import Derived.Test.YtmibpagajenndaaDoorRows
import Derived.Test.YtmibpagajenndaaDoorCards
import Derived.Test.YtmibpagajenndaaDoorTie
import Derived.Test.YtmibpagajenndaaDoorChecked
namespace Go.Proofs.YtmibpagajenndaaDoor.lawWinnowComplete
open Go.ChangeShapes Go.WideShapes Go.ChangeAt Go.RowKit
set_option linter.unusedVariables false
theorem own : ownKnob Tryd.prog.godebug = none := by kernel_rfl
theorem laidOut : laidOutB Tryd.prog = true := by kernel_rfl
theorem met (os : Os) (args : Array Value) : laidMetH Tryd.prog Rows.winnowCompleteRow.laid ((World.laidAll Tryd.prog os Rows.winnowCompleteRow.laid).forCall (fun _ _ => 0) ⟨#[], args, []⟩).memory :=
  laidMetH_laidAll args (by kernel_rfl) (by kernel_rfl) (by kernel_rfl)
set_option maxRecDepth 100000 in
theorem lifted (os : Os) (started : os.Started) (H : Type) (enc : TypeId × Value → H) :
    ReturnsInHanded {} Tryd.checked os 5 .any (fun w args => (Rows.winnowCompleteSpec.pre enc Tryd.prog Tryd.f5 [] false w args ∧ laidMetH Tryd.prog Rows.winnowCompleteRow.laid w) ∧ sizedMet enc Tryd.prog Tryd.f5 (OpenSpec.ofChange Rows.winnowCompleteSpec) false w args)
      (Rows.winnowCompleteSpec.post enc Tryd.prog Tryd.f5 false true false false) := by
  refine wrap_and_shaped (C := Tryd.checked) (X := fun w _ => laidMetH Tryd.prog Rows.winnowCompleteRow.laid w) (fun _ _ _ hh h => h.of_heap hh) own started (by kernel_rfl) Tryd.func5
    (ChangeSpec.witness_shaped (enc := enc) (C := Tryd.checked) (os := os) (X := fun w _ => laidMetH Tryd.prog Rows.winnowCompleteRow.laid w) false (World.laidAll Tryd.prog os Rows.winnowCompleteRow.laid) #[.agg #[.string ⟨#[]⟩, .slice none 0 0], .agg #[.string ⟨#[]⟩, .slice none 0 0], .int .u8 0, .int .u8 0, .int .u8 0, .int .u8 0] 8 (World.laidAll_os _ _ _) (World.shaped_of_RefB (by kernel_rfl) (by kernel_rfl)) (by kernel_rfl) (by kernel_rfl) (by kernel_rfl) (met os _)) ?_
  intro W base args ds gs before hval0 hW _ hlaid hshape
  have hW' := hW
  obtain ⟨p, q, hA0, hV, rfl, hfz, hnd⟩ := hW
  have hA : DataW.TrodAll enc Tryd.prog W 0 (fun _ => true) true Tryd.f5.params.toList args.toList ds p := hA0
  have hval : ∀ (j : Nat) t v, Tryd.f5.params[j]? = some t → args[j]? = some v → Value.okWide Tryd.prog W .any base t v := hval0
  rw [Tryd.params5] at hA hval
  obtain ⟨v0, vs0, d0, ds0, p0, q0, hargs, rfl, rfl, h0, r0⟩ := trodAll_cons hA
  obtain ⟨v1, vs1, d1, ds1, p1, q1, rfl, rfl, rfl, h1, r1⟩ := trodAll_cons r0
  obtain ⟨v2, vs2, d2, ds2, p2, q2, rfl, rfl, rfl, h2, r2⟩ := trodAll_cons r1
  obtain ⟨v3, vs3, d3, ds3, p3, q3, rfl, rfl, rfl, h3, r3⟩ := trodAll_cons r2
  obtain ⟨v4, vs4, d4, ds4, p4, q4, rfl, rfl, rfl, h4, r4⟩ := trodAll_cons r3
  obtain ⟨v5, vs5, d5, ds5, p5, q5, rfl, rfl, rfl, h5, r5⟩ := trodAll_cons r4
  obtain ⟨rfl, rfl, rfl⟩ := trodAll_nil r5
  obtain rfl : args = #[v0, v1, v2, v3, v4, v5] := by cases args; simp_all
  obtain ⟨rfl, rfl⟩ := trodVars_none hV
  have k0 := h0
  have lt0 : ∀ x ∈ p0, x.block < W.heap.size := by obtain ⟨m, hm⟩ := k0; exact DataW.trod_lt m _ _ _ hm
  have g0 : ∃ cs, v0 = .agg cs := by obtain ⟨cs, hcs, _⟩ := okWide_struct Tryd.underlying24 (hval 0 24 v0 rfl rfl); exact ⟨cs, hcs⟩
  obtain ⟨a0, s0⟩ := op24.arg h0 (fun h => absurd h (by decide))
  have k1 := h1
  have lt1 : ∀ x ∈ p1, x.block < W.heap.size := by obtain ⟨m, hm⟩ := k1; exact DataW.trod_lt m _ _ _ hm
  have g1 : ∃ cs, v1 = .agg cs := by obtain ⟨cs, hcs, _⟩ := okWide_struct Tryd.underlying24 (hval 1 24 v1 rfl rfl); exact ⟨cs, hcs⟩
  obtain ⟨a1, s1⟩ := op24.arg h1 (fun h => absurd h (by decide))
  have k2 := h2
  have lt2 : ∀ x ∈ p2, x.block < W.heap.size := by obtain ⟨m, hm⟩ := k2; exact DataW.trod_lt m _ _ _ hm
  obtain ⟨a2, s2⟩ := op5.arg h2 (fun _ => by obtain ⟨_, rfl⟩ := okWide_int Tryd.underlying5 (hval 2 5 v2 rfl rfl); rfl)
  have k3 := h3
  have lt3 : ∀ x ∈ p3, x.block < W.heap.size := by obtain ⟨m, hm⟩ := k3; exact DataW.trod_lt m _ _ _ hm
  obtain ⟨a3, s3⟩ := op5.arg h3 (fun _ => by obtain ⟨_, rfl⟩ := okWide_int Tryd.underlying5 (hval 3 5 v3 rfl rfl); rfl)
  have k4 := h4
  have lt4 : ∀ x ∈ p4, x.block < W.heap.size := by obtain ⟨m, hm⟩ := k4; exact DataW.trod_lt m _ _ _ hm
  obtain ⟨a4, s4⟩ := op5.arg h4 (fun _ => by obtain ⟨_, rfl⟩ := okWide_int Tryd.underlying5 (hval 4 5 v4 rfl rfl); rfl)
  have k5 := h5
  have lt5 : ∀ x ∈ p5, x.block < W.heap.size := by obtain ⟨m, hm⟩ := k5; exact DataW.trod_lt m _ _ _ hm
  obtain ⟨a5, s5⟩ := op5.arg h5 (fun _ => by obtain ⟨_, rfl⟩ := okWide_int Tryd.underlying5 (hval 5 5 v5 rfl rfl); rfl)
  obtain ⟨m, hm⟩ : ∃ m, W.cell? ⟨0, 0, none⟩ = some (.int .i64 m) := Tryd.laysM146.s1_3 W hshape
  clear hA0 hval0
  refine (winnowComplete_walk v0 v1 v2 v3 v4 v5 a0 a1 a2 a3 a4 a5 _ _ hm g0 g1 s0 s1 s2 s3 s4 s5).mono fun e W' ⟨he, bel⟩ => ?_
  subst he
  exact ⟨_, rfl, _, _, _, [], _, [], hW', trodAll_mk1 (shut_bool Tryd.underlying4 _), (trodAll_cons_mk (Below.trod laidOut (by kernel_rfl) (of_decide_eq_true (by kernel_rfl)) k0 bel lt0) (trodAll_cons_mk (Below.trod laidOut (by kernel_rfl) (of_decide_eq_true (by kernel_rfl)) k1 bel lt1) (trodAll_cons_mk (Below.trod laidOut (by kernel_rfl) (of_decide_eq_true (by kernel_rfl)) k2 bel lt2) (trodAll_cons_mk (Below.trod laidOut (by kernel_rfl) (of_decide_eq_true (by kernel_rfl)) k3 bel lt3) (trodAll_cons_mk (Below.trod laidOut (by kernel_rfl) (of_decide_eq_true (by kernel_rfl)) k4 bel lt4) (trodAll_cons_mk (Below.trod laidOut (by kernel_rfl) (of_decide_eq_true (by kernel_rfl)) k5 bel lt5) trodAll_mk0)))))), rfl, bel.frame _, fun h => by cases h⟩
theorem over : Rows.winnowCompleteRow.holds Tryd.pinned (OpenSpec.ofChange Rows.winnowCompleteSpec) :=
  OpenClaim.holds_of_wide 5 Tryd.f5 rfl rfl rfl rfl rfl rfl rfl ⟨rfl, rfl, rfl, rfl, rfl⟩ rfl rfl rfl rfl rfl (by kernel_rfl) Tryd.func5 (by kernel_rfl)
    (of_decide_eq_true (by kernel_rfl)) (by unfold Func.isWrapper; first | (rw [if_pos (by decide +kernel)]; kernel_rfl) | (rw [if_neg (by decide +kernel)]; exact ⟨rfl, rfl⟩))
    (fun os started H enc _ => lifted os started H enc)
theorem card : Claim7.holds Tryd.pinned (.plain (OpenSpec.ofChange Rows.winnowCompleteSpec)) Rows.winnowCompleteCard :=
  Claim7.holds_tied_plain_at .later [] [.data, .pinned] true (true, "b0eb2b86ab06b9c3b710ef32e903ad2120a6dbade072abec87e475034c0a132c") false
    over (fun _ h => by cases h) (by kernel_rfl) (fun _ h => by cases h) winnowComplete_row_tie rfl ⟨rfl, rfl⟩ (by kernel_rfl) rfl
    (fun f fn hf hfn => by
      obtain rfl : f = 5 := Option.some.inj ((show Tryd.prog.funcNamed "licit/licitlaw25.WinnowComplete" = some 5 by kernel_rfl).symm.trans hf) |>.symm
      obtain rfl : fn = Tryd.f5 := (Option.some.inj (Tryd.func5.symm.trans hfn)).symm
      exact ⟨by kernel_rfl, fun j t ht => by
        rw [Tryd.params5] at ht
        have hm : t ∈ [24, 24, 5, 5, 5, 5] := List.mem_of_getElem? (i := j) (by simpa using ht)
        simp only [List.mem_cons, List.not_mem_nil, or_false] at hm
        rcases hm with rfl | rfl | rfl | rfl | rfl | rfl
        all_goals first | exact (show Tryd.prog.wantsStandIn 24 = false by kernel_rfl) | exact (show Tryd.prog.wantsStandIn 5 = false by kernel_rfl)⟩)
    (by kernel_rfl)
/-- The statement. -/
theorem proved : Rows.WinnowCompleteCardSaid := card
end Go.Proofs.YtmibpagajenndaaDoor.lawWinnowComplete
