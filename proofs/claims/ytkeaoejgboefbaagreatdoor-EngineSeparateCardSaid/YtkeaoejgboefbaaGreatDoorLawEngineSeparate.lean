/- The row and the card of EngineSeparate: for every input the law returns true, and the arguments read as before; the listed variables as the card says. No conditions of its own. -/
import Derived.Test.YtkeaoejgboefbaaGreatDoorG19
import Derived.Test.YtkeaoejgboefbaaGreatDoorRows
import Derived.Test.YtkeaoejgboefbaaGreatDoorCards
import Derived.Test.YtkeaoejgboefbaaGreatDoorTie
import Derived.Test.YtkeaoejgboefbaaGreatDoorChecked
namespace Go.Proofs.YtkeaoejgboefbaaGreatDoor.lawEngineSeparate
open Go.ChangeShapes Go.WideShapes Go.ChangeAt Go.RowKit
set_option linter.unusedVariables false
theorem own : ownKnob Tryz.prog.godebug = none := by kernel_rfl
theorem laidOut : laidOutB Tryz.prog = true := by kernel_rfl
theorem met (os : Os) (args : Array Value) : laidMetH Tryz.prog Rows.engineSeparateRow.laid ((World.laidAll Tryz.prog os Rows.engineSeparateRow.laid).forCall (fun _ _ => 0) ⟨#[], args, []⟩).memory :=
  laidMetH_laidAll args (by kernel_rfl) (by kernel_rfl) (by kernel_rfl)
set_option maxRecDepth 100000 in
theorem lifted (os : Os) (started : os.Started) (H : Type) (enc : TypeId × Value → H) :
    ReturnsInHanded {} Tryz.checked os 4 .any (fun w args => (Rows.engineSeparateSpec.pre enc Tryz.prog Tryz.f4 [] false w args ∧ laidMetH Tryz.prog Rows.engineSeparateRow.laid w) ∧ sizedMet enc Tryz.prog Tryz.f4 (OpenSpec.ofChange Rows.engineSeparateSpec) false w args)
      (Rows.engineSeparateSpec.post enc Tryz.prog Tryz.f4 false true false false) := by
  refine wrap_sized (C := Tryz.checked) (X := fun w _ => laidMetH Tryz.prog Rows.engineSeparateRow.laid w) (fun _ _ _ hh h => h.of_heap hh) own started (by kernel_rfl) Tryz.func4
    (ChangeSpec.witness_shaped (enc := enc) (C := Tryz.checked) (os := os) (X := fun w _ => laidMetH Tryz.prog Rows.engineSeparateRow.laid w) false (World.laidAll Tryz.prog os Rows.engineSeparateRow.laid) #[.slice none 0 0, .slice none 0 0, .slice none 0 0] 8 (World.laidAll_os _ _ _) (World.shaped_of_RefB (by kernel_rfl) (by kernel_rfl)) (by kernel_rfl) (by kernel_rfl) (by kernel_rfl) (met os _)) ?_
  intro W base args ds gs before hval0 hW _ hlaid hshape hsz
  have hW' := hW
  obtain ⟨p, q, hA0, hV, rfl, hfz, hnd⟩ := hW
  have hA : DataW.TrodAll enc Tryz.prog W 0 (fun _ => true) true Tryz.f4.params.toList args.toList ds p := hA0
  have hval : ∀ (j : Nat) t v, Tryz.f4.params[j]? = some t → args[j]? = some v → Value.okWide Tryz.prog W .any base t v := hval0
  rw [Tryz.params4] at hA hval
  obtain ⟨v0, vs0, d0, ds0, p0, q0, hargs, rfl, rfl, h0, r0⟩ := trodAll_cons hA
  obtain ⟨v1, vs1, d1, ds1, p1, q1, rfl, rfl, rfl, h1, r1⟩ := trodAll_cons r0
  obtain ⟨v2, vs2, d2, ds2, p2, q2, rfl, rfl, rfl, h2, r2⟩ := trodAll_cons r1
  obtain ⟨rfl, rfl, rfl⟩ := trodAll_nil r2
  obtain rfl : args = #[v0, v1, v2] := by cases args; simp_all
  obtain ⟨rfl, rfl⟩ := trodVars_none hV
  have k0 := h0
  have lt0 : ∀ x ∈ p0, x.block < W.heap.size := by obtain ⟨m, hm⟩ := k0; exact DataW.trod_lt m _ _ _ hm
  obtain ⟨a0, s0, b0⟩ := op22.arg h0 (weights_at hsz 0 rfl rfl) (fun _ => by obtain ⟨_, _, _, rfl⟩ := okWide_slice Tryz.underlying22 (hval 0 22 v0 rfl rfl); rfl)
  have k1 := h1
  have lt1 : ∀ x ∈ p1, x.block < W.heap.size := by obtain ⟨m, hm⟩ := k1; exact DataW.trod_lt m _ _ _ hm
  obtain ⟨a1, s1, b1⟩ := op23.arg h1 (weights_at hsz 1 rfl rfl) (fun _ => by obtain ⟨_, _, _, rfl⟩ := okWide_slice Tryz.underlying23 (hval 1 23 v1 rfl rfl); rfl)
  have k2 := h2
  have lt2 : ∀ x ∈ p2, x.block < W.heap.size := by obtain ⟨m, hm⟩ := k2; exact DataW.trod_lt m _ _ _ hm
  obtain ⟨a2, s2, b2⟩ := op45.arg h2 (weights_at hsz 2 rfl rfl) (fun _ => by obtain ⟨_, _, _, rfl⟩ := okWide_slice Tryz.underlying45 (hval 2 45 v2 rfl rfl); rfl)
  have hgl := gl_of hshape (by kernel_rfl) hlaid (by kernel_rfl)
  clear hA0 hval0
  refine (engineSeparate_walk v0 v1 v2 a0 a1 a2 _ hgl  s0 s1 s2 ).mono fun e W' ⟨he, bel⟩ => ?_
  subst he
  exact ⟨_, rfl, _, _, _, [], _, [], hW', trodAll_mk1 (shut_bool Tryz.underlying4 _), (trodAll_cons_mk (Below.trod laidOut (by kernel_rfl) (of_decide_eq_true (by kernel_rfl)) k0 bel lt0) (trodAll_cons_mk (Below.trod laidOut (by kernel_rfl) (of_decide_eq_true (by kernel_rfl)) k1 bel lt1) (trodAll_cons_mk (Below.trod laidOut (by kernel_rfl) (of_decide_eq_true (by kernel_rfl)) k2 bel lt2) trodAll_mk0))), rfl, bel.frame _, fun h => by cases h⟩
theorem over : Rows.engineSeparateRow.holds Tryz.pinned (OpenSpec.ofChange Rows.engineSeparateSpec) :=
  OpenClaim.holds_of_wide 4 Tryz.f4 rfl rfl rfl rfl rfl rfl rfl ⟨rfl, rfl, rfl, rfl, rfl⟩ rfl rfl rfl rfl rfl (by kernel_rfl) Tryz.func4 (by kernel_rfl)
    (of_decide_eq_true (by kernel_rfl)) (by unfold Func.isWrapper; first | (rw [if_pos (by decide +kernel)]; kernel_rfl) | (rw [if_neg (by decide +kernel)]; exact ⟨rfl, rfl⟩))
    (fun os started H enc _ => lifted os started H enc)
theorem card : Claim7.holds Tryz.pinned (.plain (OpenSpec.ofChange Rows.engineSeparateSpec)) Rows.engineSeparateCard :=
  Claim7.holds_tied_plain_at .later [] [.data, .data, .data, .data, .pinned] true (true, "eb1c776c84e51bf1798c4c3edf2514d0bf085a0c91785e32e43302297c17c107") true
    over (fun _ h => by cases h) (by kernel_rfl) (fun _ h => by cases h) engineSeparate_row_tie rfl ⟨rfl, rfl⟩ (by kernel_rfl) rfl
    (fun f fn hf hfn => by
      obtain rfl : f = 4 := Option.some.inj ((show Tryz.prog.funcNamed "licit/licitlaw56.EngineSeparate" = some 4 by kernel_rfl).symm.trans hf) |>.symm
      obtain rfl : fn = Tryz.f4 := (Option.some.inj (Tryz.func4.symm.trans hfn)).symm
      exact ⟨by kernel_rfl, fun j t ht => by
        rw [Tryz.params4] at ht
        have hm : t ∈ [22, 23, 45] := List.mem_of_getElem? (i := j) (by simpa using ht)
        simp only [List.mem_cons, List.not_mem_nil, or_false] at hm
        rcases hm with rfl | rfl | rfl
        · exact (show Tryz.prog.wantsStandIn 22 = false by kernel_rfl)
        · exact (show Tryz.prog.wantsStandIn 23 = false by kernel_rfl)
        · exact (show Tryz.prog.wantsStandIn 45 = false by kernel_rfl)⟩)
    (by kernel_rfl)
/-- The statement. -/
theorem proved : Rows.EngineSeparateCardSaid := card
end Go.Proofs.YtkeaoejgboefbaaGreatDoor.lawEngineSeparate
