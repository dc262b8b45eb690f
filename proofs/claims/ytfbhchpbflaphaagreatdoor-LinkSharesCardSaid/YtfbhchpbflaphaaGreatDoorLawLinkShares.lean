/- The row and the card of LinkShares: for every input the law returns true, and the arguments read as before; the listed variables as the card says. No conditions of its own. -/
import Derived.Test.YtfbhchpbflaphaaGreatDoorS23
import Derived.Test.YtfbhchpbflaphaaGreatDoorRows
import Derived.Test.YtfbhchpbflaphaaGreatDoorCards
import Derived.Test.YtfbhchpbflaphaaGreatDoorTie
import Derived.Test.YtfbhchpbflaphaaGreatDoorChecked
namespace Go.Proofs.YtfbhchpbflaphaaGreatDoor.lawLinkShares
open Go.ChangeShapes Go.WideShapes Go.ChangeAt Go.RowKit
set_option linter.unusedVariables false
theorem own : ownKnob Tryz.prog.godebug = none := by kernel_rfl
theorem laidOut : laidOutB Tryz.prog = true := by kernel_rfl
theorem met (os : Os) (args : Array Value) : laidMetH Tryz.prog Rows.linkSharesRow.laid ((World.laidAll Tryz.prog os Rows.linkSharesRow.laid).forCall (fun _ _ => 0) ⟨#[], args, []⟩).memory :=
  laidMetH_laidAll args (by kernel_rfl) (by kernel_rfl) (by kernel_rfl)
set_option maxRecDepth 100000 in
theorem lifted (os : Os) (started : os.Started) (H : Type) (enc : TypeId × Value → H) :
    ReturnsInHanded {} Tryz.checked os 4 .any (fun w args => (Rows.linkSharesSpec.pre enc Tryz.prog Tryz.f4 [] false w args ∧ laidMetH Tryz.prog Rows.linkSharesRow.laid w) ∧ sizedMet enc Tryz.prog Tryz.f4 (OpenSpec.ofChange Rows.linkSharesSpec) false w args)
      (Rows.linkSharesSpec.post enc Tryz.prog Tryz.f4 false true false false) := by
  refine wrap_sized (C := Tryz.checked) (X := fun w _ => laidMetH Tryz.prog Rows.linkSharesRow.laid w) (fun _ _ _ hh h => h.of_heap hh) own started (by kernel_rfl) Tryz.func4
    (ChangeSpec.witness_shaped (enc := enc) (C := Tryz.checked) (os := os) (X := fun w _ => laidMetH Tryz.prog Rows.linkSharesRow.laid w) false (World.laidAll Tryz.prog os Rows.linkSharesRow.laid) #[.agg #[.string ⟨#[]⟩, .slice none 0 0, .slice none 0 0, .slice none 0 0]] 8 (World.laidAll_os _ _ _) (World.shaped_of_RefB (by kernel_rfl) (by kernel_rfl)) (by kernel_rfl) (by kernel_rfl) (by kernel_rfl) (met os _)) ?_
  intro W base args ds gs before hval0 hW _ hlaid hshape hsz
  have hW' := hW
  obtain ⟨p, q, hA0, hV, rfl, hfz, hnd⟩ := hW
  have hA : DataW.TrodAll enc Tryz.prog W 0 (fun _ => true) true Tryz.f4.params.toList args.toList ds p := hA0
  have hval : ∀ (j : Nat) t v, Tryz.f4.params[j]? = some t → args[j]? = some v → Value.okWide Tryz.prog W .any base t v := hval0
  rw [Tryz.params4] at hA hval
  obtain ⟨v0, vs0, d0, ds0, p0, q0, hargs, rfl, rfl, h0, r0⟩ := trodAll_cons hA
  obtain ⟨rfl, rfl, rfl⟩ := trodAll_nil r0
  obtain rfl : args = #[v0] := by cases args; simp_all
  obtain ⟨rfl, rfl⟩ := trodVars_none hV
  have k0 := h0
  have lt0 : ∀ x ∈ p0, x.block < W.heap.size := by obtain ⟨m, hm⟩ := k0; exact DataW.trod_lt m _ _ _ hm
  have g0 : ∃ cs, v0 = .agg cs := by obtain ⟨cs, hcs, _⟩ := okWide_struct Tryz.underlying26 (hval 0 26 v0 rfl rfl); exact ⟨cs, hcs⟩
  obtain ⟨a0, s0, b0⟩ := op26.arg h0 (weights_at hsz 0 rfl rfl) (fun h => absurd h (by decide))
  have hgl := gl_of hshape (by kernel_rfl) hlaid (by kernel_rfl)
  clear hA0 hval0
  refine (linkShares_walk v0 a0 _ hgl g0 s0 b0).mono fun e W' ⟨he, bel⟩ => ?_
  subst he
  exact ⟨_, rfl, _, _, _, [], _, [], hW', trodAll_mk1 (shut_bool Tryz.underlying4 _), (trodAll_cons_mk (Below.trod laidOut (by kernel_rfl) (of_decide_eq_true (by kernel_rfl)) k0 bel lt0) trodAll_mk0), rfl, bel.frame _, fun h => by cases h⟩
theorem over : Rows.linkSharesRow.holds Tryz.pinned (OpenSpec.ofChange Rows.linkSharesSpec) :=
  OpenClaim.holds_of_wide 4 Tryz.f4 rfl rfl rfl rfl rfl rfl rfl ⟨rfl, rfl, rfl, rfl, rfl⟩ rfl rfl rfl rfl rfl (by kernel_rfl) Tryz.func4 (by kernel_rfl)
    (of_decide_eq_true (by kernel_rfl)) (by unfold Func.isWrapper; first | (rw [if_pos (by decide +kernel)]; kernel_rfl) | (rw [if_neg (by decide +kernel)]; exact ⟨rfl, rfl⟩))
    (fun os started H enc _ => lifted os started H enc)
theorem card : Claim7.holds Tryz.pinned (.plain (OpenSpec.ofChange Rows.linkSharesSpec)) Rows.linkSharesCard :=
  Claim7.holds_tied_plain_at .later [] [.data, .pinned] true (true, "0b1bf69e0e387845313f8118cbbd929aea5a70336425044d1fc00490b1ca72a5") false
    over (fun _ h => by cases h) (by kernel_rfl) (fun _ h => by cases h) linkShares_row_tie rfl ⟨rfl, rfl⟩ (by kernel_rfl) rfl
    (fun f fn hf hfn => by
      obtain rfl : f = 4 := Option.some.inj ((show Tryz.prog.funcNamed "licit/licitlaw11.LinkShares" = some 4 by kernel_rfl).symm.trans hf) |>.symm
      obtain rfl : fn = Tryz.f4 := (Option.some.inj (Tryz.func4.symm.trans hfn)).symm
      exact ⟨by kernel_rfl, fun j t ht => by
        rw [Tryz.params4] at ht
        have hm : t ∈ [26] := List.mem_of_getElem? (i := j) (by simpa using ht)
        simp only [List.mem_cons, List.not_mem_nil, or_false] at hm
        subst hm
        · exact (show Tryz.prog.wantsStandIn 26 = false by kernel_rfl)⟩)
    (by kernel_rfl)
/-- The statement. -/
theorem proved : Rows.LinkSharesCardSaid := card
end Go.Proofs.YtfbhchpbflaphaaGreatDoor.lawLinkShares
