/- The walk of WinnowComplete, whole. -/
import Derived.Test.YtmibpagajenndaaDoorPp
namespace Go.Proofs.YtmibpagajenndaaDoor
open Go.RowKit

theorem winnowComplete_walk (v0 v1 v2 v3 v4 v5 : Value) (a0 a1 : ByteArray × List (ByteArray × Int)) (a2 a3 a4 a5 m : Int) (w : World) (hm : w.cell? ⟨0, 0, none⟩ = some (.int .i64 m)) (h0 : ∃ cs, v0 = .agg cs) (h1 : ∃ cs, v1 = .agg cs)
    (r0 : textR.val w a0 v0) (r1 : textR.val w a1 v1) (r2 : (intR .u8).val w a2 v2) (r3 : (intR .u8).val w a3 v3) (r4 : (intR .u8).val w a4 v4) (r5 : (intR .u8).val w a5 v5) : Calls Tryd.prog 5 #[v0, v1, v2, v3, v4, v5] w (Al (.bool true) w) := by
  obtain ⟨A, ca, rfl, hpa, hA⟩ := text_val h0 r0
  obtain ⟨B, cb, rfl, hpb, hB⟩ := text_val h1 r1
  obtain ⟨rfl, w2⟩ := val_int r2
  obtain ⟨rfl, w3⟩ := val_int r3
  obtain ⟨rfl, w4⟩ := val_int r4
  obtain ⟨rfl, w5⟩ := val_int r5
  by_cases hc : fewB a0.2 = true ∧ fewB a1.2 = true ∧ a0.1.size ≤ 200 ∧ a1.1.size ≤ 200 ∧ textB a0.1 a0.2 = true ∧ textB a1.1 a1.2 = true
  · obtain ⟨f0, f1, s0, s1, t0, t1⟩ := hc
    exact complete_main a0.1 a1.1 a0.2 a1.2 A B ca cb _ _ a2 a3 a4 a5 m w rfl rfl s0 s1 hA hB (wf_u8 w2) (wf_u8 w3) (wf_u8 w4) (wf_u8 w5) hm f0 f1 t0 t1
  · exact complete_few a0.1 a1.1 a0.2 a1.2 A B ca cb _ _ a2 a3 a4 a5 m w rfl rfl hpa hpb hA hB (wf_u8 w4) (wf_u8 w5) hm hc

end Go.Proofs.YtmibpagajenndaaDoor
