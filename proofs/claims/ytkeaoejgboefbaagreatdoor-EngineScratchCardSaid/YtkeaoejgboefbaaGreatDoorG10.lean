/- The texts Jk Jl Jm Jn of the seat, joined. -/
import Derived.Test.YtkeaoejgboefbaaGreatDoorG9
import Derived.Lib.ItoaLen
/- The reference's compute: the operations but joins. -/
namespace Go.Proofs.YtkeaoejgboefbaaGreatDoor
open Go.RowKit Go.Maps

set_option maxRecDepth 100000 in
set_option maxHeartbeats 4000000 in
theorem compute_or {X SA : Nat → Prop} {Q : World → Qs → Nat → Option Nat → (Nat → Prop) → Prop} {ep rp : Value} {get : E.St → E.Nm → Except Int (E.V × E.St)} (ha : AsksR ep rp get X Q) {u : Option Nat} {F : Nat → Prop} {w : World} {A : Option Addr} {k : Nat} {nm tx x1 x2 : ByteArray} {q : Qs}
    (hq : Q w q 0 u F) (hs : SliceAt strR w SA A k [x1, x2]) (ho : ∀ k, SA k → k < w.heap.size ∧ ¬ X k ∧ u ≠ some k) :
    Calls Tryz.prog 58 #[ep, .agg #[.string nm, .int .i64 7, .slice A 2 k, .string tx], rp] w (RetP X Q u F w (runQ get (.ask x1 (orK x2)) q)) := by
  obtain ⟨c0, hc0⟩ : ∃ c0 : Array Value, c0 = #[.string nm, .int .i64 7, .slice A 2 k, .string tx] := ⟨_, rfl⟩
  obtain ⟨R, hR⟩ : ∃ R, R = runQ get (.ask x1 (orK x2)) q := ⟨_, rfl⟩
  obtain ⟨W1, hW1⟩ : ∃ W1, W1 = ((w.alloc (.cells #[.string nm, .int .i64 7, .slice A 2 k, .string tx] 50)).alloc (.cells #[.string ⟨#[]⟩, .bool false] 82)) := ⟨_, rfl⟩
  have HF : Hid (FlR X SA Q u F w c0 A k [x1, x2] W1 q 0 u F) := Lib.hid (by rw [hW1, hc0]; exact FlR.start ha hq hs ho)
  rw [← hR]
  have HA := Lib.hid ha
  have HC0 := Lib.hid hc0
  obtain ⟨b, off, hAe, hbb, d0, hz⟩ := str_get HF.out.args (k := 0) (Nat.zero_lt_succ _)
  subst hAe
  have hcall := Lib.hid (HF.out.ask HA.out (Nat.zero_le _) hz)
  replace d0 : W1.cell? ⟨b, off, none⟩ = some (.string x1) := d0
  have a1 : W1.cell? ⟨w.heap.size, 1, none⟩ = some (.int .i64 7) := by rw [new_off HF.out.b0, hc0]; rfl
  have a2 : W1.cell? ⟨w.heap.size, 2, none⟩ = some (.slice (some ⟨b, off, none⟩) 2 k) := by rw [new_off HF.out.b0, hc0]; rfl
  have HST : Hid (R = runQ get ((orK x2) (askQ get q x1).1) (askQ get q x1).2) := Lib.hid hR
  replace hcall : Hid (Calls Tryz.prog 65 #[ep, .string x1, rp] W1 fun ed w' => ed = .returned (foundV (askQ get q x1).1) ∧ ((askQ get q x1).1.getD ⟨#[]⟩).size ≤ 65536 ∧ ∃ u' F', (∀ (i : Nat) (o : Obj), W1.heap[i]? = some o → ¬ F i → w'.heap[i]? = some o ∧ ¬ F' i) ∧ FlR X SA Q u F w c0 (some ⟨b, off, none⟩) k [x1, x2] w' (askQ get q x1).2 1 u' F') := hcall
  clear hR ha hc0 hq hs ho HF
  generalize askQ get q x1 = qa at *
  obtain ⟨v, q'⟩ := qa
  go_enter Tryz.func58, Tryz.ntmps58
  go_upto_region 1 with (fail)
  rw [← hW1]
  clear hW1
  go_wp2_with fail
  refine hcall.out.mono ?_
  rintro e w1 ⟨rfl, h2, u', F', h3, h4⟩
  have HST' : Hid (R = runQ get ((orK x2) v) q') := HST
  have h2' : (v.getD ⟨#[]⟩).size ≤ 65536 := h2
  have h4' : FlR X SA Q u F w c0 (some ⟨b, off, none⟩) k [x1, x2] w1 q' 1 u' F' := h4
  have HF4 := Lib.hid h4'
  have HB3 := Lib.hid h2'
  clear HST h2 h4 h4' h3 h2' hcall a1 a2 d0
  cases v with
  | none =>
    have HE : Hid (R = ((askQ get q' x2).1, (askQ get q' x2).2)) := HST'
    clear HST'
    rw [foundV_none]
    obtain ⟨W2, hW2⟩ : ∃ W2, W2 = w1.alloc (.cells #[.string ⟨#[]⟩, .bool false] 82) := ⟨_, rfl⟩
    have X2 : Ext w1 W2 := by rw [hW2]; exact (Ext.refl w1).alloc _
    have K8 : Hid (W2.heap[w1.heap.size]? = some (.cells #[.string ⟨#[]⟩, .bool false] 82 (0, 0))) := Lib.hid (by rw [hW2]; exact heap_alloc_new w1 _)
    have HF2 := Lib.hid (HF4.out.ext HA.out X2)
    have e0 : W2.cell? ⟨w1.heap.size, 0, none⟩ = some (.string ⟨#[]⟩) := by rw [new_off K8.out]; rfl
    have e1 : W2.cell? ⟨w1.heap.size, 1, none⟩ = some (.bool false) := by rw [new_off K8.out]; rfl
    have HNX : Hid (¬ F' w1.heap.size) := Lib.hid fun e => by have := HA.out.lt HF4.out.q _ e; omega
    clear X2
    go_upto_region 40 with (fail)
    rw [← hW2]
    clear hW2
    have a1 : W2.cell? ⟨w.heap.size, 1, none⟩ = some (.int .i64 7) := by rw [new_off HF2.out.b0, HC0.out]; rfl
    have a2 : W2.cell? ⟨w.heap.size, 2, none⟩ = some (.slice (some ⟨b, off, none⟩) 2 k) := by rw [new_off HF2.out.b0, HC0.out]; rfl
    obtain ⟨b', off', hAe, _, d1, hz1⟩ := str_get HF2.out.args (k := 1) (by simp)
    obtain ⟨rfl, rfl⟩ : b' = b ∧ off' = off := by
      injection hAe with e
      injection e with e1 e2
      exact ⟨e1.symm, e2.symm⟩
    replace d1 : W2.cell? ⟨b', off' + 1, none⟩ = some (.string x2) := d1
    clear hAe
    have hcall := Lib.hid (HF2.out.ask HA.out (by decide) hz1)
    replace hcall : Hid (Calls Tryz.prog 65 #[ep, .string x2, rp] W2 fun ed w' => ed = .returned (foundV (askQ get q' x2).1) ∧ ((askQ get q' x2).1.getD ⟨#[]⟩).size ≤ 65536 ∧ ∃ u'' F'', (∀ (i : Nat) (o : Obj), W2.heap[i]? = some o → ¬ F' i → w'.heap[i]? = some o ∧ ¬ F'' i) ∧ FlR X SA Q u F w c0 (some ⟨b', off', none⟩) k [x1, x2] w' (askQ get q' x2).2 2 u'' F'') := hcall
    generalize askQ get q' x2 = qb at *
    obtain ⟨y, q''⟩ := qb
    replace HE : Hid (R = (y, q'')) := HE
    go_wp2_with fail
    refine hcall.out.mono ?_
    rintro e w3 ⟨rfl, g2, u'', F'', g3, g4⟩
    have g2' : (y.getD ⟨#[]⟩).size ≤ 65536 := g2
    have g4' : FlR X SA Q u F w c0 (some ⟨b', off', none⟩) k [x1, x2] w3 q'' 2 u'' F'' := g4
    have HF3 := Lib.hid g4'
    have HB4 : Hid ((y.getD ⟨#[]⟩).size ≤ 140737488355328) := Lib.hid (Nat.le_trans g2' (by decide))
    replace HE : Hid (R = (y, q'')) := HE
    clear g2 g2' g3 g4 g4' hcall e0 e1 a1 a2 d1
    have HY : Hid (foundV y = .agg #[.string (y.getD ⟨#[]⟩), .bool y.isSome]) := Lib.hid rfl
    rw [HY.out]
    have r0 : w3.cell? ⟨w.heap.size + 1, 0, none⟩ = some (.string ⟨#[]⟩) := by rw [new_off HF3.out.b1]; rfl
    have r1 : w3.cell? ⟨w.heap.size + 1, 1, none⟩ = some (.bool false) := by rw [new_off HF3.out.b1]; rfl
    have f0 := Lib.frozen_of_heap HF3.out.b1 0
    have f1 := Lib.frozen_of_heap HF3.out.b1 1
    generalize hya : y.getD ⟨#[]⟩ = ya
    generalize hyb : y.isSome = yb
    have HYA := Lib.hid hya
    have HYB := Lib.hid hyb
    clear hya hyb
    go_wp2_with fail
    refine ret_foundR Tryz.results58 rfl (found_setR HF3.out.b1 _ _) rfl ?_
    rw [HE.out, ← HYA.out, ← HYB.out]
    exact HF3.out.ends HA.out (v := y) (by decide) HB4.out _ _
  | some s =>
    have HE : Hid (R = (some s, q')) := HST'
    clear HST'
    have HSB : Hid (s.size ≤ 140737488355328) := Lib.hid (Nat.le_trans HB3.out (by decide))
    rw [foundV_some]
    obtain ⟨W2, hW2⟩ : ∃ W2, W2 = w1.alloc (.cells #[.string s, .bool true] 82) := ⟨_, rfl⟩
    have X2 : Ext w1 W2 := by rw [hW2]; exact (Ext.refl w1).alloc _
    have K8 : Hid (W2.heap[w1.heap.size]? = some (.cells #[.string s, .bool true] 82 (0, 0))) := Lib.hid (by rw [hW2]; exact heap_alloc_new w1 _)
    have HF2 := Lib.hid (HF4.out.ext HA.out X2)
    have e0 : W2.cell? ⟨w1.heap.size, 0, none⟩ = some (.string s) := by rw [new_off K8.out]; rfl
    have e1 : W2.cell? ⟨w1.heap.size, 1, none⟩ = some (.bool true) := by rw [new_off K8.out]; rfl
    have HNX : Hid (¬ F' w1.heap.size) := Lib.hid fun e => by have := HA.out.lt HF4.out.q _ e; omega
    clear X2
    go_upto_region 40 with (fail)
    rw [← hW2]
    clear hW2
    have a1 : W2.cell? ⟨w.heap.size, 1, none⟩ = some (.int .i64 7) := by rw [new_off HF2.out.b0, HC0.out]; rfl
    have a2 : W2.cell? ⟨w.heap.size, 2, none⟩ = some (.slice (some ⟨b, off, none⟩) 2 k) := by rw [new_off HF2.out.b0, HC0.out]; rfl
    have r0 : W2.cell? ⟨w.heap.size + 1, 0, none⟩ = some (.string ⟨#[]⟩) := by rw [new_off HF2.out.b1]; rfl
    have r1 : W2.cell? ⟨w.heap.size + 1, 1, none⟩ = some (.bool false) := by rw [new_off HF2.out.b1]; rfl
    have f0 := Lib.frozen_of_heap HF2.out.b1 0
    have f1 := Lib.frozen_of_heap HF2.out.b1 1
    go_wp2_with fail
    exact ret_foundR Tryz.results58 rfl (found_setR HF2.out.b1 _ _) rfl (by rw [HE.out]; exact HF2.out.ends HA.out (v := some s) (by omega) HSB.out _ _)
set_option maxRecDepth 100000 in
set_option maxHeartbeats 4000000 in
theorem compute_count {X SA : Nat → Prop} {Q : World → Qs → Nat → Option Nat → (Nat → Prop) → Prop} {ep rp : Value} {get : E.St → E.Nm → Except Int (E.V × E.St)} (ha : AsksR ep rp get X Q) {u : Option Nat} {F : Nat → Prop} {w : World} {A : Option Addr} {k : Nat} {nm tx x1 : ByteArray} {q : Qs}
    (hq : Q w q 0 u F) (hs : SliceAt strR w SA A k [x1]) (ho : ∀ k, SA k → k < w.heap.size ∧ ¬ X k ∧ u ≠ some k) :
    Calls Tryz.prog 58 #[ep, .agg #[.string nm, .int .i64 3, .slice A 1 k, .string tx], rp] w (RetP X Q u F w (runQ get (.ask x1 countK) q)) := by
  obtain ⟨c0, hc0⟩ : ∃ c0 : Array Value, c0 = #[.string nm, .int .i64 3, .slice A 1 k, .string tx] := ⟨_, rfl⟩
  obtain ⟨R, hR⟩ : ∃ R, R = runQ get (.ask x1 countK) q := ⟨_, rfl⟩
  obtain ⟨W1, hW1⟩ : ∃ W1, W1 = ((w.alloc (.cells #[.string nm, .int .i64 3, .slice A 1 k, .string tx] 50)).alloc (.cells #[.string ⟨#[]⟩, .bool false] 82)) := ⟨_, rfl⟩
  have HF : Hid (FlR X SA Q u F w c0 A k [x1] W1 q 0 u F) := Lib.hid (by rw [hW1, hc0]; exact FlR.start ha hq hs ho)
  rw [← hR]
  have HA := Lib.hid ha
  have HC0 := Lib.hid hc0
  obtain ⟨b, off, hAe, hbb, d0, hz⟩ := str_get HF.out.args (k := 0) (Nat.zero_lt_succ _)
  subst hAe
  have hcall := Lib.hid (HF.out.ask HA.out (Nat.zero_le _) hz)
  replace d0 : W1.cell? ⟨b, off, none⟩ = some (.string x1) := d0
  have a1 : W1.cell? ⟨w.heap.size, 1, none⟩ = some (.int .i64 3) := by rw [new_off HF.out.b0, hc0]; rfl
  have a2 : W1.cell? ⟨w.heap.size, 2, none⟩ = some (.slice (some ⟨b, off, none⟩) 1 k) := by rw [new_off HF.out.b0, hc0]; rfl
  have HST : Hid (R = runQ get (countK (askQ get q x1).1) (askQ get q x1).2) := Lib.hid hR
  replace hcall : Hid (Calls Tryz.prog 65 #[ep, .string x1, rp] W1 fun ed w' => ed = .returned (foundV (askQ get q x1).1) ∧ ((askQ get q x1).1.getD ⟨#[]⟩).size ≤ 65536 ∧ ∃ u' F', (∀ (i : Nat) (o : Obj), W1.heap[i]? = some o → ¬ F i → w'.heap[i]? = some o ∧ ¬ F' i) ∧ FlR X SA Q u F w c0 (some ⟨b, off, none⟩) k [x1] w' (askQ get q x1).2 1 u' F') := hcall
  clear hR ha hc0 hq hs ho HF
  generalize askQ get q x1 = qa at *
  obtain ⟨v, q'⟩ := qa
  go_enter Tryz.func58, Tryz.ntmps58
  go_upto_region 1 with (fail)
  rw [← hW1]
  clear hW1
  go_wp2_with fail
  refine hcall.out.mono ?_
  rintro e w1 ⟨rfl, h2, u', F', h3, h4⟩
  have HST' : Hid (R = runQ get (countK v) q') := HST
  have h2' : (v.getD ⟨#[]⟩).size ≤ 65536 := h2
  have h4' : FlR X SA Q u F w c0 (some ⟨b, off, none⟩) k [x1] w1 q' 1 u' F' := h4
  have HF4 := Lib.hid h4'
  have HB3 := Lib.hid h2'
  clear HST h2 h4 h4' h3 h2' hcall a1 a2 d0
  cases v with
  | none =>
    have HE : Hid (R = (none, q')) := HST'
    clear HST'
    rw [foundV_none]
    obtain ⟨W2, hW2⟩ : ∃ W2, W2 = w1.alloc (.cells #[.string ⟨#[]⟩, .bool false] 82) := ⟨_, rfl⟩
    have X2 : Ext w1 W2 := by rw [hW2]; exact (Ext.refl w1).alloc _
    have K8 : Hid (W2.heap[w1.heap.size]? = some (.cells #[.string ⟨#[]⟩, .bool false] 82 (0, 0))) := Lib.hid (by rw [hW2]; exact heap_alloc_new w1 _)
    have HF2 := Lib.hid (HF4.out.ext HA.out X2)
    have e0 : W2.cell? ⟨w1.heap.size, 0, none⟩ = some (.string ⟨#[]⟩) := by rw [new_off K8.out]; rfl
    have e1 : W2.cell? ⟨w1.heap.size, 1, none⟩ = some (.bool false) := by rw [new_off K8.out]; rfl
    have HNX : Hid (¬ F' w1.heap.size) := Lib.hid fun e => by have := HA.out.lt HF4.out.q _ e; omega
    clear X2
    go_upto_region 16 with (fail)
    rw [← hW2]
    clear hW2
    have a1 : W2.cell? ⟨w.heap.size, 1, none⟩ = some (.int .i64 3) := by rw [new_off HF2.out.b0, HC0.out]; rfl
    have a2 : W2.cell? ⟨w.heap.size, 2, none⟩ = some (.slice (some ⟨b, off, none⟩) 1 k) := by rw [new_off HF2.out.b0, HC0.out]; rfl
    have r0 : W2.cell? ⟨w.heap.size + 1, 0, none⟩ = some (.string ⟨#[]⟩) := by rw [new_off HF2.out.b1]; rfl
    have r1 : W2.cell? ⟨w.heap.size + 1, 1, none⟩ = some (.bool false) := by rw [new_off HF2.out.b1]; rfl
    have f0 := Lib.frozen_of_heap HF2.out.b1 0
    have f1 := Lib.frozen_of_heap HF2.out.b1 1
    go_wp2_with fail
    exact ret_foundR Tryz.results58 rfl (found_setR HF2.out.b1 _ _) rfl (by rw [HE.out]; exact HF2.out.ends HA.out (v := none) (by omega) (Nat.zero_le _) _ _)
  | some s =>
    have HE : Hid (R = (some (E.countB s), q')) := HST'
    clear HST'
    rw [foundV_some]
    obtain ⟨W2, hW2⟩ : ∃ W2, W2 = w1.alloc (.cells #[.string s, .bool true] 82) := ⟨_, rfl⟩
    have X2 : Ext w1 W2 := by rw [hW2]; exact (Ext.refl w1).alloc _
    have K8 : Hid (W2.heap[w1.heap.size]? = some (.cells #[.string s, .bool true] 82 (0, 0))) := Lib.hid (by rw [hW2]; exact heap_alloc_new w1 _)
    have HF2 := Lib.hid (HF4.out.ext HA.out X2)
    have e0 : W2.cell? ⟨w1.heap.size, 0, none⟩ = some (.string s) := by rw [new_off K8.out]; rfl
    have e1 : W2.cell? ⟨w1.heap.size, 1, none⟩ = some (.bool true) := by rw [new_off K8.out]; rfl
    have HNX : Hid (¬ F' w1.heap.size) := Lib.hid fun e => by have := HA.out.lt HF4.out.q _ e; omega
    clear X2
    go_upto_region 16 with (fail)
    rw [← hW2]
    clear hW2
    have a1 : W2.cell? ⟨w.heap.size, 1, none⟩ = some (.int .i64 3) := by rw [new_off HF2.out.b0, HC0.out]; rfl
    have a2 : W2.cell? ⟨w.heap.size, 2, none⟩ = some (.slice (some ⟨b, off, none⟩) 1 k) := by rw [new_off HF2.out.b0, HC0.out]; rfl
    have r0 : W2.cell? ⟨w.heap.size + 1, 0, none⟩ = some (.string ⟨#[]⟩) := by rw [new_off HF2.out.b1]; rfl
    have r1 : W2.cell? ⟨w.heap.size + 1, 1, none⟩ = some (.bool false) := by rw [new_off HF2.out.b1]; rfl
    have f0 := Lib.frozen_of_heap HF2.out.b1 0
    have f1 := Lib.frozen_of_heap HF2.out.b1 1
    have hsz : s.size ≤ 65536 := HB3.out
    obtain ⟨hcb, hln⟩ := countB_le hsz
    have HCB := Lib.hid hcb
    have HCN : Hid (Calls Tryz.prog 67 #[.string s] W2 fun e w' => e = .returned (.int .i64 (E.linesN s)) ∧ W2 = w') := Lib.hid (refLines_any s W2 (by omega))
    have HIT : Hid (Calls Tryz.prog 66 #[.int .i64 (E.linesN s)] W2 (Al (.string (E.countB s)) W2)) := Lib.hid (Dec_any (E.linesN s) W2 (by omega))
    generalize E.countB s = cb at *
    generalize E.linesN s = ln at *
    clear hcb hsz
    go_wp2_with fail
    refine HCN.out.mono ?_
    rintro e w2 ⟨rfl, rfl⟩
    go_wp2_with fail
    refine HIT.out.mono ?_
    rintro e w3 ⟨rfl, d3⟩
    have HF3 := Lib.hid (HF2.out.ext HA.out d3)
    clear d3 e0 e1 a1 a2 r0 r1 f0 f1
    have r0 : w3.cell? ⟨w.heap.size + 1, 0, none⟩ = some (.string ⟨#[]⟩) := by rw [new_off HF3.out.b1]; rfl
    have r1 : w3.cell? ⟨w.heap.size + 1, 1, none⟩ = some (.bool false) := by rw [new_off HF3.out.b1]; rfl
    have f0 := Lib.frozen_of_heap HF3.out.b1 0
    have f1 := Lib.frozen_of_heap HF3.out.b1 1
    go_wp2_with fail
    exact ret_foundR Tryz.results58 rfl (found_setR HF3.out.b1 _ _) rfl (by rw [HE.out]; exact HF3.out.ends HA.out (v := some cb) (by decide) HCB.out _ _)
set_option maxRecDepth 100000 in
set_option maxHeartbeats 4000000 in
theorem compute_follow {X SA : Nat → Prop} {Q : World → Qs → Nat → Option Nat → (Nat → Prop) → Prop} {ep rp : Value} {get : E.St → E.Nm → Except Int (E.V × E.St)} (ha : AsksR ep rp get X Q) {u : Option Nat} {F : Nat → Prop} {w : World} {A : Option Addr} {k : Nat} {nm tx x1 : ByteArray} {q : Qs}
    (hq : Q w q 0 u F) (hs : SliceAt strR w SA A k [x1]) (ho : ∀ k, SA k → k < w.heap.size ∧ ¬ X k ∧ u ≠ some k) :
    Calls Tryz.prog 58 #[ep, .agg #[.string nm, .int .i64 6, .slice A 1 k, .string tx], rp] w (RetP X Q u F w (runQ get (.ask x1 followK) q)) := by
  obtain ⟨c0, hc0⟩ : ∃ c0 : Array Value, c0 = #[.string nm, .int .i64 6, .slice A 1 k, .string tx] := ⟨_, rfl⟩
  obtain ⟨R, hR⟩ : ∃ R, R = runQ get (.ask x1 followK) q := ⟨_, rfl⟩
  obtain ⟨W1, hW1⟩ : ∃ W1, W1 = ((w.alloc (.cells #[.string nm, .int .i64 6, .slice A 1 k, .string tx] 50)).alloc (.cells #[.string ⟨#[]⟩, .bool false] 82)) := ⟨_, rfl⟩
  have HF : Hid (FlR X SA Q u F w c0 A k [x1] W1 q 0 u F) := Lib.hid (by rw [hW1, hc0]; exact FlR.start ha hq hs ho)
  rw [← hR]
  have HA := Lib.hid ha
  have HC0 := Lib.hid hc0
  obtain ⟨b, off, hAe, hbb, d0, hz⟩ := str_get HF.out.args (k := 0) (Nat.zero_lt_succ _)
  subst hAe
  have hcall := Lib.hid (HF.out.ask HA.out (Nat.zero_le _) hz)
  replace d0 : W1.cell? ⟨b, off, none⟩ = some (.string x1) := d0
  have a1 : W1.cell? ⟨w.heap.size, 1, none⟩ = some (.int .i64 6) := by rw [new_off HF.out.b0, hc0]; rfl
  have a2 : W1.cell? ⟨w.heap.size, 2, none⟩ = some (.slice (some ⟨b, off, none⟩) 1 k) := by rw [new_off HF.out.b0, hc0]; rfl
  have HST : Hid (R = runQ get (followK (askQ get q x1).1) (askQ get q x1).2) := Lib.hid hR
  replace hcall : Hid (Calls Tryz.prog 65 #[ep, .string x1, rp] W1 fun ed w' => ed = .returned (foundV (askQ get q x1).1) ∧ ((askQ get q x1).1.getD ⟨#[]⟩).size ≤ 65536 ∧ ∃ u' F', (∀ (i : Nat) (o : Obj), W1.heap[i]? = some o → ¬ F i → w'.heap[i]? = some o ∧ ¬ F' i) ∧ FlR X SA Q u F w c0 (some ⟨b, off, none⟩) k [x1] w' (askQ get q x1).2 1 u' F') := hcall
  clear hR ha hc0 hq hs ho HF
  generalize askQ get q x1 = qa at *
  obtain ⟨v, q'⟩ := qa
  go_enter Tryz.func58, Tryz.ntmps58
  go_upto_region 1 with (fail)
  rw [← hW1]
  clear hW1
  go_wp2_with fail
  refine hcall.out.mono ?_
  rintro e w1 ⟨rfl, h2, u', F', h3, h4⟩
  have HST' : Hid (R = runQ get (followK v) q') := HST
  have h2' : (v.getD ⟨#[]⟩).size ≤ 65536 := h2
  have h4' : FlR X SA Q u F w c0 (some ⟨b, off, none⟩) k [x1] w1 q' 1 u' F' := h4
  have HF4 := Lib.hid h4'
  have HB3 := Lib.hid h2'
  clear HST h2 h4 h4' h3 h2' hcall a1 a2 d0
  cases v with
  | none =>
    have HE : Hid (R = (none, q')) := HST'
    clear HST'
    rw [foundV_none]
    obtain ⟨W2, hW2⟩ : ∃ W2, W2 = w1.alloc (.cells #[.string ⟨#[]⟩, .bool false] 82) := ⟨_, rfl⟩
    have X2 : Ext w1 W2 := by rw [hW2]; exact (Ext.refl w1).alloc _
    have K8 : Hid (W2.heap[w1.heap.size]? = some (.cells #[.string ⟨#[]⟩, .bool false] 82 (0, 0))) := Lib.hid (by rw [hW2]; exact heap_alloc_new w1 _)
    have HF2 := Lib.hid (HF4.out.ext HA.out X2)
    have e0 : W2.cell? ⟨w1.heap.size, 0, none⟩ = some (.string ⟨#[]⟩) := by rw [new_off K8.out]; rfl
    have e1 : W2.cell? ⟨w1.heap.size, 1, none⟩ = some (.bool false) := by rw [new_off K8.out]; rfl
    have HNX : Hid (¬ F' w1.heap.size) := Lib.hid fun e => by have := HA.out.lt HF4.out.q _ e; omega
    clear X2
    go_upto_region 36 with (fail)
    rw [← hW2]
    clear hW2
    have a1 : W2.cell? ⟨w.heap.size, 1, none⟩ = some (.int .i64 6) := by rw [new_off HF2.out.b0, HC0.out]; rfl
    have a2 : W2.cell? ⟨w.heap.size, 2, none⟩ = some (.slice (some ⟨b, off, none⟩) 1 k) := by rw [new_off HF2.out.b0, HC0.out]; rfl
    have r0 : W2.cell? ⟨w.heap.size + 1, 0, none⟩ = some (.string ⟨#[]⟩) := by rw [new_off HF2.out.b1]; rfl
    have r1 : W2.cell? ⟨w.heap.size + 1, 1, none⟩ = some (.bool false) := by rw [new_off HF2.out.b1]; rfl
    have f0 := Lib.frozen_of_heap HF2.out.b1 0
    have f1 := Lib.frozen_of_heap HF2.out.b1 1
    go_wp2_with fail
    exact ret_foundR Tryz.results58 rfl (found_setR HF2.out.b1 _ _) rfl (by rw [HE.out]; exact HF2.out.ends HA.out (v := none) (by omega) (Nat.zero_le _) _ _)
  | some s =>
    have HE : Hid (R = ((askQ get q' s).1, (askQ get q' s).2)) := HST'
    clear HST'
    rw [foundV_some]
    obtain ⟨W2, hW2⟩ : ∃ W2, W2 = w1.alloc (.cells #[.string s, .bool true] 82) := ⟨_, rfl⟩
    have X2 : Ext w1 W2 := by rw [hW2]; exact (Ext.refl w1).alloc _
    have K8 : Hid (W2.heap[w1.heap.size]? = some (.cells #[.string s, .bool true] 82 (0, 0))) := Lib.hid (by rw [hW2]; exact heap_alloc_new w1 _)
    have HF2 := Lib.hid (HF4.out.ext HA.out X2)
    have e0 : W2.cell? ⟨w1.heap.size, 0, none⟩ = some (.string s) := by rw [new_off K8.out]; rfl
    have e1 : W2.cell? ⟨w1.heap.size, 1, none⟩ = some (.bool true) := by rw [new_off K8.out]; rfl
    have HNX : Hid (¬ F' w1.heap.size) := Lib.hid fun e => by have := HA.out.lt HF4.out.q _ e; omega
    clear X2
    go_upto_region 36 with (fail)
    rw [← hW2]
    clear hW2
    have a1 : W2.cell? ⟨w.heap.size, 1, none⟩ = some (.int .i64 6) := by rw [new_off HF2.out.b0, HC0.out]; rfl
    have a2 : W2.cell? ⟨w.heap.size, 2, none⟩ = some (.slice (some ⟨b, off, none⟩) 1 k) := by rw [new_off HF2.out.b0, HC0.out]; rfl
    have hz1 : s.size ≤ 9223372036854775807 := Nat.le_trans HB3.out (by decide)
    have d1 : True := trivial
    have hcall := Lib.hid (HF2.out.ask HA.out (by decide) hz1)
    replace hcall : Hid (Calls Tryz.prog 65 #[ep, .string s, rp] W2 fun ed w' => ed = .returned (foundV (askQ get q' s).1) ∧ ((askQ get q' s).1.getD ⟨#[]⟩).size ≤ 65536 ∧ ∃ u'' F'', (∀ (i : Nat) (o : Obj), W2.heap[i]? = some o → ¬ F' i → w'.heap[i]? = some o ∧ ¬ F'' i) ∧ FlR X SA Q u F w c0 (some ⟨b, off, none⟩) k [x1] w' (askQ get q' s).2 2 u'' F'') := hcall
    generalize askQ get q' s = qb at *
    obtain ⟨y, q''⟩ := qb
    replace HE : Hid (R = (y, q'')) := HE
    go_wp2_with fail
    refine hcall.out.mono ?_
    rintro e w3 ⟨rfl, g2, u'', F'', g3, g4⟩
    have g2' : (y.getD ⟨#[]⟩).size ≤ 65536 := g2
    have g4' : FlR X SA Q u F w c0 (some ⟨b, off, none⟩) k [x1] w3 q'' 2 u'' F'' := g4
    have HF3 := Lib.hid g4'
    have HB4 : Hid ((y.getD ⟨#[]⟩).size ≤ 140737488355328) := Lib.hid (Nat.le_trans g2' (by decide))
    replace HE : Hid (R = (y, q'')) := HE
    clear g2 g2' g3 g4 g4' hcall e0 e1 a1 a2 d1
    have HY : Hid (foundV y = .agg #[.string (y.getD ⟨#[]⟩), .bool y.isSome]) := Lib.hid rfl
    rw [HY.out]
    have r0 : w3.cell? ⟨w.heap.size + 1, 0, none⟩ = some (.string ⟨#[]⟩) := by rw [new_off HF3.out.b1]; rfl
    have r1 : w3.cell? ⟨w.heap.size + 1, 1, none⟩ = some (.bool false) := by rw [new_off HF3.out.b1]; rfl
    have f0 := Lib.frozen_of_heap HF3.out.b1 0
    have f1 := Lib.frozen_of_heap HF3.out.b1 1
    generalize hya : y.getD ⟨#[]⟩ = ya
    generalize hyb : y.isSome = yb
    have HYA := Lib.hid hya
    have HYB := Lib.hid hyb
    clear hya hyb
    go_wp2_with fail
    refine ret_foundR Tryz.results58 rfl (found_setR HF3.out.b1 _ _) rfl ?_
    rw [HE.out, ← HYA.out, ← HYB.out]
    exact HF3.out.ends HA.out (v := y) (by decide) HB4.out _ _
set_option maxRecDepth 100000 in
set_option maxHeartbeats 4000000 in
theorem compute_choose {X SA : Nat → Prop} {Q : World → Qs → Nat → Option Nat → (Nat → Prop) → Prop} {ep rp : Value} {get : E.St → E.Nm → Except Int (E.V × E.St)} (ha : AsksR ep rp get X Q) {u : Option Nat} {F : Nat → Prop} {w : World} {A : Option Addr} {k : Nat} {nm tx x1 x2 x3 : ByteArray} {q : Qs}
    (hq : Q w q 0 u F) (hs : SliceAt strR w SA A k [x1, x2, x3]) (ho : ∀ k, SA k → k < w.heap.size ∧ ¬ X k ∧ u ≠ some k) :
    Calls Tryz.prog 58 #[ep, .agg #[.string nm, .int .i64 5, .slice A 3 k, .string tx], rp] w (RetP X Q u F w (runQ get (.ask x1 (chooseK x2 x3)) q)) := by
  obtain ⟨c0, hc0⟩ : ∃ c0 : Array Value, c0 = #[.string nm, .int .i64 5, .slice A 3 k, .string tx] := ⟨_, rfl⟩
  obtain ⟨R, hR⟩ : ∃ R, R = runQ get (.ask x1 (chooseK x2 x3)) q := ⟨_, rfl⟩
  obtain ⟨W1, hW1⟩ : ∃ W1, W1 = ((w.alloc (.cells #[.string nm, .int .i64 5, .slice A 3 k, .string tx] 50)).alloc (.cells #[.string ⟨#[]⟩, .bool false] 82)) := ⟨_, rfl⟩
  have HF : Hid (FlR X SA Q u F w c0 A k [x1, x2, x3] W1 q 0 u F) := Lib.hid (by rw [hW1, hc0]; exact FlR.start ha hq hs ho)
  rw [← hR]
  have HA := Lib.hid ha
  have HC0 := Lib.hid hc0
  obtain ⟨b, off, hAe, hbb, d0, hz⟩ := str_get HF.out.args (k := 0) (Nat.zero_lt_succ _)
  subst hAe
  have hcall := Lib.hid (HF.out.ask HA.out (Nat.zero_le _) hz)
  replace d0 : W1.cell? ⟨b, off, none⟩ = some (.string x1) := d0
  have a1 : W1.cell? ⟨w.heap.size, 1, none⟩ = some (.int .i64 5) := by rw [new_off HF.out.b0, hc0]; rfl
  have a2 : W1.cell? ⟨w.heap.size, 2, none⟩ = some (.slice (some ⟨b, off, none⟩) 3 k) := by rw [new_off HF.out.b0, hc0]; rfl
  have HST : Hid (R = runQ get ((chooseK x2 x3) (askQ get q x1).1) (askQ get q x1).2) := Lib.hid hR
  replace hcall : Hid (Calls Tryz.prog 65 #[ep, .string x1, rp] W1 fun ed w' => ed = .returned (foundV (askQ get q x1).1) ∧ ((askQ get q x1).1.getD ⟨#[]⟩).size ≤ 65536 ∧ ∃ u' F', (∀ (i : Nat) (o : Obj), W1.heap[i]? = some o → ¬ F i → w'.heap[i]? = some o ∧ ¬ F' i) ∧ FlR X SA Q u F w c0 (some ⟨b, off, none⟩) k [x1, x2, x3] w' (askQ get q x1).2 1 u' F') := hcall
  clear hR ha hc0 hq hs ho HF
  generalize askQ get q x1 = qa at *
  obtain ⟨v, q'⟩ := qa
  go_enter Tryz.func58, Tryz.ntmps58
  go_upto_region 1 with (fail)
  rw [← hW1]
  clear hW1
  go_wp2_with fail
  refine hcall.out.mono ?_
  rintro e w1 ⟨rfl, h2, u', F', h3, h4⟩
  have HST' : Hid (R = runQ get ((chooseK x2 x3) v) q') := HST
  have h2' : (v.getD ⟨#[]⟩).size ≤ 65536 := h2
  have h4' : FlR X SA Q u F w c0 (some ⟨b, off, none⟩) k [x1, x2, x3] w1 q' 1 u' F' := h4
  have HF4 := Lib.hid h4'
  have HB3 := Lib.hid h2'
  clear HST h2 h4 h4' h3 h2' hcall a1 a2 d0
  cases v with
  | none =>
    have HE : Hid (R = (none, q')) := HST'
    clear HST'
    rw [foundV_none]
    obtain ⟨W2, hW2⟩ : ∃ W2, W2 = w1.alloc (.cells #[.string ⟨#[]⟩, .bool false] 82) := ⟨_, rfl⟩
    have X2 : Ext w1 W2 := by rw [hW2]; exact (Ext.refl w1).alloc _
    have K8 : Hid (W2.heap[w1.heap.size]? = some (.cells #[.string ⟨#[]⟩, .bool false] 82 (0, 0))) := Lib.hid (by rw [hW2]; exact heap_alloc_new w1 _)
    have HF2 := Lib.hid (HF4.out.ext HA.out X2)
    have e0 : W2.cell? ⟨w1.heap.size, 0, none⟩ = some (.string ⟨#[]⟩) := by rw [new_off K8.out]; rfl
    have e1 : W2.cell? ⟨w1.heap.size, 1, none⟩ = some (.bool false) := by rw [new_off K8.out]; rfl
    have HNX : Hid (¬ F' w1.heap.size) := Lib.hid fun e => by have := HA.out.lt HF4.out.q _ e; omega
    clear X2
    go_upto_region 29 with (fail)
    rw [← hW2]
    clear hW2
    have a1 : W2.cell? ⟨w.heap.size, 1, none⟩ = some (.int .i64 5) := by rw [new_off HF2.out.b0, HC0.out]; rfl
    have a2 : W2.cell? ⟨w.heap.size, 2, none⟩ = some (.slice (some ⟨b, off, none⟩) 3 k) := by rw [new_off HF2.out.b0, HC0.out]; rfl
    have r0 : W2.cell? ⟨w.heap.size + 1, 0, none⟩ = some (.string ⟨#[]⟩) := by rw [new_off HF2.out.b1]; rfl
    have r1 : W2.cell? ⟨w.heap.size + 1, 1, none⟩ = some (.bool false) := by rw [new_off HF2.out.b1]; rfl
    have f0 := Lib.frozen_of_heap HF2.out.b1 0
    have f1 := Lib.frozen_of_heap HF2.out.b1 1
    go_wp2_with fail
    exact ret_foundR Tryz.results58 rfl (found_setR HF2.out.b1 _ _) rfl (by rw [HE.out]; exact HF2.out.ends HA.out (v := none) (by omega) (Nat.zero_le _) _ _)
  | some s =>
    rw [foundV_some]
    obtain ⟨W2, hW2⟩ : ∃ W2, W2 = w1.alloc (.cells #[.string s, .bool true] 82) := ⟨_, rfl⟩
    have X2 : Ext w1 W2 := by rw [hW2]; exact (Ext.refl w1).alloc _
    have K8 : Hid (W2.heap[w1.heap.size]? = some (.cells #[.string s, .bool true] 82 (0, 0))) := Lib.hid (by rw [hW2]; exact heap_alloc_new w1 _)
    have HF2 := Lib.hid (HF4.out.ext HA.out X2)
    have e0 : W2.cell? ⟨w1.heap.size, 0, none⟩ = some (.string s) := by rw [new_off K8.out]; rfl
    have e1 : W2.cell? ⟨w1.heap.size, 1, none⟩ = some (.bool true) := by rw [new_off K8.out]; rfl
    have HNX : Hid (¬ F' w1.heap.size) := Lib.hid fun e => by have := HA.out.lt HF4.out.q _ e; omega
    clear X2
    go_upto_region 29 with (fail)
    rw [← hW2]
    clear hW2
    have a1 : W2.cell? ⟨w.heap.size, 1, none⟩ = some (.int .i64 5) := by rw [new_off HF2.out.b0, HC0.out]; rfl
    have a2 : W2.cell? ⟨w.heap.size, 2, none⟩ = some (.slice (some ⟨b, off, none⟩) 3 k) := by rw [new_off HF2.out.b0, HC0.out]; rfl
    by_cases h0 : s.size = 0
    · have hem : s.toList.isEmpty = true := by rw [empty_dec, decide_eq_true h0]
      have HE : Hid (R = ((askQ get q' x3).1, (askQ get q' x3).2)) := Lib.hid (by rw [HST'.out]; show runQ get (if s.size = 0 then .ask x3 .ret else .ask x2 .ret) q' = _; rw [if_pos h0]; rfl)
      clear HST' h0
      obtain ⟨b', off', hAe, _, d1, hz1⟩ := str_get HF2.out.args (k := 2) (by simp)
      obtain ⟨rfl, rfl⟩ : b' = b ∧ off' = off := by
        injection hAe with e
        injection e with e1 e2
        exact ⟨e1.symm, e2.symm⟩
      replace d1 : W2.cell? ⟨b', off' + 2, none⟩ = some (.string x3) := d1
      clear hAe
      have hcall := Lib.hid (HF2.out.ask HA.out (by decide) hz1)
      replace hcall : Hid (Calls Tryz.prog 65 #[ep, .string x3, rp] W2 fun ed w' => ed = .returned (foundV (askQ get q' x3).1) ∧ ((askQ get q' x3).1.getD ⟨#[]⟩).size ≤ 65536 ∧ ∃ u'' F'', (∀ (i : Nat) (o : Obj), W2.heap[i]? = some o → ¬ F' i → w'.heap[i]? = some o ∧ ¬ F'' i) ∧ FlR X SA Q u F w c0 (some ⟨b', off', none⟩) k [x1, x2, x3] w' (askQ get q' x3).2 2 u'' F'') := hcall
      generalize askQ get q' x3 = qb at *
      obtain ⟨y, q''⟩ := qb
      replace HE : Hid (R = (y, q'')) := HE
      go_wp2_with fail
      refine hcall.out.mono ?_
      rintro e w3 ⟨rfl, g2, u'', F'', g3, g4⟩
      have g2' : (y.getD ⟨#[]⟩).size ≤ 65536 := g2
      have g4' : FlR X SA Q u F w c0 (some ⟨b', off', none⟩) k [x1, x2, x3] w3 q'' 2 u'' F'' := g4
      have HF3 := Lib.hid g4'
      have HB4 : Hid ((y.getD ⟨#[]⟩).size ≤ 140737488355328) := Lib.hid (Nat.le_trans g2' (by decide))
      replace HE : Hid (R = (y, q'')) := HE
      clear g2 g2' g3 g4 g4' hcall e0 e1 a1 a2 d1
      have HY : Hid (foundV y = .agg #[.string (y.getD ⟨#[]⟩), .bool y.isSome]) := Lib.hid rfl
      rw [HY.out]
      have r0 : w3.cell? ⟨w.heap.size + 1, 0, none⟩ = some (.string ⟨#[]⟩) := by rw [new_off HF3.out.b1]; rfl
      have r1 : w3.cell? ⟨w.heap.size + 1, 1, none⟩ = some (.bool false) := by rw [new_off HF3.out.b1]; rfl
      have f0 := Lib.frozen_of_heap HF3.out.b1 0
      have f1 := Lib.frozen_of_heap HF3.out.b1 1
      generalize hya : y.getD ⟨#[]⟩ = ya
      generalize hyb : y.isSome = yb
      have HYA := Lib.hid hya
      have HYB := Lib.hid hyb
      clear hya hyb
      go_wp2_with fail
      refine ret_foundR Tryz.results58 rfl (found_setR HF3.out.b1 _ _) rfl ?_
      rw [HE.out, ← HYA.out, ← HYB.out]
      exact HF3.out.ends HA.out (v := y) (by decide) HB4.out _ _
    · have hem : s.toList.isEmpty = false := by rw [empty_dec, decide_eq_false h0]
      have HE : Hid (R = ((askQ get q' x2).1, (askQ get q' x2).2)) := Lib.hid (by rw [HST'.out]; show runQ get (if s.size = 0 then .ask x3 .ret else .ask x2 .ret) q' = _; rw [if_neg h0]; rfl)
      clear HST' h0
      obtain ⟨b', off', hAe, _, d1, hz1⟩ := str_get HF2.out.args (k := 1) (by simp)
      obtain ⟨rfl, rfl⟩ : b' = b ∧ off' = off := by
        injection hAe with e
        injection e with e1 e2
        exact ⟨e1.symm, e2.symm⟩
      replace d1 : W2.cell? ⟨b', off' + 1, none⟩ = some (.string x2) := d1
      clear hAe
      have hcall := Lib.hid (HF2.out.ask HA.out (by decide) hz1)
      replace hcall : Hid (Calls Tryz.prog 65 #[ep, .string x2, rp] W2 fun ed w' => ed = .returned (foundV (askQ get q' x2).1) ∧ ((askQ get q' x2).1.getD ⟨#[]⟩).size ≤ 65536 ∧ ∃ u'' F'', (∀ (i : Nat) (o : Obj), W2.heap[i]? = some o → ¬ F' i → w'.heap[i]? = some o ∧ ¬ F'' i) ∧ FlR X SA Q u F w c0 (some ⟨b', off', none⟩) k [x1, x2, x3] w' (askQ get q' x2).2 2 u'' F'') := hcall
      generalize askQ get q' x2 = qb at *
      obtain ⟨y, q''⟩ := qb
      replace HE : Hid (R = (y, q'')) := HE
      go_wp2_with fail
      refine hcall.out.mono ?_
      rintro e w3 ⟨rfl, g2, u'', F'', g3, g4⟩
      have g2' : (y.getD ⟨#[]⟩).size ≤ 65536 := g2
      have g4' : FlR X SA Q u F w c0 (some ⟨b', off', none⟩) k [x1, x2, x3] w3 q'' 2 u'' F'' := g4
      have HF3 := Lib.hid g4'
      have HB4 : Hid ((y.getD ⟨#[]⟩).size ≤ 140737488355328) := Lib.hid (Nat.le_trans g2' (by decide))
      replace HE : Hid (R = (y, q'')) := HE
      clear g2 g2' g3 g4 g4' hcall e0 e1 a1 a2 d1
      have HY : Hid (foundV y = .agg #[.string (y.getD ⟨#[]⟩), .bool y.isSome]) := Lib.hid rfl
      rw [HY.out]
      have r0 : w3.cell? ⟨w.heap.size + 1, 0, none⟩ = some (.string ⟨#[]⟩) := by rw [new_off HF3.out.b1]; rfl
      have r1 : w3.cell? ⟨w.heap.size + 1, 1, none⟩ = some (.bool false) := by rw [new_off HF3.out.b1]; rfl
      have f0 := Lib.frozen_of_heap HF3.out.b1 0
      have f1 := Lib.frozen_of_heap HF3.out.b1 1
      generalize hya : y.getD ⟨#[]⟩ = ya
      generalize hyb : y.isSome = yb
      have HYA := Lib.hid hya
      have HYB := Lib.hid hyb
      clear hya hyb
      go_wp2_with fail
      refine ret_foundR Tryz.results58 rfl (found_setR HF3.out.b1 _ _) rfl ?_
      rw [HE.out, ← HYA.out, ← HYB.out]
      exact HF3.out.ends HA.out (v := y) (by decide) HB4.out _ _
set_option maxRecDepth 100000 in
set_option maxHeartbeats 4000000 in
theorem compute_pick {X SA : Nat → Prop} {Q : World → Qs → Nat → Option Nat → (Nat → Prop) → Prop} {ep rp : Value} {get : E.St → E.Nm → Except Int (E.V × E.St)} (ha : AsksR ep rp get X Q) {u : Option Nat} {F : Nat → Prop} {w : World} {A : Option Addr} {k : Nat} {nm tx x1 x2 : ByteArray} {q : Qs}
    (hq : Q w q 0 u F) (hs : SliceAt strR w SA A k [x1, x2]) (ho : ∀ k, SA k → k < w.heap.size ∧ ¬ X k ∧ u ≠ some k) :
    Calls Tryz.prog 58 #[ep, .agg #[.string nm, .int .i64 4, .slice A 2 k, .string tx], rp] w (RetP X Q u F w (runQ get (.ask x1 (pickK x2)) q)) := by
  obtain ⟨c0, hc0⟩ : ∃ c0 : Array Value, c0 = #[.string nm, .int .i64 4, .slice A 2 k, .string tx] := ⟨_, rfl⟩
  obtain ⟨R, hR⟩ : ∃ R, R = runQ get (.ask x1 (pickK x2)) q := ⟨_, rfl⟩
  obtain ⟨W1, hW1⟩ : ∃ W1, W1 = ((w.alloc (.cells #[.string nm, .int .i64 4, .slice A 2 k, .string tx] 50)).alloc (.cells #[.string ⟨#[]⟩, .bool false] 82)) := ⟨_, rfl⟩
  have HF : Hid (FlR X SA Q u F w c0 A k [x1, x2] W1 q 0 u F) := Lib.hid (by rw [hW1, hc0]; exact FlR.start ha hq hs ho)
  rw [← hR]
  have HA := Lib.hid ha
  have HC0 := Lib.hid hc0
  obtain ⟨b, off, hAe, hbb, d0, hz⟩ := str_get HF.out.args (k := 0) (Nat.zero_lt_succ _)
  subst hAe
  have hcall := Lib.hid (HF.out.ask HA.out (Nat.zero_le _) hz)
  replace d0 : W1.cell? ⟨b, off, none⟩ = some (.string x1) := d0
  have a1 : W1.cell? ⟨w.heap.size, 1, none⟩ = some (.int .i64 4) := by rw [new_off HF.out.b0, hc0]; rfl
  have a2 : W1.cell? ⟨w.heap.size, 2, none⟩ = some (.slice (some ⟨b, off, none⟩) 2 k) := by rw [new_off HF.out.b0, hc0]; rfl
  have HST : Hid (R = runQ get ((pickK x2) (askQ get q x1).1) (askQ get q x1).2) := Lib.hid hR
  replace hcall : Hid (Calls Tryz.prog 65 #[ep, .string x1, rp] W1 fun ed w' => ed = .returned (foundV (askQ get q x1).1) ∧ ((askQ get q x1).1.getD ⟨#[]⟩).size ≤ 65536 ∧ ∃ u' F', (∀ (i : Nat) (o : Obj), W1.heap[i]? = some o → ¬ F i → w'.heap[i]? = some o ∧ ¬ F' i) ∧ FlR X SA Q u F w c0 (some ⟨b, off, none⟩) k [x1, x2] w' (askQ get q x1).2 1 u' F') := hcall
  clear hR ha hc0 hq hs ho HF
  generalize askQ get q x1 = qa at *
  obtain ⟨v, q'⟩ := qa
  go_enter Tryz.func58, Tryz.ntmps58
  go_upto_region 1 with (fail)
  rw [← hW1]
  clear hW1
  go_wp2_with fail
  refine hcall.out.mono ?_
  rintro e w1 ⟨rfl, h2, u', F', h3, h4⟩
  have HST' : Hid (R = runQ get ((pickK x2) v) q') := HST
  have h2' : (v.getD ⟨#[]⟩).size ≤ 65536 := h2
  have h4' : FlR X SA Q u F w c0 (some ⟨b, off, none⟩) k [x1, x2] w1 q' 1 u' F' := h4
  have HF4 := Lib.hid h4'
  have HB3 := Lib.hid h2'
  clear HST h2 h4 h4' h3 h2' hcall a1 a2 d0
  cases v with
  | none =>
    have HE : Hid (R = (none, q')) := HST'
    clear HST'
    rw [foundV_none]
    obtain ⟨W2, hW2⟩ : ∃ W2, W2 = w1.alloc (.cells #[.string ⟨#[]⟩, .bool false] 82) := ⟨_, rfl⟩
    have X2 : Ext w1 W2 := by rw [hW2]; exact (Ext.refl w1).alloc _
    have K8 : Hid (W2.heap[w1.heap.size]? = some (.cells #[.string ⟨#[]⟩, .bool false] 82 (0, 0))) := Lib.hid (by rw [hW2]; exact heap_alloc_new w1 _)
    have HF2 := Lib.hid (HF4.out.ext HA.out X2)
    have e0 : W2.cell? ⟨w1.heap.size, 0, none⟩ = some (.string ⟨#[]⟩) := by rw [new_off K8.out]; rfl
    have e1 : W2.cell? ⟨w1.heap.size, 1, none⟩ = some (.bool false) := by rw [new_off K8.out]; rfl
    have HNX : Hid (¬ F' w1.heap.size) := Lib.hid fun e => by have := HA.out.lt HF4.out.q _ e; omega
    clear X2
    go_upto_region 21 with (fail)
    rw [← hW2]
    clear hW2
    have a1 : W2.cell? ⟨w.heap.size, 1, none⟩ = some (.int .i64 4) := by rw [new_off HF2.out.b0, HC0.out]; rfl
    have a2 : W2.cell? ⟨w.heap.size, 2, none⟩ = some (.slice (some ⟨b, off, none⟩) 2 k) := by rw [new_off HF2.out.b0, HC0.out]; rfl
    have r0 : W2.cell? ⟨w.heap.size + 1, 0, none⟩ = some (.string ⟨#[]⟩) := by rw [new_off HF2.out.b1]; rfl
    have r1 : W2.cell? ⟨w.heap.size + 1, 1, none⟩ = some (.bool false) := by rw [new_off HF2.out.b1]; rfl
    have f0 := Lib.frozen_of_heap HF2.out.b1 0
    have f1 := Lib.frozen_of_heap HF2.out.b1 1
    go_wp2_with fail
    exact ret_foundR Tryz.results58 rfl (found_setR HF2.out.b1 _ _) rfl (by rw [HE.out]; exact HF2.out.ends HA.out (v := none) (by omega) (Nat.zero_le _) _ _)
  | some s =>
    have HE : Hid (R = runQ get (pickY s (askQ get q' x2).1) (askQ get q' x2).2) := HST'
    clear HST'
    rw [foundV_some]
    obtain ⟨W2, hW2⟩ : ∃ W2, W2 = w1.alloc (.cells #[.string s, .bool true] 82) := ⟨_, rfl⟩
    have X2 : Ext w1 W2 := by rw [hW2]; exact (Ext.refl w1).alloc _
    have K8 : Hid (W2.heap[w1.heap.size]? = some (.cells #[.string s, .bool true] 82 (0, 0))) := Lib.hid (by rw [hW2]; exact heap_alloc_new w1 _)
    have HF2 := Lib.hid (HF4.out.ext HA.out X2)
    have e0 : W2.cell? ⟨w1.heap.size, 0, none⟩ = some (.string s) := by rw [new_off K8.out]; rfl
    have e1 : W2.cell? ⟨w1.heap.size, 1, none⟩ = some (.bool true) := by rw [new_off K8.out]; rfl
    have HNX : Hid (¬ F' w1.heap.size) := Lib.hid fun e => by have := HA.out.lt HF4.out.q _ e; omega
    clear X2
    go_upto_region 21 with (fail)
    rw [← hW2]
    clear hW2
    have a1 : W2.cell? ⟨w.heap.size, 1, none⟩ = some (.int .i64 4) := by rw [new_off HF2.out.b0, HC0.out]; rfl
    have a2 : W2.cell? ⟨w.heap.size, 2, none⟩ = some (.slice (some ⟨b, off, none⟩) 2 k) := by rw [new_off HF2.out.b0, HC0.out]; rfl
    obtain ⟨b', off', hAe, _, d1, hz1⟩ := str_get HF2.out.args (k := 1) (by simp)
    obtain ⟨rfl, rfl⟩ : b' = b ∧ off' = off := by
      injection hAe with e
      injection e with e1 e2
      exact ⟨e1.symm, e2.symm⟩
    replace d1 : W2.cell? ⟨b', off' + 1, none⟩ = some (.string x2) := d1
    clear hAe
    have hcall := Lib.hid (HF2.out.ask HA.out (by decide) hz1)
    replace hcall : Hid (Calls Tryz.prog 65 #[ep, .string x2, rp] W2 fun ed w' => ed = .returned (foundV (askQ get q' x2).1) ∧ ((askQ get q' x2).1.getD ⟨#[]⟩).size ≤ 65536 ∧ ∃ u'' F'', (∀ (i : Nat) (o : Obj), W2.heap[i]? = some o → ¬ F' i → w'.heap[i]? = some o ∧ ¬ F'' i) ∧ FlR X SA Q u F w c0 (some ⟨b', off', none⟩) k [x1, x2] w' (askQ get q' x2).2 2 u'' F'') := hcall
    generalize askQ get q' x2 = qb at *
    obtain ⟨y, q''⟩ := qb
    replace HE : Hid (R = runQ get (pickY s y) q'') := HE
    go_wp2_with fail
    refine hcall.out.mono ?_
    rintro e w3 ⟨rfl, g2, u'', F'', g3, g4⟩
    have g2' : (y.getD ⟨#[]⟩).size ≤ 65536 := g2
    have g4' : FlR X SA Q u F w c0 (some ⟨b', off', none⟩) k [x1, x2] w3 q'' 2 u'' F'' := g4
    have HF3 := Lib.hid g4'
    have HG2 := Lib.hid g2'
    have K3 := Lib.hid (g3 _ _ K8.out HNX.out).1
    clear g2 g2' g3 g4 g4' hcall e0 e1 a1 a2 d1
    cases y with
    | none =>
      replace HE : Hid (R = (none, q'')) := HE
      rw [foundV_none]
      obtain ⟨W4, hW4⟩ : ∃ W4, W4 = w3.alloc (.cells #[.string ⟨#[]⟩, .bool false] 82) := ⟨_, rfl⟩
      have X4 : Ext w3 W4 := by rw [hW4]; exact (Ext.refl w3).alloc _
      have K9 : Hid (W4.heap[w3.heap.size]? = some (.cells #[.string ⟨#[]⟩, .bool false] 82 (0, 0))) := Lib.hid (by rw [hW4]; exact heap_alloc_new w3 _)
      have HF5 := Lib.hid (HF3.out.ext HA.out X4)
      have e0 : W4.cell? ⟨w3.heap.size, 0, none⟩ = some (.string ⟨#[]⟩) := by rw [new_off K9.out]; rfl
      have e1 : W4.cell? ⟨w3.heap.size, 1, none⟩ = some (.bool false) := by rw [new_off K9.out]; rfl
      have r0 : W4.cell? ⟨w.heap.size + 1, 0, none⟩ = some (.string ⟨#[]⟩) := by rw [new_off HF5.out.b1]; rfl
      have r1 : W4.cell? ⟨w.heap.size + 1, 1, none⟩ = some (.bool false) := by rw [new_off HF5.out.b1]; rfl
      have f0 := Lib.frozen_of_heap HF5.out.b1 0
      have f1 := Lib.frozen_of_heap HF5.out.b1 1
      clear X4
      go_upto_region 24 with (fail)
      rw [← hW4]
      clear hW4
      go_wp2_with fail
      exact ret_foundR Tryz.results58 rfl (found_setR HF5.out.b1 _ _) rfl (by rw [HE.out]; exact HF5.out.ends HA.out (v := none) (by decide) (Nat.zero_le _) _ _)
    | some t =>
      replace HE : Hid (R = (some (E.pickB s t), q'')) := HE
      have HPL := Lib.hid (pickB_le (s := s) (t := t) HB3.out)
      rw [foundV_some]
      obtain ⟨W4, hW4⟩ : ∃ W4, W4 = w3.alloc (.cells #[.string t, .bool true] 82) := ⟨_, rfl⟩
      have X4 : Ext w3 W4 := by rw [hW4]; exact (Ext.refl w3).alloc _
      have K9 : Hid (W4.heap[w3.heap.size]? = some (.cells #[.string t, .bool true] 82 (0, 0))) := Lib.hid (by rw [hW4]; exact heap_alloc_new w3 _)
      have KX := Lib.hid ((X4.block _ (Array.getElem?_eq_some_iff.1 K3.out).1).trans K3.out)
      have HF5 := Lib.hid (HF3.out.ext HA.out X4)
      have HPK := Lib.hid (refPick_any s t W4 HB3.out HG2.out)
      generalize E.pickB s t = pb at *
      have e0 : W4.cell? ⟨w3.heap.size, 0, none⟩ = some (.string t) := by rw [new_off K9.out]; rfl
      have e1 : W4.cell? ⟨w3.heap.size, 1, none⟩ = some (.bool true) := by rw [new_off K9.out]; rfl
      have x0 : W4.cell? ⟨w1.heap.size, 0, none⟩ = some (.string s) := by rw [new_off KX.out]; rfl
      have r0 : W4.cell? ⟨w.heap.size + 1, 0, none⟩ = some (.string ⟨#[]⟩) := by rw [new_off HF5.out.b1]; rfl
      have r1 : W4.cell? ⟨w.heap.size + 1, 1, none⟩ = some (.bool false) := by rw [new_off HF5.out.b1]; rfl
      have f0 := Lib.frozen_of_heap HF5.out.b1 0
      have f1 := Lib.frozen_of_heap HF5.out.b1 1
      clear X4
      go_upto_region 24 with (fail)
      rw [← hW4]
      clear hW4
      go_wp2_with fail
      refine HPK.out.mono ?_
      rintro e w5 ⟨rfl, rfl⟩
      go_wp2_with fail
      exact ret_foundR Tryz.results58 rfl (found_setR HF5.out.b1 _ _) rfl (by rw [HE.out]; exact HF5.out.ends HA.out (v := some pb) (by decide) HPL.out _ _)
end Go.Proofs.YtkeaoejgboefbaaGreatDoor

/- The reference's compute; its read. -/
namespace Go.Proofs.YtkeaoejgboefbaaGreatDoor
open Go.RowKit Go.Maps

theorem refCompute_any {X SA : Nat → Prop} {Q : World → Qs → Nat → Option Nat → (Nat → Prop) → Prop} {ep rp : Value} {get : E.St → E.Nm → Except Int (E.V × E.St)} (ha : AsksR ep rp get X Q) {u : Option Nat} {F : Nat → Prop} {w : World} {A : Option Addr} {k : Nat} {c : E.Cell} {q : Qs}
    (hf : E.formedB c = true) (hi : E.isIn c = false) (hq : Q w q 0 u F) (hs : SliceAt strR w SA A k c.2.2.1) (ho : ∀ k, SA k → k < w.heap.size ∧ ¬ X k ∧ u ≠ some k) :
    Calls Tryz.prog 58 #[ep, cellV c A k, rp] w (RetP X Q u F w (runQ get (E.form c) q)) := by
  obtain ⟨nm, op, args, tx⟩ := c
  rcases formed_ways hf hi with ⟨rfl, h1, h2⟩ | ⟨rfl, a, rfl⟩ | ⟨rfl, a, b, rfl⟩ | ⟨rfl, a, b, c, rfl⟩ | ⟨rfl, a, rfl⟩ | ⟨rfl, a, b, rfl⟩
  · exact compute_join ha hq hs ho rfl h1 h2
  · have e : E.form (nm, 3, [a], tx) = .ask a countK := ask_congr fun v => by cases v <;> rfl
    rw [e]
    exact compute_count ha hq hs ho
  · have e : E.form (nm, 4, [a, b], tx) = .ask a (pickK b) := ask_congr fun v => by
      cases v with
      | none => rfl
      | some s => exact congrArg (E.Pr.ask b) (pickY_is s)
    rw [e]
    exact compute_pick ha hq hs ho
  · have e : E.form (nm, 5, [a, b, c], tx) = .ask a (chooseK b c) := ask_congr fun v => by cases v <;> rfl
    rw [e]
    exact compute_choose ha hq hs ho
  · have e : E.form (nm, 6, [a], tx) = .ask a followK := ask_congr fun v => by cases v <;> rfl
    rw [e]
    exact compute_follow ha hq hs ho
  · have e : E.form (nm, 7, [a, b], tx) = .ask a (orK b) := ask_congr fun v => by cases v <;> rfl
    rw [e]
    exact compute_or ha hq hs ho
/-- The memo on its way: its box, with the reads so far. -/
structure RdsR (w : World) (mb : Nat) (a0 a1 a2 a3 a5 v : Value) (rs : List (E.Nm × E.V)) : Prop where
  heap : w.heap[mb]? = some (.cells #[a0, a1, a2, a3, v, a5] 119 (0, 0))
  own : OwnAt w 0 121 3 v rs.length (flatR rs)
  ne : v.ownBlock ≠ some mb
def RetCR (w : World) (X : Nat → Prop) (Φ : E.V → World → Prop) (mb : Nat) (a0 a1 a2 a3 a5 v : Value) (n : ByteArray) (rs : List (E.Nm × E.V)) (ed : Ending) (w'' : World) : Prop :=
  ∃ x w1 v', ed = .returned (foundV x) ∧ Tch X w w1 ∧ Φ x w1 ∧ Tch (fun k => k = mb ∨ v.ownBlock = some k ∨ k = w.heap.size) w1 w'' ∧ RdsR w'' mb a0 a1 a2 a3 a5 v' (rs ++ [(n, x)]) ∧ (v'.ownBlock = v.ownBlock ∨ ∃ u, v'.ownBlock = some u ∧ w1.heap.size ≤ u)
set_option maxRecDepth 100000 in
theorem read_infoR : (Tryz.prog.info? 121).map (fun i => (i.zero, i.size, i.bytes)) = some (some (.agg #[.string ⟨#[]⟩, .string ⟨#[]⟩, .bool false]), 3, 40) := by kernel_rfl
set_option maxRecDepth 100000 in
set_option maxHeartbeats 4000000 in
theorem read_anyR {w : World} {X : Nat → Prop} {Φ : E.V → World → Prop} {mb : Nat} {ep a0 a1 a2 a3 a5 v : Value} {n : ByteArray} {rs : List (E.Nm × E.V)} (hr : RdsR w mb a0 a1 a2 a3 a5 v rs) (hlen : rs.length ≤ 100) (hX : ∀ k, X k → k < w.heap.size) (h5 : ¬ X mb) (hv : ∀ u, v.ownBlock = some u → ¬ X u)
    (hget : ∀ W, Ext w W → w.heap.size < W.heap.size → Calls Tryz.prog 47 #[ep, .string n] W fun ed w' => ∃ x, ed = .returned (foundV x) ∧ Tch X W w' ∧ Φ x w') :
    Calls Tryz.prog 65 #[ep, .string n, .pointer (some ⟨mb, 4, none⟩)] w (RetCR w X Φ mb a0 a1 a2 a3 a5 v n rs) := by
  obtain ⟨W1, hW1⟩ : ∃ W1, W1 = w.alloc (.cells #[.string ⟨#[]⟩, .bool false] 82) := ⟨_, rfl⟩
  have X1 : Ext w W1 := by rw [hW1]; exact (Ext.refl w).alloc _
  have H1 : Hid (W1.heap[w.heap.size]? = some (.cells #[.string ⟨#[]⟩, .bool false] 82)) := Lib.hid (by rw [hW1]; exact heap_alloc_new w _)
  have HGT := Lib.hid (hget W1 X1 (Array.getElem?_eq_some_iff.1 H1.out).1)
  have HX1 := Lib.hid X1
  have HR := Lib.hid hr
  have HV := Lib.hid hv
  have H5 := Lib.hid h5
  have HX := Lib.hid hX
  clear hr hget X1 hv h5 hX
  go_enter Tryz.func65, Tryz.ntmps65
  go_upto_region 1 with (fail)
  rw [← hW1]
  clear hW1
  go_wp2_with fail
  refine HGT.out.mono ?_
  rintro ed w1 ⟨x, rfl, t1, hΦ⟩
  have HP := Lib.hid hΦ
  have HT1 := Lib.hid t1
  clear hΦ t1
  have hfv : foundV x = .agg #[.string (x.getD ⟨#[]⟩), .bool x.isSome] := rfl
  rw [hfv]
  clear hfv
  obtain ⟨a, ha⟩ : ∃ a, a = x.getD ⟨#[]⟩ := ⟨_, rfl⟩
  obtain ⟨b, hb⟩ : ∃ b, b = x.isSome := ⟨_, rfl⟩
  rw [← ha, ← hb]
  have HA := Lib.hid ha
  have HB := Lib.hid hb
  clear ha hb
  obtain ⟨W2, hW2⟩ : ∃ W2, W2 = w1.alloc (.cells #[.string a, .bool b] 82) := ⟨_, rfl⟩
  have X2 : Ext w1 W2 := by rw [hW2]; exact (Ext.refl w1).alloc _
  have hs1 : w.heap.size < w1.heap.size := Nat.lt_of_lt_of_le (Array.getElem?_eq_some_iff.1 H1.out).1 HT1.out.size
  have H1' : Hid (W2.heap[w.heap.size]? = some (.cells #[.string ⟨#[]⟩, .bool false] 82 (0, 0))) := Lib.hid ((X2.block _ hs1).trans ((HT1.out.block _ (Array.getElem?_eq_some_iff.1 H1.out).1 fun e => by have := HX.out _ e; omega).trans H1.out))
  have H3 : Hid (W2.heap[w1.heap.size]? = some (.cells #[.string a, .bool b] 82 (0, 0))) := Lib.hid (by rw [hW2]; exact heap_alloc_new w1 _)
  have hb5 : mb < w.heap.size := (Array.getElem?_eq_some_iff.1 HR.out.heap).1
  have hb5' : mb < W1.heap.size := Nat.lt_of_lt_of_le hb5 HX1.out.size
  have H5' : Hid (W2.heap[mb]? = some (.cells #[a0, a1, a2, a3, v, a5] 119 (0, 0))) := Lib.hid ((X2.block _ (by omega)).trans ((HT1.out.block _ hb5' H5.out).trans ((HX1.out.block _ hb5).trans HR.out.heap)))
  have HO : Hid (OwnAt W2 0 121 3 v rs.length (flatR rs)) := Lib.hid (((HR.out.own.ext HX1.out).keep fun u hu hl => HT1.out.block u hl (HV.out u hu)).ext X2)
  have HX2 := Lib.hid X2
  have hu : ∀ u, v.ownBlock = some u → u < w.heap.size := fun u => own_at_lt HR.out.own
  have HU := Lib.hid hu
  have HS1 := Lib.hid hs1
  have HB5 := Lib.hid hb5
  obtain ⟨i0, hi, hz0, hz1, hz2⟩ := info_parts read_infoR
  clear X2 hu hb5'
  go_upto_region 2 with (fail)
  rw [← hW2]
  clear hW2
  obtain ⟨xb, hxb⟩ : ∃ xb, xb = w1.heap.size := ⟨_, rfl⟩
  have HXB := Lib.hid hxb
  rw [← hxb] at H3 ⊢
  clear hxb
  obtain ⟨Ψ, hΨ⟩ : ∃ Ψ : World → Prop, ∀ w', Ψ w' ↔ (w'.cell? ⟨mb, 4, none⟩ = some v ∧ w'.cell? ⟨xb, 0, none⟩ = some (.string a) ∧ w'.cell? ⟨xb, 1, none⟩ = some (.bool b)) := ⟨_, fun _ => Iff.rfl⟩
  have h0 : Ψ W2.drew := (hΨ _).2 ⟨by show W2.cell? _ = _; rw [new_off H5'.out]; rfl, by show W2.cell? _ = _; rw [new_off H3.out]; rfl, by show W2.cell? _ = _; rw [new_off H3.out]; rfl⟩
  have fx0 : ∀ x : Lat Ψ, x.w'.cell? ⟨mb, 4, none⟩ = some v := fun x => ((hΨ _).1 x.h).1
  have fx1 : ∀ x : Lat Ψ, x.w'.cell? ⟨xb, 0, none⟩ = some (.string a) := fun x => ((hΨ _).1 x.h).2.1
  have fx2 : ∀ x : Lat Ψ, x.w'.cell? ⟨xb, 1, none⟩ = some (.bool b) := fun x => ((hΨ _).1 x.h).2.2
  have hne1 := Lat.some h0
  have HΨ := Lib.hid hΨ
  clear hΨ
  refine wp_region_tail 10 [7, 8] Ψ h0 (by kernel_rfl) (by kernel_rfl) (by kernel_rfl) ?_
  simp only [List.take_succ_cons, List.take_zero, List.drop_succ_cons, List.drop_zero]
  iterate 7 (refine lex_pure rfl rfl rfl ?_; intro K hK; go_big_quiet_op; go_big_quiet_on)
  refine lex_eff rfl ?_
  go_wp2_with fail
  obtain ⟨W3, hW3⟩ : ∃ W3, W3 = (W2.alloc (.cells #[.string n, .string a, .bool b] 121)).drew := ⟨_, rfl⟩
  have X3 : Ext W2 W3 := by rw [hW3]; exact ((Ext.refl W2).alloc _).drew
  have N3 : ∀ j u, (readL n a b)[j]? = some u → W3.cell? ((⟨W2.heap.size, 0, none⟩ : Addr).add j) = some u := by
    intro j u hj
    rw [hW3]
    show (W2.alloc (.cells #[.string n, .string a, .bool b] 121)).cell? _ = _
    rw [Addr.add_lit, Nat.zero_add, cell_new, ← hj]
    simp [readL]
  have S3 : W3.heap.size = W2.heap.size + 1 := by rw [hW3]; show (W2.alloc _).heap.size = _; simp
  rw [← hW3]
  have hΨ3 : Ψ W3 := (HΨ.out _).2 ⟨X3.keepc ((HΨ.out _).1 h0).1, X3.keepc ((HΨ.out _).1 h0).2.1, X3.keepc ((HΨ.out _).1 h0).2.2⟩
  refine ⟨⟨⟨W3, hΨ3⟩, rfl⟩, ?_⟩
  have HX3 := Lib.hid X3
  have HN3 := Lib.hid N3
  have HS3 := Lib.hid S3
  have HO3 := Lib.hid (HO.out.ext X3)
  clear hW3 X3 N3 S3 hΨ3
  refine lex_eff rfl ?_
  refine wpList_append_ownAt _ rfl (.tmp 14) (.tmp 18) 117 rfl 0 121 i0 (.agg #[.string ⟨#[]⟩, .string ⟨#[]⟩, .bool false]) 3 40 Tryz.underlying117 hi hz0 hz1 hz2 rfl (by decide) _ _ _ rfl HO3.out ⟨_, 0, none⟩ 1 1 (readL n a b) rfl rfl HN3.out (readL_one _ _ _) (by unfold maxLen; omega) (by omega) (Nat.zero_le _) (by decide) ?_
  intro v' w4 ho hg _ hf
  go_wp2_with fail
  obtain ⟨gv, ov, cv, hve, _⟩ := ho.cells (Nat.succ_pos _)
  subst hve
  have hu := HU.out
  have hxb := HXB.out
  have hs3 := HS3.out
  have hb5 := HB5.out
  have hs1 := HS1.out
  have hw1 : xb < W2.heap.size := (Array.getElem?_eq_some_iff.1 H3.out).1
  have l5 : mb < W3.heap.size := by omega
  have k5 : w4.heap[mb]? = some (.cells #[a0, a1, a2, a3, v, a5] 119 (0, 0)) := (hg.block mb l5 fun e => HR.out.ne e.symm).trans ((HX3.out.block _ (by omega)).trans H5'.out)
  have k3 : w4.heap[xb]? = some (.cells #[.string a, .bool b] 82 (0, 0)) := (hg.block _ (by omega) fun e => by have := hu _ e.symm; omega).trans ((HX3.out.block _ (by omega)).trans H3.out)
  have k1 : w4.heap[w.heap.size]? = some (.cells #[.string ⟨#[]⟩, .bool false] 82 (0, 0)) := (hg.block _ (by omega) fun e => by have := hu _ e.symm; omega).trans ((HX3.out.block _ (by omega)).trans H1'.out)
  have hΨ4 : Ψ w4 := (HΨ.out _).2 ⟨by rw [new_off k5]; rfl, by rw [new_off k3]; rfl, by rw [new_off k3]; rfl⟩
  refine ⟨⟨⟨w4, hΨ4⟩, rfl⟩, ?_⟩
  refine lex_pure rfl rfl rfl ?_; intro K hK; go_big_quiet_op; go_big_quiet_on
  refine lex_nil ?_
  clear fx0 fx1 fx2 hne1 h0 hΨ4
  have e5 : w4.cell? ⟨mb, 4, none⟩ = some v := by rw [new_off k5]; rfl
  have f5 := Lib.frozen_of_heap k5 4
  obtain ⟨W5, hW5⟩ : ∃ W5, W5 = w4.setCell ⟨mb, 4, none⟩ (.slice (some ⟨gv, ov, none⟩) (rs.length + 1) cv : Value) := ⟨_, rfl⟩
  have g5 : ∀ k, k ≠ mb → W5.heap[k]? = w4.heap[k]? := fun k hk => by rw [hW5]; exact RowKit.Below.heap_setCell _ _ _ _ hk
  have H5b : Hid (W5.heap[mb]? = some (.cells #[a0, a1, a2, a3, (.slice (some ⟨gv, ov, none⟩) (rs.length + 1) cv : Value), a5] 119 (0, 0))) := Lib.hid (by rw [hW5]; exact heap_setCell_cells k5 4 (.slice (some ⟨gv, ov, none⟩) (rs.length + 1) cv : Value))
  have H3b : Hid (W5.heap[xb]? = some (.cells #[.string a, .bool b] 82 (0, 0))) := Lib.hid ((g5 _ (by omega)).trans k3)
  have H1b : Hid (W5.heap[w.heap.size]? = some (.cells #[.string ⟨#[]⟩, .bool false] 82 (0, 0))) := Lib.hid ((g5 _ (by omega)).trans k1)
  have hvb : (Value.slice (some ⟨gv, ov, none⟩) (rs.length + 1) cv).ownBlock ≠ some mb := by
    rcases hf with hf | ⟨u, hf, h1, _⟩
    · rw [hf]; exact HR.out.ne
    · rw [hf]; intro e; cases e; omega
  have HVB := Lib.hid hvb
  have HNW : Hid ((Value.slice (some ⟨gv, ov, none⟩) (rs.length + 1) cv).ownBlock ≠ some w.heap.size) := Lib.hid (by
    rcases hf with hf | ⟨u, hf, h1, _⟩
    · rw [hf]; intro e; have := hu _ e; omega
    · rw [hf]; intro e; cases e; omega)
  have HOB : Hid (OwnAt W5 0 121 3 (.slice (some ⟨gv, ov, none⟩) (rs.length + 1) cv : Value) (rs.length + 1) (flatR rs ++ readL n a b)) := Lib.hid (ho.keep fun u hu' _ => g5 u fun e => hvb (by rw [hu', e]))
  have HT4 : Hid (Tch (fun k => k = mb ∨ v.ownBlock = some k) w1 W5) := Lib.hid (by
    rw [hW5]
    exact ((((HX2.out.trans HX3.out).tch _)).grown hg fun i hi _ => .inr hi).setCell (p := ⟨mb, 4, none⟩) (fun _ => .inl rfl) _)
  have HF : Hid ((Value.slice (some ⟨gv, ov, none⟩) (rs.length + 1) cv).ownBlock = v.ownBlock ∨ ∃ u, (Value.slice (some ⟨gv, ov, none⟩) (rs.length + 1) cv).ownBlock = some u ∧ w1.heap.size ≤ u) := Lib.hid (by
    rcases hf with hf | ⟨u, hf, h1, _⟩
    · exact .inl hf
    · exact .inr ⟨u, hf, by omega⟩)
  have x0 : W5.cell? ⟨xb, 0, none⟩ = some (.string a) := by rw [new_off H3b.out]; rfl
  have x1 : W5.cell? ⟨xb, 1, none⟩ = some (.bool b) := by rw [new_off H3b.out]; rfl
  have y0 : W5.cell? ⟨w.heap.size, 0, none⟩ = some (.string ⟨#[]⟩) := by rw [new_off H1b.out]; rfl
  have y1 : W5.cell? ⟨w.heap.size, 1, none⟩ = some (.bool false) := by rw [new_off H1b.out]; rfl
  have z0 := Lib.frozen_of_heap H1b.out 0
  have z1 := Lib.frozen_of_heap H1b.out 1
  clear ho hg hf hu hw1 k5 k3 k1 g5 hvb hs1 hb5 hs3 hxb l5 hi hz0 hz1 hz2
  go_upto_region 3 with (fail)
  rw [← hW5]
  clear hW5 e5 f5
  go_wp2_with fail
  have hne : mb ≠ w.heap.size := by have := HB5.out; omega
  have g6 : ∀ k, k ≠ w.heap.size → ((W5.setCell ⟨w.heap.size, 0, none⟩ (.string a)).setCell ⟨w.heap.size, 1, none⟩ (.bool b)).heap[k]? = W5.heap[k]? := fun k hk => (RowKit.Below.heap_setCell _ _ _ _ hk).trans (RowKit.Below.heap_setCell _ _ _ _ hk)
  refine ret_foundR Tryz.results65 rfl (found_setR H1b.out _ _) rfl ⟨x, w1, (Value.slice (some ⟨gv, ov, none⟩) (rs.length + 1) cv), by rw [HA.out, HB.out]; rfl, (HX1.out.tch X).trans HT1.out, HP.out, ?_, ⟨?_, ?_, HVB.out⟩, HF.out⟩
  · exact ((HT4.out.mono fun k _ h => h.elim .inl fun h => .inr (.inl h)).setCell (p := ⟨w.heap.size, 0, none⟩) (fun _ => .inr (.inr rfl)) _).setCell (p := ⟨w.heap.size, 1, none⟩) (fun _ => .inr (.inr rfl)) _
  · exact (g6 _ hne).trans H5b.out
  · rw [List.length_append, flatR_snoc]
    have := HOB.out.keep (w' := ((W5.setCell ⟨w.heap.size, 0, none⟩ (.string a)).setCell ⟨w.heap.size, 1, none⟩ (.bool b))) fun u hu' _ => g6 u fun e => HNW.out (by rw [hu', e])
    unfold readL at this
    rw [HA.out, HB.out] at this ⊢
    exact this
end Go.Proofs.YtkeaoejgboefbaaGreatDoor

/- The reference's run: alive, and behind an error; its read, as formulas see it. -/
namespace Go.Proofs.YtkeaoejgboefbaaGreatDoor
open Go.RowKit Go.Maps

def MvR (p : Plc) : Nat → Prop := fun k => k = p.g ∨ k = p.bm
structure RLive (w : World) (S : Nat → Prop) (p : Plc) (C d : Nat) (e : E.En) (opn : List ByteArray) : Prop where
  at' : RefAt w S p d 0 opn e
  inv : ∃ U, E.Inv (E.findC e.cells) e.vals e.rev E.form e.st opn U ∧ e.st.cnt ≤ C + U.length
structure RDead (w : World) (S : Nat → Prop) (p : Plc) (e : E.En) (x : Int) : Prop where
  row : ∃ cnt, RRow w p.g p.o p.pr p.A e.cells.length p.kc p.bv p.ov p.cv p.bm p.om p.cm e.rev cnt x
  args : SliceAt cellR w S p.A p.kc e.cells
  lt : ∀ k, S k → k < w.heap.size
  out : ¬ S p.g
theorem RDead.tch {w w' : World} {S Y : Nat → Prop} {p : Plc} {e : E.En} {x : Int} (h : RDead w S p e x) (ht : Tch Y w w') (hY : ∀ k, Y k → k ≠ p.g ∧ ¬ S k) : RDead w' S p e x := by
  obtain ⟨⟨cnt, h1⟩, h2, h3, h4⟩ := h
  exact ⟨⟨cnt, h1.tch ht fun hk => (hY _ hk).1 rfl⟩, h2.tch ht fun k hk => ⟨h3 k hk, fun hy => (hY k hy).2 hk⟩, fun k hk => Nat.lt_of_lt_of_le (h3 k hk) ht.size, h4⟩
theorem RDead.ext {w w' : World} {S : Nat → Prop} {p : Plc} {e : E.En} {x : Int} (h : RDead w S p e x) (he : Ext w w') : RDead w' S p e x := h.tch (he.tch fun _ => False) fun _ h => h.elim
theorem RLive.ext {w w' : World} {S : Nat → Prop} {p : Plc} {C d : Nat} {e : E.En} {opn : List ByteArray} (h : RLive w S p C d e opn) (he : Ext w w') : RLive w' S p C d e opn := ⟨h.at'.ext he, h.inv⟩
theorem RLive.tch {w w' : World} {S Y : Nat → Prop} {p : Plc} {C d : Nat} {e : E.En} {opn : List ByteArray} (h : RLive w S p C d e opn) (ht : Tch Y w w') (hY : ∀ k, Y k → ¬ MvR p k ∧ k ≠ p.bv ∧ ¬ S k) : RLive w' S p C d e opn :=
  ⟨h.at'.tch ht fun k hk => ⟨fun e => (hY k hk).1 (.inl e), (hY k hk).2.1, fun e => (hY k hk).1 (.inr e), (hY k hk).2.2⟩, h.inv⟩
theorem RLive.low {w : World} {S : Nat → Prop} {p : Plc} {C d : Nat} {e : E.En} {opn : List ByteArray} (h : RLive w S p C d e opn) : (∀ k, MvR p k → k < w.heap.size) ∧ p.bv < w.heap.size ∧ ∀ k, S k → k < w.heap.size := by
  have l1 := h.at'.row.lt
  have l2 := h.at'.vals.lt
  have l3 := h.at'.memos.lt
  refine ⟨?_, l2, h.at'.lt⟩
  intro _ hk
  rcases hk with rfl | rfl <;> assumption
theorem RLive.mv {w : World} {S : Nat → Prop} {p : Plc} {C d : Nat} {e : E.En} {opn : List ByteArray} (h : RLive w S p C d e opn) {k : Nat} (hk : S k) : k < w.heap.size ∧ ¬ MvR p k := by
  refine ⟨h.at'.lt k hk, ?_⟩
  obtain ⟨o1, o2, o3⟩ := h.at'.out
  rintro (rfl | rfl) <;> contradiction
theorem RLive.dead {w : World} {S : Nat → Prop} {p : Plc} {C d : Nat} {e : E.En} {opn : List ByteArray} (h : RLive w S p C d e opn) {x : Int} {w' : World} {cnt : Int} (hr : RRow w' p.g p.o p.pr p.A e.cells.length p.kc p.bv p.ov p.cv p.bm p.om p.cm e.rev cnt x) (ht : Tch (MvR p) w w') : RDead w' S p e x :=
  ⟨⟨cnt, hr⟩, h.at'.args.tch ht fun k hk => h.mv hk, fun k hk => Nat.lt_of_lt_of_le (h.at'.lt k hk) ht.size, h.at'.out.1⟩
/-- What value answers. -/
def RetGR (w : World) (S : Nat → Prop) (p : Plc) (C d : Nat) (e : E.En) (opn : List ByteArray) (r : Except Int (E.V × E.St)) (ed : Ending) (w' : World) : Prop := Tch (MvR p) w w' ∧ match r with
  | .ok (v, st) => ed = .returned (foundV v) ∧ (v.getD ⟨#[]⟩).size ≤ 65536 ∧ ∃ S', RLive w' S' p C d { e with st := st } opn ∧ (∀ k, S k → S' k) ∧ ∀ k, S' k → S k ∨ w.heap.size ≤ k
  | .error x => ed = .returned (foundV none) ∧ x ≠ 0 ∧ RDead w' S p e x
def GetIsR (p : Plc) (C d : Nat) (e : E.En) (opn : List ByteArray) (get : E.St → E.Nm → Except Int (E.V × E.St)) : Prop :=
  ∀ (w : World) (S : Nat → Prop) (st : E.St), RLive w S p C d { e with st := st } opn → ∀ n : ByteArray, n.size ≤ 9223372036854775807 →
    Calls Tryz.prog 47 #[.pointer (some ⟨p.g, p.o, none⟩), .string n] w (RetGR w S p C d e opn (get st n))
set_option maxRecDepth 100000 in
set_option maxHeartbeats 2000000 in
/-- Behind an error value gives nothing. -/
theorem get_deadR {w : World} {S : Nat → Prop} {p : Plc} {e : E.En} {x : Int} (h : RDead w S p e x) (hx : x ≠ 0) (n : ByteArray) :
    Calls Tryz.prog 47 #[.pointer (some ⟨p.g, p.o, none⟩), .string n] w (Al (foundV none) w) := by
  rw [foundV_none]
  obtain ⟨W1, hW1⟩ : ∃ W1, W1 = w.alloc (.cells #[.string ⟨#[]⟩, .bool false] 82) := ⟨_, rfl⟩
  have X1 : Ext w W1 := by rw [hW1]; exact (Ext.refl w).alloc _
  have H1 : Hid (W1.heap[w.heap.size]? = some (.cells #[.string ⟨#[]⟩, .bool false] 82)) := Lib.hid (by rw [hW1]; exact heap_alloc_new w _)
  have h1 := h.ext X1
  obtain ⟨cnt, hr⟩ := h1.row
  obtain ⟨c0, c1, c2, c3, c4, c5⟩ := hr.cells
  have HFI := Lib.hid (refFind_any c0 h1.args rfl n)
  have hx0 : (x == 0) = false := by rw [beq_eq_false_iff_ne]; exact hx
  have hx1 : (x != 0) = true := by rw [bne, hx0]; rfl
  have HX1 := Lib.hid X1
  have r0 : W1.cell? ⟨w.heap.size, 0, none⟩ = some (.string ⟨#[]⟩) := by rw [new_off H1.out]; rfl
  have r1 : W1.cell? ⟨w.heap.size, 1, none⟩ = some (.bool false) := by rw [new_off H1.out]; rfl
  have f0 := Lib.frozen_of_heap H1.out 0
  have f1 := Lib.frozen_of_heap H1.out 1
  clear h h1 hr c0 c1 c2 c3 c4 X1
  go_enter Tryz.func47, Tryz.ntmps47
  go_upto_region 1 with (fail)
  rw [← hW1]
  clear hW1
  go_wp2_with fail
  refine HFI.out.mono ?_
  rintro ed w1 ⟨rfl, r, rfl, hf⟩
  rcases hf with ⟨_, rfl⟩ | ⟨i, hi, _, _, rfl, _⟩
  · go_wp2_with fail
    exact ret_foundR Tryz.results47 rfl (found_setR H1.out _ _) rfl ⟨rfl, ext_result HX1.out (Nat.le_refl _) _ _⟩
  · go_wp2_with fail
    exact ret_foundR Tryz.results47 rfl (found_setR H1.out _ _) rfl ⟨rfl, ext_result HX1.out (Nat.le_refl _) _ _⟩
/-- What the reference's read stands on. -/
def footR (p : Plc) (mb : Nat) (S : Nat → Prop) (u : Option Nat) : Nat → Prop := fun k => MvR p k ∨ k = p.bv ∨ S k ∨ k = mb ∨ u = some k
structure QCoreR (w0 : World) (S0 : Nat → Prop) (p : Plc) (C d : Nat) (e : E.En) (opn : List ByteArray) (mb : Nat) (a0 a1 a2 a3 a5 : Value) (wr : World) (q : Qs) (m : Nat) (u : Option Nat) (S : Nat → Prop) (v : Value) (rs : List (E.Nm × E.V)) : Prop where
  rds : RdsR wr mb a0 a1 a2 a3 a5 v rs
  len : rs.length = m
  own : v.ownBlock = u
  hi : ∀ t, u = some t → w0.heap.size ≤ t ∧ ¬ S t
  sub : ∀ k, S0 k → S k
  sup : ∀ k, S k → S0 k ∨ w0.heap.size ≤ k
  lt : ∀ k, S k → k < wr.heap.size
  sz : ∀ r ∈ rs, r.1.size ≤ 9223372036854775807 ∧ (r.2.getD ⟨#[]⟩).size ≤ 9223372036854775807
  args : SliceAt cellR wr S0 p.A p.kc e.cells
  st : match q with
    | .ok (st, rs') => rs' = rs ∧ RLive wr S p C d { e with st := st } opn
    | .error x => x ≠ 0 ∧ RDead wr S0 p e x
def QCR (w0 : World) (S0 : Nat → Prop) (p : Plc) (C d : Nat) (e : E.En) (opn : List ByteArray) (mb : Nat) (a0 a1 a2 a3 a5 : Value) (wr : World) (q : Qs) (m : Nat) (u : Option Nat) (F : Nat → Prop) : Prop :=
  ∃ S v rs, F = footR p mb S u ∧ QCoreR w0 S0 p C d e opn mb a0 a1 a2 a3 a5 wr q m u S v rs
section
variable {w0 : World} {S0 : Nat → Prop} {p : Plc} {C d : Nat} {e : E.En} {opn : List ByteArray} {mb : Nat} {a0 a1 a2 a3 a5 : Value}
theorem QCoreR.keep {wr w' : World} {q : Qs} {m : Nat} {u : Option Nat} {S Y : Nat → Prop} {v : Value} {rs : List (E.Nm × E.V)} (h : QCoreR w0 S0 p C d e opn mb a0 a1 a2 a3 a5 wr q m u S v rs) (ht : Tch Y wr w') (hY : ∀ k, Y k → ¬ footR p mb S u k) : QCoreR w0 S0 p C d e opn mb a0 a1 a2 a3 a5 w' q m u S v rs where
  rds := by
    refine ⟨(ht.block _ (Array.getElem?_eq_some_iff.1 h.rds.heap).1 fun hy => hY _ hy (by simp [footR])).trans h.rds.heap, h.rds.own.keep fun k hk hl => ht.block k hl fun hy => hY _ hy ?_, h.rds.ne⟩
    rw [h.own] at hk
    simp [footR, hk]
  len := h.len
  own := h.own
  hi := h.hi
  sub := h.sub
  sup := h.sup
  lt := fun k hk => Nat.lt_of_lt_of_le (h.lt k hk) ht.size
  sz := h.sz
  args := h.args.tch ht fun k hk => ⟨h.lt k (h.sub k hk), fun hy => by
    have := hY k hy
    simp only [footR, not_or] at this
    exact this.2.2.1 (h.sub k hk)⟩
  st := by
    have := h.st
    cases q with
    | ok r =>
      obtain ⟨st, rs'⟩ := r
      obtain ⟨h1, h2⟩ := this
      refine ⟨h1, h2.tch ht fun k hk => ?_⟩
      have := hY k hk
      simp only [footR, not_or] at this
      exact ⟨this.1, this.2.1, this.2.2.1⟩
    | error x =>
      obtain ⟨h1, h2⟩ := this
      refine ⟨h1, h2.tch ht fun k hk => ?_⟩
      have := hY k hk
      simp only [footR, not_or] at this
      exact ⟨fun e => this.1 (.inl e), fun hs => this.2.2.1 (h.sub k hs)⟩
/-- A read is noted. -/
theorem ask_doneR {st0 : E.St} (h0 : RLive w0 S0 p C d { e with st := st0 } opn) (hmb : mb < w0.heap.size ∧ ¬ MvR p mb ∧ mb ≠ p.bv ∧ ¬ S0 mb) {wr : World} {q : Qs} {m : Nat} {u : Option Nat} {S : Nat → Prop} {v : Value} {rs : List (E.Nm × E.V)} (hw : w0.heap.size ≤ wr.heap.size) (h : QCoreR w0 S0 p C d e opn mb a0 a1 a2 a3 a5 wr q m u S v rs)
    {n : ByteArray} {x : E.V} {w1 w2 : World} {v' : Value} (t1 : Tch (MvR p) wr w1) (t2 : Tch (fun k => k = mb ∨ v.ownBlock = some k ∨ k = wr.heap.size) w1 w2) (hr : RdsR w2 mb a0 a1 a2 a3 a5 v' (rs ++ [(n, x)])) (ho : v'.ownBlock = v.ownBlock ∨ ∃ u, v'.ownBlock = some u ∧ w1.heap.size ≤ u)
    {q' : Qs} {S' : Nat → Prop} (hzn : n.size ≤ 9223372036854775807) (hzx : (x.getD ⟨#[]⟩).size ≤ 9223372036854775807) (hs1 : ∀ k, S k → S' k) (hs2 : ∀ k, S' k → S k ∨ wr.heap.size < k) (hs3 : ∀ k, S' k → k < w1.heap.size)
    (hst : match q' with
      | .ok (st, rs') => rs' = rs ++ [(n, x)] ∧ RLive w1 S' p C d { e with st := st } opn
      | .error x => x ≠ 0 ∧ RDead w1 S0 p e x) :
    ∃ u' F', Turned (fun k => MvR p k ∨ k = mb) u u' (footR p mb S u) F' wr w2 ∧ QCR w0 S0 p C d e opn mb a0 a1 a2 a3 a5 w2 q' (m + 1) u' F' := by
  obtain ⟨l1, l2, l5⟩ := h0.low
  obtain ⟨b1, b2, b3, b4⟩ := hmb
  have hs4 : ¬ S' mb := fun e => by
    rcases hs2 _ e with e | e
    · rcases h.sup _ e with e | e
      · exact b4 e
      · omega
    · omega
  have hs5 : ¬ S' wr.heap.size := fun e => by
    rcases hs2 _ e with e | e
    · have := h.lt _ e; omega
    · omega
  have hv : ∀ t, v.ownBlock = some t → w0.heap.size ≤ t ∧ ¬ S' t := fun t ht => by
    have h1 := h.hi t (h.own ▸ ht)
    have h2 := own_at_lt h.rds.own ht
    refine ⟨h1.1, fun e => ?_⟩
    rcases hs2 _ e with e | e
    · exact h1.2 e
    · omega
  have hY2 : ∀ k, (k = mb ∨ v.ownBlock = some k ∨ k = wr.heap.size) → ¬ MvR p k ∧ k ≠ p.bv ∧ ¬ S' k := by
    rintro k (rfl | hk | rfl)
    · exact ⟨b2, b3, hs4⟩
    · have := hv k hk
      exact ⟨fun e => by have := l1 _ e; omega, by omega, this.2⟩
    · exact ⟨fun e => by have := l1 _ e; omega, by omega, hs5⟩
  refine ⟨v'.ownBlock, footR p mb S' v'.ownBlock, ⟨?_, ?_, ?_⟩, S', v', rs ++ [(n, x)], rfl, ?_⟩
  · refine (t1.mono fun k _ hk => .inl (.inl hk)).trans' t2 ?_
    rintro k hk (rfl | hv | rfl)
    · exact .inl (.inr rfl)
    · exact .inr (h.own ▸ hv)
    · omega
  · rcases ho with e | ⟨t, e, ht⟩
    · exact .inl (e.trans h.own)
    · exact .inr ⟨t, e, Nat.le_trans t1.size ht⟩
  · rintro k (hk | hk | hk | hk | hk)
    · exact .inl (.inl hk)
    · exact .inl (.inr (.inl hk))
    · rcases hs2 k hk with e | e
      · exact .inl (.inr (.inr (.inl e)))
      · exact .inr (Nat.le_of_lt e)
    · exact .inl (.inr (.inr (.inr (.inl hk))))
    · rcases ho with e | ⟨t, e, ht⟩
      · exact .inl (.inr (.inr (.inr (.inr (h.own.symm.trans (e.symm.trans hk))))))
      · rw [e] at hk; cases hk; exact .inr (Nat.le_trans t1.size ht)
  · refine ⟨hr, by rw [List.length_append, h.len]; rfl, rfl, fun t ht => ?_, fun k hk => hs1 k (h.sub k hk), fun k hk => ?_, fun k hk => Nat.lt_of_lt_of_le (hs3 k hk) t2.size, fun r hr => ?_, (h.args.tch t1 fun k hk => ⟨h.lt k (h.sub k hk), (h0.mv hk).2⟩).tch t2 fun k hk => ⟨hs3 k (hs1 k (h.sub k hk)), fun hy => (hY2 k hy).2.2 (hs1 k (h.sub k hk))⟩, ?_⟩
    · rcases ho with e | ⟨t', e, ht'⟩
      · exact hv t (e ▸ ht)
      · rw [e] at ht; cases ht
        refine ⟨by have := t1.size; omega, fun e => by have := hs3 _ e; omega⟩
    · rcases hs2 k hk with e | e
      · exact h.sup k e
      · exact .inr (by omega)
    · rcases List.mem_append.1 hr with hr | hr
      · exact h.sz r hr
      · rw [List.mem_singleton.1 hr]; exact ⟨hzn, hzx⟩
    · cases q' with
      | ok r =>
        obtain ⟨st, rs'⟩ := r
        exact ⟨hst.1, hst.2.tch t2 hY2⟩
      | error y => exact ⟨hst.1, hst.2.tch t2 fun k hk => ⟨fun e => (hY2 k hk).1 (.inl e), fun hs => (hY2 k hk).2.2 (hs1 k (h.sub k hs))⟩⟩
/-- What a read leads to, alive. -/
def GetQR (p : Plc) (C d : Nat) (e : E.En) (opn : List ByteArray) (S S0 : Nat → Prop) (wb : Nat) (r : Except Int (E.V × E.St)) (x : E.V) (w : World) : Prop := match r with
  | .ok (v, st) => x = v ∧ (v.getD ⟨#[]⟩).size ≤ 65536 ∧ ∃ S', RLive w S' p C d { e with st := st } opn ∧ (∀ k, S k → S' k) ∧ ∀ k, S' k → S k ∨ wb < k
  | .error y => x = none ∧ y ≠ 0 ∧ RDead w S0 p e y
theorem asksR_compute {get : E.St → E.Nm → Except Int (E.V × E.St)} {st0 : E.St} (hget : GetIsR p C d e opn get) (h0 : RLive w0 S0 p C d { e with st := st0 } opn) (hmb : mb < w0.heap.size ∧ ¬ MvR p mb ∧ mb ≠ p.bv ∧ ¬ S0 mb) :
    AsksR (.pointer (some ⟨p.g, p.o, none⟩)) (.pointer (some ⟨mb, 4, none⟩)) get (fun k => MvR p k ∨ k = mb) (fun wr q m u F => w0.heap.size ≤ wr.heap.size ∧ QCR w0 S0 p C d e opn mb a0 a1 a2 a3 a5 wr q m u F) where
  keep := by
    rintro w w' q m u F Y ⟨hw, S, v, rs, rfl, h⟩ ht hY
    exact ⟨Nat.le_trans hw ht.size, S, v, rs, rfl, h.keep ht hY⟩
  lt := by
    rintro w q m u F ⟨hw, S, v, rs, rfl, h⟩ k hk
    obtain ⟨l1, l2, l5⟩ := h0.low
    rcases hk with hk | rfl | hk | rfl | hk
    · have := l1 k hk; omega
    · omega
    · exact h.lt k hk
    · have := hmb.1; omega
    · exact own_at_lt h.rds.own (h.own.trans hk)
  inX := by
    rintro w q m u F ⟨hw, S, v, rs, rfl, h⟩ k hk
    rcases hk with hk | rfl
    · exact .inl hk
    · simp [footR]
  inU := by
    rintro w q m F t ⟨hw, S, v, rs, rfl, h⟩
    simp [footR]
  ask := by
    rintro w q m u F n ⟨hw, S, v, rs, rfl, h⟩ hm hn
    obtain ⟨l1, l2, l5⟩ := h0.low
    have hlen : rs.length ≤ 100 := by rw [h.len]; omega
    have hown : ∀ t, v.ownBlock = some t → ¬ MvR p t := fun t ht e => by
      have h1 := l1 _ e
      have h2 := (h.hi t (h.own ▸ ht)).1
      omega
    have hX : ∀ k, MvR p k → k < w.heap.size := fun k hk => by have := l1 k hk; omega
    have fin : ∀ {ed : Ending} {w' : World} {x : E.V} {q' : Qs}, ed = .returned (foundV x) → (x.getD ⟨#[]⟩).size ≤ 65536 → (∃ u' F', Turned (fun k => MvR p k ∨ k = mb) u u' (footR p mb S u) F' w w' ∧ QCR w0 S0 p C d e opn mb a0 a1 a2 a3 a5 w' q' (m + 1) u' F') → ed = .returned (foundV x) ∧ (x.getD ⟨#[]⟩).size ≤ 65536 ∧ ∃ u' F', Turned (fun k => MvR p k ∨ k = mb) u u' (footR p mb S u) F' w w' ∧ (w0.heap.size ≤ w'.heap.size ∧ QCR w0 S0 p C d e opn mb a0 a1 a2 a3 a5 w' q' (m + 1) u' F') := by
      rintro ed w' x q' h1 h2 ⟨u', F', h3, h4⟩
      exact ⟨h1, h2, u', F', h3, Nat.le_trans hw h3.tch.size, h4⟩
    cases q with
    | ok r =>
      obtain ⟨st, rs'⟩ := r
      obtain ⟨rfl, hL⟩ := h.st
      refine (read_anyR (X := MvR p) (Φ := GetQR p C d e opn S S0 w.heap.size (get st n)) h.rds hlen hX hmb.2.1 hown fun W hW hW2 => (hget W S st (hL.ext hW) n hn).mono ?_).mono ?_
      · rintro ed w' ⟨t1, hr⟩
        cases hg : get st n with
        | error y =>
          rw [hg] at hr
          obtain ⟨r1, r2, r3⟩ := hr
          refine ⟨none, r1, t1, rfl, r2, r3.row, ?_, fun k hk => Nat.lt_of_lt_of_le (h.lt k (h.sub k hk)) (Nat.le_trans hW.size t1.size), fun hs => r3.out (h.sub _ hs)⟩
          exact (h.args.tch (hW.tch fun _ => False) fun k hk => ⟨h.lt k (h.sub k hk), fun e => e⟩).tch t1 fun k hk => ⟨Nat.lt_of_lt_of_le (h.lt k (h.sub k hk)) hW.size, (h0.mv hk).2⟩
        | ok r =>
          obtain ⟨v1, st'⟩ := r
          rw [hg] at hr
          obtain ⟨h1, h2, S', h3, h4, h5⟩ := hr
          refine ⟨v1, h1, t1, rfl, h2, S', h3, h4, fun k hk => ?_⟩
          rcases h5 k hk with e | e
          · exact .inl e
          · exact .inr (by omega)
      · rintro ed w2 ⟨x, w1, v', rfl, t1, hΦ, t2, hr, ho⟩
        cases hg : get st n with
        | error y =>
          rw [hg] at hΦ
          obtain ⟨rfl, h1, h2⟩ := hΦ
          rw [askQ_err hg]
          exact fin rfl (Nat.zero_le _) (ask_doneR h0 hmb hw h t1 t2 hr ho hn (by decide) (fun k hk => hk) (fun k hk => .inl hk) (fun k hk => Nat.lt_of_lt_of_le (h.lt k hk) t1.size) ⟨h1, h2⟩)
        | ok r =>
          obtain ⟨v1, st'⟩ := r
          rw [hg] at hΦ
          obtain ⟨rfl, h1, S', h2, h3, h4⟩ := hΦ
          rw [askQ_ok hg]
          exact fin rfl h1 (ask_doneR h0 hmb hw h t1 t2 hr ho hn (Nat.le_trans h1 (by decide)) h3 h4 h2.at'.lt ⟨rfl, h2⟩)
    | error y =>
      obtain ⟨h1, h2⟩ := h.st
      refine (read_anyR (X := MvR p) (Φ := fun x w' => x = none ∧ RDead w' S0 p e y) h.rds hlen hX hmb.2.1 hown fun W hW hW2 => (get_deadR (h2.ext hW) h1 n).mono ?_).mono ?_
      · rintro ed w' ⟨rfl, he⟩
        exact ⟨none, rfl, he.tch _, rfl, h2.ext (hW.trans he)⟩
      · rintro ed w2 ⟨x, w1, v', rfl, t1, ⟨rfl, g1⟩, t2, hr, ho⟩
        exact fin rfl (Nat.zero_le _) (ask_doneR h0 hmb hw h t1 t2 hr ho hn (by decide) (fun k hk => hk) (fun k hk => .inl hk) (fun k hk => Nat.lt_of_lt_of_le (h.lt k hk) t1.size) ⟨h1, g1⟩)
end
end Go.Proofs.YtkeaoejgboefbaaGreatDoor

/- Writes on the reference's memos; its value: the ends. -/
namespace Go.Proofs.YtkeaoejgboefbaaGreatDoor
open Go.RowKit Go.Maps

theorem setArr_ge : ∀ (vs : List Value) (cur : Array Value) (o j : Nat), o + vs.length ≤ j → (setArr cur o vs)[j]? = cur[j]?
  | [], _, _, _, _ => rfl
  | v :: vs, cur, o, j, h => by
    rw [List.length_cons] at h
    rw [setArr, setArr_ge vs _ _ _ (by omega), Array.getElem?_setIfInBounds_ne (by omega)]
theorem getElem_lt {cs : Array Value} {us : List Value} {a : Nat} (hl : us.length = 6) (h : ∀ j, j < 6 → cs[a + j]? = us[j]?) : a + 6 ≤ cs.size := by
  have h5 := h 5 (by omega)
  rw [List.getElem?_eq_getElem (by omega)] at h5
  have := (Array.getElem?_eq_some_iff.1 h5).1
  omega
/-- A memo is written. -/
theorem MRow.put {w : World} {S : Nat → Prop} {b o n : Nat} {ms ms' : Nat → Option E.Memo} {wk wk' : Nat → Bool} (h : MRow w S b o n ms wk) {i : Nat} (hi : i < n) {us : List Value} (hl : us.length = 6) (hok : MOk w S (wk' i) us (ms' i)) (hms : ∀ j, j < n → j ≠ i → ms' j = ms j ∧ wk' j = wk j)
    (hS : ∀ k, S k → k < w.heap.size ∧ k ≠ b) : MRow (w.setCells b (o + i * 6) us) S b o n ms' wk' := by
  have T : Tch (fun k => k = b) w (w.setCells b (o + i * 6) us) := (Tch.refl _ w).grown (grownBy_setCells b us _ w) fun k hk _ => (Option.some.inj hk).symm
  obtain ⟨cs, h1, h2⟩ := h
  refine ⟨_, heap_setCells_at b us _ w cs 119 h1, fun j hj => ?_⟩
  obtain ⟨us0, e1, e2, e3⟩ := h2 i hi
  have hsz := getElem_lt e2 e3
  by_cases e : j = i
  · subst e
    refine ⟨us, hok.tch T (fun k hk => ⟨(hS k hk).1, (hS k hk).2⟩) fun _ hk => hk, hl, fun t ht => ?_⟩
    rw [setArr_in us cs _ t (by omega) (by omega)]
  · obtain ⟨us2, d1, d2, d3⟩ := h2 j hj
    obtain ⟨m1, m2⟩ := hms j hj e
    refine ⟨us2, by rw [m1, m2]; exact d1.tch T (fun k hk => ⟨(hS k hk).1, (hS k hk).2⟩) fun _ hk => hk, d2, fun t ht => ?_⟩
    rw [← d3 t ht]
    rcases Nat.lt_or_ge j i with hlt | hge
    · exact setArr_lt us cs _ _ (by omega)
    · exact setArr_ge us cs _ _ (by omega)
/-- A mark is written. -/
theorem MRow.mark {w : World} {S : Nat → Prop} {b o n : Nat} {ms : Nat → Option E.Memo} {wk wk' : Nat → Bool} (h : MRow w S b o n ms wk) {i : Nat} (hi : i < n) {x : Bool} (hx : wk' i = x) (hwk : ∀ j, j < n → j ≠ i → wk' j = wk j)
    (hS : ∀ k, S k → k < w.heap.size ∧ k ≠ b) : MRow (w.setCell ⟨b, o + i * 6 + 5, none⟩ (.bool x)) S b o n ms wk' := by
  have T : Tch (fun k => k = b) w (w.setCell ⟨b, o + i * 6 + 5, none⟩ (.bool x)) := (Tch.refl (fun k => k = b) w).setCell (p := ⟨b, o + i * 6 + 5, none⟩) (fun _ => rfl) _
  obtain ⟨cs, h1, h2⟩ := h
  refine ⟨_, heap_setCell_cells h1 _ _, fun j hj => ?_⟩
  obtain ⟨us0, e1, e2, e3⟩ := h2 j hj
  by_cases e : j = i
  · subst e
    have hsz := getElem_lt e2 e3
    refine ⟨us0.set 5 (.bool x), ?_, by rw [List.length_set]; exact e2, fun t ht => ?_⟩
    · rw [hx]
      have : MOk w S x (us0.set 5 (.bool x)) (ms j) := by
        cases hm : ms j with
        | none => rw [hm] at e1; have e1 : us0 = _ := e1; rw [e1]; rfl
        | some m =>
          rw [hm] at e1
          obtain ⟨h1, h2, h3, A, k, h4, h5⟩ := e1
          exact ⟨h1, h2, h3, A, k, by rw [h4]; rfl, h5⟩
      exact this.tch T (fun k hk => ⟨(hS k hk).1, (hS k hk).2⟩) fun _ hk => hk
    · rw [Array.getElem?_setIfInBounds, List.getElem?_set]
      by_cases h5 : t = 5
      · subst h5
        rw [if_pos rfl, if_pos (by omega), if_pos rfl, if_pos (by omega)]
      · rw [if_neg (by omega), if_neg (by omega)]; exact e3 t ht
  · refine ⟨us0, by rw [hwk j hj e]; exact e1.tch T (fun k hk => ⟨(hS k hk).1, (hS k hk).2⟩) fun _ hk => hk, e2, fun t ht => ?_⟩
    rw [Array.getElem?_setIfInBounds, if_neg (by omega)]; exact e3 t ht
/-- As RetGR, the plain invariant aside. -/
def RetOR (w : World) (S : Nat → Prop) (p : Plc) (d : Nat) (e : E.En) (opn : List ByteArray) (r : Except Int (E.V × E.St)) (ed : Ending) (w' : World) : Prop := Tch (MvR p) w w' ∧ match r with
  | .ok (v, st) => ed = .returned (foundV v) ∧ (v.getD ⟨#[]⟩).size ≤ 65536 ∧ ∃ S', RefAt w' S' p d 0 opn { e with st := st } ∧ (∀ k, S k → S' k) ∧ ∀ k, S' k → S k ∨ w.heap.size ≤ k
  | .error x => ed = .returned (foundV none) ∧ x ≠ 0 ∧ RDead w' S p e x
theorem RetOR.toG {w w' : World} {S : Nat → Prop} {p : Plc} {C d : Nat} {e : E.En} {opn : List ByteArray} {st : E.St} {n : ByteArray} {fs : List E.Nm} {k : Nat} (hf : E.Holds (E.findC e.cells) fs) (hk : E.rem fs opn < k) (hL : RLive w S p C d { e with st := st } opn) {ed : Ending} (h : RetOR w S p d e opn (E.val (E.findC e.cells) e.vals e.rev E.form k opn st n) ed w') :
    RetGR w S p C d e opn (E.val (E.findC e.cells) e.vals e.rev E.form k opn st n) ed w' := by
  obtain ⟨U, hI, hU⟩ := hL.inv
  have hv := E.val_spec hf k opn U st n hI hk
  refine ⟨h.1, ?_⟩
  have h2 := h.2
  cases hr : E.val (E.findC e.cells) e.vals e.rev E.form k opn st n with
  | error x => rw [hr] at h2; exact h2
  | ok r =>
    obtain ⟨v, st'⟩ := r
    rw [hr] at h2 hv
    obtain ⟨e1, e2, S', hl, e3, e4⟩ := h2
    obtain ⟨_, W, i1, _, _, i2, _⟩ := hv
    refine ⟨e1, e2, S', ⟨hl, U ++ W, i1, ?_⟩, e3, e4⟩
    show st'.cnt ≤ _
    have hU' : st.cnt ≤ C + U.length := hU
    rw [List.length_append]
    omega
/-- An end without an error. -/
theorem RetOR.live {w W : World} {S : Nat → Prop} {p : Plc} {d : Nat} {e : E.En} {opn : List ByteArray} {st : E.St} (hl : (∀ k, MvR p k → k < w.heap.size) ∧ p.bv < w.heap.size ∧ ∀ k, S k → k < w.heap.size) (hX : Ext w W) (hL : RefAt W S p d 0 opn { e with st := st }) {v : E.V} (hv : (v.getD ⟨#[]⟩).size ≤ 65536) (x y : Value) :
    RetOR w S p d e opn (.ok (v, st)) (.returned (foundV v)) ((W.setCell ⟨w.heap.size, 0, none⟩ x).setCell ⟨w.heap.size, 1, none⟩ y) := by
  obtain ⟨l1, l2, l5⟩ := hl
  have hY : Tch (fun k => k = w.heap.size) W ((W.setCell ⟨w.heap.size, 0, none⟩ x).setCell ⟨w.heap.size, 1, none⟩ y) := ((Tch.refl (fun k => k = w.heap.size) W).setCell (p := ⟨w.heap.size, 0, none⟩) (fun _ => rfl) _).setCell (p := ⟨w.heap.size, 1, none⟩) (fun _ => rfl) _
  refine ⟨(ext_result hX (Nat.le_refl _) x y).tch _, rfl, hv, S, hL.tch hY (fun k hk => ?_), fun k hk => hk, fun k hk => .inl hk⟩
  subst hk
  exact ⟨fun e => by have := l1 p.g (.inl rfl); omega, by omega, fun e => by have := l1 p.bm (.inr rfl); omega, fun e => by have := l5 _ e; omega⟩
/-- More blocks are known. -/
theorem RefAt.sub {w : World} {S S2 : Nat → Prop} {p : Plc} {d : Nat} {fault : Int} {opn : List ByteArray} {e : E.En} (h : RefAt w S p d fault opn e) (h1 : ∀ k, S k → S2 k) (h2 : ∀ k, S2 k → k < w.heap.size) (h3 : ¬ S2 p.g ∧ ¬ S2 p.bv ∧ ¬ S2 p.bm) : RefAt w S2 p d fault opn e where
  row := h.row
  args := h.args.keep h1 fun _ _ => rfl
  vals := h.vals
  memos := h.memos.tch (Tch.refl (fun _ => False) w) (fun e => e) (fun k hk => ⟨h.lt k hk, fun e => e⟩) h1
  caps := h.caps
  ne := h.ne
  out := h3
  lt := h2
/-- A memo is kept: the formula is closed. -/
theorem RefAt.written {w : World} {S : Nat → Prop} {p : Plc} {d d' : Nat} {e : E.En} {st : E.St} {opn : List ByteArray} {n : ByteArray} (h : RefAt w S p d' 0 (n :: opn) { e with st := st }) (hon : Once e.cells) {i : Nat} (hi : i < e.cells.length) (hnm : nmAt e.cells i = n) (ho : E.has opn n = false) {v : E.V} {rs : List (E.Nm × E.V)} {A : Option Addr} {k cnt : Nat} {us : List Value}
    (hus : us = [.bool true, .int .i64 e.rev, .string (v.getD ⟨#[]⟩), .bool v.isSome, .slice A rs.length k, .bool false]) (hs : SliceAt readR w S A k rs) (z1 : (v.getD ⟨#[]⟩).size ≤ 65536) (z2 : rs.length ≤ 100) (z3 : e.rev < 4000000000000000000) (hcnt : (st.cnt : Int) + d' = (cnt : Int) + d) :
    RefAt (w.setCells p.bm (p.om + i * 6) us) S p d 0 opn { e with st := ⟨E.put st.ms n ⟨v, rs, e.rev⟩, cnt⟩ } ∧ Tch (fun k => k = p.bm) w (w.setCells p.bm (p.om + i * 6) us) := by
  have T : Tch (fun k => k = p.bm) w (w.setCells p.bm (p.om + i * 6) us) := (Tch.refl _ w).grown (grownBy_setCells p.bm us _ w) fun k hk _ => (Option.some.inj hk).symm
  obtain ⟨n1, n2, n3⟩ := h.ne
  obtain ⟨o1, o2, o3⟩ := h.out
  have hS : ∀ k, S k → k < w.heap.size ∧ ¬ k = p.bm := fun k hk => ⟨h.lt k hk, fun e => o3 (e ▸ hk)⟩
  refine ⟨⟨?_, h.args.tch T hS, h.vals.tch T n3, ?_, h.caps, h.ne, h.out, fun k hk => Nat.lt_of_lt_of_le (h.lt k hk) T.size⟩, T⟩
  · have := h.row.tch T n2
    show RRow _ p.g p.o p.pr p.A e.cells.length p.kc p.bv p.ov p.cv p.bm p.om p.cm e.rev ((cnt : Int) + d) 0
    rw [← hcnt]
    exact this
  · refine h.memos.put hi (by rw [hus]; rfl) ?_ (fun j hj hji => ?_) fun k hk => ⟨(hS k hk).1, (hS k hk).2⟩
    · show MOk w S (E.has opn (nmAt e.cells i)) us (E.put st.ms n ⟨v, rs, e.rev⟩ (nmAt e.cells i))
      rw [hnm, ho, E.put_same]
      exact ⟨z1, z2, z3, A, k, hus, hs⟩
    · have hne : nmAt e.cells j ≠ n := fun h2 => hji (hon j i hj hi (h2.trans hnm.symm))
      constructor
      · show E.put st.ms n ⟨v, rs, e.rev⟩ (nmAt e.cells j) = st.ms (nmAt e.cells j)
        rw [E.put_other hne]
      · show E.has opn (nmAt e.cells j) = E.has (n :: opn) (nmAt e.cells j)
        unfold E.has
        rw [List.any_cons, decide_eq_false (fun h => hne h.symm), Bool.false_or]
theorem reads_sliceR {w : World} {base n : Nat} {v : Value} {rs : List (E.Nm × E.V)} (ho : OwnAt w base 121 3 v n (flatR rs)) (hn : n = rs.length) (hz : ∀ r ∈ rs, r.1.size ≤ 9223372036854775807 ∧ (r.2.getD ⟨#[]⟩).size ≤ 9223372036854775807) :
    ∃ A k, v = .slice A rs.length k ∧ SliceAt readR w (fun b => v.ownBlock = some b) A k rs := by
  obtain ⟨h1, ⟨rfl, h2⟩ | ⟨g, off, cap, cur, rfl, hb, hh, hc1, hc2, hc3, hx⟩⟩ := ho
  · have : rs = [] := List.eq_nil_of_length_eq_zero (by omega)
    subst this
    exact ⟨none, 0, rfl, SliceAt.nil _ _ _ _ _ (by decide)⟩
  · refine ⟨some ⟨g, off, none⟩, cap, by rw [hn], by omega, hc2, fun _ => ⟨g, off, rfl, by simp [Value.ownBlock], (flat_reads hz).row fun j u hj => ?_⟩⟩
    have hj' : j < n * 3 := by
      rcases Nat.lt_or_ge j (flatR rs).length with h | h
      · omega
      · rw [List.getElem?_eq_none h] at hj; cases hj
    rw [cell_of_row w g _ cur 121 (0, 0) hh, hx j hj', hj]
end Go.Proofs.YtkeaoejgboefbaaGreatDoor
