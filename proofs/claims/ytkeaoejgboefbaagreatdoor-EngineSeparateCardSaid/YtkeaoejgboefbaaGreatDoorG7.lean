/- The texts Hv Dfb Hw Hx Hy Hz of the seat, joined. -/
import Derived.Test.YtkeaoejgboefbaaGreatDoorG6
import Derived.Defers
import Derived.WalkKit
import Derived.BigQuiet
/- run.compute. -/
namespace Go.Proofs.YtkeaoejgboefbaaGreatDoor
open Go.RowKit Go.Maps

set_option maxRecDepth 100000 in
set_option maxHeartbeats 4000000 in
theorem compute_any {w : World} {S : Nat → Prop} {g bc bi br rb ob C : Nat} {e : E.En} {opn : List ByteArray} {st : E.St} {get : E.St → E.Nm → Except Int (E.V × E.St)} (hget : GetIs g bc bi br rb ob C e opn get) (hL : Live w S g bc bi br rb ob C { e with st := st } opn)
    {n : ByteArray} {c : E.Cell} (hc : c.1 = n) (hf : E.formedB c = true) (hi : E.isIn c = false) (hn : n.size ≤ 9223372036854775807) {A : Option Addr} {k : Nat} (hs : SliceAt strR w S A k c.2.2.1) (hC : C ≤ 4000000000000000000) (hfew : e.cells.length ≤ 1000) (hrev : e.rev < 4000000000000000000) :
    Calls Tryz.prog 53 #[.pointer (some ⟨rb, 0, none⟩), cellV c A k] w (RetO w S g bc bi br rb ob e opn (E.comp e.rev E.form get st n c)) := by
  obtain ⟨W1, hW1⟩ : ∃ W1, W1 = (((w.alloc (.cells #[.pointer (some ⟨rb, 0, none⟩)] 90)).alloc (.cells #[.string c.1, .int .i64 c.2.1, .slice A c.2.2.1.length k, .string c.2.2.2] 50)).alloc (.cells #[.string ⟨#[]⟩, .bool false] 86)).alloc (.cells #[.slice none 0 0] 87) := ⟨_, rfl⟩
  have X1 : Ext w W1 := by rw [hW1]; exact ((((Ext.refl w).alloc _).alloc _).alloc _).alloc _
  have hs1 : W1.heap.size = w.heap.size + 4 := by rw [hW1]; simp
  have r2 : W1.heap[w.heap.size]? = some (.cells #[.pointer (some ⟨rb, 0, none⟩)] 90 (0, 0)) := by rw [hW1]; exact heap_old (heap_old (heap_old (heap_alloc_new w _) _) _) _
  have r3 : W1.heap[w.heap.size + 1]? = some (.cells #[.string c.1, .int .i64 c.2.1, .slice A c.2.2.1.length k, .string c.2.2.2] 50 (0, 0)) := by
    rw [hW1]
    refine heap_old (heap_old ?_ _) _
    have := heap_alloc_new (w.alloc (.cells #[.pointer (some ⟨rb, 0, none⟩)] 90)) (.cells #[.string c.1, .int .i64 c.2.1, .slice A c.2.2.1.length k, .string c.2.2.2] 50)
    rw [size_alloc'] at this; exact this
  have r4 : W1.heap[w.heap.size + 2]? = some (.cells #[.string ⟨#[]⟩, .bool false] 86 (0, 0)) := by
    rw [hW1]
    refine heap_old ?_ _
    have := heap_alloc_new ((w.alloc (.cells #[.pointer (some ⟨rb, 0, none⟩)] 90)).alloc (.cells #[.string c.1, .int .i64 c.2.1, .slice A c.2.2.1.length k, .string c.2.2.2] 50)) (.cells #[.string ⟨#[]⟩, .bool false] 86)
    rw [size_alloc', size_alloc'] at this; exact this
  have r5 : W1.heap[w.heap.size + 3]? = some (.cells #[.slice none 0 0] 87 (0, 0)) := by
    rw [hW1]
    have := heap_alloc_new (((w.alloc (.cells #[.pointer (some ⟨rb, 0, none⟩)] 90)).alloc (.cells #[.string c.1, .int .i64 c.2.1, .slice A c.2.2.1.length k, .string c.2.2.2] 50)).alloc (.cells #[.string ⟨#[]⟩, .bool false] 86)) (.cells #[.slice none 0 0] 87)
    rw [size_alloc', size_alloc', size_alloc'] at this; exact this
  obtain ⟨l1, l2, l3, l4, l5⟩ := hL.low
  have hq : QC w S g bc bi br rb ob C e opn W1 (.ok (st, [])) 0 none (foot g bc bi br rb ob w.heap.size (w.heap.size + 3) S none) :=
    ⟨S, .slice none 0 0, [], rfl, r2, ⟨r5, OwnAt.nil _ _ _ _, by simp [Value.ownBlock]⟩, rfl, rfl, (fun t ht => by cases ht), (fun k hk => hk), (fun k hk => .inl hk), (fun k hk => by have := l5 k hk; omega), (fun r hr => by cases hr), hL.gl.ext X1, rfl, hL.ext X1⟩
  have ha := asks_compute hget hL
  have hsl : ∀ k, S k → k < W1.heap.size ∧ ¬ (Mv g br rb ob k ∨ k = w.heap.size + 3) ∧ (none : Option Nat) ≠ some k := fun k hk => by
    have h1 := hL.mv hk
    exact ⟨by omega, by rintro (e | e); exact h1.2 e; omega, by simp⟩
  have HF := Lib.hid (formula_any ha hf hi hq (hs.tch (X1.tch fun _ => False) fun k hk => ⟨l5 k hk, fun e => e⟩) hsl)
  have HRN := Lib.hid (runQ_is get (E.form c) st [])
  obtain ⟨R, hR⟩ : ∃ R, R = E.comp e.rev E.form get st n c := ⟨_, rfl⟩
  rw [← hR]
  have HR : Hid (R = match E.runP get (E.form c) st [] with
    | .error x => .error x
    | .ok (v, rs, S') => if E.big v then .error E.eLarge else .ok (v, ⟨E.put S'.ms n ⟨v, rs, e.rev⟩, S'.cnt + 1⟩)) := Lib.hid hR
  have HX1 := Lib.hid X1
  have HS1 := Lib.hid hs1
  have R2 := Lib.hid r2
  have R3 := Lib.hid r3
  have R4 := Lib.hid r4
  have R5 := Lib.hid r5
  have HL := Lib.hid hL
  have HC := Lib.hid hc
  have b0 : W1.cell? ⟨w.heap.size + 1, 0, none⟩ = some (.string c.1) := by rw [new_off r3]; rfl
  have b1 : W1.cell? ⟨w.heap.size + 1, 1, none⟩ = some (.int .i64 c.2.1) := by rw [new_off r3]; rfl
  have b2 : W1.cell? ⟨w.heap.size + 1, 2, none⟩ = some (.slice A c.2.2.1.length k) := by rw [new_off r3]; rfl
  have b3 : W1.cell? ⟨w.heap.size + 1, 3, none⟩ = some (.string c.2.2.2) := by rw [new_off r3]; rfl
  clear hR X1 hs1 r2 r3 r4 r5 hL hc l1 l2 l3 l4 l5 hq ha hsl hs hf hi
  unfold cellV at HF ⊢
  generalize c.2.2.1.length = cl at *
  generalize c.2.2.2 = ct at *
  generalize c.2.1 = co at *
  go_enter Tryz.func53, Tryz.ntmps53
  go_upto_region 2 with (fail)
  rw [← hW1]
  clear hW1
  go_wp2_with fail
  refine HF.out.mono ?_
  rintro ed w1 ⟨rfl, hsz, u', F', m, hm, ht, S', v, rs, rfl, hq⟩
  obtain ⟨l1, l2, l3, l4, l5⟩ := HL.out.low
  have hs1 := HS1.out
  have hstay : ∀ i o, W1.heap[i]? = some o → w.heap.size ≤ i → i ≠ w.heap.size + 3 → w1.heap[i]? = some o := fun i o hi h1 h2 => (ht.tch.block i (Array.getElem?_eq_some_iff.1 hi).1 (by
    rintro ((e | e) | e)
    · have := l1 _ e; omega
    · exact h2 e
    · cases e)).trans hi
  have K3 := Lib.hid (hstay _ _ R3.out (by omega) (by omega))
  have K4 := Lib.hid (hstay _ _ R4.out (by omega) (by omega))
  have HT1 : Hid (Tch (Mv g br rb ob) w w1) := Lib.hid ((HX1.out.tch _).trans' ht.tch fun i hi hx => by
    rcases hx with (e | e) | e
    · exact e
    · omega
    · cases e)
  have HQ := Lib.hid hq
  have HM := Lib.hid hm
  have HZ := Lib.hid hsz
  have HLO := Lib.hid (And.intro l1 (And.intro l2 (And.intro l3 (And.intro l4 l5))))
  clear hstay ht hq hm hsz l1 l2 l3 l4 l5 hs1 b0 b1 b2 b3
  generalize hrq : runQ get (E.form c) (.ok (st, [])) = rq at *
  obtain ⟨v0, q0⟩ := rq
  have HQ : Hid (QCore w S g bc bi br rb ob C e opn w1 q0 m u' S' v rs) := HQ
  have HZ : Hid ((v0.getD ⟨#[]⟩).size ≤ 140737488355328) := HZ
  clear hrq
  have hfv : foundV (v0, q0).1 = .agg #[.string (v0.getD ⟨#[]⟩), .bool v0.isSome] := rfl
  rw [hfv]
  obtain ⟨a, ha⟩ : ∃ a, a = v0.getD ⟨#[]⟩ := ⟨_, rfl⟩
  obtain ⟨b, hb⟩ : ∃ b, b = v0.isSome := ⟨_, rfl⟩
  rw [← ha, ← hb]
  have HAA := Lib.hid ha
  have HBB := Lib.hid hb
  obtain ⟨W3, hW3⟩ : ∃ W3, W3 = w1.alloc (.cells #[.string a, .bool b] 86) := ⟨_, rfl⟩
  have X3 : Ext w1 W3 := by rw [hW3]; exact (Ext.refl w1).alloc _
  have HQ3 := Lib.hid (HQ.out.keep (X3.tch fun _ => False) fun _ h => h.elim)
  have K6 : Hid (W3.heap[w1.heap.size]? = some (.cells #[.string a, .bool b] 86 (0, 0))) := Lib.hid (by rw [hW3]; exact heap_alloc_new w1 _)
  have K3' := Lib.hid ((X3.block _ (Array.getElem?_eq_some_iff.1 K3.out).1).trans K3.out)
  have K4' := Lib.hid ((X3.block _ (Array.getElem?_eq_some_iff.1 K4.out).1).trans K4.out)
  have HT3 := Lib.hid (HT1.out.trans (X3.tch _))
  have hsw : w.heap.size + 4 ≤ w1.heap.size := (Array.getElem?_eq_some_iff.1 HQ.out.rds.heap).1
  have HSW := Lib.hid hsw
  have p0 : W3.cell? ⟨w.heap.size, 0, none⟩ = some (.pointer (some ⟨rb, 0, none⟩)) := by rw [new_off HQ3.out.p2]; rfl
  have e0 : W3.cell? ⟨w1.heap.size, 0, none⟩ = some (.string a) := by rw [new_off K6.out]; rfl
  have e1 : W3.cell? ⟨w1.heap.size, 1, none⟩ = some (.bool b) := by rw [new_off K6.out]; rfl
  clear X3 HQ HT1 K3 K4 hfv ha hb hsw HF
  go_upto_region 3 with (fail)
  rw [← hW3]
  clear hW3
  cases hr : E.runP get (E.form c) st [] with
  | error x =>
    have h1 := HRN.out
    rw [hr] at h1
    obtain rfl : q0 = .error x := h1
    have HE : Hid (R = .error x) := Lib.hid (by rw [HR.out, hr])
    obtain ⟨hx0, hd, _⟩ := HQ3.out.st
    have c2 := hd.run.c2
    have hx1 : (x == 0) = false := by rw [beq_eq_false_iff_ne]; exact hx0
    have HX0 := Lib.hid hx0
    have HDD := Lib.hid hd
    have r0 : W3.cell? ⟨w.heap.size + 1 + 1, 0, none⟩ = some (.string ⟨#[]⟩) := by rw [new_off K4'.out]; rfl
    have r1 : W3.cell? ⟨w.heap.size + 1 + 1, 1, none⟩ = some (.bool false) := by rw [new_off K4'.out]; rfl
    have f0 := Lib.frozen_of_heap K4'.out 0
    have f1 := Lib.frozen_of_heap K4'.out 1
    clear hr hx0 hd HRN HR
    go_wp2_with fail
    have ht : Tch (fun k => k = w.heap.size + 2) W3 ((W3.setCell ⟨w.heap.size + 2, 0, none⟩ (.string ⟨#[]⟩)).setCell ⟨w.heap.size + 2, 1, none⟩ (.bool false)) := ((Tch.refl (fun k => k = w.heap.size + 2) W3).setCell (p := ⟨w.heap.size + 2, 0, none⟩) (fun _ => rfl) _).setCell (p := ⟨w.heap.size + 2, 1, none⟩) (fun _ => rfl) _
    refine ret_found Tryz.results53 rfl (found_set K4'.out _ _) rfl ⟨HT3.out.trans' ht fun i hi e => by omega, ?_⟩
    rw [HE.out]
    exact ⟨rfl, HX0.out, HDD.out.tch ht fun k hk e => by have := HLO.out.1 k e; omega⟩
  | ok p =>
    obtain ⟨v1, rs1, st1⟩ := p
    have h1 := HRN.out
    rw [hr] at h1
    obtain ⟨rfl, rfl⟩ := Prod.mk.inj h1
    obtain ⟨rfl, hlv⟩ := HQ3.out.st
    have HLV := Lib.hid hlv
    by_cases hbg : E.big v0 = true
    · have HE : Hid (R = .error E.eLarge) := Lib.hid (by rw [HR.out, hr]; simp only; rw [if_pos hbg])
      have hbs : 65536 < a.size ∧ b = true := by
        rw [HAA.out, HBB.out]
        cases v0 with
        | none => cases hbg
        | some s => exact ⟨of_decide_eq_true hbg, rfl⟩
      obtain ⟨hba, rfl⟩ := hbs
      have hba2 : a.size ≤ 140737488355328 := by rw [HAA.out]; exact HZ.out
      have c2 := HLV.out.run.c2
      have f2 := HLV.out.run.frozen 2
      have r0 : W3.cell? ⟨w.heap.size + 1 + 1, 0, none⟩ = some (.string ⟨#[]⟩) := by rw [new_off K4'.out]; rfl
      have r1 : W3.cell? ⟨w.heap.size + 1 + 1, 1, none⟩ = some (.bool false) := by rw [new_off K4'.out]; rfl
      have f0 := Lib.frozen_of_heap K4'.out 0
      have f1 := Lib.frozen_of_heap K4'.out 1
      clear hr hbg hlv HRN HR
      go_wp2_with fail
      obtain ⟨W4, hW4⟩ : ∃ W4, W4 = W3.setCell ⟨rb, 2, none⟩ (.int .i64 10) := ⟨_, rfl⟩
      rw [← hW4]
      have hrbs := (HLV.out.run.lt)
      have hrbl := HLO.out.1 rb (.inr (.inr (.inl rfl)))
      have T4 : Tch (Mv g br rb ob) w W4 := by rw [hW4]; exact HT3.out.setCell (p := ⟨rb, 2, none⟩) (fun _ => .inr (.inr (.inl rfl))) _
      have K4x : W4.heap[w.heap.size + 2]? = some (.cells #[.string ⟨#[]⟩, .bool false] 86 (0, 0)) := by rw [hW4]; exact (RowKit.Below.heap_setCell _ _ _ _ (by simp only; omega)).trans K4'.out
      have D4 : Dead W4 g bc bi br rb ob e.rev 10 := by
        refine ⟨⟨st1.cnt, ?_⟩, ?_, openF opn, ?_⟩
        · rw [hW4]; exact HLV.out.eng.row.tch ((Tch.refl (fun k => k = rb) W3).setCell (p := ⟨rb, 2, none⟩) (fun _ => rfl) _) fun e => HLV.out.apart.1 e.symm
        · rw [hW4]; exact HLV.out.run.set2 10
        · rw [hW4]; exact HLV.out.opens.tch ((Tch.refl (fun k => k = rb) W3).setCell (p := ⟨rb, 2, none⟩) (fun _ => rfl) _) fun e => HLV.out.apart.2.2.2.2.2.2.2.2.2.2 e.symm
      have ht : Tch (fun k => k = w.heap.size + 2) W4 ((W4.setCell ⟨w.heap.size + 2, 0, none⟩ (.string ⟨#[]⟩)).setCell ⟨w.heap.size + 2, 1, none⟩ (.bool false)) := ((Tch.refl (fun k => k = w.heap.size + 2) W4).setCell (p := ⟨w.heap.size + 2, 0, none⟩) (fun _ => rfl) _).setCell (p := ⟨w.heap.size + 2, 1, none⟩) (fun _ => rfl) _
      refine ret_found Tryz.results53 rfl (found_set K4x _ _) rfl ⟨T4.trans' ht fun i hi e => by omega, ?_⟩
      rw [HE.out]
      exact ⟨rfl, by decide, D4.tch ht fun k hk e => by have := HLO.out.1 k e; omega⟩
    · have HE : Hid (R = .ok (v0, ⟨E.put st1.ms n ⟨v0, rs1, e.rev⟩, st1.cnt + 1⟩)) := Lib.hid (by rw [HR.out, hr]; simp only; rw [if_neg hbg])
      have hba : a.size ≤ 65536 := by
        rw [HAA.out]
        cases v0 with
        | none => exact Nat.zero_le _
        | some s =>
          have : ¬ (65536 < s.size) := fun h => hbg (decide_eq_true h)
          exact Nat.le_of_not_lt this
      have HBA := Lib.hid hba
      obtain ⟨A', k', hv, hsl⟩ := reads_slice HQ3.out.rds.own rfl HQ3.out.sz
      have HSL := Lib.hid hsl
      have HVE := Lib.hid hv
      obtain ⟨f, hm, hms⟩ := hlv.eng.results
      obtain ⟨U, hI, hU⟩ := hlv.inv
      have HDOM := Lib.hid (memo_dom hms hI)
      have hUl := inv_few hI
      have hcn : (st1.cnt : Int) ≤ 4000000000000001000 := by
        have h1 : st1.cnt ≤ C + U.length := hU
        have h2 : U.length ≤ e.cells.length := hUl
        omega
      have hcn0 : (0 : Int) ≤ (st1.cnt : Int) := Int.natCast_nonneg _
      have HMF := Lib.hid hm
      have HMS := Lib.hid hms
      have c2 := HLV.out.run.c2
      have c0 := HLV.out.run.c0
      have g4 := HLV.out.eng.row.c4
      have fg := HLV.out.eng.row.frozen 4
      clear hr hbg hlv HRN HR hm hms hI hU hUl hsl hv
      generalize hcne : (st1.cnt : Int) = cn at *
      have HCN := Lib.hid hcne
      clear hcne
      go_upto_region 8 with (fail)
      obtain ⟨W4, hW4⟩ : ∃ W4, W4 = W3.setCell ⟨g, 4, none⟩ (.int .i64 (cn + 1)) := ⟨_, rfl⟩
      rw [← hW4]
      have hgl := HLO.out.1 g (.inl rfl)
      have hgs := HSW.out
      have T4 : Tch (fun k => k = g) W3 W4 := by rw [hW4]; exact (Tch.refl (fun k => k = g) W3).setCell (p := ⟨g, 4, none⟩) (fun _ => rfl) _
      have k4 : ∀ i o, W3.heap[i]? = some o → i ≠ g → W4.heap[i]? = some o := fun i o h1 h2 => (T4.block i (Array.getElem?_eq_some_iff.1 h1).1 h2).trans h1
      have HROW : Hid (Row W4 g bc bi br e.rev (cn + 1)) := Lib.hid (by rw [hW4, ← HCN.out]; exact HLV.out.eng.row.set4 _)
      have HRUN : Hid (RunRow W4 rb g ob 0) := Lib.hid (HLV.out.run.tch T4 fun e => HLV.out.apart.1 e)
      have M2 := Lib.hid (k4 _ _ HQ3.out.p2 (by omega))
      have M3 := Lib.hid (k4 _ _ K3'.out (by omega))
      have M4 := Lib.hid (k4 _ _ K4'.out (by omega))
      have M5 := Lib.hid (k4 _ _ HQ3.out.rds.heap (by omega))
      have M6 := Lib.hid (k4 _ _ K6.out (by omega))
      have HM4 : Hid (MapF Tryz.prog W4 br f) := Lib.hid (HMF.out.tch T4 fun e => HLV.out.eng.ne.2.2.1 e.symm)
      have HT4 := Lib.hid T4
      clear k4 T4 hW4 c2 c0 g4 fg p0 e0 e1
      obtain ⟨xb, hxb⟩ : ∃ xb, xb = w1.heap.size := ⟨_, rfl⟩
      have HXB := Lib.hid hxb
      rw [← hxb] at M6 ⊢
      clear hxb
      obtain ⟨Φ, hΦ⟩ : ∃ Φ : World → Prop, ∀ w', Φ w' ↔ (w'.cell? ⟨w.heap.size, 0, none⟩ = some (.pointer (some ⟨rb, 0, none⟩)) ∧ w'.cell? ⟨rb, 0, none⟩ = some (.pointer (some ⟨g, 0, none⟩)) ∧ w'.cell? ⟨g, 2, none⟩ = some (.map (some br)) ∧ w'.cell? ⟨g, 3, none⟩ = some (.int .i64 e.rev) ∧ w'.cell? ⟨w.heap.size + 1, 0, none⟩ = some (.string c.1) ∧ w'.cell? ⟨xb, 0, none⟩ = some (.string a) ∧ w'.cell? ⟨xb, 1, none⟩ = some (.bool b) ∧ w'.cell? ⟨w.heap.size + 1 + 1 + 1, 0, none⟩ = some (.slice A' rs1.length k')) := ⟨_, fun _ => Iff.rfl⟩
      have h0 : Φ W4.drew := (hΦ _).2 ⟨by show W4.cell? _ = _; rw [new_off M2.out]; rfl, HRUN.out.c0, HROW.out.c2, HROW.out.c3, by show W4.cell? _ = _; rw [new_off M3.out]; rfl, by show W4.cell? _ = _; rw [new_off M6.out]; rfl, by show W4.cell? _ = _; rw [new_off M6.out]; rfl, by show W4.cell? _ = _; rw [new_off M5.out, HVE.out]; rfl⟩
      have fx0 : ∀ x : Lat Φ, x.w'.cell? ⟨w.heap.size, 0, none⟩ = some (.pointer (some ⟨rb, 0, none⟩)) := fun x => ((hΦ _).1 x.h).1
      have fx1 : ∀ x : Lat Φ, x.w'.cell? ⟨rb, 0, none⟩ = some (.pointer (some ⟨g, 0, none⟩)) := fun x => ((hΦ _).1 x.h).2.1
      have fx2 : ∀ x : Lat Φ, x.w'.cell? ⟨g, 2, none⟩ = some (.map (some br)) := fun x => ((hΦ _).1 x.h).2.2.1
      have fx3 : ∀ x : Lat Φ, x.w'.cell? ⟨g, 3, none⟩ = some (.int .i64 e.rev) := fun x => ((hΦ _).1 x.h).2.2.2.1
      have fx4 : ∀ x : Lat Φ, x.w'.cell? ⟨w.heap.size + 1, 0, none⟩ = some (.string c.1) := fun x => ((hΦ _).1 x.h).2.2.2.2.1
      have fx5 : ∀ x : Lat Φ, x.w'.cell? ⟨xb, 0, none⟩ = some (.string a) := fun x => ((hΦ _).1 x.h).2.2.2.2.2.1
      have fx6 : ∀ x : Lat Φ, x.w'.cell? ⟨xb, 1, none⟩ = some (.bool b) := fun x => ((hΦ _).1 x.h).2.2.2.2.2.2.1
      have fx7 : ∀ x : Lat Φ, x.w'.cell? ⟨w.heap.size + 1 + 1 + 1, 0, none⟩ = some (.slice A' rs1.length k') := fun x => ((hΦ _).1 x.h).2.2.2.2.2.2.2
      have hne1 := Lat.some h0
      clear hΦ
      refine wp_region_tail 19 [] Φ h0 (by kernel_rfl) (by kernel_rfl) (by kernel_rfl) ?_
      simp only [List.take_succ_cons, List.take_zero, List.drop_succ_cons, List.drop_zero]
      iterate 19 (refine lex_pure rfl rfl rfl ?_; intro K hK; go_big_quiet_op; go_big_quiet_on)
      refine lex_nil ?_
      clear fx0 fx1 fx2 fx3 fx4 fx5 fx6 fx7 hne1
      have HMD : Hid (MapF Tryz.prog W4.drew br f) := Lib.hid (HM4.out.ext (Ext.refl W4).drew)
      have hnc : c.1.size ≤ 9223372036854775807 := by rw [HC.out]; exact hn
      refine wpList_mapF_put (b := br) HMD.out Tryz.underlying9 (e.cells.map (·.1)) HDOM.out (by rw [List.length_map]; omega) rfl _ _ _ _ 89 rfl Tryz.underlying77 rfl c.1 (.agg #[.string a, .bool b, .slice A' rs1.length k', .int .i64 e.rev]) rfl rfl hnc ?_
      intro W5 hm5 ht5
      have T5 : Tch (fun k => k = br) W4.drew W5 := (Tch.refl _ W4.drew).grown ht5.grown fun i hi _ => (Option.some.inj hi).symm
      have hbl := HLO.out.1 br (.inr (.inl rfl))
      have k5 : ∀ i o, W4.heap[i]? = some o → i ≠ br → W5.heap[i]? = some o := fun i o h1 h2 => (T5.block i (Array.getElem?_eq_some_iff.1 h1).1 h2).trans h1
      have hxbs : w.heap.size + 4 ≤ xb := by rw [HXB.out]; exact HSW.out
      have N4 := Lib.hid (k5 _ _ M4.out (by omega))
      have N6 := Lib.hid (k5 _ _ M6.out (by omega))
      have HT5 : Hid (Tch (fun k => k = g ∨ k = br) W3 W5) := Lib.hid ((HT4.out.mono fun _ _ h => .inl h).trans' (((Ext.refl W4).drew.tch _).trans T5) fun _ _ h => .inr h)
      have HROW5 : Hid (Row W5 g bc bi br e.rev (cn + 1)) := Lib.hid (HROW.out.tch (((Ext.refl W4).drew.tch _).trans T5) HLV.out.eng.ne.2.2.1)
      have HM5 := Lib.hid hm5
      have d0 : W5.cell? ⟨xb, 0, none⟩ = some (.string a) := by rw [new_off N6.out]; rfl
      have d1 : W5.cell? ⟨xb, 1, none⟩ = some (.bool b) := by rw [new_off N6.out]; rfl
      have r0 : W5.cell? ⟨w.heap.size + 1 + 1, 0, none⟩ = some (.string ⟨#[]⟩) := by rw [new_off N4.out]; rfl
      have r1 : W5.cell? ⟨w.heap.size + 1 + 1, 1, none⟩ = some (.bool false) := by rw [new_off N4.out]; rfl
      have f0 := Lib.frozen_of_heap N4.out 0
      have f1 := Lib.frozen_of_heap N4.out 1
      clear T5 k5 hm5 ht5 h0
      go_wp2_with fail
      have ht : Tch (fun k => k = w.heap.size + 2) W5 ((W5.setCell ⟨w.heap.size + 2, 0, none⟩ (.string a)).setCell ⟨w.heap.size + 2, 1, none⟩ (.bool b)) := ((Tch.refl (fun k => k = w.heap.size + 2) W5).setCell (p := ⟨w.heap.size + 2, 0, none⟩) (fun _ => rfl) _).setCell (p := ⟨w.heap.size + 2, 1, none⟩) (fun _ => rfl) _
      have hmv5 : Tch (Mv g br rb ob) w W5 := HT3.out.trans' HT5.out fun i hi h => by rcases h with rfl | rfl; exact .inl rfl; exact .inr (.inl rfl)
      refine ret_found Tryz.results53 rfl (found_set N4.out _ _) rfl ⟨hmv5.trans' ht fun i hi e => by omega, ?_⟩
      rw [HE.out]
      have hfoot := (asks_compute hget HL.out).lt (show QC w S g bc bi br rb ob C e opn W3 (.ok (st1, rs1)) m u' _ from ⟨S', v, rs1, rfl, HQ3.out⟩)
      have hown : ∀ i, v.ownBlock = some i → w.heap.size + 4 ≤ i ∧ ¬ S' i ∧ i < W3.heap.size := fun i hi => ⟨(HQ3.out.hi i (HQ3.out.own ▸ hi)).1, (HQ3.out.hi i (HQ3.out.own ▸ hi)).2, own_at_lt HQ3.out.rds.own hi⟩
      have hlow := HLO.out
      obtain ⟨o1, o2, o3, o4⟩ := HLV.out.eng.out
      have heng : EngAt W5 (fun i => S' i ∨ v.ownBlock = some i) g bc bi br { e with st := ⟨E.put st1.ms n ⟨v0, rs1, e.rev⟩, st1.cnt + 1⟩ } := by
        refine HLV.out.eng.memoed HMS.out (n := n) (m := ⟨v0, rs1, e.rev⟩) (A := A') (k := k') (cnt := st1.cnt + 1) HT5.out ?_ ?_ ?_ (fun k hk => .inl hk) ?_ ?_ ?_ ?_ hrev
        · have := HROW5.out
          rw [← HCN.out] at this
          exact this
        · have := HM5.out
          rw [HC.out, HAA.out, HBB.out] at this
          exact this
        · refine HSL.out.keep (fun k hk => .inr hk) fun k hk => HT5.out.block k (hown k hk).2.2 ?_
          have := (hown k hk).1
          rintro (rfl | rfl) <;> omega
        · rintro k (hk | hk)
          · exact Nat.lt_of_lt_of_le (HLV.out.eng.lt k hk) HT5.out.size
          · exact Nat.lt_of_lt_of_le (hown k hk).2.2 HT5.out.size
        · refine ⟨?_, ?_, ?_, ?_⟩ <;> rintro (hk | hk)
          · exact o1 hk
          · have := (hown _ hk).1; omega
          · exact o2 hk
          · have := (hown _ hk).1; have := hlow.2.1; omega
          · exact o3 hk
          · have := (hown _ hk).1; have := hlow.2.2.1; omega
          · exact o4 hk
          · have := (hown _ hk).1; omega
        · have := HBA.out
          rw [HAA.out] at this
          exact this
        · have h1 := HQ3.out.len
          have h2 := HM.out
          show rs1.length ≤ 100
          omega
      have hls : ∀ k, k = w.heap.size + 2 → ¬ Mv g br rb ob k ∧ k ≠ bc ∧ k ≠ bi ∧ ¬ (S' k ∨ v.ownBlock = some k) ∧ ¬ Lib0 k := fun k hk => by
        subst hk
        refine ⟨fun e => by have := hlow.1 _ e; omega, by have := hlow.2.1; omega, by have := hlow.2.2.1; omega, ?_, fun e => by have := hlow.2.2.2.1 _ e; omega⟩
        rintro (e | e)
        · rcases HQ3.out.sup _ e with e | e
          · have := hlow.2.2.2.2 _ e; omega
          · omega
        · have := (hown _ e).1; omega
      obtain ⟨a1, a2, a3, a4, a5, a6, a7, a8, a9, a10, a11⟩ := HLV.out.apart
      have hlo : LiveO W5 (fun i => S' i ∨ v.ownBlock = some i) g bc bi br rb ob { e with st := ⟨E.put st1.ms n ⟨v0, rs1, e.rev⟩, st1.cnt + 1⟩ } opn := by
        refine ⟨heng, HLV.out.run.tch HT5.out (by rintro (e | e); exact a1 e; exact a4 e), HLV.out.opens.tch HT5.out (by rintro (e | e); exact a6 e; exact a9 e), ⟨a1, a2, a3, a4, ?_, a6, a7, a8, a9, ?_, a11⟩, HLV.out.gl.tch HT5.out fun k hk => HLV.out.off k (by rcases hk with rfl | rfl; exact .inl rfl; exact .inr (.inl rfl)), HLV.out.off⟩
        · rintro (e | e)
          · exact a5 e
          · have := (hown _ e).1; have := hlow.1 rb (.inr (.inr (.inl rfl))); omega
        · rintro (e | e)
          · exact a10 e
          · have := (hown _ e).1; have := hlow.1 ob (.inr (.inr (.inr rfl))); omega
      refine ⟨by rw [HAA.out, HBB.out]; rfl, by have := HBA.out; rw [HAA.out] at this; exact this, _, hlo.tch ht hls, fun k hk => .inl (HQ3.out.sub k hk), fun k hk => ?_⟩
      rcases hk with hk | hk
      · rcases HQ3.out.sup k hk with h | h
        · exact .inl h
        · exact .inr (by omega)
      · exact .inr (by have := (hown k hk).1; omega)
end Go.Proofs.YtkeaoejgboefbaaGreatDoor

/- A function that defers a call of a builtin. For any program. -/
namespace Go.Proofs.YtkeaoejgboefbaaGreatDoor
open Go

theorem step_defer_builtin {P : Program} {fr : Frame} {cs : List Frame} {w w' : World} {d : Deferred} {ds : List Deferred} {v : Value} (hm : fr.mode = .returning) (hd : fr.defers = d :: ds)
    (ht : ∃ b ts ty c, d.target = .builtin b ts ty c) (hi : (invoke d.target d.args).run P w = .ok (.value v) w') :
    step P (lone fr cs w) = .next (lone { fr with defers := ds } cs w') := by
  obtain ⟨t, a⟩ := d
  obtain ⟨b, ts, ty, c, ht⟩ := ht
  simp only at ht hi
  subst ht
  refine step_lone_go ?_
  simp [stepG, unwind, callDeferred, hm, hd, hi]
/-- The deferred builtin calls are made; then the result is read. -/
def LeavesB (P : Program) (fn : Func) (tmps : Array Value) (R : Ending → World → Prop) : List Deferred → World → Prop
  | [], w => ∃ v, (results fn tmps).run P w = .ok v w ∧ R (.returned v) w
  | d :: ds, w => (∃ b ts ty c, d.target = .builtin b ts ty c) ∧ ∃ v w', (invoke d.target d.args).run P w = .ok (.value v) w' ∧ LeavesB P fn tmps R ds w'
theorem leavesB_steps {P : Program} {fn : Func} {tmps : Array Value} {R : Ending → World → Prop} : ∀ (ds : List Deferred) (w : World) (fr : Frame) (cs : List Frame), fr.mode = .returning → fr.defers = ds → fr.tmps = tmps → P.funcs[fr.fn]? = some fn → fr.kind = .normal → LeavesB P fn tmps R ds w →
    ∃ e w' fr', R e w' ∧ Comes P (lone fr cs w) (lone fr' cs w') e ∧ fr'.fn = fr.fn ∧ fr'.leaving P w' e := by
  intro ds
  induction ds with
  | nil =>
    intro w fr cs hu hd ht hf hk h
    obtain ⟨v, hr, hR⟩ := h
    exact ⟨.returned v, w, fr, hR, Steps.refl P _, rfl, hu, hd, hk, fn, hf, ht ▸ hr⟩
  | cons d ds ih =>
    intro w fr cs hu hd ht hf hk h
    obtain ⟨hb, v, w1, hi, h'⟩ := h
    have h1 := step_defer_builtin (cs := cs) hu hd hb hi
    obtain ⟨e, w', fr', hR, hs, hfn, hl⟩ := ih w1 { fr with defers := ds } cs hu rfl ht hf hk h'
    exact ⟨e, w', fr', hR, Comes.of_steps (.one h1) hs, hfn, hl⟩
def bodyPostB (P : Program) (fn : Func) (R : Ending → World → Prop) : Exit → Act → World → Prop
  | .normal, a, w | .ret, a, w => LeavesB P fn a.tmps R a.defers w
  | .outgrown, _, w => R .outgrown w
  | _, _, _ => False
theorem calls_of_wp_defersB {P : Program} {f : FuncId} {fn : Func} {c : Code} {args : Array Value} {w : World} {R : Ending → World → Prop}
    (hf : P.funcs[f]? = some fn) (hb : fn.body = some c)
    (h : c.wp P (bodyPostB P fn R) { tmps := args ++ Array.replicate (fn.ntmps - args.size) undef, defers := [] } w) : Calls P f args w R := by
  intro cs
  let b : Frame := { (default : Frame) with fn := f, kind := .normal }
  have henter : Frame.enter P f args .normal =
      b.at { tmps := args ++ Array.replicate (fn.ntmps - args.size) undef, defers := [] } [.code c] := by
    simp [Frame.enter, Frame.at, hf, hb, b]
  obtain ⟨e, a', w', hq, harr⟩ := h b [] cs
  rw [← henter] at harr
  cases e with
  | normal =>
    obtain ⟨e', w'', fr', hR, hs, hfn, hl⟩ := leavesB_steps a'.defers w' { b.at a' [] with mode := .returning } cs rfl rfl rfl hf rfl hq
    exact ⟨e', w'', fr', hR, Comes.of_steps (Steps.trans harr (.one step_end)) hs, hfn, hl⟩
  | ret =>
    obtain ⟨todo, hs₀⟩ := harr
    obtain ⟨e', w'', fr', hR, hs, hfn, hl⟩ := leavesB_steps a'.defers w' { b.at a' todo with mode := .returning } cs rfl rfl rfl hf rfl hq
    exact ⟨e', w'', fr', hR, Comes.of_steps hs₀ hs, hfn, hl⟩
  | panic chain => exact hq.elim
  | exit id => exact hq.elim
  | goto l => exact hq.elim
  | outgrown => exact ⟨.outgrown, w', b, hq, harr.resolve_left (by simp [b]), rfl, trivial⟩
end Go.Proofs.YtkeaoejgboefbaaGreatDoor

/- run.get: its ends, apart from the walk. -/
namespace Go.Proofs.YtkeaoejgboefbaaGreatDoor
open Go.RowKit Go.Maps

section
variable {w w' : World} {S : Nat → Prop} {g bc bi br rb ob C : Nat} {e : E.En} {opn : List ByteArray} {st : E.St} {n : ByteArray}
/-- A name is opened. -/
theorem Live.opened (h : Live w S g bc bi br rb ob C { e with st := st } opn) (hm : MapF Tryz.prog w' ob (putF (openF opn) n (some (.bool true)))) (ht : w.mapTurned w' ob) (hn : ∀ m, st.ms n = some m → m.at' ≠ e.rev) : Live w' S g bc bi br rb ob C { e with st := st } (n :: opn) := by
  have T : Tch (fun k => k = ob) w w' := (Tch.refl _ w).grown ht.grown fun i hi _ => (Option.some.inj hi).symm
  obtain ⟨a1, a2, a3, a4, a5, a6, a7, a8, a9, a10, a11⟩ := h.apart
  obtain ⟨U, hI, hU⟩ := h.inv
  exact ⟨h.eng.tch T fun k hk => by subst hk; exact ⟨a6, a7, a8, a9, a10⟩, h.run.tch T a11, hm.congr (openF_put opn n), h.apart, h.gl.tch T fun k hk => by subst hk; exact h.off k (.inr (.inr (.inr rfl))), h.off, U, inv_open hI hn, hU⟩
/-- A name is closed again. -/
theorem LiveO.closed (h : LiveO w S g bc bi br rb ob e (n :: opn)) (hm : MapF Tryz.prog w' ob (putF (openF (n :: opn)) n none)) (ht : w.mapTurned w' ob) (hn : E.has opn n = false) : LiveO w' S g bc bi br rb ob e opn := by
  have T : Tch (fun k => k = ob) w w' := (Tch.refl _ w).grown ht.grown fun i hi _ => (Option.some.inj hi).symm
  obtain ⟨a1, a2, a3, a4, a5, a6, a7, a8, a9, a10, a11⟩ := h.apart
  exact ⟨h.eng.tch T fun k hk => by subst hk; exact ⟨a6, a7, a8, a9, a10⟩, h.run.tch T a11, hm.congr (openF_drop opn hn), h.apart, h.gl.tch T fun k hk => by subst hk; exact h.off k (.inr (.inr (.inr rfl))), h.off⟩
theorem Dead.closed {rev x : Int} {f : FnV} (h : Dead w g bc bi br rb ob rev x) (hm : MapF Tryz.prog w' ob f) (ht : w.mapTurned w' ob) (h1 : ob ≠ g) (h2 : rb ≠ ob) : Dead w' g bc bi br rb ob rev x := by
  have T : Tch (fun k => k = ob) w w' := (Tch.refl _ w).grown ht.grown fun i hi _ => (Option.some.inj hi).symm
  obtain ⟨⟨cnt, r1⟩, r2, _⟩ := h
  exact ⟨⟨cnt, r1.tch T fun e => h1 e.symm⟩, r2.tch T h2, f, hm⟩
/-- With the plain law, what get answers is alive. -/
theorem RetO.toG {fs : List E.Nm} {k : Nat} (hf : E.Holds (E.findC e.cells) fs) (hk : E.rem fs opn < k) (hL : Live w S g bc bi br rb ob C { e with st := st } opn) {ed : Ending} (h : RetO w S g bc bi br rb ob e opn (E.val (E.findC e.cells) e.vals e.rev E.form k opn st n) ed w') :
    RetG w S g bc bi br rb ob C e opn (E.val (E.findC e.cells) e.vals e.rev E.form k opn st n) ed w' := by
  obtain ⟨U, hI, hU⟩ := hL.inv
  have hv := E.val_spec hf k opn U st n hI hk
  refine ⟨h.1, ?_⟩
  have h2 := h.2
  cases hr : E.val (E.findC e.cells) e.vals e.rev E.form k opn st n with
  | error x => rw [hr] at h2; exact h2
  | ok p =>
    obtain ⟨v, st'⟩ := p
    rw [hr] at h2 hv
    obtain ⟨e1, e2, S', hl, e3, e4⟩ := h2
    obtain ⟨_, W, i1, _, _, i2, _⟩ := hv
    refine ⟨e1, e2, S', ⟨hl.eng, hl.run, hl.opens, hl.apart, hl.gl, hl.off, U ++ W, i1, ?_⟩, e3, e4⟩
    show st'.cnt ≤ _
    have hU' : st.cnt ≤ C + U.length := hU
    rw [List.length_append]
    omega
end
end Go.Proofs.YtkeaoejgboefbaaGreatDoor

/- run.get: the ways without a computation. -/
namespace Go.Proofs.YtkeaoejgboefbaaGreatDoor
open Go.RowKit Go.Maps

/-- An end without an error. -/
theorem RetO.live {w W : World} {S : Nat → Prop} {g bc bi br rb ob : Nat} {e : E.En} {opn : List ByteArray} {st : E.St} (hl : (∀ k, Mv g br rb ob k → k < w.heap.size) ∧ bc < w.heap.size ∧ bi < w.heap.size ∧ (∀ k, Lib0 k → k < w.heap.size) ∧ ∀ k, S k → k < w.heap.size) (hX : Ext w W) (hL : LiveO W S g bc bi br rb ob { e with st := st } opn) {v : E.V} (hv : (v.getD ⟨#[]⟩).size ≤ 65536) (x y : Value) :
    RetO w S g bc bi br rb ob e opn (.ok (v, st)) (.returned (foundV v)) ((W.setCell ⟨w.heap.size, 0, none⟩ x).setCell ⟨w.heap.size, 1, none⟩ y) := by
  obtain ⟨l1, l2, l3, l4, l5⟩ := hl
  have hY : Tch (fun k => k = w.heap.size) W ((W.setCell ⟨w.heap.size, 0, none⟩ x).setCell ⟨w.heap.size, 1, none⟩ y) := ((Tch.refl (fun k => k = w.heap.size) W).setCell (p := ⟨w.heap.size, 0, none⟩) (fun _ => rfl) _).setCell (p := ⟨w.heap.size, 1, none⟩) (fun _ => rfl) _
  exact ⟨(ext_result hX (Nat.le_refl _) x y).tch _, rfl, hv, S, hL.tch hY (fun k hk => by subst hk; exact ⟨fun e => by have := l1 _ e; omega, by omega, by omega, fun e => by have := l5 _ e; omega, fun e => by have := l4 _ e; omega⟩), fun k hk => hk, fun k hk => .inl hk⟩

set_option maxRecDepth 100000 in
set_option maxHeartbeats 4000000 in
theorem get_none {w : World} {S : Nat → Prop} {g bc bi br rb ob C : Nat} {e : E.En} {opn : List ByteArray} {st : E.St} (hL : Live w S g bc bi br rb ob C { e with st := st } opn) {n : ByteArray} (hn : n.size ≤ 9223372036854775807) (hc : E.findC e.cells n = none) :
    Calls Tryz.prog 36 #[.pointer (some ⟨rb, 0, none⟩), .string n] w (RetO w S g bc bi br rb ob e opn (.ok (none, st))) := by
  obtain ⟨l1, l2, l3, l4, l5⟩ := hL.low
  have HLW := Lib.hid (And.intro l1 (And.intro l2 (And.intro l3 (And.intro l4 l5))))
  obtain ⟨f, hmc, hci⟩ := hL.eng.cells
  obtain ⟨W1, hW1⟩ : ∃ W1, W1 = w.alloc (.cells #[.string ⟨#[]⟩, .bool false] 86) := ⟨_, rfl⟩
  have X1 : Ext w W1 := by rw [hW1]; exact (Ext.refl w).alloc _
  have H1 : Hid (W1.heap[w.heap.size]? = some (.cells #[.string ⟨#[]⟩, .bool false] 86)) := Lib.hid (by rw [hW1]; exact heap_alloc_new w _)
  have L1 := hL.ext X1
  have a0 := L1.run.c0
  have a1 := L1.eng.row.c0
  have hl := (hmc.ext X1).look Tryz.underlying9 Tryz.underlying76 (zv32 W1) hn
  have h2 := hci n
  have hc' : E.findC ({ e with st := st } : E.En).cells n = none := hc
  rw [hc'] at h2
  have h2 : f n = none := h2
  rw [h2] at hl
  replace hl : (Instr.lookup 76 (.map (some bc)) (.string n) true).run Tryz.prog W1 = .ok (.tuple #[.agg #[.string ⟨#[]⟩, .int .i64 0, .slice none 0 0, .string ⟨#[]⟩], .bool false]) W1 := hl
  clear hc hc' h2
  have HSZ : Hid (W1.heap.size = w.heap.size + 1) := Lib.hid (by rw [hW1]; simp)
  have HX1 := Lib.hid X1
  have HL1 := Lib.hid L1
  clear hL hmc hci X1 L1 l1 l2 l3 l4 l5
  go_enter Tryz.func36, Tryz.ntmps36
  go_upto_region 1 with (fail)
  rw [← hW1]
  clear hW1
  go_upto_region 2 with (fail)
  obtain ⟨W2, hW2⟩ : ∃ W2, W2 = W1.alloc (.cells #[.string ⟨#[]⟩, .int .i64 0, .slice none 0 0, .string ⟨#[]⟩] 50) := ⟨_, rfl⟩
  rw [← hW2]
  have X2 : Ext W1 W2 := by rw [hW2]; exact (Ext.refl W1).alloc _
  have K1 : Hid (W2.heap[w.heap.size]? = some (.cells #[.string ⟨#[]⟩, .bool false] 86)) := Lib.hid ((X2.block _ (Array.getElem?_eq_some_iff.1 H1.out).1).trans H1.out)
  have K2 : Hid (W2.heap[W1.heap.size]? = some (.cells #[.string ⟨#[]⟩, .int .i64 0, .slice none 0 0, .string ⟨#[]⟩] 50)) := Lib.hid (by rw [hW2]; exact heap_alloc_new W1 _)
  have HX2 := Lib.hid (HX1.out.trans X2)
  have HL2 := Lib.hid (HL1.out.ext X2)
  have b2 := HL2.out.run.c2
  clear hW2 X2 a0 a1 hl HL1 HX1 H1
  have r0 : W2.cell? ⟨w.heap.size, 0, none⟩ = some (.string ⟨#[]⟩) := by rw [new_off K1.out]; rfl
  have r1 : W2.cell? ⟨w.heap.size, 1, none⟩ = some (.bool false) := by rw [new_off K1.out]; rfl
  have f0 := Lib.frozen_of_heap K1.out 0
  have f1 := Lib.frozen_of_heap K1.out 1
  go_wp2_with fail
  exact ret_found Tryz.results36 rfl (found_set K1.out _ _) rfl (RetO.live HLW.out HX2.out HL2.out.toO (v := none) (Nat.zero_le _) _ _)
set_option maxRecDepth 100000 in
set_option maxHeartbeats 4000000 in
theorem get_input {w : World} {S : Nat → Prop} {g bc bi br rb ob C : Nat} {e : E.En} {opn : List ByteArray} {st : E.St} (hL : Live w S g bc bi br rb ob C { e with st := st } opn) {n : ByteArray} (hn : n.size ≤ 9223372036854775807) {c : E.Cell} (hc : E.findC e.cells n = some c) (hi : E.isIn c = true) {v : E.V} (hv0 : e.vals n = v) (hv : (v.getD ⟨#[]⟩).size ≤ 65536) :
    Calls Tryz.prog 36 #[.pointer (some ⟨rb, 0, none⟩), .string n] w (RetO w S g bc bi br rb ob e opn (.ok (v, st))) := by
  obtain ⟨l1, l2, l3, l4, l5⟩ := hL.low
  have HLW := Lib.hid (And.intro l1 (And.intro l2 (And.intro l3 (And.intro l4 l5))))
  obtain ⟨f, hmc, hci⟩ := hL.eng.cells
  obtain ⟨W1, hW1⟩ : ∃ W1, W1 = w.alloc (.cells #[.string ⟨#[]⟩, .bool false] 86) := ⟨_, rfl⟩
  have X1 : Ext w W1 := by rw [hW1]; exact (Ext.refl w).alloc _
  have H1 : Hid (W1.heap[w.heap.size]? = some (.cells #[.string ⟨#[]⟩, .bool false] 86)) := Lib.hid (by rw [hW1]; exact heap_alloc_new w _)
  have L1 := hL.ext X1
  have a0 := L1.run.c0
  have a1 := L1.eng.row.c0
  have hl := (hmc.ext X1).look Tryz.underlying9 Tryz.underlying76 (zv32 W1) hn
  have h2 := hci n
  have hc' : E.findC ({ e with st := st } : E.En).cells n = some c := hc
  rw [hc'] at h2
  obtain ⟨hcn, hwf, htx, har, A, k, hfn, hsl⟩ := h2
  rw [hfn] at hl
  replace hl : (Instr.lookup 76 (.map (some bc)) (.string n) true).run Tryz.prog W1 = .ok (.tuple #[.agg #[.string c.1, .int .i64 c.2.1, .slice A c.2.2.1.length k, .string c.2.2.2], .bool true]) W1 := hl
  have HSL := Lib.hid hsl
  have HCN := Lib.hid hcn
  clear hc' hfn hsl hwf htx har hcn
  have hop : c.2.1 = 1 := by simpa [E.isIn] using hi
  rw [hop] at hl
  clear hi hop hc
  have HSZ : Hid (W1.heap.size = w.heap.size + 1) := Lib.hid (by rw [hW1]; simp)
  have HX1 := Lib.hid X1
  have HL1 := Lib.hid L1
  clear hL hmc hci X1 L1 l1 l2 l3 l4 l5
  go_enter Tryz.func36, Tryz.ntmps36
  go_upto_region 1 with (fail)
  rw [← hW1]
  clear hW1
  go_upto_region 2 with (fail)
  obtain ⟨W2, hW2⟩ : ∃ W2, W2 = W1.alloc (.cells #[.string c.1, .int .i64 1, .slice A c.2.2.1.length k, .string c.2.2.2] 50) := ⟨_, rfl⟩
  rw [← hW2]
  have X2 : Ext W1 W2 := by rw [hW2]; exact (Ext.refl W1).alloc _
  have K1 : Hid (W2.heap[w.heap.size]? = some (.cells #[.string ⟨#[]⟩, .bool false] 86)) := Lib.hid ((X2.block _ (Array.getElem?_eq_some_iff.1 H1.out).1).trans H1.out)
  have K2 : Hid (W2.heap[W1.heap.size]? = some (.cells #[.string c.1, .int .i64 1, .slice A c.2.2.1.length k, .string c.2.2.2] 50)) := Lib.hid (by rw [hW2]; exact heap_alloc_new W1 _)
  have HX2 := Lib.hid (HX1.out.trans X2)
  have HL2 := Lib.hid (HL1.out.ext X2)
  have b2 := HL2.out.run.c2
  clear hW2 X2 a0 a1 hl HL1 HX1 H1
  have d1 : W2.cell? ⟨W1.heap.size, 1, none⟩ = some (.int .i64 1) := by rw [new_off K2.out]; rfl
  have a0 := HL2.out.run.c0
  have a1 := HL2.out.eng.row.c1
  have hli := HL2.out.eng.inputs.look Tryz.underlying9 Tryz.underlying75 (zv9 W2) hn
  replace hli : (Instr.lookup 75 (.map (some bi)) (.string n) true).run Tryz.prog W2 = .ok (.tuple #[((e.vals n).map Value.string).getD (.string ⟨#[]⟩), .bool ((e.vals n).map Value.string).isSome]) W2 := hli
  have r0 : W2.cell? ⟨w.heap.size, 0, none⟩ = some (.string ⟨#[]⟩) := by rw [new_off K1.out]; rfl
  have r1 : W2.cell? ⟨w.heap.size, 1, none⟩ = some (.bool false) := by rw [new_off K1.out]; rfl
  have f0 := Lib.frozen_of_heap K1.out 0
  have f1 := Lib.frozen_of_heap K1.out 1
  rw [hv0] at hli
  clear hv0
  have HV := Lib.hid hv
  clear hv
  cases v with
  | none =>
    replace hli : (Instr.lookup 75 (.map (some bi)) (.string n) true).run Tryz.prog W2 = .ok (.tuple #[.string ⟨#[]⟩, .bool false]) W2 := hli
    go_wp2_with fail
    exact ret_found Tryz.results36 rfl (found_set K1.out _ _) rfl (RetO.live HLW.out HX2.out HL2.out.toO (v := none) (Nat.zero_le _) _ _)
  | some s =>
    replace hli : (Instr.lookup 75 (.map (some bi)) (.string n) true).run Tryz.prog W2 = .ok (.tuple #[.string s, .bool true]) W2 := hli
    have HS : Hid (s.size ≤ 65536) := HV
    go_wp2_with fail
    exact ret_found Tryz.results36 rfl (found_set K1.out _ _) rfl (RetO.live HLW.out HX2.out HL2.out.toO (v := some s) HS.out _ _)
set_option maxRecDepth 100000 in
set_option maxHeartbeats 4000000 in
theorem get_loop {w : World} {S : Nat → Prop} {g bc bi br rb ob C : Nat} {e : E.En} {opn : List ByteArray} {st : E.St} (hL : Live w S g bc bi br rb ob C { e with st := st } opn) {n : ByteArray} (hn : n.size ≤ 9223372036854775807) {c : E.Cell} (hc : E.findC e.cells n = some c) (hi : E.isIn c = false) (hop2 : E.has opn n = true) :
    Calls Tryz.prog 36 #[.pointer (some ⟨rb, 0, none⟩), .string n] w (RetO w S g bc bi br rb ob e opn (.error E.eLoop)) := by
  obtain ⟨l1, l2, l3, l4, l5⟩ := hL.low
  have HLW := Lib.hid (And.intro l1 (And.intro l2 (And.intro l3 (And.intro l4 l5))))
  obtain ⟨f, hmc, hci⟩ := hL.eng.cells
  obtain ⟨W1, hW1⟩ : ∃ W1, W1 = w.alloc (.cells #[.string ⟨#[]⟩, .bool false] 86) := ⟨_, rfl⟩
  have X1 : Ext w W1 := by rw [hW1]; exact (Ext.refl w).alloc _
  have H1 : Hid (W1.heap[w.heap.size]? = some (.cells #[.string ⟨#[]⟩, .bool false] 86)) := Lib.hid (by rw [hW1]; exact heap_alloc_new w _)
  have L1 := hL.ext X1
  have a0 := L1.run.c0
  have a1 := L1.eng.row.c0
  have hl := (hmc.ext X1).look Tryz.underlying9 Tryz.underlying76 (zv32 W1) hn
  have h2 := hci n
  have hc' : E.findC ({ e with st := st } : E.En).cells n = some c := hc
  rw [hc'] at h2
  obtain ⟨hcn, hwf, htx, har, A, k, hfn, hsl⟩ := h2
  rw [hfn] at hl
  replace hl : (Instr.lookup 76 (.map (some bc)) (.string n) true).run Tryz.prog W1 = .ok (.tuple #[.agg #[.string c.1, .int .i64 c.2.1, .slice A c.2.2.1.length k, .string c.2.2.2], .bool true]) W1 := hl
  have HSL := Lib.hid hsl
  have HCN := Lib.hid hcn
  clear hc' hfn hsl hwf htx har hcn
  have hop : c.2.1 ≠ 1 := by simpa [E.isIn] using hi
  have hop1 : (c.2.1 == 1) = false := by rw [beq_eq_false_iff_ne]; exact hop
  clear hi hop hc
  have HSZ : Hid (W1.heap.size = w.heap.size + 1) := Lib.hid (by rw [hW1]; simp)
  have HX1 := Lib.hid X1
  have HL1 := Lib.hid L1
  clear hL hmc hci X1 L1 l1 l2 l3 l4 l5
  go_enter Tryz.func36, Tryz.ntmps36
  go_upto_region 1 with (fail)
  rw [← hW1]
  clear hW1
  go_upto_region 2 with (fail)
  obtain ⟨W2, hW2⟩ : ∃ W2, W2 = W1.alloc (.cells #[.string c.1, .int .i64 c.2.1, .slice A c.2.2.1.length k, .string c.2.2.2] 50) := ⟨_, rfl⟩
  rw [← hW2]
  have X2 : Ext W1 W2 := by rw [hW2]; exact (Ext.refl W1).alloc _
  have K1 : Hid (W2.heap[w.heap.size]? = some (.cells #[.string ⟨#[]⟩, .bool false] 86)) := Lib.hid ((X2.block _ (Array.getElem?_eq_some_iff.1 H1.out).1).trans H1.out)
  have K2 : Hid (W2.heap[W1.heap.size]? = some (.cells #[.string c.1, .int .i64 c.2.1, .slice A c.2.2.1.length k, .string c.2.2.2] 50)) := Lib.hid (by rw [hW2]; exact heap_alloc_new W1 _)
  have HX2 := Lib.hid (HX1.out.trans X2)
  have HL2 := Lib.hid (HL1.out.ext X2)
  have b2 := HL2.out.run.c2
  clear hW2 X2 a0 a1 hl HL1 HX1 H1
  have o1 := HL2.out.run.c1
  have hlo := HL2.out.opens.look1 (t := 91) Tryz.underlying9 Tryz.underlying91 (zv4 W2) hn
  replace hlo : (Instr.lookup 91 (.map (some ob)) (.string n) false).run Tryz.prog W2 = .ok (.bool true) W2 := by rw [hlo]; unfold openF; rw [hop2]; rfl
  have d1 : W2.cell? ⟨W1.heap.size, 1, none⟩ = some (.int .i64 c.2.1) := by rw [new_off K2.out]; rfl
  have HOP2 := Lib.hid hop2
  clear hop2
  have r0 : W2.cell? ⟨w.heap.size, 0, none⟩ = some (.string ⟨#[]⟩) := by rw [new_off K1.out]; rfl
  have r1 : W2.cell? ⟨w.heap.size, 1, none⟩ = some (.bool false) := by rw [new_off K1.out]; rfl
  have f0 := Lib.frozen_of_heap K1.out 0
  have f1 := Lib.frozen_of_heap K1.out 1
  have fr := HL2.out.run.frozen 2
  go_wp2_with fail
  obtain ⟨l1, l2, l3, l4, l5⟩ := HLW.out
  obtain ⟨W3, hW3⟩ : ∃ W3, W3 = W2.setCell ⟨rb, 2, none⟩ (.int .i64 12) := ⟨_, rfl⟩
  rw [← hW3]
  have hrl := l1 rb (.inr (.inr (.inl rfl)))
  have T3 : Tch (fun k => k = rb) W2 W3 := by rw [hW3]; exact (Tch.refl (fun k => k = rb) W2).setCell (p := ⟨rb, 2, none⟩) (fun _ => rfl) _
  have K3 : W3.heap[w.heap.size]? = some (.cells #[.string ⟨#[]⟩, .bool false] 86 (0, 0)) := (T3.block _ (Array.getElem?_eq_some_iff.1 K1.out).1 (by omega)).trans K1.out
  have hY : Tch (fun k => k = w.heap.size) W3 _ := ((Tch.refl (fun k => k = w.heap.size) W3).setCell (p := ⟨w.heap.size, 0, none⟩) (fun _ => rfl) (.string ⟨#[]⟩)).setCell (p := ⟨w.heap.size, 1, none⟩) (fun _ => rfl) (.bool false)
  have D3 : Dead W3 g bc bi br rb ob e.rev 12 := ⟨⟨_, HL2.out.eng.row.tch T3 fun e => HL2.out.apart.1 e.symm⟩, by rw [hW3]; exact HL2.out.run.set2 12, _, HL2.out.opens.tch T3 fun e => HL2.out.apart.2.2.2.2.2.2.2.2.2.2 e.symm⟩
  refine ret_found Tryz.results36 rfl (found_set K3 _ _) rfl ⟨?_, rfl, by decide, D3.tch hY fun k hk e => by have := l1 _ e; omega⟩
  exact ((HX2.out.tch (Mv g br rb ob)).trans (T3.mono fun k _ hk => .inr (.inr (.inl hk)))).trans' hY fun i hi e => by omega
set_option maxRecDepth 100000 in
set_option maxHeartbeats 4000000 in
theorem get_kept {w : World} {S : Nat → Prop} {g bc bi br rb ob C : Nat} {e : E.En} {opn : List ByteArray} {st : E.St} (hL : Live w S g bc bi br rb ob C { e with st := st } opn) {n : ByteArray} (hn : n.size ≤ 9223372036854775807) {c : E.Cell} (hc : E.findC e.cells n = some c) (hi : E.isIn c = false) (hop2 : E.has opn n = false) {m : E.Memo} (hm : st.ms n = some m) (hat : m.at' = e.rev) :
    Calls Tryz.prog 36 #[.pointer (some ⟨rb, 0, none⟩), .string n] w (RetO w S g bc bi br rb ob e opn (.ok (m.res, st))) := by
  obtain ⟨l1, l2, l3, l4, l5⟩ := hL.low
  have HLW := Lib.hid (And.intro l1 (And.intro l2 (And.intro l3 (And.intro l4 l5))))
  obtain ⟨f, hmc, hci⟩ := hL.eng.cells
  obtain ⟨W1, hW1⟩ : ∃ W1, W1 = w.alloc (.cells #[.string ⟨#[]⟩, .bool false] 86) := ⟨_, rfl⟩
  have X1 : Ext w W1 := by rw [hW1]; exact (Ext.refl w).alloc _
  have H1 : Hid (W1.heap[w.heap.size]? = some (.cells #[.string ⟨#[]⟩, .bool false] 86)) := Lib.hid (by rw [hW1]; exact heap_alloc_new w _)
  have L1 := hL.ext X1
  have a0 := L1.run.c0
  have a1 := L1.eng.row.c0
  have hl := (hmc.ext X1).look Tryz.underlying9 Tryz.underlying76 (zv32 W1) hn
  have h2 := hci n
  obtain ⟨fm, hmm, hmi⟩ := hL.eng.results
  have h3 := hmi n
  replace h3 : match st.ms n with
    | none => fm n = none
    | some m => (m.res.getD ⟨#[]⟩).size ≤ 65536 ∧ m.reads.length ≤ 100 ∧ m.at' < 4000000000000000000 ∧ ∃ A k, fm n = some (memoV m A k) ∧ SliceAt readR w S A k m.reads := h3
  rw [hm] at h3
  obtain ⟨z1, z2, z3, A2, k2, hfm, hsm⟩ := h3
  have HZ1 := Lib.hid z1
  have hc' : E.findC ({ e with st := st } : E.En).cells n = some c := hc
  rw [hc'] at h2
  obtain ⟨hcn, hwf, htx, har, A, k, hfn, hsl⟩ := h2
  rw [hfn] at hl
  replace hl : (Instr.lookup 76 (.map (some bc)) (.string n) true).run Tryz.prog W1 = .ok (.tuple #[.agg #[.string c.1, .int .i64 c.2.1, .slice A c.2.2.1.length k, .string c.2.2.2], .bool true]) W1 := hl
  have HSL := Lib.hid hsl
  have HCN := Lib.hid hcn
  clear hc' hfn hsl hwf htx har hcn
  have hop : c.2.1 ≠ 1 := by simpa [E.isIn] using hi
  have hop1 : (c.2.1 == 1) = false := by rw [beq_eq_false_iff_ne]; exact hop
  clear hi hop hc
  have hlm := (hmm.ext X1).ext ((Ext.refl W1).alloc (.cells #[.string c.1, .int .i64 c.2.1, .slice A c.2.2.1.length k, .string c.2.2.2] 50))
  have HSZ : Hid (W1.heap.size = w.heap.size + 1) := Lib.hid (by rw [hW1]; simp)
  have HX1 := Lib.hid X1
  have HL1 := Lib.hid L1
  clear hL hmc hci X1 L1 l1 l2 l3 l4 l5
  go_enter Tryz.func36, Tryz.ntmps36
  go_upto_region 1 with (fail)
  rw [← hW1]
  clear hW1
  go_upto_region 2 with (fail)
  obtain ⟨W2, hW2⟩ : ∃ W2, W2 = W1.alloc (.cells #[.string c.1, .int .i64 c.2.1, .slice A c.2.2.1.length k, .string c.2.2.2] 50) := ⟨_, rfl⟩
  rw [← hW2]
  have X2 : Ext W1 W2 := by rw [hW2]; exact (Ext.refl W1).alloc _
  have K1 : Hid (W2.heap[w.heap.size]? = some (.cells #[.string ⟨#[]⟩, .bool false] 86)) := Lib.hid ((X2.block _ (Array.getElem?_eq_some_iff.1 H1.out).1).trans H1.out)
  have K2 : Hid (W2.heap[W1.heap.size]? = some (.cells #[.string c.1, .int .i64 c.2.1, .slice A c.2.2.1.length k, .string c.2.2.2] 50)) := Lib.hid (by rw [hW2]; exact heap_alloc_new W1 _)
  have HX2 := Lib.hid (HX1.out.trans X2)
  have HL2 := Lib.hid (HL1.out.ext X2)
  have b2 := HL2.out.run.c2
  rw [← hW2] at hlm
  have hlm := hlm.look Tryz.underlying9 Tryz.underlying77 (zv84 W2) hn
  rw [hfm] at hlm
  replace hlm : (Instr.lookup 77 (.map (some br)) (.string n) true).run Tryz.prog W2 = .ok (.tuple #[.agg #[.string (m.res.getD ⟨#[]⟩), .bool m.res.isSome, .slice A2 m.reads.length k2, .int .i64 m.at'], .bool true]) W2 := hlm
  clear hW2 X2 a0 a1 hl HL1 HX1 H1
  have o1 := HL2.out.run.c1
  have hlo := HL2.out.opens.look1 (t := 91) Tryz.underlying9 Tryz.underlying91 (zv4 W2) hn
  replace hlo : (Instr.lookup 91 (.map (some ob)) (.string n) false).run Tryz.prog W2 = .ok (.bool false) W2 := by rw [hlo]; unfold openF; rw [hop2]; rfl
  have d1 : W2.cell? ⟨W1.heap.size, 1, none⟩ = some (.int .i64 c.2.1) := by rw [new_off K2.out]; rfl
  have HOP2 := Lib.hid hop2
  clear hop2
  have a0 := HL2.out.run.c0
  have a2 := HL2.out.eng.row.c2
  clear hmi hfm hsm hm z1 z2 z3 hmm
  have HAT := Lib.hid hat
  generalize hma : m.res.getD ⟨#[]⟩ = ma at *
  generalize hmb : m.res.isSome = mb at *
  have HMA := Lib.hid hma
  have HMB := Lib.hid hmb
  clear hma hmb
  have hrevz : ((m.at' : Int) == (e.rev : Int)) = true := by rw [HAT.out]; simp
  generalize hri : (m.at' : Int) = ri at *
  clear hat
  go_upto_region 11 with (fail)
  obtain ⟨W3, hW3⟩ : ∃ W3, W3 = W2.alloc (.cells #[.string ma, .bool mb, .slice A2 m.reads.length k2, .int .i64 ri] 89) := ⟨_, rfl⟩
  rw [← hW3]
  have X3 : Ext W2 W3 := by rw [hW3]; exact (Ext.refl W2).alloc _
  have K3 : Hid (W3.heap[w.heap.size]? = some (.cells #[.string ⟨#[]⟩, .bool false] 86)) := Lib.hid ((X3.block _ (Array.getElem?_eq_some_iff.1 K1.out).1).trans K1.out)
  have K9 : Hid (W3.heap[W2.heap.size]? = some (.cells #[.string ma, .bool mb, .slice A2 m.reads.length k2, .int .i64 ri] 89)) := Lib.hid (by rw [hW3]; exact heap_alloc_new W2 _)
  have HX3 := Lib.hid (HX2.out.trans X3)
  have HL3 := Lib.hid (HL2.out.ext X3)
  have q0 : W3.cell? ⟨W2.heap.size, 0, none⟩ = some (.string ma) := by rw [new_off K9.out]; rfl
  have q1 : W3.cell? ⟨W2.heap.size, 1, none⟩ = some (.bool mb) := by rw [new_off K9.out]; rfl
  have q3 : W3.cell? ⟨W2.heap.size, 3, none⟩ = some (.int .i64 ri) := by rw [new_off K9.out]; rfl
  have p0 := HL3.out.run.c0
  have p3 := HL3.out.eng.row.c3
  clear X3 hW3 a0 a2 b2 o1 hlo hlm d1
  have r0 : W3.cell? ⟨w.heap.size, 0, none⟩ = some (.string ⟨#[]⟩) := by rw [new_off K3.out]; rfl
  have r1 : W3.cell? ⟨w.heap.size, 1, none⟩ = some (.bool false) := by rw [new_off K3.out]; rfl
  have f0 := Lib.frozen_of_heap K3.out 0
  have f1 := Lib.frozen_of_heap K3.out 1
  go_quiet (fail)
  go_wp2_with fail
  refine ret_found Tryz.results36 rfl (found_set (show (W3.drewN _).heap[w.heap.size]? = _ from K3.out) _ _) rfl ?_
  rw [← HMA.out, ← HMB.out]
  exact RetO.live HLW.out (HX3.out.drewN _) (HL3.out.ext ((Ext.refl W3).drewN _)).toO (by rw [HMA.out]; exact HZ1.out) _ _
end Go.Proofs.YtkeaoejgboefbaaGreatDoor

/- run.get: a first computation. -/
namespace Go.Proofs.YtkeaoejgboefbaaGreatDoor
open Go.RowKit Go.Maps

/-- The result lies in its cell; the name is closed ahead of it. -/
theorem ret_drop {R : Ending → World → Prop} {a : Act} {w : World} {g ob : Nat} {x y : Value} {n : ByteArray} {f : FnV} (hp : a.tmps.getD 4 undef = .pointer (some ⟨g, 0, none⟩)) (hd : a.defers = [{ target := Target.builtin Builtin.delete #[91, 9] 0 #[false, false], args := #[Value.map (some ob), Value.string n] }])
    (hg : w.heap[g]? = some (.cells #[x, y] 86 (0, 0))) (hne : g ≠ ob) (hm : MapF Tryz.prog w ob f) (hn : n.size ≤ 9223372036854775807) (hR : ∀ w', MapF Tryz.prog w' ob (putF f n none) → w.mapTurned w' ob → R (.returned (.agg #[x, y])) w') : bodyPostB Tryz.prog Tryz.f36 R .ret a w := by
  obtain ⟨w', hrun, hm', ht⟩ := hm.drop Tryz.underlying9 Tryz.underlying91 hn 0
  have hg' : w'.heap[g]? = some (.cells #[x, y] 86 (0, 0)) := (ht.grown.block g (Array.getElem?_eq_some_iff.1 hg).1 fun e => hne (Option.some.inj e)).trans hg
  show LeavesB Tryz.prog Tryz.f36 a.tmps R a.defers w
  rw [hd]
  refine ⟨⟨_, _, _, _, rfl⟩, .tuple #[], w', ?_, .agg #[x, y], results_cell_row Tryz.results36 a.tmps w' g 86 #[x, y] (0, 0) _ hp hg' Tryz.underlying86 rfl info81, hR w' hm' ht⟩
  simp [invoke, builtin, hrun]
theorem openF_dom (opn : List ByteArray) : ∀ x, openF opn x ≠ none → x ∈ opn := fun x hx => by
  unfold openF at hx
  by_cases h : E.has opn x = true
  · exact E.has_iff.1 h
  · rw [if_neg h] at hx; exact absurd rfl hx
set_option maxRecDepth 100000 in
set_option maxHeartbeats 4000000 in
theorem get_new {w : World} {S : Nat → Prop} {g bc bi br rb ob C : Nat} {e : E.En} {opn : List ByteArray} {st : E.St} (hL : Live w S g bc bi br rb ob C { e with st := st } opn) {n : ByteArray} (hn : n.size ≤ 9223372036854775807) {c : E.Cell} (hc : E.findC e.cells n = some c) (hi : E.isIn c = false) (hop2 : E.has opn n = false) (hol : opn.length ≤ 3000) (hm : st.ms n = none) {R : Except Int (E.V × E.St)} (hcomp : ∀ (W : World) (A : Option Addr) (k : Nat), Live W S g bc bi br rb ob C { e with st := st } (n :: opn) → SliceAt strR W S A k c.2.2.1 → Calls Tryz.prog 53 #[.pointer (some ⟨rb, 0, none⟩), cellV c A k] W (RetO W S g bc bi br rb ob e (n :: opn) R)) :
    Calls Tryz.prog 36 #[.pointer (some ⟨rb, 0, none⟩), .string n] w (RetO w S g bc bi br rb ob e opn (R)) := by
  obtain ⟨l1, l2, l3, l4, l5⟩ := hL.low
  have HLW := Lib.hid (And.intro l1 (And.intro l2 (And.intro l3 (And.intro l4 l5))))
  obtain ⟨f, hmc, hci⟩ := hL.eng.cells
  obtain ⟨W1, hW1⟩ : ∃ W1, W1 = w.alloc (.cells #[.string ⟨#[]⟩, .bool false] 86) := ⟨_, rfl⟩
  have X1 : Ext w W1 := by rw [hW1]; exact (Ext.refl w).alloc _
  have H1 : Hid (W1.heap[w.heap.size]? = some (.cells #[.string ⟨#[]⟩, .bool false] 86)) := Lib.hid (by rw [hW1]; exact heap_alloc_new w _)
  have L1 := hL.ext X1
  have a0 := L1.run.c0
  have a1 := L1.eng.row.c0
  have hl := (hmc.ext X1).look Tryz.underlying9 Tryz.underlying76 (zv32 W1) hn
  have h2 := hci n
  obtain ⟨fm, hmm, hmi⟩ := hL.eng.results
  have h3 := hmi n
  replace h3 : match st.ms n with
    | none => fm n = none
    | some m => (m.res.getD ⟨#[]⟩).size ≤ 65536 ∧ m.reads.length ≤ 100 ∧ m.at' < 4000000000000000000 ∧ ∃ A k, fm n = some (memoV m A k) ∧ SliceAt readR w S A k m.reads := h3
  rw [hm] at h3
  have HLL := Lib.hid hL
  have HM0 := Lib.hid hm
  have HCO := Lib.hid hcomp
  have hc' : E.findC ({ e with st := st } : E.En).cells n = some c := hc
  rw [hc'] at h2
  obtain ⟨hcn, hwf, htx, har, A, k, hfn, hsl⟩ := h2
  rw [hfn] at hl
  replace hl : (Instr.lookup 76 (.map (some bc)) (.string n) true).run Tryz.prog W1 = .ok (.tuple #[.agg #[.string c.1, .int .i64 c.2.1, .slice A c.2.2.1.length k, .string c.2.2.2], .bool true]) W1 := hl
  have HSL := Lib.hid hsl
  have HCN := Lib.hid hcn
  clear hc' hfn hsl hwf htx har hcn
  have hop : c.2.1 ≠ 1 := by simpa [E.isIn] using hi
  have hop1 : (c.2.1 == 1) = false := by rw [beq_eq_false_iff_ne]; exact hop
  clear hi hop hc
  have hlm := (hmm.ext X1).ext ((Ext.refl W1).alloc (.cells #[.string c.1, .int .i64 c.2.1, .slice A c.2.2.1.length k, .string c.2.2.2] 50))
  clear hcomp
  have HSZ : Hid (W1.heap.size = w.heap.size + 1) := Lib.hid (by rw [hW1]; simp)
  have HX1 := Lib.hid X1
  have HL1 := Lib.hid L1
  clear hL hmc hci X1 L1 l1 l2 l3 l4 l5
  refine calls_of_wp_defersB Tryz.func36 rfl ?_
  simp only [Tryz.ntmps36, List.size_toArray, List.length_cons, List.length_nil, Nat.reduceAdd, Nat.reduceSub, Array.replicate_succ,
     Array.replicate_zero, List.push_toArray, List.append_toArray, List.nil_append, List.cons_append]
  go_upto_region 1 with (fail)
  rw [← hW1]
  clear hW1
  go_upto_region 2 with (fail)
  obtain ⟨W2, hW2⟩ : ∃ W2, W2 = W1.alloc (.cells #[.string c.1, .int .i64 c.2.1, .slice A c.2.2.1.length k, .string c.2.2.2] 50) := ⟨_, rfl⟩
  rw [← hW2]
  have X2 : Ext W1 W2 := by rw [hW2]; exact (Ext.refl W1).alloc _
  have K1 : Hid (W2.heap[w.heap.size]? = some (.cells #[.string ⟨#[]⟩, .bool false] 86)) := Lib.hid ((X2.block _ (Array.getElem?_eq_some_iff.1 H1.out).1).trans H1.out)
  have K2 : Hid (W2.heap[W1.heap.size]? = some (.cells #[.string c.1, .int .i64 c.2.1, .slice A c.2.2.1.length k, .string c.2.2.2] 50)) := Lib.hid (by rw [hW2]; exact heap_alloc_new W1 _)
  have HX2 := Lib.hid (HX1.out.trans X2)
  have HL2 := Lib.hid (HL1.out.ext X2)
  have b2 := HL2.out.run.c2
  rw [← hW2] at hlm
  have hlm := hlm.look Tryz.underlying9 Tryz.underlying77 (zv84 W2) hn
  rw [h3] at hlm
  replace hlm : (Instr.lookup 77 (.map (some br)) (.string n) true).run Tryz.prog W2 = .ok (.tuple #[.agg #[.string ⟨#[]⟩, .bool false, .slice none 0 0, .int .i64 0], .bool false]) W2 := hlm
  clear hW2 X2 a0 a1 hl HL1 HX1 H1
  have o1 := HL2.out.run.c1
  have hlo := HL2.out.opens.look1 (t := 91) Tryz.underlying9 Tryz.underlying91 (zv4 W2) hn
  replace hlo : (Instr.lookup 91 (.map (some ob)) (.string n) false).run Tryz.prog W2 = .ok (.bool false) W2 := by rw [hlo]; unfold openF; rw [hop2]; rfl
  have d1 : W2.cell? ⟨W1.heap.size, 1, none⟩ = some (.int .i64 c.2.1) := by rw [new_off K2.out]; rfl
  have HOP2 := Lib.hid hop2
  clear hop2
  have a0 := HL2.out.run.c0
  have a2 := HL2.out.eng.row.c2
  clear hmi h3 hm hmm
  go_upto_region 11 with (fail)
  obtain ⟨W3, hW3⟩ : ∃ W3, W3 = W2.alloc (.cells #[.string ⟨#[]⟩, .bool false, .slice none 0 0, .int .i64 0] 89) := ⟨_, rfl⟩
  rw [← hW3]
  have X3 : Ext W2 W3 := by rw [hW3]; exact (Ext.refl W2).alloc _
  clear hW3 a0 a2 b2 o1 hlo hlm d1
  go_quiet (fail)
  obtain ⟨W4, hW4⟩ : ∃ W4, W4 = W3.drewN nq := ⟨_, rfl⟩
  rw [← hW4]
  have X4 : Ext W2 W4 := by rw [hW4]; exact X3.drewN nq
  have K4 : Hid (W4.heap[w.heap.size]? = some (.cells #[.string ⟨#[]⟩, .bool false] 86)) := Lib.hid ((X4.block _ (Array.getElem?_eq_some_iff.1 K1.out).1).trans K1.out)
  have K5 := Lib.hid ((X4.block _ (Array.getElem?_eq_some_iff.1 K2.out).1).trans K2.out)
  have HX4 := Lib.hid (HX2.out.trans X4)
  have HL4 := Lib.hid (HL2.out.ext X4)
  clear X3 X4 hW4
  have p1 := HL4.out.run.c1
  go_wp2_with (refine wpList_mapF_put (b := ob) HL4.out.opens Tryz.underlying9 opn (openF_dom opn) (by omega) rfl _ _ _ _ 4 rfl Tryz.underlying91 rfl n (.bool true) rfl rfl hn ?_)
  intro W5 hm5 ht5
  have L5 := HL4.out.opened hm5 ht5 (fun m hm => by rw [HM0.out] at hm; cases hm)
  have T5 : Tch (fun k => k = ob) W4 W5 := (Tch.refl _ W4).grown ht5.grown fun i hi _ => (Option.some.inj hi).symm
  have hob := HLW.out.1 ob (.inr (.inr (.inr rfl)))
  have K6 : Hid (W5.heap[w.heap.size]? = some (.cells #[.string ⟨#[]⟩, .bool false] 86)) := Lib.hid ((T5.block _ (Array.getElem?_eq_some_iff.1 K4.out).1 (by omega)).trans K4.out)
  have K7 := Lib.hid ((T5.block _ (Array.getElem?_eq_some_iff.1 K5.out).1 (by have := HSZ.out; omega)).trans K5.out)
  have HT5 : Hid (Tch (Mv g br rb ob) w W5) := Lib.hid ((HX4.out.tch _).trans (T5.mono fun k _ hk => .inr (.inr (.inr hk))))
  have hS : SliceAt strR W5 S A k c.2.2.1 := HSL.out.tch HT5.out fun k hk => HLL.out.mv hk
  have HC5 : Hid (Calls Tryz.prog 53 #[.pointer (some ⟨rb, 0, none⟩), .agg #[.string c.1, .int .i64 c.2.1, .slice A c.2.2.1.length k, .string c.2.2.2]] W5 (RetO W5 S g bc bi br rb ob e (n :: opn) R)) := Lib.hid (HCO.out W5 A k L5 hS)
  have HL5 := Lib.hid L5
  have q0 : W5.cell? ⟨W1.heap.size, 0, none⟩ = some (.string c.1) := by rw [new_off K7.out]; rfl
  have q1 : W5.cell? ⟨W1.heap.size, 1, none⟩ = some (.int .i64 c.2.1) := by rw [new_off K7.out]; rfl
  have q2 : W5.cell? ⟨W1.heap.size, 2, none⟩ = some (.slice A c.2.2.1.length k) := by rw [new_off K7.out]; rfl
  have q3 : W5.cell? ⟨W1.heap.size, 3, none⟩ = some (.string c.2.2.2) := by rw [new_off K7.out]; rfl
  have u1 := L5.run.c1
  have u2 := L5.run.c2
  clear hm5 ht5 L5 T5 hob hS p1
  go_wp2_with fail
  refine HC5.out.mono ?_
  rintro ed w6 ⟨t6, hr⟩
  have HT6 := Lib.hid t6
  have K8 : Hid (w6.heap[w.heap.size]? = some (.cells #[.string ⟨#[]⟩, .bool false] 86)) := Lib.hid ((t6.block _ (Array.getElem?_eq_some_iff.1 K6.out).1 (fun e => by have := HLW.out.1 _ e; omega)).trans K6.out)
  have r0 : w6.cell? ⟨w.heap.size, 0, none⟩ = some (.string ⟨#[]⟩) := by rw [new_off K8.out]; rfl
  have r1 : w6.cell? ⟨w.heap.size, 1, none⟩ = some (.bool false) := by rw [new_off K8.out]; rfl
  have f0 := Lib.frozen_of_heap K8.out 0
  have f1 := Lib.frozen_of_heap K8.out 1
  clear t6 q0 q1 q2 q3 u1 u2
  cases R with
  | ok p =>
    obtain ⟨v, st'⟩ := p
    obtain ⟨rfl, hz, S', hl6, hs1, hs2⟩ := hr
    have hfv : foundV v = .agg #[.string (v.getD ⟨#[]⟩), .bool v.isSome] := rfl
    rw [hfv]
    generalize hva : v.getD ⟨#[]⟩ = va at *
    generalize hvb : v.isSome = vb at *
    clear hfv
    have HVA := Lib.hid hva
    have HVB := Lib.hid hvb
    clear hva hvb
    have HO6 := Lib.hid hl6
    have HS1' := Lib.hid (And.intro hs1 hs2)
    have HZ := Lib.hid hz
    clear hl6 hs1 hs2 hz
    go_wp2_with fail
    have hY : Tch (fun k => k = w.heap.size) w6 ((w6.setCell ⟨w.heap.size, 0, none⟩ (.string va)).setCell ⟨w.heap.size, 1, none⟩ (.bool vb)) := ((Tch.refl (fun k => k = w.heap.size) w6).setCell (p := ⟨w.heap.size, 0, none⟩) (fun _ => rfl) _).setCell (p := ⟨w.heap.size, 1, none⟩) (fun _ => rfl) _
    obtain ⟨l1, l2, l3, l4, l5⟩ := HLW.out
    have hob := l1 ob (.inr (.inr (.inr rfl)))
    have h5s := (Array.getElem?_eq_some_iff.1 K6.out).1
    have hl7 := HO6.out.tch hY fun k hk => by
      subst hk
      refine ⟨fun e => by have := l1 _ e; omega, by omega, by omega, fun e => ?_, fun e => by have := l4 _ e; omega⟩
      rcases HS1'.out.2 _ e with e | e
      · have := l5 _ e; omega
      · omega
    refine ret_drop rfl rfl (found_set K8.out _ _) (by omega) hl7.opens hn fun w8 hm8 ht8 => ?_
    have hl8 := hl7.closed hm8 ht8 HOP2.out
    have T8 : Tch (fun k => k = ob) _ w8 := (Tch.refl _ _).grown ht8.grown fun i hi _ => (Option.some.inj hi).symm
    refine ⟨((HT5.out.trans HT6.out).trans' hY fun i hi e => by omega).trans (T8.mono fun k _ hk => .inr (.inr (.inr hk))), by rw [← HVA.out, ← HVB.out]; rfl, by rw [HVA.out]; exact HZ.out, S', hl8, HS1'.out.1, fun k hk => ?_⟩
    rcases HS1'.out.2 k hk with h | h
    · exact .inl h
    · exact .inr (by omega)
  | error x =>
    obtain ⟨rfl, hx0, hd⟩ := hr
    rw [foundV_none]
    have HD := Lib.hid hd
    have HX0 := Lib.hid hx0
    clear hd hx0
    go_wp2_with fail
    have hY : Tch (fun k => k = w.heap.size) w6 ((w6.setCell ⟨w.heap.size, 0, none⟩ (.string ⟨#[]⟩)).setCell ⟨w.heap.size, 1, none⟩ (.bool false)) := ((Tch.refl (fun k => k = w.heap.size) w6).setCell (p := ⟨w.heap.size, 0, none⟩) (fun _ => rfl) _).setCell (p := ⟨w.heap.size, 1, none⟩) (fun _ => rfl) _
    obtain ⟨l1, l2, l3, l4, l5⟩ := HLW.out
    have hob := l1 ob (.inr (.inr (.inr rfl)))
    have hd7 := HD.out.tch hY fun k hk e => by have := l1 k e; omega
    obtain ⟨f7, hm7⟩ := hd7.opens
    refine ret_drop rfl rfl (found_set K8.out _ _) (by omega) hm7 hn fun w8 hm8 ht8 => ?_
    have T8 : Tch (fun k => k = ob) _ w8 := (Tch.refl _ _).grown ht8.grown fun i hi _ => (Option.some.inj hi).symm
    exact ⟨((HT5.out.trans HT6.out).trans' hY fun i hi e => by omega).trans (T8.mono fun k _ hk => .inr (.inr (.inr hk))), rfl, HX0.out, hd7.closed hm8 ht8 HLL.out.apart.2.2.2.2.2.1 HLL.out.apart.2.2.2.2.2.2.2.2.2.2⟩
end Go.Proofs.YtkeaoejgboefbaaGreatDoor

/- run.get: an older memo. -/
namespace Go.Proofs.YtkeaoejgboefbaaGreatDoor
open Go.RowKit Go.Maps

set_option maxRecDepth 100000 in
set_option maxHeartbeats 4000000 in
theorem get_old {w : World} {S : Nat → Prop} {g bc bi br rb ob C : Nat} {e : E.En} {opn : List ByteArray} {st : E.St} (hL : Live w S g bc bi br rb ob C { e with st := st } opn) {n : ByteArray} (hn : n.size ≤ 9223372036854775807) {c : E.Cell} (hc : E.findC e.cells n = some c) (hf : E.formedB c = true) (hi : E.isIn c = false) (hop2 : E.has opn n = false) (hol : opn.length ≤ 3000) {m : E.Memo} (hm : st.ms n = some m) (hat : m.at' ≠ e.rev) {get : E.St → E.Nm → Except Int (E.V × E.St)} (hget : GetIs g bc bi br rb ob C e (n :: opn) get) (hC : C ≤ 4000000000000000000) (hfew : e.cells.length ≤ 1000) (hrev : e.rev < 4000000000000000000) :
    Calls Tryz.prog 36 #[.pointer (some ⟨rb, 0, none⟩), .string n] w (RetO w S g bc bi br rb ob e opn (match E.staleP get m.reads st with | .error x => .error x | .ok (false, S') => .ok (m.res, ⟨E.put S'.ms n ⟨m.res, m.reads, e.rev⟩, S'.cnt⟩) | .ok (true, S') => E.comp e.rev E.form get S' n c)) := by
  obtain ⟨l1, l2, l3, l4, l5⟩ := hL.low
  have HLW := Lib.hid (And.intro l1 (And.intro l2 (And.intro l3 (And.intro l4 l5))))
  obtain ⟨f, hmc, hci⟩ := hL.eng.cells
  obtain ⟨W1, hW1⟩ : ∃ W1, W1 = w.alloc (.cells #[.string ⟨#[]⟩, .bool false] 86) := ⟨_, rfl⟩
  have X1 : Ext w W1 := by rw [hW1]; exact (Ext.refl w).alloc _
  have H1 : Hid (W1.heap[w.heap.size]? = some (.cells #[.string ⟨#[]⟩, .bool false] 86)) := Lib.hid (by rw [hW1]; exact heap_alloc_new w _)
  have L1 := hL.ext X1
  have a0 := L1.run.c0
  have a1 := L1.eng.row.c0
  have hl := (hmc.ext X1).look Tryz.underlying9 Tryz.underlying76 (zv32 W1) hn
  have h2 := hci n
  obtain ⟨fm, hmm, hmi⟩ := hL.eng.results
  obtain ⟨R, hR⟩ : ∃ R : Except Int (E.V × E.St), R = (match E.staleP get m.reads st with | .error x => .error x | .ok (false, S') => .ok (m.res, ⟨E.put S'.ms n ⟨m.res, m.reads, e.rev⟩, S'.cnt⟩) | .ok (true, S') => E.comp e.rev E.form get S' n c) := ⟨_, rfl⟩
  rw [← hR]
  have HR := Lib.hid hR
  clear hR
  have h3 := hmi n
  replace h3 : match st.ms n with
    | none => fm n = none
    | some m => (m.res.getD ⟨#[]⟩).size ≤ 65536 ∧ m.reads.length ≤ 100 ∧ m.at' < 4000000000000000000 ∧ ∃ A k, fm n = some (memoV m A k) ∧ SliceAt readR w S A k m.reads := h3
  rw [hm] at h3
  obtain ⟨z1, z2, z3, A2, k2, hfm, hsm⟩ := h3
  have HZ1 := Lib.hid z1
  have HSM := Lib.hid hsm
  have HLL := Lib.hid hL
  have HM0 := Lib.hid hm
  have HF := Lib.hid hf
  have HII := Lib.hid hi
  have hc' : E.findC ({ e with st := st } : E.En).cells n = some c := hc
  rw [hc'] at h2
  obtain ⟨hcn, hwf, htx, har, A, k, hfn, hsl⟩ := h2
  rw [hfn] at hl
  replace hl : (Instr.lookup 76 (.map (some bc)) (.string n) true).run Tryz.prog W1 = .ok (.tuple #[.agg #[.string c.1, .int .i64 c.2.1, .slice A c.2.2.1.length k, .string c.2.2.2], .bool true]) W1 := hl
  have HSL := Lib.hid hsl
  have HCN := Lib.hid hcn
  clear hc' hfn hsl hwf htx har hcn
  have hop : c.2.1 ≠ 1 := by simpa [E.isIn] using hi
  have hop1 : (c.2.1 == 1) = false := by rw [beq_eq_false_iff_ne]; exact hop
  clear hi hop hc
  have hlm := (hmm.ext X1).ext ((Ext.refl W1).alloc (.cells #[.string c.1, .int .i64 c.2.1, .slice A c.2.2.1.length k, .string c.2.2.2] 50))
  clear hf
  have HSZ : Hid (W1.heap.size = w.heap.size + 1) := Lib.hid (by rw [hW1]; simp)
  have HX1 := Lib.hid X1
  have HL1 := Lib.hid L1
  clear hL hmc hci X1 L1 l1 l2 l3 l4 l5
  refine calls_of_wp_defersB Tryz.func36 rfl ?_
  simp only [Tryz.ntmps36, List.size_toArray, List.length_cons, List.length_nil, Nat.reduceAdd, Nat.reduceSub, Array.replicate_succ,
     Array.replicate_zero, List.push_toArray, List.append_toArray, List.nil_append, List.cons_append]
  go_upto_region 1 with (fail)
  rw [← hW1]
  clear hW1
  go_upto_region 2 with (fail)
  obtain ⟨W2, hW2⟩ : ∃ W2, W2 = W1.alloc (.cells #[.string c.1, .int .i64 c.2.1, .slice A c.2.2.1.length k, .string c.2.2.2] 50) := ⟨_, rfl⟩
  rw [← hW2]
  have X2 : Ext W1 W2 := by rw [hW2]; exact (Ext.refl W1).alloc _
  have K1 : Hid (W2.heap[w.heap.size]? = some (.cells #[.string ⟨#[]⟩, .bool false] 86)) := Lib.hid ((X2.block _ (Array.getElem?_eq_some_iff.1 H1.out).1).trans H1.out)
  have K2 : Hid (W2.heap[W1.heap.size]? = some (.cells #[.string c.1, .int .i64 c.2.1, .slice A c.2.2.1.length k, .string c.2.2.2] 50)) := Lib.hid (by rw [hW2]; exact heap_alloc_new W1 _)
  have HX2 := Lib.hid (HX1.out.trans X2)
  have HL2 := Lib.hid (HL1.out.ext X2)
  have b2 := HL2.out.run.c2
  rw [← hW2] at hlm
  have hlm := hlm.look Tryz.underlying9 Tryz.underlying77 (zv84 W2) hn
  rw [hfm] at hlm
  replace hlm : (Instr.lookup 77 (.map (some br)) (.string n) true).run Tryz.prog W2 = .ok (.tuple #[.agg #[.string (m.res.getD ⟨#[]⟩), .bool m.res.isSome, .slice A2 m.reads.length k2, .int .i64 m.at'], .bool true]) W2 := hlm
  clear hW2 X2 a0 a1 hl HL1 HX1 H1
  have o1 := HL2.out.run.c1
  have hlo := HL2.out.opens.look1 (t := 91) Tryz.underlying9 Tryz.underlying91 (zv4 W2) hn
  replace hlo : (Instr.lookup 91 (.map (some ob)) (.string n) false).run Tryz.prog W2 = .ok (.bool false) W2 := by rw [hlo]; unfold openF; rw [hop2]; rfl
  have d1 : W2.cell? ⟨W1.heap.size, 1, none⟩ = some (.int .i64 c.2.1) := by rw [new_off K2.out]; rfl
  have HOP2 := Lib.hid hop2
  clear hop2
  have a0 := HL2.out.run.c0
  have a2 := HL2.out.eng.row.c2
  clear hmi hfm hsm hm z1 hmm
  have HAT := Lib.hid hat
  generalize hma : m.res.getD ⟨#[]⟩ = ma at *
  generalize hmb : m.res.isSome = mb at *
  have HMA := Lib.hid hma
  have HMB := Lib.hid hmb
  clear hma hmb
  have hrevz : ((m.at' : Int) == (e.rev : Int)) = false := by rw [beq_eq_false_iff_ne]; intro e; exact HAT.out (Int.ofNat.inj e)
  generalize hri : (m.at' : Int) = ri at *
  clear hat hri
  go_upto_region 11 with (fail)
  obtain ⟨W3, hW3⟩ : ∃ W3, W3 = W2.alloc (.cells #[.string ma, .bool mb, .slice A2 m.reads.length k2, .int .i64 ri] 89) := ⟨_, rfl⟩
  rw [← hW3]
  have X3 : Ext W2 W3 := by rw [hW3]; exact (Ext.refl W2).alloc _
  have K9 : W3.heap[W2.heap.size]? = some (.cells #[.string ma, .bool mb, .slice A2 m.reads.length k2, .int .i64 ri] 89 (0, 0)) := by rw [hW3]; exact heap_alloc_new W2 _
  have HL3 := Lib.hid (HL2.out.ext X3)
  have q3 : W3.cell? ⟨W2.heap.size, 3, none⟩ = some (.int .i64 ri) := by rw [new_off K9]; rfl
  have p0 := HL3.out.run.c0
  have p3 := HL3.out.eng.row.c3
  clear hW3 a0 a2 b2 o1 hlo hlm d1
  go_quiet (fail)
  clear hrevz q3 p0 p3
  obtain ⟨W4, hW4⟩ : ∃ W4, W4 = W3.drewN nq := ⟨_, rfl⟩
  rw [← hW4]
  have X4 : Ext W2 W4 := by rw [hW4]; exact X3.drewN nq
  have K4 : Hid (W4.heap[w.heap.size]? = some (.cells #[.string ⟨#[]⟩, .bool false] 86)) := Lib.hid ((X4.block _ (Array.getElem?_eq_some_iff.1 K1.out).1).trans K1.out)
  have K5 := Lib.hid ((X4.block _ (Array.getElem?_eq_some_iff.1 K2.out).1).trans K2.out)
  have K9' : Hid (W4.heap[W2.heap.size]? = some (.cells #[.string ma, .bool mb, .slice A2 m.reads.length k2, .int .i64 ri] 89 (0, 0))) := Lib.hid (by rw [hW4]; exact K9)
  have HX4 := Lib.hid (HX2.out.trans X4)
  have HL4 := Lib.hid (HL2.out.ext X4)
  have h12 : w.heap.size + 1 ≤ W2.heap.size := (Array.getElem?_eq_some_iff.1 K1.out).1
  have h11 : W1.heap.size < W2.heap.size := (Array.getElem?_eq_some_iff.1 K2.out).1
  have H12 := Lib.hid h12
  have H11 := Lib.hid h11
  clear X3 X4 hW4 K9 h12 h11 HL3 K1 K2
  have p1 := HL4.out.run.c1
  go_wp2_with (refine wpList_mapF_put (b := ob) HL4.out.opens Tryz.underlying9 opn (openF_dom opn) (by omega) rfl _ _ _ _ 4 rfl Tryz.underlying91 rfl n (.bool true) rfl rfl hn ?_)
  intro W5 hm5 ht5
  have L5 := HL4.out.opened hm5 ht5 (fun m' hm' => by rw [HM0.out] at hm'; cases hm'; exact HAT.out)
  have T5 : Tch (fun k => k = ob) W4 W5 := (Tch.refl _ W4).grown ht5.grown fun i hi _ => (Option.some.inj hi).symm
  have hob := HLW.out.1 ob (.inr (.inr (.inr rfl)))
  have hsz := HSZ.out
  have h12 := H12.out
  have K6 : Hid (W5.heap[w.heap.size]? = some (.cells #[.string ⟨#[]⟩, .bool false] 86)) := Lib.hid ((T5.block _ (Array.getElem?_eq_some_iff.1 K4.out).1 (by omega)).trans K4.out)
  have K7 := Lib.hid ((T5.block _ (Array.getElem?_eq_some_iff.1 K5.out).1 (by omega)).trans K5.out)
  have KA := Lib.hid ((T5.block _ (Array.getElem?_eq_some_iff.1 K9'.out).1 (by omega)).trans K9'.out)
  have HT5 : Hid (Tch (Mv g br rb ob) w W5) := Lib.hid ((HX4.out.tch _).trans (T5.mono fun k _ hk => .inr (.inr (.inr hk))))
  have hS : SliceAt readR W5 S A2 k2 m.reads := HSM.out.tch HT5.out fun k hk => HLL.out.mv hk
  have HST := Lib.hid (stale_any hget L5 hS rfl z2 ma mb ri)
  have HL5 := Lib.hid L5
  have q0 : W5.cell? ⟨W2.heap.size, 0, none⟩ = some (.string ma) := by rw [new_off KA.out]; rfl
  have q1 : W5.cell? ⟨W2.heap.size, 1, none⟩ = some (.bool mb) := by rw [new_off KA.out]; rfl
  have q2 : W5.cell? ⟨W2.heap.size, 2, none⟩ = some (.slice A2 m.reads.length k2) := by rw [new_off KA.out]; rfl
  have q3 : W5.cell? ⟨W2.heap.size, 3, none⟩ = some (.int .i64 ri) := by rw [new_off KA.out]; rfl
  have u1 := L5.run.c1
  clear hm5 ht5 L5 T5 hob hS p1 hsz h12 K4 K5 K9'
  go_wp2_with fail
  refine HST.out.mono ?_
  rintro ed w6 ⟨t6, hr⟩
  have hsz := HSZ.out
  have h12 := H12.out
  have hnm : ∀ i, w.heap.size ≤ i → ¬ Mv g br rb ob i := fun i hi e => by have := HLW.out.1 _ e; omega
  have K8 : Hid (w6.heap[w.heap.size]? = some (.cells #[.string ⟨#[]⟩, .bool false] 86)) := Lib.hid ((t6.block _ (Array.getElem?_eq_some_iff.1 K6.out).1 (hnm _ (Nat.le_refl _))).trans K6.out)
  have KC := Lib.hid ((t6.block _ (Array.getElem?_eq_some_iff.1 K7.out).1 (hnm _ (by omega))).trans K7.out)
  have KO := Lib.hid ((t6.block _ (Array.getElem?_eq_some_iff.1 KA.out).1 (hnm _ (by omega))).trans KA.out)
  have HT6 : Hid (Tch (Mv g br rb ob) w w6) := Lib.hid (HT5.out.trans t6)
  have h5s : w.heap.size + 1 ≤ W5.heap.size := (Array.getElem?_eq_some_iff.1 K6.out).1
  have H5S := Lib.hid h5s
  have H25 : Hid (W2.heap.size < W5.heap.size) := Lib.hid (Array.getElem?_eq_some_iff.1 KA.out).1
  have H6S : Hid (w.heap.size + 1 ≤ w6.heap.size) := Lib.hid (Nat.le_trans h5s t6.size)
  clear hsz h12 hnm t6 q0 q1 q2 q3 u1 K6 K7 KA h5s
  cases hq : E.staleP get m.reads st with
  | error x =>
    rw [hq] at hr HR
    obtain ⟨rfl, hx0, hd⟩ := hr
    have HE : Hid (R = .error x) := HR
    have r0 : w6.cell? ⟨w.heap.size, 0, none⟩ = some (.string ⟨#[]⟩) := by rw [new_off K8.out]; rfl
    have r1 : w6.cell? ⟨w.heap.size, 1, none⟩ = some (.bool false) := by rw [new_off K8.out]; rfl
    have f0 := Lib.frozen_of_heap K8.out 0
    have f1 := Lib.frozen_of_heap K8.out 1
    have HD := Lib.hid hd
    have HX0 := Lib.hid hx0
    have hx1 : (x == 0) = false := by rw [beq_eq_false_iff_ne]; exact hx0
    have u2 := HD.out.run.c2
    clear hd hx0 hq HR
    go_wp2_with fail
    have hY : Tch (fun k => k = w.heap.size) w6 ((w6.setCell ⟨w.heap.size, 0, none⟩ (.string ⟨#[]⟩)).setCell ⟨w.heap.size, 1, none⟩ (.bool false)) := ((Tch.refl (fun k => k = w.heap.size) w6).setCell (p := ⟨w.heap.size, 0, none⟩) (fun _ => rfl) _).setCell (p := ⟨w.heap.size, 1, none⟩) (fun _ => rfl) _
    obtain ⟨l1, l2, l3, l4, l5⟩ := HLW.out
    have hob := l1 ob (.inr (.inr (.inr rfl)))
    have hd7 := HD.out.tch hY fun k hk e => by have := l1 k e; omega
    obtain ⟨f7, hm7⟩ := hd7.opens
    refine ret_drop rfl rfl (found_set K8.out _ _) (by omega) hm7 hn fun w8 hm8 ht8 => ?_
    have T8 : Tch (fun k => k = ob) _ w8 := (Tch.refl _ _).grown ht8.grown fun i hi _ => (Option.some.inj hi).symm
    rw [HE.out]
    exact ⟨(HT6.out.trans' hY fun i hi e => by omega).trans (T8.mono fun k _ hk => .inr (.inr (.inr hk))), rfl, HX0.out, hd7.closed hm8 ht8 HLL.out.apart.2.2.2.2.2.1 HLL.out.apart.2.2.2.2.2.2.2.2.2.2⟩
  | ok p =>
    obtain ⟨b, st'⟩ := p
    rw [hq] at hr HR
    obtain ⟨rfl, S6, hlv, hs1, hs2⟩ := hr
    have HLV := Lib.hid hlv
    have HS : Hid ((∀ k, S k → S6 k) ∧ ∀ k, S6 k → S k ∨ w.heap.size + 1 ≤ k) := Lib.hid ⟨hs1, fun k hk => by rcases hs2 k hk with h | h; exact .inl h; exact .inr (Nat.le_trans H5S.out h)⟩
    have HS2 := Lib.hid hs2
    clear hlv hs1 hs2 hq
    cases b with
    | true =>
      replace HR : Hid (R = E.comp e.rev E.form get st' n c) := HR
      have u2 := HLV.out.run.c2
      have hsl : SliceAt strR w6 S6 A k c.2.2.1 := (HSL.out.tch HT6.out fun k hk => HLL.out.mv hk).keep HS.out.1 fun _ _ => rfl
      have HC6 : Hid (Calls Tryz.prog 53 #[.pointer (some ⟨rb, 0, none⟩), .agg #[.string c.1, .int .i64 c.2.1, .slice A c.2.2.1.length k, .string c.2.2.2]] w6 (RetO w6 S6 g bc bi br rb ob e (n :: opn) R)) := Lib.hid (by rw [HR.out]; exact compute_any hget HLV.out HCN.out HF.out HII.out hn hsl hC hfew hrev)
      have q0 : w6.cell? ⟨W1.heap.size, 0, none⟩ = some (.string c.1) := by rw [new_off KC.out]; rfl
      have q1 : w6.cell? ⟨W1.heap.size, 1, none⟩ = some (.int .i64 c.2.1) := by rw [new_off KC.out]; rfl
      have q2 : w6.cell? ⟨W1.heap.size, 2, none⟩ = some (.slice A c.2.2.1.length k) := by rw [new_off KC.out]; rfl
      have q3 : w6.cell? ⟨W1.heap.size, 3, none⟩ = some (.string c.2.2.2) := by rw [new_off KC.out]; rfl
      clear hsl
      go_wp2_with fail
      refine HC6.out.mono ?_
      rintro ed w7 ⟨t7, hr⟩
      have HT7 := Lib.hid (HT6.out.trans t7)
      have K9 : Hid (w7.heap[w.heap.size]? = some (.cells #[.string ⟨#[]⟩, .bool false] 86)) := Lib.hid ((t7.block _ (Array.getElem?_eq_some_iff.1 K8.out).1 (fun e => by have := HLW.out.1 _ e; omega)).trans K8.out)
      have r0 : w7.cell? ⟨w.heap.size, 0, none⟩ = some (.string ⟨#[]⟩) := by rw [new_off K9.out]; rfl
      have r1 : w7.cell? ⟨w.heap.size, 1, none⟩ = some (.bool false) := by rw [new_off K9.out]; rfl
      have f0 := Lib.frozen_of_heap K9.out 0
      have f1 := Lib.frozen_of_heap K9.out 1
      clear t7 q0 q1 q2 q3 u2 HC6
      cases R with
      | ok p =>
        obtain ⟨v, st2⟩ := p
        obtain ⟨rfl, hz, S', hl6, hs1, hs2⟩ := hr
        have hfv : foundV v = .agg #[.string (v.getD ⟨#[]⟩), .bool v.isSome] := rfl
        rw [hfv]
        generalize hva : v.getD ⟨#[]⟩ = va at *
        generalize hvb : v.isSome = vb at *
        clear hfv
        have HVA := Lib.hid hva
        have HVB := Lib.hid hvb
        clear hva hvb
        have HO6 := Lib.hid hl6
        have HS1' : Hid ((∀ k, S k → S' k) ∧ ∀ k, S' k → S k ∨ w.heap.size + 1 ≤ k) := Lib.hid ⟨fun k hk => hs1 k (HS.out.1 k hk), fun k hk => by rcases hs2 k hk with h | h; exact HS.out.2 k h; exact .inr (Nat.le_trans H6S.out h)⟩
        have HZ := Lib.hid hz
        clear hl6 hs1 hs2 hz
        go_wp2_with fail
        have hY : Tch (fun k => k = w.heap.size) w7 ((w7.setCell ⟨w.heap.size, 0, none⟩ (.string va)).setCell ⟨w.heap.size, 1, none⟩ (.bool vb)) := ((Tch.refl (fun k => k = w.heap.size) w7).setCell (p := ⟨w.heap.size, 0, none⟩) (fun _ => rfl) _).setCell (p := ⟨w.heap.size, 1, none⟩) (fun _ => rfl) _
        obtain ⟨l1, l2, l3, l4, l5⟩ := HLW.out
        have hob := l1 ob (.inr (.inr (.inr rfl)))
        have hl7 := HO6.out.tch hY fun k hk => by
          subst hk
          refine ⟨fun e => by have := l1 _ e; omega, by omega, by omega, fun e => ?_, fun e => by have := l4 _ e; omega⟩
          rcases HS1'.out.2 _ e with e | e
          · have := l5 _ e; omega
          · omega
        refine ret_drop rfl rfl (found_set K9.out _ _) (by omega) hl7.opens hn fun w8 hm8 ht8 => ?_
        have hl8 := hl7.closed hm8 ht8 HOP2.out
        have T8 : Tch (fun k => k = ob) _ w8 := (Tch.refl _ _).grown ht8.grown fun i hi _ => (Option.some.inj hi).symm
        refine ⟨(HT7.out.trans' hY fun i hi e => by omega).trans (T8.mono fun k _ hk => .inr (.inr (.inr hk))), by rw [← HVA.out, ← HVB.out]; rfl, by rw [HVA.out]; exact HZ.out, S', hl8, HS1'.out.1, fun k hk => ?_⟩
        rcases HS1'.out.2 k hk with h | h
        · exact .inl h
        · exact .inr (by omega)
      | error x =>
        obtain ⟨rfl, hx0, hd⟩ := hr
        rw [foundV_none]
        have HD := Lib.hid hd
        have HX0 := Lib.hid hx0
        clear hd hx0
        go_wp2_with fail
        have hY : Tch (fun k => k = w.heap.size) w7 ((w7.setCell ⟨w.heap.size, 0, none⟩ (.string ⟨#[]⟩)).setCell ⟨w.heap.size, 1, none⟩ (.bool false)) := ((Tch.refl (fun k => k = w.heap.size) w7).setCell (p := ⟨w.heap.size, 0, none⟩) (fun _ => rfl) _).setCell (p := ⟨w.heap.size, 1, none⟩) (fun _ => rfl) _
        obtain ⟨l1, l2, l3, l4, l5⟩ := HLW.out
        have hob := l1 ob (.inr (.inr (.inr rfl)))
        have hd7 := HD.out.tch hY fun k hk e => by have := l1 k e; omega
        obtain ⟨f7, hm7⟩ := hd7.opens
        refine ret_drop rfl rfl (found_set K9.out _ _) (by omega) hm7 hn fun w8 hm8 ht8 => ?_
        have T8 : Tch (fun k => k = ob) _ w8 := (Tch.refl _ _).grown ht8.grown fun i hi _ => (Option.some.inj hi).symm
        exact ⟨(HT7.out.trans' hY fun i hi e => by omega).trans (T8.mono fun k _ hk => .inr (.inr (.inr hk))), rfl, HX0.out, hd7.closed hm8 ht8 HLL.out.apart.2.2.2.2.2.1 HLL.out.apart.2.2.2.2.2.2.2.2.2.2⟩
    | false =>
      replace HR : Hid (R = .ok (m.res, ⟨E.put st'.ms n ⟨m.res, m.reads, e.rev⟩, st'.cnt⟩)) := HR
      have a0 := HLV.out.run.c0
      have a3 := HLV.out.eng.row.c3
      have q3 : w6.cell? ⟨W2.heap.size, 3, none⟩ = some (.int .i64 ri) := by rw [new_off KO.out]; rfl
      have fq := Lib.frozen_of_heap KO.out 3
      go_upto_region 17 with (fail)
      obtain ⟨W7, hW7⟩ : ∃ W7, W7 = w6.setCell ⟨W2.heap.size, 3, none⟩ (.int .i64 e.rev) := ⟨_, rfl⟩
      rw [← hW7]
      have T7 : Tch (fun k => k = W2.heap.size) w6 W7 := by rw [hW7]; exact (Tch.refl (fun k => k = W2.heap.size) w6).setCell (p := ⟨W2.heap.size, 3, none⟩) (fun _ => rfl) _
      have h12 := H12.out
      have M9 : Hid (W7.heap[W2.heap.size]? = some (.cells #[.string ma, .bool mb, .slice A2 m.reads.length k2, .int .i64 e.rev] 89 (0, 0))) := Lib.hid (by rw [hW7]; exact heap_setCell_cells KO.out 3 (.int .i64 e.rev))
      have M8 : Hid (W7.heap[w.heap.size]? = some (.cells #[.string ⟨#[]⟩, .bool false] 86 (0, 0))) := Lib.hid ((T7.block _ (Array.getElem?_eq_some_iff.1 K8.out).1 (by omega)).trans K8.out)
      have HL7 := Lib.hid (HLV.out.tch T7 fun k hk => by
        obtain ⟨l1, l2, l3, l4, l5⟩ := HLW.out
        subst hk
        refine ⟨fun e => by have := l1 _ e; omega, by omega, by omega, fun e => ?_, fun e => by have := l4 _ e; omega⟩
        rcases HS2.out _ e with e | e
        · have := l5 _ e; omega
        · have := H25.out; omega)
      have HT7 : Hid (Tch (Mv g br rb ob) w W7) := Lib.hid (HT6.out.trans' T7 fun i hi e => by omega)
      clear hW7 a0 a3 q3 fq T7 h12
      obtain ⟨xb, hxb⟩ : ∃ xb, xb = W2.heap.size := ⟨_, rfl⟩
      have HXB := Lib.hid hxb
      rw [← hxb] at M9 ⊢
      clear hxb
      obtain ⟨Φ, hΦ⟩ : ∃ Φ : World → Prop, ∀ w', Φ w' ↔ (w'.cell? ⟨rb, 0, none⟩ = some (.pointer (some ⟨g, 0, none⟩)) ∧ w'.cell? ⟨g, 2, none⟩ = some (.map (some br)) ∧ w'.cell? ⟨xb, 0, none⟩ = some (.string ma) ∧ w'.cell? ⟨xb, 1, none⟩ = some (.bool mb) ∧ w'.cell? ⟨xb, 2, none⟩ = some (.slice A2 m.reads.length k2) ∧ w'.cell? ⟨xb, 3, none⟩ = some (.int .i64 e.rev)) := ⟨_, fun _ => Iff.rfl⟩
      have h0 : Φ W7.drew := (hΦ _).2 ⟨HL7.out.run.c0, HL7.out.eng.row.c2, by show W7.cell? _ = _; rw [new_off M9.out]; rfl, by show W7.cell? _ = _; rw [new_off M9.out]; rfl, by show W7.cell? _ = _; rw [new_off M9.out]; rfl, by show W7.cell? _ = _; rw [new_off M9.out]; rfl⟩
      have fx0 : ∀ x : Lat Φ, x.w'.cell? ⟨rb, 0, none⟩ = some (.pointer (some ⟨g, 0, none⟩)) := fun x => ((hΦ _).1 x.h).1
      have fx1 : ∀ x : Lat Φ, x.w'.cell? ⟨g, 2, none⟩ = some (.map (some br)) := fun x => ((hΦ _).1 x.h).2.1
      have fx2 : ∀ x : Lat Φ, x.w'.cell? ⟨xb, 0, none⟩ = some (.string ma) := fun x => ((hΦ _).1 x.h).2.2.1
      have fx3 : ∀ x : Lat Φ, x.w'.cell? ⟨xb, 1, none⟩ = some (.bool mb) := fun x => ((hΦ _).1 x.h).2.2.2.1
      have fx4 : ∀ x : Lat Φ, x.w'.cell? ⟨xb, 2, none⟩ = some (.slice A2 m.reads.length k2) := fun x => ((hΦ _).1 x.h).2.2.2.2.1
      have fx5 : ∀ x : Lat Φ, x.w'.cell? ⟨xb, 3, none⟩ = some (.int .i64 e.rev) := fun x => ((hΦ _).1 x.h).2.2.2.2.2
      have hne1 := Lat.some h0
      clear hΦ
      refine wp_region_tail 9 [] Φ h0 (by kernel_rfl) (by kernel_rfl) (by kernel_rfl) ?_
      simp only [List.take_succ_cons, List.take_zero, List.drop_succ_cons, List.drop_zero]
      iterate 9 (refine lex_pure rfl rfl rfl ?_; intro K hK; go_big_quiet_op; go_big_quiet_on)
      refine lex_nil ?_
      clear fx0 fx1 fx2 fx3 fx4 fx5 hne1 h0
      obtain ⟨f7, hm7, hms7⟩ := HL7.out.eng.results
      obtain ⟨U, hI, hU⟩ := HL7.out.inv
      have HDOM := Lib.hid (memo_dom hms7 hI)
      have HMD : Hid (MapF Tryz.prog W7.drew br f7) := Lib.hid (hm7.ext (Ext.refl W7).drew)
      have HMS := Lib.hid hms7
      clear hm7 hms7 hI hU
      refine wpList_mapF_put (b := br) HMD.out Tryz.underlying9 (e.cells.map (·.1)) HDOM.out (by rw [List.length_map]; omega) rfl _ _ _ _ 89 rfl Tryz.underlying77 rfl n (.agg #[.string ma, .bool mb, .slice A2 m.reads.length k2, .int .i64 e.rev]) rfl rfl hn ?_
      intro W8 hm8 ht8
      have T8 : Tch (fun k => k = br) W7.drew W8 := (Tch.refl _ W7.drew).grown ht8.grown fun i hi _ => (Option.some.inj hi).symm
      have hbl := HLW.out.1 br (.inr (.inl rfl))
      have h12 := H12.out
      have hxb := HXB.out
      have N9 : Hid (W8.heap[xb]? = some (.cells #[.string ma, .bool mb, .slice A2 m.reads.length k2, .int .i64 e.rev] 89 (0, 0))) := Lib.hid ((T8.block xb (Array.getElem?_eq_some_iff.1 M9.out).1 (by omega)).trans M9.out)
      have N8 : Hid (W8.heap[w.heap.size]? = some (.cells #[.string ⟨#[]⟩, .bool false] 86 (0, 0))) := Lib.hid ((T8.block _ (Array.getElem?_eq_some_iff.1 M8.out).1 (by omega)).trans M8.out)
      have HT8 : Hid (Tch (fun k => k = g ∨ k = br) W7 W8) := Lib.hid ((((Ext.refl W7).drew.tch _).trans T8).mono fun _ _ h => .inr h)
      have HROW8 : Hid (Row W8 g bc bi br e.rev st'.cnt) := Lib.hid (HL7.out.eng.row.tch (((Ext.refl W7).drew.tch _).trans T8) HL7.out.eng.ne.2.2.1)
      have HM8 := Lib.hid hm8
      have d0 : W8.cell? ⟨xb, 0, none⟩ = some (.string ma) := by rw [new_off N9.out]; rfl
      have d1 : W8.cell? ⟨xb, 1, none⟩ = some (.bool mb) := by rw [new_off N9.out]; rfl
      have r0 : W8.cell? ⟨w.heap.size, 0, none⟩ = some (.string ⟨#[]⟩) := by rw [new_off N8.out]; rfl
      have r1 : W8.cell? ⟨w.heap.size, 1, none⟩ = some (.bool false) := by rw [new_off N8.out]; rfl
      have f0 := Lib.frozen_of_heap N8.out 0
      have f1 := Lib.frozen_of_heap N8.out 1
      clear T8 hm8 ht8 h12 hxb hbl
      go_wp2_with fail
      have hY : Tch (fun k => k = w.heap.size) W8 ((W8.setCell ⟨w.heap.size, 0, none⟩ (.string ma)).setCell ⟨w.heap.size, 1, none⟩ (.bool mb)) := ((Tch.refl (fun k => k = w.heap.size) W8).setCell (p := ⟨w.heap.size, 0, none⟩) (fun _ => rfl) _).setCell (p := ⟨w.heap.size, 1, none⟩) (fun _ => rfl) _
      obtain ⟨l1, l2, l3, l4, l5⟩ := HLW.out
      have hob := l1 ob (.inr (.inr (.inr rfl)))
      have heng : EngAt W8 S6 g bc bi br { e with st := ⟨E.put st'.ms n ⟨m.res, m.reads, e.rev⟩, st'.cnt⟩ } := by
        refine HL7.out.eng.memoed HMS.out (n := n) (m := ⟨m.res, m.reads, e.rev⟩) (A := A2) (k := k2) (cnt := st'.cnt) HT8.out HROW8.out ?_ ?_ (fun k hk => hk) (fun k hk => Nat.lt_of_lt_of_le (HL7.out.eng.lt k hk) HT8.out.size) HL7.out.eng.out ?_ z2 hrev
        · have := HM8.out
          rw [← HMA.out, ← HMB.out] at this
          exact this
        · have h1 := HSM.out.tch HT7.out fun k hk => HLL.out.mv hk
          have h2 := h1.keep HS.out.1 fun _ _ => rfl
          exact h2.tch HT8.out fun k hk => ⟨HL7.out.eng.lt k hk, by
            obtain ⟨o1, o2, o3, o4⟩ := HL7.out.eng.out
            rintro (rfl | rfl) <;> contradiction⟩
        · show (m.res.getD ⟨#[]⟩).size ≤ 65536
          rw [HMA.out]; exact HZ1.out
      obtain ⟨a1, a2, a3, a4, a5, a6, a7, a8, a9, a10, a11⟩ := HL7.out.apart
      have hlo : LiveO W8 S6 g bc bi br rb ob { e with st := ⟨E.put st'.ms n ⟨m.res, m.reads, e.rev⟩, st'.cnt⟩ } (n :: opn) :=
        ⟨heng, HL7.out.run.tch HT8.out (by rintro (e | e); exact a1 e; exact a4 e), HL7.out.opens.tch HT8.out (by rintro (e | e); exact a6 e; exact a9 e), HL7.out.apart, HL7.out.gl.tch HT8.out fun k hk => HL7.out.off k (by rcases hk with rfl | rfl; exact .inl rfl; exact .inr (.inl rfl)), HL7.out.off⟩
      have hl7 := hlo.tch hY fun k hk => by
        subst hk
        refine ⟨fun e => by have := l1 _ e; omega, by omega, by omega, fun e => ?_, fun e => by have := l4 _ e; omega⟩
        rcases HS.out.2 _ e with e | e
        · have := l5 _ e; omega
        · omega
      refine ret_drop rfl rfl (found_set N8.out _ _) (by omega) hl7.opens hn fun w9 hm9 ht9 => ?_
      have hl8 := hl7.closed hm9 ht9 HOP2.out
      have T9 : Tch (fun k => k = ob) _ w9 := (Tch.refl _ _).grown ht9.grown fun i hi _ => (Option.some.inj hi).symm
      rw [HR.out]
      refine ⟨((HT7.out.trans' HT8.out fun i hi h => by rcases h with rfl | rfl; exact .inl rfl; exact .inr (.inl rfl)).trans' hY fun i hi e => by omega).trans (T9.mono fun k _ hk => .inr (.inr (.inr hk))), by rw [← HMA.out, ← HMB.out]; rfl, by rw [HMA.out]; exact HZ1.out, S6, hl8, HS.out.1, fun k hk => ?_⟩
      rcases HS.out.2 k hk with h | h
      · exact .inl h
      · exact .inr (by omega)
end Go.Proofs.YtkeaoejgboefbaaGreatDoor
