/- The texts Hb Hc Hd He Hf Hg Hh Hi of the seat, joined. -/
import Derived.Test.YtkeaoejgboefbaaGreatDoorG3
import Derived.Maps.OwnOps
import Derived.Lib.Builder
import Derived.Deep.WholeRow
import Derived.IntWalk
import Derived.Lib.AppendIntMem
/- Cells that fit: engine.formed. -/
namespace Go.Proofs.YtkeaoejgboefbaaGreatDoor
open Go.RowKit Go.Maps

/-- String k's cell. -/
theorem str_get {w : World} {B : Nat → Prop} {A : Option Addr} {c : Nat} {l : List ByteArray} (h : SliceAt strR w B A c l) {k : Nat} (hk : k < l.length) :
    ∃ b off, A = some ⟨b, off, none⟩ ∧ B b ∧ w.cell? ⟨b, off + k, none⟩ = some (.string l[k]) ∧ l[k].size ≤ 9223372036854775807 := by
  obtain ⟨_, _, h3⟩ := h
  obtain ⟨b, off, hA, hb, hr⟩ := h3 (by intro e; rw [e] at hk; exact absurd hk (Nat.not_lt_zero _))
  obtain ⟨us, hu, hc⟩ := hr k hk
  obtain ⟨rfl, h1⟩ := hu
  have h2 := hc 0 _ rfl
  have e : strR.size = 1 := rfl
  rw [e, Nat.mul_one, Nat.add_zero] at h2
  exact ⟨b, off, hA, hb, h2, h1⟩
set_option maxHeartbeats 400000 in
theorem IndexStrE (l : List ByteArray) (A : Option Addr) (c L g : Nat) (lb : Array Value) (p : ByteArray → Bool) (w : World) (eg : ∀ args w, (callFunc g args).run Tryz.prog w = .ok (.enter g args) w) (hL : L = l.length) (hL2 : L ≤ 9000000)
    (hA : SliceAt strR w (Old w) A c l) (hp : ∀ x ∈ l, ∀ w', Ext w w' → Calls Tryz.prog g (#[.string x] ++ lb) w' (Al (.bool (p x)) w')) :
    Calls Tryz.prog 64 #[.slice A L c, .func (.func g) #[] lb] w fun e w' => (∃ i : Int, e = .returned (.int .i64 i) ∧ decide (0 ≤ i) = l.any p) ∧ Ext w w' := by
  have HC := Lib.hid hA
  have HP := Lib.hid hp
  have HL := Lib.hid hL
  clear hA hp hL
  go_enter Tryz.func64, Tryz.ntmps64
  go_wp2_with fail
  go_loopw [5, 8] (fun _ i wr => ∃ k : Nat, k ≤ L ∧ i = .int .i64 k ∧ Hid (∀ j (h : j < l.length), j < k → p l[j] = false) ∧ Ext w wr) (fun _ i _ => L - (intOf i).toNat)
  case atStart => exact ⟨0, Nat.zero_le _, rfl, fun j _ hj => absurd hj (Nat.not_lt_zero _), Ext.refl _⟩
  case round =>
    obtain ⟨k, hk, rfl, hno, hd⟩ := hrel
    by_cases hlt : k < L
    · have hkl : k < l.length := by have := HL.out; omega
      obtain ⟨b, off, hAe, hbb, c0, hz⟩ := str_get (HC.out.ext hd) hkl
      subst hAe
      have hcall := HP.out l[k] (List.getElem_mem hkl) wr hd
      have hk0 : k ≤ 9000000 := by omega
      cases hpk : p l[k] with
      | true =>
        rw [hpk] at hcall
        have HK := Lib.hid hcall
        have HPK := Lib.hid hpk
        clear hcall hpk
        go_wp2_with (go_at_fn g; refine HK.out.mono ?_; rintro e w1 ⟨rfl, d1⟩)
        go_ret
        refine ⟨⟨_, rfl, ?_⟩, hd.trans d1⟩
        rw [List.any_eq_true.2 ⟨l[k], List.getElem_mem hkl, HPK.out⟩]
        simp
      | false =>
        rw [hpk] at hcall
        have HK := Lib.hid hcall
        have HPK := Lib.hid hpk
        clear hcall hpk
        go_wp2_with (go_at_fn g; refine HK.out.mono ?_; rintro e w1 ⟨rfl, d1⟩)
        go_roundw
        case rel =>
          refine ⟨k + 1, by omega, by go_num, fun j h hj => ?_, hd.trans d1⟩
          by_cases e : j = k
          · subst e; exact HPK.out
          · exact hno.out j h (by omega)
        case measure => simp [intOf]; omega
    · have hkL : k = L := by omega
      go_wp2_with fail
      go_ret
      refine ⟨⟨_, rfl, ?_⟩, hd⟩
      have : l.any p = false := by
        rw [List.any_eq_false]
        intro x hx
        obtain ⟨j, hj, rfl⟩ := List.getElem_of_mem hx
        have := hno.out j hj (by have := HL.out; omega)
        simp [this]
      rw [this]
      rfl

set_option maxHeartbeats 400000 in
theorem ContainsStrE (l : List ByteArray) (A : Option Addr) (c L g : Nat) (lb : Array Value) (p : ByteArray → Bool) (w : World) (eg : ∀ args w, (callFunc g args).run Tryz.prog w = .ok (.enter g args) w) (hL : L = l.length) (hL2 : L ≤ 9000000)
    (hA : SliceAt strR w (Old w) A c l) (hp : ∀ x ∈ l, ∀ w', Ext w w' → Calls Tryz.prog g (#[.string x] ++ lb) w' (Al (.bool (p x)) w')) :
    Calls Tryz.prog 54 #[.slice A L c, .func (.func g) #[] lb] w (Al (.bool (l.any p)) w) := by
  have h := IndexStrE l A c L g lb p w eg hL hL2 hA hp
  obtain ⟨B, hB⟩ : ∃ B, B = l.any p := ⟨_, rfl⟩
  rw [← hB] at h ⊢
  have HH := Lib.hid h
  clear h hA hp hB eg hL
  go_enter Tryz.func54, Tryz.ntmps54
  go_wp2_with fail
  refine HH.out.mono ?_
  rintro e w1 ⟨⟨i, rfl, hi⟩, d1⟩
  go_wp2_with fail
  go_ret
  exact ⟨rfl, d1⟩

/-! ### Maps from integers, built by a literal -/
def MapI (w : World) (b n : Nat) (f : Int → Option Int) : Prop :=
  ∃ D : DataW Value, w.ownsMap Tryz.prog 3 (plainElem Tryz.prog 3) b n D ∧ (∀ x, Maps.has D (.int .i64 x) = (f x).isSome) ∧ ∀ x, D.atKey (.int .i64 x) (.lit (.int .i64 0)) = .lit (.int .i64 ((f x).getD 0))
theorem law3 : Keyed Tryz.prog 3 := int_keyed Tryz.underlying3
theorem key3 {x : Int} (h : (Lit.int .i64 x).wf = true) : keyOf Tryz.prog 3 (.int .i64 x) = some (.int .i64 x) := by
  rw [keyOf_int Tryz.underlying3]
  simp [mapKey, Tryz.underlying3, h]
theorem MapI.made (w : World) : MapI (w.alloc (.map #[] 0)) w.heap.size 0 fun _ => none := ⟨.map [], World.ownsMap_made w _ _ _, fun _ => rfl, fun _ => rfl⟩
theorem intLit_ne {x y : Int} (h : x ≠ y) : Lit.int .i64 x ≠ Lit.int .i64 y := fun e => h (Lit.int.inj e).2
theorem wpList_insert_int {w : World} {b n : Nat} {f : Int → Option Int} {ops : Array Oper} {rest : List Oper} {o : Oper} {a : Act} {Q : Exit → Act → World → Prop} (h : MapI w b n f) (hn : n < 1000)
    (hg : o.guard = none) (m x v : Operand) (t : TypeId) (hop : o.op = Op.insert t m x v) (ht : Tryz.prog.underlying t = some (.map 3 3)) (hm : a.eval m = .map (some b)) (k z : Int) (hx : a.eval x = .int .i64 k) (hv : a.eval v = .int .i64 z) (hk : (Lit.int .i64 k).wf = true) (hz : (Lit.int .i64 z).wf = true)
    (hK : ∀ w', MapI w' b (n + 1) (fun y => if y = k then some z else f y) → w.grownBy w' (some b) → wpList Tryz.prog ops Q rest (a.put o.dst undef) w') : wpList Tryz.prog ops Q (o :: rest) a w := by
  refine wpList_plain hg fun K' hK' => ?_
  obtain ⟨D, h1, h2, h3⟩ := h
  obtain ⟨w', hrun, r1, r2⟩ := h1.update law3 ht (by unfold maxLen; omega) (key3 hk) (plainElem_int Tryz.underlying3 hz)
  unfold Oper.wp
  simp [execOp, hop, hm, hx, hv, hrun, Result.andThen]
  refine hK' _ _ (hK w' ⟨_, r1, fun y => ?_, fun y => ?_⟩ r2)
  · show _ = (if y = k then some z else f y).isSome
    by_cases e : y = k
    · subst e; rw [if_pos rfl, has_put_same h1.isMap (show WideAt.IsKeyLit (.int .i64 _) from trivial)]; rfl
    · rw [if_neg e, has_put_other (intLit_ne e), h2]
  · show _ = DataW.lit (.int .i64 ((if y = k then some z else f y).getD 0))
    by_cases e : y = k
    · subst e; rw [if_pos rfl]; exact atKey_put_same h1.isMap (show WideAt.IsKeyLit (.int .i64 _) from trivial) _ _
    · rw [if_neg e, atKey_put_other (intLit_ne e), h3]
theorem MapI.look {w : World} {b n : Nat} {f : Int → Option Int} (h : MapI w b n f) {t : TypeId} (ht : Tryz.prog.underlying t = some (.map 3 3)) (hz : (zeroValue 3).run Tryz.prog w = .ok (.int .i64 0) w) {x : Int} (hx : (Lit.int .i64 x).wf = true) :
    (Instr.lookup t (.map (some b)) (.int .i64 x) true).run Tryz.prog w = .ok (.tuple #[.int .i64 ((f x).getD 0), .bool (f x).isSome]) w := by
  obtain ⟨D, h1, h2, h3⟩ := h
  obtain ⟨v, ps, hrun, hv⟩ := h1.look_ok law3 ht hz (zd := .lit (.int .i64 0)) (zp := []) (plainElem_int Tryz.underlying3 (by decide)) (key3 hx)
  obtain ⟨c, rfl, hc, hwc⟩ := plainElem_int_inv Tryz.underlying3 hv
  rw [h3] at hc
  have hc : (DataW.lit (.int .i64 ((f x).getD 0)) : DataW Value) = .lit (.int .i64 c) := congrArg Prod.fst hc
  have he : (f x).getD 0 = c := by
    have := DataW.lit.inj hc
    exact (Lit.int.inj this).2
  rw [hrun, h2, he]
end Go.Proofs.YtkeaoejgboefbaaGreatDoor

/- engine.formed. -/
namespace Go.Proofs.YtkeaoejgboefbaaGreatDoor
open Go.RowKit Go.Maps

theorem egc60 : ∀ (args : Array Value) (w : World), (callFunc 55 args).run Tryz.prog w = .ok (.enter 55 args) w := enters_of Tryz.func55 (by kernel_rfl) rfl
theorem unnamed_any (s : ByteArray) (w : World) (hs : s.size ≤ 9223372036854775807) : Calls Tryz.prog 55 #[.string s] w (Al (.bool (!E.nameB s)) w) := by
  have H := Lib.hid (named_any s w hs)
  generalize E.nameB s = b at *
  go_enter Tryz.func55, Tryz.ntmps55
  go_wp2_with fail
  refine H.out.mono ?_
  rintro e w1 ⟨rfl, rfl⟩
  go_wp2_with fail
  go_ret
  exact ⟨rfl, Ext.refl _⟩
theorem Ext.grownNew {a b c : World} (h : Ext a b) {g : Nat} (hg : a.heap.size ≤ g) (k : b.grownBy c (some g)) : Ext a c := Below.grown h k h.size fun _ hk => by cases hk; exact hg
/-- How many arguments an operation wants. -/
def want (x : Int) : Option Int := if x = 7 then some 2 else if x = 6 then some 1 else if x = 5 then some 3 else if x = 4 then some 2 else if x = 3 then some 1 else if x = 1 then some 0 else none
theorem any_not (l : List ByteArray) : (l.any fun s => !E.nameB s) = !l.all E.nameB := by
  induction l with
  | nil => rfl
  | cons x l ih => rw [List.any_cons, List.all_cons, ih]; cases E.nameB x <;> rfl
theorem formed_join {c : E.Cell} (h : c.2.2.1.all E.nameB = true) (h2 : c.2.1 = 2) : E.formedB c = (decide (c.2.2.1.length ≤ 8) && decide (c.2.2.2.size ≤ 64)) := by
  unfold E.formedB
  rw [h, if_pos h2]
  rfl
theorem formed_not {c : E.Cell} (h : c.2.2.1.all E.nameB = false) : E.formedB c = false := by
  unfold E.formedB
  rw [h]
  rfl
theorem formed_other {c : E.Cell} (h : c.2.2.1.all E.nameB = true) (h2 : c.2.1 ≠ 2) : E.formedB c = ((want c.2.1).isSome && decide ((c.2.2.1.length : Int) = (want c.2.1).getD 0) && decide (c.2.2.2.size = 0)) := by
  unfold E.formedB
  rw [h, if_neg h2]
  simp only [Bool.true_and]
  congr 1
  generalize c.2.2.1.length = n
  generalize c.2.1 = x at h2
  unfold want
  by_cases h7 : x = 7
  · subst h7; rw [Bool.eq_iff_iff]; simp; omega
  by_cases h6 : x = 6
  · subst h6; rw [Bool.eq_iff_iff]; simp; omega
  by_cases h5 : x = 5
  · subst h5; rw [Bool.eq_iff_iff]; simp; omega
  by_cases h4 : x = 4
  · subst h4; rw [Bool.eq_iff_iff]; simp; omega
  by_cases h3 : x = 3
  · subst h3; rw [Bool.eq_iff_iff]; simp; omega
  by_cases h1 : x = 1
  · subst h1; rw [Bool.eq_iff_iff]; simp
  simp [h7, h6, h5, h4, h3, h1]
theorem empty_dec (s : ByteArray) : s.toList.isEmpty = decide (s.size = 0) := by
  rw [ByteArray.toList_eq, Bool.eq_iff_iff, List.isEmpty_iff, decide_eq_true_iff]
  show _ ↔ s.data.size = 0
  rw [← Array.length_toList]
  exact List.length_eq_zero_iff.symm
set_option maxRecDepth 100000 in
set_option maxHeartbeats 2000000 in
theorem formed_any (c : E.Cell) (A : Option Addr) (k n : Nat) (w : World) (hn : n = c.2.2.1.length) (hA : SliceAt strR w (Old w) A k c.2.2.1) (hl : n ≤ 1000) (hop : (Lit.int .i64 c.2.1).wf = true) (ht : c.2.2.2.size ≤ 9223372036854775807) :
    Calls Tryz.prog 43 #[.agg #[.string c.1, .int .i64 c.2.1, .slice A n k, .string c.2.2.2]] w (Al (.bool (E.formedB c)) w) := by
  obtain ⟨R, hR⟩ : ∃ R, R = E.formedB c := ⟨_, rfl⟩
  rw [← hR]
  have HR := Lib.hid hR
  have hmm := @run_makeMap Tryz.prog
  have hz3 : ∀ w, (zeroValue 3).run Tryz.prog w = .ok (.int .i64 0) w := fun w => by kernel_rfl
  obtain ⟨W1, hW1⟩ : ∃ W1, W1 = w.alloc (.cells #[.string c.1, .int .i64 c.2.1, .slice A n k, .string c.2.2.2] 50) := ⟨_, rfl⟩
  have X1 : Ext w W1 := by rw [hW1]; exact (Ext.refl w).alloc _
  have HX1 := Lib.hid X1
  have KA1 := Lib.hid (show W1.cell? ⟨w.heap.size, 1, none⟩ = some (.int .i64 c.2.1) by rw [hW1]; exact cell_new w _ 50 1)
  have KA2 := Lib.hid (show W1.cell? ⟨w.heap.size, 2, none⟩ = some (.slice A n k) by rw [hW1]; exact cell_new w _ 50 2)
  have KA3 := Lib.hid (show W1.cell? ⟨w.heap.size, 3, none⟩ = some (.string c.2.2.2) by rw [hW1]; exact cell_new w _ 50 3)
  have HCF := Lib.hid (fun W (h : Ext w W) => ContainsStrE c.2.2.1 A k n 55 #[] (fun s => !E.nameB s) W egc60 hn (by omega) (hA.ext h) (fun x hx w' _ => unnamed_any x w' (by
    obtain ⟨j, hj, rfl⟩ := List.getElem_of_mem hx
    obtain ⟨_, _, _, _, _, hz⟩ := str_get hA hj
    exact hz)))
  rw [any_not] at HCF
  have HF1 := Lib.hid (@formed_not c)
  have HF2 := Lib.hid (@formed_join c)
  have HF3 := Lib.hid (@formed_other c)
  rw [← hn] at HF2 HF3
  generalize c.2.2.1.all E.nameB = al at *
  generalize hcn : c.1 = nm at *
  generalize hco : c.2.1 = op at *
  generalize hct : c.2.2.2 = tx at *
  clear hR hA X1 hn hcn hco hct
  go_enter Tryz.func43, Tryz.ntmps43
  go_wp2_with fail
  rw [← hW1]
  clear hW1
  have a1 := KA1.out
  have a2 := KA2.out
  have a3 := KA3.out
  go_wp2_with fail
  refine (HCF.out _ HX1.out).mono ?_
  rintro e w2 ⟨rfl, d2⟩
  have HD2 := Lib.hid d2
  clear d2 a1 a2 a3
  have a1 := HD2.out.keepc KA1.out
  have a2 := HD2.out.keepc KA2.out
  have a3 := HD2.out.keepc KA3.out
  cases al with
  | false =>
    have HF := Lib.hid (show R = false by rw [HR.out]; exact HF1.out rfl)
    go_wp2_with fail
    go_ret
    exact ⟨by rw [HF.out]; rfl, HX1.out.trans HD2.out⟩
  | true =>
    by_cases h2 : op = 2
    · subst h2
      have HF := Lib.hid (show R = (decide (n ≤ 8) && decide (tx.size ≤ 64)) by rw [HR.out]; exact HF2.out rfl rfl)
      by_cases h8 : n ≤ 8
      · by_cases h64 : tx.size ≤ 64
        · go_wp2_with fail
          go_ret
          exact ⟨by rw [HF.out, decide_eq_true h8, decide_eq_true h64]; exact congrArg (fun b => Ending.returned (Value.bool b)) (decide_eq_true (by omega : (tx.size : Int) ≤ 64)), HX1.out.trans HD2.out⟩
        · go_wp2_with fail
          go_ret
          exact ⟨by rw [HF.out, decide_eq_true h8, decide_eq_false h64]; exact congrArg (fun b => Ending.returned (Value.bool b)) (decide_eq_false (by omega : ¬ (tx.size : Int) ≤ 64)), HX1.out.trans HD2.out⟩
      · go_wp2_with fail
        go_ret
        exact ⟨by rw [HF.out, decide_eq_false h8]; rfl, HX1.out.trans HD2.out⟩
    · have HF := Lib.hid (show R = ((want op).isSome && decide ((n : Int) = (want op).getD 0) && decide (tx.size = 0)) by rw [HR.out]; exact HF3.out rfl h2)
      have h2f : (op == 2) = false := by simpa using h2
      have HOP := Lib.hid hop
      clear h2 hop
      have HM0 := Lib.hid (MapI.made w2)
      have hge : W1.heap.size ≤ w2.heap.size := HD2.out.size
      have HX2 := Lib.hid (HD2.out.alloc (.map #[] 0))
      have KE1 := Lib.hid (HX1.out.size)
      go_wp2_with (refine wpList_insert_int (b := w2.heap.size) HM0.out (by decide) rfl _ _ _ 113 rfl Tryz.underlying113 rfl 1 0 rfl rfl (by decide) (by decide) ?_)
      intro w3 hm3 hg3
      have HM1 := Lib.hid hm3
      have HX3 := Lib.hid (HX2.out.grownNew hge hg3)
      clear hm3 hg3 HM0
      go_wp2_with (refine wpList_insert_int (b := w2.heap.size) HM1.out (by decide) rfl _ _ _ 113 rfl Tryz.underlying113 rfl 3 1 rfl rfl (by decide) (by decide) ?_)
      intro w4 hm4 hg4
      have HM2 := Lib.hid hm4
      have HX4 := Lib.hid (HX3.out.grownNew hge hg4)
      clear hm4 hg4 HM1
      go_wp2_with (refine wpList_insert_int (b := w2.heap.size) HM2.out (by decide) rfl _ _ _ 113 rfl Tryz.underlying113 rfl 4 2 rfl rfl (by decide) (by decide) ?_)
      intro w5 hm5 hg5
      have HM3 := Lib.hid hm5
      have HX5 := Lib.hid (HX4.out.grownNew hge hg5)
      clear hm5 hg5 HM2
      go_wp2_with (refine wpList_insert_int (b := w2.heap.size) HM3.out (by decide) rfl _ _ _ 113 rfl Tryz.underlying113 rfl 5 3 rfl rfl (by decide) (by decide) ?_)
      intro w6 hm6 hg6
      have HM4 := Lib.hid hm6
      have HX6 := Lib.hid (HX5.out.grownNew hge hg6)
      clear hm6 hg6 HM3
      go_wp2_with (refine wpList_insert_int (b := w2.heap.size) HM4.out (by decide) rfl _ _ _ 113 rfl Tryz.underlying113 rfl 6 1 rfl rfl (by decide) (by decide) ?_)
      intro w7 hm7 hg7
      have HM5 := Lib.hid hm7
      have HX7 := Lib.hid (HX6.out.grownNew hge hg7)
      clear hm7 hg7 HM4
      go_wp2_with (refine wpList_insert_int (b := w2.heap.size) HM5.out (by decide) rfl _ _ _ 113 rfl Tryz.underlying113 rfl 7 2 rfl rfl (by decide) (by decide) ?_)
      intro w8 hm8 hg8
      have HM6 := Lib.hid hm8
      have HX8 := Lib.hid (HX7.out.grownNew hge hg8)
      clear hm8 hg8 HM5 hge
      clear a1 a2 a3
      have a1 := HX8.out.keepc KA1.out
      have a2 := HX8.out.keepc KA2.out
      have a3 := HX8.out.keepc KA3.out
      have hlk : (Instr.lookup 113 (.map (some w2.heap.size)) (.int .i64 op) true).run Tryz.prog w8 = .ok (.tuple #[.int .i64 ((want op).getD 0), .bool (want op).isSome]) w8 := HM6.out.look Tryz.underlying113 (hz3 w8) HOP.out
      have HE := Lib.hid (HX1.out.trans HX8.out)
      clear HX1 HX2 HX3 HX4 HX5 HX6 HX7 HX8
      generalize want op = q at *
      cases q with
      | none =>
        have hlk2 : (Instr.lookup 113 (.map (some w2.heap.size)) (.int .i64 op) true).run Tryz.prog w8 = Result.ok (Value.tuple #[.int .i64 0, .bool false]) w8 := hlk
        clear hlk
        go_wp2_with fail
        go_ret
        exact ⟨by rw [HF.out]; rfl, HE.out⟩
      | some z =>
        have hlk2 : (Instr.lookup 113 (.map (some w2.heap.size)) (.int .i64 op) true).run Tryz.prog w8 = Result.ok (Value.tuple #[.int .i64 z, .bool true]) w8 := hlk
        clear hlk
        by_cases hnz : (n : Int) = z
        · subst hnz
          go_wp2_with fail
          go_ret
          exact ⟨by rw [HF.out, ← empty_dec]; exact congrArg (fun b => Ending.returned (Value.bool b)) (by simp), HE.out⟩
        · go_wp2_with fail
          go_ret
          exact ⟨by rw [HF.out]; exact congrArg (fun b => Ending.returned (Value.bool b)) (by simp [hnz]), HE.out⟩
end Go.Proofs.YtkeaoejgboefbaaGreatDoor

/- An Engine in memory. -/
namespace Go.Proofs.YtkeaoejgboefbaaGreatDoor
open Go.RowKit Go.Maps

/-- Only blocks of X have turned; others may be new. -/
structure Tch (X : Nat → Prop) (w w' : World) : Prop where
  os : w'.os = w.os
  tape : w'.tape = w.tape
  output : w'.output = w.output
  size : w.heap.size ≤ w'.heap.size
  block : ∀ k, k < w.heap.size → ¬ X k → w'.heap[k]? = w.heap[k]?
theorem Tch.refl (X : Nat → Prop) (w : World) : Tch X w w := ⟨rfl, rfl, rfl, Nat.le_refl _, fun _ _ _ => rfl⟩
theorem Tch.trans' {X Y : Nat → Prop} {a b c : World} (h : Tch X a b) (k : Tch Y b c) (hY : ∀ i, i < a.heap.size → Y i → X i) : Tch X a c :=
  ⟨k.os.trans h.os, k.tape.trans h.tape, k.output.trans h.output, Nat.le_trans h.size k.size, fun i hi hx => (k.block i (Nat.lt_of_lt_of_le hi h.size) fun hy => hx (hY i hi hy)).trans (h.block i hi hx)⟩
theorem Tch.trans {X : Nat → Prop} {a b c : World} (h : Tch X a b) (k : Tch X b c) : Tch X a c := h.trans' k fun _ _ h => h
theorem Tch.mono {X Y : Nat → Prop} {a b : World} (h : Tch X a b) (hX : ∀ k, k < a.heap.size → X k → Y k) : Tch Y a b := ⟨h.os, h.tape, h.output, h.size, fun k hk hy => h.block k hk fun hx => hy (hX k hk hx)⟩
theorem Ext.tch {a b : World} (h : Ext a b) (X : Nat → Prop) : Tch X a b := ⟨h.os, h.tape, h.output, h.size, fun k hk _ => h.block k hk⟩
theorem Tch.ext {X : Nat → Prop} {a b : World} (h : Tch X a b) (hX : ∀ k, k < a.heap.size → ¬ X k) : Ext a b := ⟨h.os, h.tape, h.output, h.size, fun k hk => h.block k hk (hX k hk)⟩
theorem Tch.grown {X : Nat → Prop} {a b c : World} {row : Option Nat} (h : Tch X a b) (k : b.grownBy c row) (hr : ∀ i, row = some i → i < a.heap.size → X i) : Tch X a c :=
  ⟨k.os.trans h.os, k.tape.trans h.tape, k.output.trans h.output, Nat.le_trans h.size k.size, fun i hi hx => (k.block i (Nat.lt_of_lt_of_le hi h.size) fun e => hx (hr i e.symm hi)).trans (h.block i hi hx)⟩
theorem Tch.alloc {X : Nat → Prop} {a b : World} (h : Tch X a b) (o : Obj) : Tch X a (b.alloc o) := h.trans' (((Ext.refl b).alloc o).tch X) fun _ _ h => h
theorem Tch.keepc {X : Nat → Prop} {a b : World} (h : Tch X a b) {p : Addr} {v : Value} (hc : a.cell? p = some v) (hp : ¬ X p.block) : b.cell? p = some v :=
  (World.cell?_of_block (h.block _ (World.block_lt_of_cell? a _ hc) hp)).trans hc
theorem grownBy_setCell (w : World) (p : Addr) (v : Value) : w.grownBy (w.setCell p v) (some p.block) :=
  ⟨rfl, rfl, rfl, by simp [World.setCell], fun k hk e => RowKit.Below.heap_setCell _ _ _ _ (fun h => e (by rw [h]))⟩
theorem Tch.setCell {X : Nat → Prop} {a b : World} (h : Tch X a b) {p : Addr} (hp : p.block < a.heap.size → X p.block) (v : Value) : Tch X a (b.setCell p v) :=
  h.grown (grownBy_setCell b p v) fun i e hi => by cases e; exact hp hi
theorem SliceAt.tch {α : Type} {r : Rep α} {X S : Nat → Prop} {w w' : World} {A : Option Addr} {c : Nat} {l : List α} (h : SliceAt r w S A c l) (hg : Tch X w w') (hS : ∀ k, S k → k < w.heap.size ∧ ¬ X k) : SliceAt r w' S A c l :=
  h.keep (fun _ h => h) fun k hk => hg.block k (hS k hk).1 (hS k hk).2
theorem MapF.tch {P : Program} {X : Nat → Prop} {w w' : World} {b : Nat} {f : FnV} (h : MapF P w b f) (hg : Tch X w w') (hb : ¬ X b) : MapF P w' b f := by
  have hl := h.lt
  obtain ⟨D, n, ⟨es, clock, h1, h2⟩, h3⟩ := h
  exact ⟨D, n, ⟨es, clock, (hg.block b hl hb).trans h1, h2⟩, h3⟩

/-! ### Values -/
def foundL (v : E.V) : List Value := [.string (v.getD ⟨#[]⟩), .bool v.isSome]
def foundV (v : E.V) : Value := .agg (foundL v).toArray
def cellV (c : E.Cell) (A : Option Addr) (k : Nat) : Value := .agg #[.string c.1, .int .i64 c.2.1, .slice A c.2.2.1.length k, .string c.2.2.2]
def memoV (m : E.Memo) (A : Option Addr) (k : Nat) : Value := .agg #[.string (m.res.getD ⟨#[]⟩), .bool m.res.isSome, .slice A m.reads.length k, .int .i64 m.at']
def foundR : Rep E.V where
  size := 2
  is := fun _ _ v us => us = foundL v ∧ (v.getD ⟨#[]⟩).size ≤ 9223372036854775807
  len := by rintro _ _ _ _ ⟨rfl, _⟩; rfl
  keep := by rintro _ _ _ _ _ _ h _ _; exact h
def readR : Rep (E.Nm × E.V) := prodR strR foundR

/-- What the map of cells holds. -/
def CellsIn (w : World) (S : Nat → Prop) (fc : E.Nm → Option E.Cell) (f : FnV) : Prop := ∀ s, match fc s with
  | none => f s = none
  | some c => c.1 = s ∧ (Lit.int .i64 c.2.1).wf = true ∧ c.2.2.2.size ≤ 64 ∧ c.2.2.1.length ≤ 8 ∧ ∃ A k, f s = some (cellV c A k) ∧ SliceAt strR w S A k c.2.2.1
def MemosIn (w : World) (S : Nat → Prop) (ms : E.Ms) (f : FnV) : Prop := ∀ s, match ms s with
  | none => f s = none
  | some m => (m.res.getD ⟨#[]⟩).size ≤ 65536 ∧ m.reads.length ≤ 100 ∧ m.at' < 4000000000000000000 ∧ ∃ A k, f s = some (memoV m A k) ∧ SliceAt readR w S A k m.reads
theorem CellsIn.tch {w w' : World} {S X : Nat → Prop} {fc : E.Nm → Option E.Cell} {f : FnV} (h : CellsIn w S fc f) (hg : Tch X w w') (hS : ∀ k, S k → k < w.heap.size ∧ ¬ X k) : CellsIn w' S fc f := by
  intro s
  have := h s
  cases hc : fc s with
  | none => rw [hc] at this; exact this
  | some c =>
    rw [hc] at this
    obtain ⟨h1, h2, h3, h4, A, k, h5, h6⟩ := this
    exact ⟨h1, h2, h3, h4, A, k, h5, h6.tch hg hS⟩
theorem MemosIn.tch {w w' : World} {S X : Nat → Prop} {ms : E.Ms} {f : FnV} (h : MemosIn w S ms f) (hg : Tch X w w') (hS : ∀ k, S k → k < w.heap.size ∧ ¬ X k) : MemosIn w' S ms f := by
  intro s
  have := h s
  cases hc : ms s with
  | none => rw [hc] at this; exact this
  | some c =>
    rw [hc] at this
    obtain ⟨h1, h2, h3, A, k, h5, h6⟩ := this
    exact ⟨h1, h2, h3, A, k, h5, h6.tch hg hS⟩
theorem CellsIn.sub {w : World} {S S' : Nat → Prop} {fc : E.Nm → Option E.Cell} {f : FnV} (h : CellsIn w S fc f) (hS : ∀ k, S k → S' k) : CellsIn w S' fc f := by
  intro s
  have := h s
  cases hc : fc s with
  | none => rw [hc] at this; exact this
  | some c =>
    rw [hc] at this
    obtain ⟨h1, h2, h3, h4, A, k, h5, h6⟩ := this
    exact ⟨h1, h2, h3, h4, A, k, h5, h6.keep hS fun _ _ => rfl⟩
theorem MemosIn.sub {w : World} {S S' : Nat → Prop} {ms : E.Ms} {f : FnV} (h : MemosIn w S ms f) (hS : ∀ k, S k → S' k) : MemosIn w S' ms f := by
  intro s
  have := h s
  cases hc : ms s with
  | none => rw [hc] at this; exact this
  | some c =>
    rw [hc] at this
    obtain ⟨h1, h2, h3, A, k, h5, h6⟩ := this
    exact ⟨h1, h2, h3, A, k, h5, h6.keep hS fun _ _ => rfl⟩

/-! ### The row of an Engine -/
def engRow (bc bi br : Nat) (rev cnt : Int) : Array Value := #[.map (some bc), .map (some bi), .map (some br), .int .i64 rev, .int .i64 cnt]
structure Row (w : World) (g bc bi br : Nat) (rev cnt : Int) : Prop where
  heap : w.heap[g]? = some (.cells (engRow bc bi br rev cnt) 79 (0, 0))
section
variable {w w' : World} {g bc bi br : Nat} {rev cnt : Int}
theorem Row.lt (h : Row w g bc bi br rev cnt) : g < w.heap.size := (Array.getElem?_eq_some_iff.1 h.heap).1
theorem Row.cell (h : Row w g bc bi br rev cnt) (i : Nat) : w.cell? ⟨g, i, none⟩ = (engRow bc bi br rev cnt)[i]? := cell_of_row w g i _ _ _ h.heap
theorem Row.c0 (h : Row w g bc bi br rev cnt) : w.cell? ⟨g, 0, none⟩ = some (.map (some bc)) := h.cell 0
theorem Row.c1 (h : Row w g bc bi br rev cnt) : w.cell? ⟨g, 1, none⟩ = some (.map (some bi)) := h.cell 1
theorem Row.c2 (h : Row w g bc bi br rev cnt) : w.cell? ⟨g, 2, none⟩ = some (.map (some br)) := h.cell 2
theorem Row.c3 (h : Row w g bc bi br rev cnt) : w.cell? ⟨g, 3, none⟩ = some (.int .i64 rev) := h.cell 3
theorem Row.c4 (h : Row w g bc bi br rev cnt) : w.cell? ⟨g, 4, none⟩ = some (.int .i64 cnt) := h.cell 4
theorem Row.frozen (h : Row w g bc bi br rev cnt) (i : Nat) : w.frozen? ⟨g, i, none⟩ = false := Lib.frozen_of_heap h.heap i
theorem Row.tch {X : Nat → Prop} (h : Row w g bc bi br rev cnt) (hg : Tch X w w') (hx : ¬ X g) : Row w' g bc bi br rev cnt := ⟨(hg.block g h.lt hx).trans h.heap⟩
theorem heap_setCell_cells {w : World} {g : Nat} {cs : Array Value} {t : TypeId} (h : w.heap[g]? = some (.cells cs t (0, 0))) (i : Nat) (v : Value) : (w.setCell ⟨g, i, none⟩ v).heap[g]? = some (.cells (cs.setIfInBounds i v) t (0, 0)) := by
  have := heap_setCells_at g [v] i w cs t h
  exact this
theorem Row.set3 (h : Row w g bc bi br rev cnt) (x : Int) : Row (w.setCell ⟨g, 3, none⟩ (.int .i64 x)) g bc bi br x cnt := ⟨heap_setCell_cells h.heap 3 _⟩
theorem Row.set4 (h : Row w g bc bi br rev cnt) (x : Int) : Row (w.setCell ⟨g, 4, none⟩ (.int .i64 x)) g bc bi br rev x := ⟨heap_setCell_cells h.heap 4 _⟩
theorem Row.set2 (h : Row w g bc bi br rev cnt) (x : Nat) : Row (w.setCell ⟨g, 2, none⟩ (.map (some x))) g bc bi x rev cnt := ⟨heap_setCell_cells h.heap 2 _⟩
end

/-! ### An Engine -/
structure EngAt (w : World) (S : Nat → Prop) (g bc bi br : Nat) (e : E.En) : Prop where
  row : Row w g bc bi br e.rev e.st.cnt
  ne : g ≠ bc ∧ g ≠ bi ∧ g ≠ br ∧ bc ≠ bi ∧ bc ≠ br ∧ bi ≠ br
  out : ¬ S g ∧ ¬ S bc ∧ ¬ S bi ∧ ¬ S br
  lt : ∀ k, S k → k < w.heap.size
  cells : ∃ f, MapF Tryz.prog w bc f ∧ CellsIn w S (E.findC e.cells) f
  inputs : MapF Tryz.prog w bi fun s => (e.vals s).map Value.string
  results : ∃ f, MapF Tryz.prog w br f ∧ MemosIn w S e.st.ms f
theorem EngAt.tch {w w' : World} {S X : Nat → Prop} {g bc bi br : Nat} {e : E.En} (h : EngAt w S g bc bi br e) (hg : Tch X w w') (hX : ∀ k, X k → k ≠ g ∧ k ≠ bc ∧ k ≠ bi ∧ k ≠ br ∧ ¬ S k) : EngAt w' S g bc bi br e where
  row := h.row.tch hg fun hx => (hX _ hx).1 rfl
  ne := h.ne
  out := h.out
  lt := fun k hk => Nat.lt_of_lt_of_le (h.lt k hk) hg.size
  cells := by
    obtain ⟨f, h1, h2⟩ := h.cells
    exact ⟨f, h1.tch hg fun hx => (hX _ hx).2.1 rfl, h2.tch hg fun k hk => ⟨h.lt k hk, fun hx => (hX _ hx).2.2.2.2 hk⟩⟩
  inputs := h.inputs.tch hg fun hx => (hX _ hx).2.2.1 rfl
  results := by
    obtain ⟨f, h1, h2⟩ := h.results
    exact ⟨f, h1.tch hg fun hx => (hX _ hx).2.2.2.1 rfl, h2.tch hg fun k hk => ⟨h.lt k hk, fun hx => (hX _ hx).2.2.2.2 hk⟩⟩
theorem EngAt.ext {w w' : World} {S : Nat → Prop} {g bc bi br : Nat} {e : E.En} (h : EngAt w S g bc bi br e) (hg : Ext w w') : EngAt w' S g bc bi br e := h.tch (hg.tch fun _ => False) fun _ h => h.elim
end Go.Proofs.YtkeaoejgboefbaaGreatDoor

/- engine.input, Set, Clear, Computed. -/
namespace Go.Proofs.YtkeaoejgboefbaaGreatDoor
open Go.RowKit Go.Maps

def zero32 : Value := .agg #[.string ⟨#[]⟩, .int .i64 0, .slice none 0 0, .string ⟨#[]⟩]
def zero84 : Value := .agg #[.string ⟨#[]⟩, .bool false, .slice none 0 0, .int .i64 0]
theorem zv32 (w : World) : (zeroValue 50).run Tryz.prog w = .ok zero32 w := by kernel_rfl
theorem zv84 (w : World) : (zeroValue 89).run Tryz.prog w = .ok zero84 w := by kernel_rfl
theorem zv9 (w : World) : (zeroValue 9).run Tryz.prog w = .ok (.string ⟨#[]⟩) w := by kernel_rfl
theorem zv4 (w : World) : (zeroValue 4).run Tryz.prog w = .ok (.bool false) w := by kernel_rfl
/-- A cell, looked up. -/
theorem cells_look {w : World} {S : Nat → Prop} {b : Nat} {f : FnV} {fc : E.Nm → Option E.Cell} (h : MapF Tryz.prog w b f) (hc : CellsIn w S fc f) {n : ByteArray} (hs : n.size ≤ 9223372036854775807) :
    match fc n with
    | none => (Instr.lookup 76 (.map (some b)) (.string n) true).run Tryz.prog w = .ok (.tuple #[zero32, .bool false]) w
    | some c => ∃ A k, (Instr.lookup 76 (.map (some b)) (.string n) true).run Tryz.prog w = .ok (.tuple #[cellV c A k, .bool true]) w ∧ SliceAt strR w S A k c.2.2.1 := by
  have h1 := h.look Tryz.underlying9 Tryz.underlying76 (zv32 w) hs
  have h2 := hc n
  cases e : fc n with
  | none =>
    rw [e] at h2
    rw [h2] at h1
    exact h1
  | some c =>
    rw [e] at h2
    obtain ⟨_, _, _, _, A, k, h3, h4⟩ := h2
    rw [h3] at h1
    exact ⟨A, k, h1, h4⟩
set_option maxRecDepth 100000 in
set_option maxHeartbeats 1000000 in
theorem input_any {w : World} {S : Nat → Prop} {g bc bi br : Nat} {e : E.En} (h : EngAt w S g bc bi br e) {n : ByteArray} (hs : n.size ≤ 9223372036854775807) :
    Calls Tryz.prog 40 #[.pointer (some ⟨g, 0, none⟩), .string n] w (Al (.bool (E.inputB e n)) w) := by
  obtain ⟨f, h1, h2⟩ := h.cells
  have a0 := h.row.c0
  have hl := cells_look h1 h2 hs
  have HB := Lib.hid (show E.inputB e n = (match E.findC e.cells n with | none => false | some c => c.2.1 == 1) from rfl)
  generalize E.findC e.cells n = q at *
  generalize E.inputB e n = R at *
  clear h h1 h2
  cases q with
  | none =>
    have hl2 : (Instr.lookup 76 (.map (some bc)) (.string n) true).run Tryz.prog w = .ok (.tuple #[.agg #[.string ⟨#[]⟩, .int .i64 0, .slice none 0 0, .string ⟨#[]⟩], .bool false]) w := hl
    clear hl
    go_enter Tryz.func40, Tryz.ntmps40
    go_wp2_with fail
    go_ret
    exact ⟨by rw [HB.out]; rfl, (Ext.refl w).alloc _⟩
  | some c =>
    obtain ⟨A, k, hl, hsl⟩ := hl
    have hl2 : (Instr.lookup 76 (.map (some bc)) (.string n) true).run Tryz.prog w = .ok (.tuple #[.agg #[.string c.1, .int .i64 c.2.1, .slice A c.2.2.1.length k, .string c.2.2.2], .bool true]) w := hl
    clear hsl hl
    have HR : Hid (R = (c.2.1 == 1)) := HB
    clear HB
    generalize c.2.2.1.length = L at *
    generalize c.2.2.2 = tx at *
    generalize c.2.1 = x at *
    generalize c.1 = nm at *
    have hc0 : (w.alloc (.cells #[.string nm, .int .i64 x, .slice A L k, .string tx] 50)).cell? ⟨w.heap.size, 1, none⟩ = some (.int .i64 x) := cell_new w #[.string nm, .int .i64 x, .slice A L k, .string tx] 50 1
    go_enter Tryz.func40, Tryz.ntmps40
    go_wp2_with fail
    go_ret
    exact ⟨by rw [HR.out]; rfl, (Ext.refl w).alloc _⟩

/-- What holds of every engine, in plain words. -/
structure EOk (e : E.En) : Prop where
  few : e.cells.length ≤ 200
  vals : ∀ n v, e.vals n = some v → E.inputB e n = true ∧ v.size ≤ 65536
def namesE (e : E.En) : List ByteArray := e.cells.map (·.1)
theorem input_name {e : E.En} {n : ByteArray} (h : E.inputB e n = true) : n ∈ namesE e := by
  unfold E.inputB at h
  cases hc : E.findC e.cells n with
  | none => rw [hc] at h; cases h
  | some c =>
    obtain ⟨h1, h2⟩ := E.findC_some hc
    exact List.mem_map.2 ⟨c, h1, h2⟩
theorem EOk.dom {e : E.En} (h : EOk e) : ∀ n, (e.vals n).map Value.string ≠ none → n ∈ namesE e := by
  intro n hn
  cases hv : e.vals n with
  | none => rw [hv] at hn; exact absurd rfl hn
  | some v => exact input_name (h.vals n v hv).1
theorem EOk.len {e : E.En} (h : EOk e) : (namesE e).length < 1000000 := by
  have := h.few
  unfold namesE
  rw [List.length_map]
  omega
theorem EOk.change {e : E.En} (h : EOk e) {n : ByteArray} {v : E.V} (hi : E.inputB e n = true) (hv : ∀ s, v = some s → s.size ≤ 65536) : EOk (E.change e n v) := by
  unfold E.change
  by_cases hc : e.vals n = v
  · rw [if_pos hc]; exact h
  · rw [if_neg hc]
    refine ⟨h.few, fun x s hx => ?_⟩
    have hx : (if x = n then v else e.vals x) = some s := hx
    by_cases e1 : x = n
    · rw [if_pos e1] at hx
      exact ⟨by rw [e1]; exact hi, hv s hx⟩
    · rw [if_neg e1] at hx
      exact h.vals x s hx
theorem EOk.set {e : E.En} (h : EOk e) (n s : ByteArray) : EOk (E.setE e n s).2 := by
  unfold E.setE
  by_cases hi : E.inputB e n = false
  · rw [if_pos hi]; exact h
  · rw [if_neg hi]
    by_cases hz : 65536 < s.size
    · rw [if_pos hz]; exact h
    · rw [if_neg hz]
      exact h.change (by simpa using hi) fun t ht => by cases ht; omega
theorem EOk.clear {e : E.En} (h : EOk e) (n : ByteArray) : EOk (E.clearE e n).2 := by
  unfold E.clearE
  by_cases hi : E.inputB e n = false
  · rw [if_pos hi]; exact h
  · rw [if_neg hi]
    exact h.change (by simpa using hi) fun t ht => by cases ht
/-- The map of inputs has turned, and the revision. -/
theorem EngAt.changed {w w1 : World} {S : Nat → Prop} {g bc bi br : Nat} {e : E.En} (h : EngAt w S g bc bi br e) {n : ByteArray} {v : E.V} (hm : MapF Tryz.prog w1 bi (putF (fun s => (e.vals s).map Value.string) n (v.map Value.string))) (ht : w.mapTurned w1 bi) (hv : e.vals n ≠ v) :
    EngAt (w1.setCell ⟨g, 3, none⟩ (.int .i64 ((e.rev : Int) + 1))) S g bc bi br (E.change e n v) ∧ Tch (fun k => k = g ∨ k = bi) w (w1.setCell ⟨g, 3, none⟩ (.int .i64 ((e.rev : Int) + 1))) := by
  have T1 : Tch (fun k => k = bi) w w1 := (Tch.refl _ w).grown ht.grown fun i hi _ => (Option.some.inj hi).symm
  have T2 : Tch (fun k => k = g) w1 (w1.setCell ⟨g, 3, none⟩ (.int .i64 ((e.rev : Int) + 1))) := Tch.setCell (X := fun k => k = g) (Tch.refl _ w1) (p := ⟨g, 3, none⟩) (fun _ => rfl) _
  have T : Tch (fun k => k = g ∨ k = bi) w (w1.setCell ⟨g, 3, none⟩ (.int .i64 ((e.rev : Int) + 1))) := (T1.mono fun _ _ h => .inr h).trans' T2 fun _ _ h => .inl h
  refine ⟨?_, T⟩
  unfold E.change
  rw [if_neg hv]
  obtain ⟨n1, n2, n3, n4, n5, n6⟩ := h.ne
  obtain ⟨o1, o2, o3, o4⟩ := h.out
  have hS : ∀ k, S k → k < w.heap.size ∧ ¬ (k = g ∨ k = bi) := fun k hk => ⟨h.lt k hk, by rintro (rfl | rfl) <;> contradiction⟩
  refine ⟨?_, h.ne, h.out, fun k hk => Nat.lt_of_lt_of_le (h.lt k hk) T.size, ?_, ?_, ?_⟩
  · have := (h.row.tch T1 (fun e => n2 e)).set3 ((e.rev : Int) + 1)
    exact this
  · obtain ⟨f, h1, h2⟩ := h.cells
    exact ⟨f, h1.tch T (by rintro (e | e); exact n1 e.symm; exact n4 e), h2.tch T hS⟩
  · refine (hm.tch T2 (fun e => n2 e.symm)).congr fun x => ?_
    show (E.putV e.vals n v x).map Value.string = _
    unfold E.putV putF
    by_cases e1 : x = n
    · rw [if_pos e1, if_pos e1]
    · rw [if_neg e1, if_neg e1]
  · obtain ⟨f, h1, h2⟩ := h.results
    exact ⟨f, h1.tch T (by rintro (e | e); exact n3 e.symm; exact n6 e.symm), h2.tch T hS⟩

def RetE (x : Int) (e : E.En) (S : Nat → Prop) (g bc bi br : Nat) (w : World) (ed : Ending) (w' : World) : Prop := ed = .returned (.int .i64 x) ∧ EngAt w' S g bc bi br e ∧ Tch (fun k => k = g ∨ k = bi) w w'
set_option maxRecDepth 100000 in
set_option maxHeartbeats 2000000 in
theorem Set_any {w : World} {S : Nat → Prop} {g bc bi br : Nat} {e : E.En} (h : EngAt w S g bc bi br e) (ho : EOk e) (hr : e.rev < 4000000000000000000) {n s : ByteArray} (hn : n.size ≤ 9223372036854775807) (hs : s.size ≤ 9223372036854775807) :
    Calls Tryz.prog 24 #[.pointer (some ⟨g, 0, none⟩), .string n, .string s] w (RetE (E.setE e n s).1 (E.setE e n s).2 S g bc bi br w) := by
  have HI := Lib.hid (input_any h hn)
  have HG := Lib.hid h
  obtain ⟨y, hy⟩ : ∃ y, y = (E.setE e n s).1 := ⟨_, rfl⟩
  obtain ⟨e', he⟩ : ∃ e', e' = (E.setE e n s).2 := ⟨_, rfl⟩
  rw [← hy, ← he]
  have HY := Lib.hid hy
  have HE := Lib.hid he
  have HO := Lib.hid ho
  clear h hy he ho
  cases hi : E.inputB e n with
  | false =>
    rw [hi] at HI
    have HYs : Hid (y = 7) := Lib.hid (by rw [HY.out]; unfold E.setE; rw [if_pos hi])
    have HEs : Hid (e' = e) := Lib.hid (by rw [HE.out]; unfold E.setE; rw [if_pos hi])
    clear hi HY HE
    go_enter Tryz.func24, Tryz.ntmps24
    go_wp2_with fail
    refine HI.out.mono ?_
    rintro ed w1 ⟨rfl, d1⟩
    go_wp2_with fail
    go_ret
    exact ⟨by rw [HYs.out]; rfl, by rw [HEs.out]; exact HG.out.ext d1, d1.tch _⟩
  | true =>
    rw [hi] at HI
    have hi' : ¬ E.inputB e n = false := by rw [hi]; decide
    by_cases hz : 65536 < s.size
    · have HYs : Hid (y = 10) := Lib.hid (by rw [HY.out]; unfold E.setE; rw [if_neg hi', if_pos hz])
      have HEs : Hid (e' = e) := Lib.hid (by rw [HE.out]; unfold E.setE; rw [if_neg hi', if_pos hz])
      clear hi hi' HY HE
      go_enter Tryz.func24, Tryz.ntmps24
      go_wp2_with fail
      refine HI.out.mono ?_
      rintro ed w1 ⟨rfl, d1⟩
      go_wp2_with fail
      go_ret
      exact ⟨by rw [HYs.out]; rfl, by rw [HEs.out]; exact HG.out.ext d1, d1.tch _⟩
    · have HYs : Hid (y = 0) := Lib.hid (by rw [HY.out]; unfold E.setE; rw [if_neg hi', if_neg hz])
      have HEs : Hid (e' = E.change e n (some s)) := Lib.hid (by rw [HE.out]; unfold E.setE; rw [if_neg hi', if_neg hz])
      clear hi hi' HY HE
      go_enter Tryz.func24, Tryz.ntmps24
      go_wp2_with fail
      refine HI.out.mono ?_
      rintro ed w1 ⟨rfl, d1⟩
      have HD := Lib.hid d1
      have HG1 := Lib.hid (HG.out.ext d1)
      clear d1
      have a1 := HG1.out.row.c1
      have hl := HG1.out.inputs.look Tryz.underlying9 Tryz.underlying75 (zv9 w1) hn
      cases hv : e.vals n with
      | none =>
        have hl2 : (Instr.lookup 75 (.map (some bi)) (.string n) true).run Tryz.prog w1 = .ok (.tuple #[.string ⟨#[]⟩, .bool false]) w1 := by rw [hl, hv]; rfl
        have HV : Hid (e.vals n ≠ some s) := Lib.hid (by rw [hv]; exact fun e => by cases e)
        clear hl hv
        go_wp2_with (refine wpList_mapF_put (b := bi) HG1.out.inputs Tryz.underlying9 (namesE e) HO.out.dom HO.out.len rfl _ _ _ _ 9 rfl Tryz.underlying75 rfl n (.string s) rfl rfl hn ?_)
        intro w2 hm2 ht2
        obtain ⟨HE2, HT2⟩ := HG1.out.changed (v := some s) hm2 ht2 HV.out
        have HR2 : Row w2 g bc bi br e.rev e.st.cnt := HG1.out.row.tch ((Tch.refl (fun k => k = bi) w1).grown ht2.grown fun i hi _ => (Option.some.inj hi).symm) fun e => HG1.out.ne.2.1 e
        have b3 := HR2.c3
        have f3 := HR2.frozen 3
        have hrev : (e.rev : Int) < 4000000000000000000 := by omega
        have hrev0 : (0 : Int) ≤ (e.rev : Int) := by omega
        have HK := Lib.hid (And.intro HE2 HT2)
        clear hm2 ht2 HE2 HT2 HR2 a1
        generalize hrv : (e.rev : Int) = rv at *
        have HRV := Lib.hid hrv
        clear hrv
        go_wp2_with fail
        go_ret
        exact ⟨by rw [HYs.out]; rfl, by rw [HEs.out]; exact HK.out.1, (HD.out.tch _).trans HK.out.2⟩
      | some old =>
        have hl2 : (Instr.lookup 75 (.map (some bi)) (.string n) true).run Tryz.prog w1 = .ok (.tuple #[.string old, .bool true]) w1 := by rw [hl, hv]; rfl
        by_cases ho : old = s
        · have HV : Hid (e.vals n = some s) := Lib.hid (by rw [hv, ho])
          clear hl hv
          subst ho
          go_wp2_with fail
          go_ret
          exact ⟨by rw [HYs.out]; rfl, by rw [HEs.out]; unfold E.change; rw [if_pos HV.out]; exact HG1.out, HD.out.tch _⟩
        · have HV : Hid (e.vals n ≠ some s) := Lib.hid (by rw [hv]; exact fun e => ho (Option.some.inj e))
          have hne : (old.toList == s.toList) = false := by
            rw [beq_eq_false_iff_ne, ByteArray.toList_eq, ByteArray.toList_eq]
            exact fun e => ho (bytes_inj e)
          clear hl hv ho
          go_wp2_with (refine wpList_mapF_put (b := bi) HG1.out.inputs Tryz.underlying9 (namesE e) HO.out.dom HO.out.len rfl _ _ _ _ 9 rfl Tryz.underlying75 rfl n (.string s) rfl rfl hn ?_)
          intro w2 hm2 ht2
          obtain ⟨HE2, HT2⟩ := HG1.out.changed (v := some s) hm2 ht2 HV.out
          have HR2 : Row w2 g bc bi br e.rev e.st.cnt := HG1.out.row.tch ((Tch.refl (fun k => k = bi) w1).grown ht2.grown fun i hi _ => (Option.some.inj hi).symm) fun e => HG1.out.ne.2.1 e
          have b3 := HR2.c3
          have f3 := HR2.frozen 3
          have hrev : (e.rev : Int) < 4000000000000000000 := by omega
          have hrev0 : (0 : Int) ≤ (e.rev : Int) := by omega
          have HK := Lib.hid (And.intro HE2 HT2)
          clear hm2 ht2 HE2 HT2 HR2 a1
          generalize hrv : (e.rev : Int) = rv at *
          have HRV := Lib.hid hrv
          clear hrv
          go_wp2_with fail
          go_ret
          exact ⟨by rw [HYs.out]; rfl, by rw [HEs.out]; exact HK.out.1, (HD.out.tch _).trans HK.out.2⟩

set_option maxRecDepth 100000 in
set_option maxHeartbeats 2000000 in
theorem Clear_any {w : World} {S : Nat → Prop} {g bc bi br : Nat} {e : E.En} (h : EngAt w S g bc bi br e) (hr : e.rev < 4000000000000000000) {n : ByteArray} (hn : n.size ≤ 9223372036854775807) :
    Calls Tryz.prog 26 #[.pointer (some ⟨g, 0, none⟩), .string n] w (RetE (E.clearE e n).1 (E.clearE e n).2 S g bc bi br w) := by
  have HI := Lib.hid (input_any h hn)
  have HG := Lib.hid h
  obtain ⟨y, hy⟩ : ∃ y, y = (E.clearE e n).1 := ⟨_, rfl⟩
  obtain ⟨e', he⟩ : ∃ e', e' = (E.clearE e n).2 := ⟨_, rfl⟩
  rw [← hy, ← he]
  have HY := Lib.hid hy
  have HE := Lib.hid he
  clear h hy he
  cases hi : E.inputB e n with
  | false =>
    rw [hi] at HI
    have HYs : Hid (y = 7) := Lib.hid (by rw [HY.out]; unfold E.clearE; rw [if_pos hi])
    have HEs : Hid (e' = e) := Lib.hid (by rw [HE.out]; unfold E.clearE; rw [if_pos hi])
    clear hi HY HE
    go_enter Tryz.func26, Tryz.ntmps26
    go_wp2_with fail
    refine HI.out.mono ?_
    rintro ed w1 ⟨rfl, d1⟩
    go_wp2_with fail
    go_ret
    exact ⟨by rw [HYs.out]; rfl, by rw [HEs.out]; exact HG.out.ext d1, d1.tch _⟩
  | true =>
    rw [hi] at HI
    have hi' : ¬ E.inputB e n = false := by rw [hi]; decide
    have HYs : Hid (y = 0) := Lib.hid (by rw [HY.out]; unfold E.clearE; rw [if_neg hi'])
    have HEs : Hid (e' = E.change e n none) := Lib.hid (by rw [HE.out]; unfold E.clearE; rw [if_neg hi'])
    clear hi hi' HY HE
    go_enter Tryz.func26, Tryz.ntmps26
    go_wp2_with fail
    refine HI.out.mono ?_
    rintro ed w1 ⟨rfl, d1⟩
    have HD := Lib.hid d1
    have HG1 := Lib.hid (HG.out.ext d1)
    clear d1
    have a1 := HG1.out.row.c1
    have hl := HG1.out.inputs.look Tryz.underlying9 Tryz.underlying75 (zv9 w1) hn
    cases hv : e.vals n with
    | none =>
      have hl2 : (Instr.lookup 75 (.map (some bi)) (.string n) true).run Tryz.prog w1 = .ok (.tuple #[.string ⟨#[]⟩, .bool false]) w1 := by rw [hl, hv]; rfl
      have HV : Hid (e.vals n = none) := Lib.hid hv
      clear hl hv
      go_wp2_with fail
      go_ret
      exact ⟨by rw [HYs.out]; rfl, by rw [HEs.out]; unfold E.change; rw [if_pos HV.out]; exact HG1.out, HD.out.tch _⟩
    | some old =>
      have hl2 : (Instr.lookup 75 (.map (some bi)) (.string n) true).run Tryz.prog w1 = .ok (.tuple #[.string old, .bool true]) w1 := by rw [hl, hv]; rfl
      have HV : Hid (e.vals n ≠ none) := Lib.hid (by rw [hv]; exact fun e => by cases e)
      clear hl hv
      obtain ⟨w2, hrun, hm2, ht2⟩ := HG1.out.inputs.drop Tryz.underlying9 Tryz.underlying75 hn 0
      obtain ⟨HE2, HT2⟩ := HG1.out.changed (v := none) hm2 ht2 HV.out
      have HR2 : Row w2 g bc bi br e.rev e.st.cnt := HG1.out.row.tch ((Tch.refl (fun k => k = bi) w1).grown ht2.grown fun i hi _ => (Option.some.inj hi).symm) fun e => HG1.out.ne.2.1 e
      have b3 := HR2.c3
      have f3 := HR2.frozen 3
      have hrev : (e.rev : Int) < 4000000000000000000 := by omega
      have hrev0 : (0 : Int) ≤ (e.rev : Int) := by omega
      have HK := Lib.hid (And.intro HE2 HT2)
      clear hm2 ht2 HE2 HT2 HR2
      generalize hrv : (e.rev : Int) = rv at *
      have HRV := Lib.hid hrv
      clear hrv
      go_wp2_with fail
      go_ret
      exact ⟨by rw [HYs.out]; rfl, by rw [HEs.out]; exact HK.out.1, (HD.out.tch _).trans HK.out.2⟩
set_option maxRecDepth 100000 in
theorem Computed_any {w : World} {S : Nat → Prop} {g bc bi br : Nat} {e : E.En} (h : EngAt w S g bc bi br e) : Calls Tryz.prog 15 #[.pointer (some ⟨g, 0, none⟩)] w fun ed w' => ed = .returned (.int .i64 e.st.cnt) ∧ w = w' := by
  have a4 := h.row.c4
  generalize (e.st.cnt : Int) = x at *
  clear h
  go_enter Tryz.func15, Tryz.ntmps15
  go_wp2_with fail
  go_ret
  exact ⟨rfl, rfl⟩
end Go.Proofs.YtkeaoejgboefbaaGreatDoor

/- slices.DeleteFunc of strings, on a row of the call's own. -/
namespace Go.Proofs.YtkeaoejgboefbaaGreatDoor
open Go.RowKit Go.Maps

/-- A row of strings. -/
def StrRow (w : World) (b : Nat) (cs : List ByteArray) : Prop := w.heap[b]? = some (.cells (cs.map Value.string).toArray 9 (0, 0))
theorem StrRow.cell {w : World} {b : Nat} {cs : List ByteArray} (h : StrRow w b cs) {j : Nat} (hj : j < cs.length) : w.cell? ⟨b, j, none⟩ = some (.string cs[j]) := by
  rw [cell_of_row w b j _ _ _ h]
  simp [hj]
theorem StrRow.lt {w : World} {b : Nat} {cs : List ByteArray} (h : StrRow w b cs) : b < w.heap.size := (Array.getElem?_eq_some_iff.1 h).1
theorem StrRow.frozen {w : World} {b : Nat} {cs : List ByteArray} (h : StrRow w b cs) (j : Nat) : w.frozen? ⟨b, j, none⟩ = false := Lib.frozen_of_heap h j
theorem StrRow.set {w : World} {b : Nat} {cs : List ByteArray} (h : StrRow w b cs) (j : Nat) (s : ByteArray) : StrRow (w.setCell ⟨b, j, none⟩ (.string s)) b (cs.set j s) := by
  have := heap_setCell_cells h j (.string s)
  unfold StrRow
  rw [this]
  congr 2
  apply Array.ext'
  simp [List.map_set]
theorem StrRow.ext {w w' : World} {b : Nat} {cs : List ByteArray} (h : StrRow w b cs) (he : Ext w w') : StrRow w' b cs := (he.block b h.lt).trans h
set_option maxRecDepth 100000 in
set_option maxHeartbeats 400000 in
/-- The first place of a quality; the length where there is none. -/
theorem IndexStrX (l : List ByteArray) (b g : Nat) (lb : Array Value) (p : ByteArray → Bool) (w : World) (eg : ∀ args w, (callFunc g args).run Tryz.prog w = .ok (.enter g args) w) (hl : l.length ≤ 9000000)
    (hA : StrRow w b l) (hp : ∀ x ∈ l, Calls Tryz.prog g (#[.string x] ++ lb) w fun e w' => e = .returned (.bool (p x)) ∧ w' = w) (L : Nat) (hL : L = l.length) :
    Calls Tryz.prog 64 #[.slice (some ⟨b, 0, none⟩) L L, .func (.func g) #[] lb] w fun e w' => e = .returned (.int .i64 (if l.any p then (l.findIdx p : Int) else -1)) ∧ w' = w := by
  have HC := Lib.hid hA
  have HP := Lib.hid hp
  have HL := Lib.hid hL
  have hL2 : L ≤ 9000000 := by omega
  clear hA hp hL hl
  obtain ⟨r, hr⟩ : ∃ r : Int, r = if l.any p then (l.findIdx p : Int) else -1 := ⟨_, rfl⟩
  rw [← hr]
  have HR := Lib.hid hr
  clear hr
  go_enter Tryz.func64, Tryz.ntmps64
  go_wp2_with fail
  go_loopw [5, 8] (fun _ i wr => ∃ k : Nat, k ≤ L ∧ i = .int .i64 k ∧ Hid (∀ j (h : j < l.length), j < k → p l[j] = false) ∧ wr = w) (fun _ i _ => L - (intOf i).toNat)
  case atStart => exact ⟨0, Nat.zero_le _, rfl, fun j _ hj => absurd hj (Nat.not_lt_zero _), rfl⟩
  case round =>
    obtain ⟨k, hk, rfl, hno, rfl⟩ := hrel
    by_cases hlt : k < L
    · have hkl : k < l.length := by have := HL.out; omega
      have c0 := HC.out.cell hkl
      have hcall := HP.out l[k] (List.getElem_mem hkl)
      have hk0 : k ≤ 9000000 := by omega
      cases hpk : p l[k] with
      | true =>
        rw [hpk] at hcall
        have HK := Lib.hid hcall
        have HPK := Lib.hid hpk
        clear hcall hpk
        go_wp2_with (go_at_fn g; refine HK.out.mono ?_; rintro e w1 ⟨rfl, rfl⟩)
        go_ret
        refine ⟨?_, rfl⟩
        have h1 : l.any p = true := List.any_eq_true.2 ⟨l[k], List.getElem_mem hkl, HPK.out⟩
        have h2 : l.findIdx p = k := by
          rw [List.findIdx_eq hkl]
          exact ⟨HPK.out, fun j hj => hno.out j (by omega) hj⟩
        rw [HR.out, h1, h2]
        rfl
      | false =>
        rw [hpk] at hcall
        have HK := Lib.hid hcall
        have HPK := Lib.hid hpk
        clear hcall hpk
        go_wp2_with (go_at_fn g; refine HK.out.mono ?_; rintro e w1 ⟨rfl, rfl⟩)
        go_roundw
        case rel =>
          refine ⟨k + 1, by omega, by go_num, fun j h hj => ?_, by first | rfl | trivial⟩
          by_cases e : j = k
          · subst e; exact HPK.out
          · exact hno.out j h (by omega)
        case measure => simp [intOf]; omega
    · have hkL : k = L := by omega
      go_wp2_with fail
      go_ret
      refine ⟨?_, rfl⟩
      have : l.any p = false := by
        rw [List.any_eq_false]
        intro x hx
        obtain ⟨j, hj, rfl⟩ := List.getElem_of_mem hx
        have := hno.out j hj (by have := HL.out; omega)
        simp [this]
      rw [HR.out, this]
      rfl

theorem find_first {l : List ByteArray} {p : ByteArray → Bool} (h : l.any p = true) : ∃ i, l.findIdx p = i ∧ i < l.length ∧ (l.take (i + 1)).filter (fun x => !p x) = l.take i := by
  have hi : l.findIdx p < l.length := List.findIdx_lt_length.2 (List.any_eq_true.1 h)
  refine ⟨_, rfl, hi, ?_⟩
  rw [List.take_succ_eq_append_getElem hi, List.filter_append]
  have h1 : p l[l.findIdx p] = true := List.findIdx_getElem
  have h2 : (l.take (l.findIdx p)).filter (fun x => !p x) = l.take (l.findIdx p) := by
    rw [List.filter_eq_self]
    intro x hx
    obtain ⟨j, hj, rfl⟩ := List.getElem_of_mem hx
    rw [List.getElem_take]
    rw [List.length_take] at hj
    simpa using List.not_of_lt_findIdx (p := p) (xs := l) (i := j) (by omega)
  rw [h2]
  simp [h1]
/-- What the loop has done: m are kept of the first k. -/
structure Kept (l : List ByteArray) (p : ByteArray → Bool) (m k : Nat) (cs : List ByteArray) : Prop where
  len : cs.length = l.length
  lt : m < k
  le : k ≤ l.length
  took : cs.take m = (l.take k).filter fun x => !p x
  rest : ∀ j, k ≤ j → cs[j]? = l[j]?
theorem Kept.start {l : List ByteArray} {p : ByteArray → Bool} {i : Nat} (hi : i < l.length) (h : (l.take (i + 1)).filter (fun x => !p x) = l.take i) : Kept l p i (i + 1) l := ⟨rfl, Nat.lt_succ_self _, hi, h.symm, fun _ _ => rfl⟩
theorem Kept.drop {l : List ByteArray} {p : ByteArray → Bool} {m k : Nat} {cs : List ByteArray} (h : Kept l p m k cs) (hk : k < l.length) (hp : p l[k] = true) : Kept l p m (k + 1) cs := by
  refine ⟨h.len, by have := h.lt; omega, hk, ?_, fun j hj => h.rest j (by omega)⟩
  rw [h.took, List.take_succ_eq_append_getElem hk, List.filter_append]
  simp [hp]
theorem Kept.keep {l : List ByteArray} {p : ByteArray → Bool} {m k : Nat} {cs : List ByteArray} (h : Kept l p m k cs) (hk : k < l.length) (hp : p l[k] = false) : Kept l p (m + 1) (k + 1) (cs.set m l[k]) := by
  have hl := h.len
  have hlt := h.lt
  refine ⟨by rw [List.length_set]; exact hl, by omega, hk, ?_, fun j hj => ?_⟩
  · have hm : m < (cs.set m l[k]).length := by rw [List.length_set]; omega
    rw [List.take_succ_eq_append_getElem hm, List.take_set_of_le (Nat.le_refl m), h.took, List.take_succ_eq_append_getElem hk, List.filter_append]
    simp [hp]
  · rw [List.getElem?_set_ne (by omega)]
    exact h.rest j (by omega)
theorem Kept.at' {l : List ByteArray} {p : ByteArray → Bool} {m k : Nat} {cs : List ByteArray} (h : Kept l p m k cs) (hk : k < l.length) : ∃ h' : k < cs.length, cs[k] = l[k] := by
  have hk' : k < cs.length := by rw [h.len]; exact hk
  refine ⟨hk', ?_⟩
  have := h.rest k (Nat.le_refl _)
  rw [List.getElem?_eq_getElem hk', List.getElem?_eq_getElem hk] at this
  exact Option.some.inj this
theorem StrRow.sets {w : World} {b : Nat} {cs : List ByteArray} (h : StrRow w b cs) (o : Nat) (ss : List ByteArray) : ∃ cs', StrRow (w.setCells b o (ss.map Value.string)) b cs' ∧ cs'.length = cs.length ∧ ∀ j, j < o → cs'[j]? = cs[j]? := by
  induction ss generalizing w cs o with
  | nil => exact ⟨cs, h, rfl, fun _ _ => rfl⟩
  | cons s ss ih =>
    obtain ⟨cs', h1, h2, h3⟩ := ih (h.set o s) (o + 1)
    refine ⟨cs', h1, by rw [h2, List.length_set], fun j hj => ?_⟩
    rw [h3 j (by omega), List.getElem?_set_ne (by omega)]
set_option maxRecDepth 100000 in
theorem run_slice_tail (w : World) (b i L : Nat) (hi : i < L) : (Instr.slice 48 (.slice (some ⟨b, 0, none⟩) L L) (some (.int .i64 (i : Int))) none none).run Tryz.prog w = .ok (.slice (some ⟨b, i, none⟩) (L - i) (L - i)) w := by
  have hz : (sizeOf (Tryz.prog.elem 48)).run Tryz.prog w = .ok 1 w := by kernel_rfl
  rw [run_slice_l w 48 (some ⟨b, 0, none⟩) L L Tryz.underlying48 .i64 i (by omega) (by omega), hz]
  have hne : L ≠ i := by omega
  simp [Result.andThen, sliced, Addr.add, hne]
  try omega
set_option maxRecDepth 100000 in
theorem run_slice_lead (w : World) (b i L : Nat) (hi : i < L) : (Instr.slice 48 (.slice (some ⟨b, 0, none⟩) L L) none (some (.int .i64 (i : Int))) none).run Tryz.prog w = .ok (.slice (some ⟨b, 0, none⟩) i L) w := by
  have hz : (sizeOf (Tryz.prog.elem 48)).run Tryz.prog w = .ok 1 w := by kernel_rfl
  rw [run_slice_h w 48 (some ⟨b, 0, none⟩) L L Tryz.underlying48 .i64 i (by omega) (by omega), hz]
  simp [Result.andThen, sliced, Addr.add]
/-- clear of a slice of strings. -/
theorem run_clear_strs (w : World) (ty : TypeId) (b o n c : Nat) (hc : ∀ j, j < n → (w.cell? ⟨b, o + j, none⟩).isSome = true) (hf : ∀ j, j < n → w.frozen? ⟨b, o + j, none⟩ = false) :
    (Builtin.clear_ #[48] ty #[.slice (some ⟨b, o, none⟩) n c]).run Tryz.prog w = .ok (.tuple #[]) (w.setCells b o ((List.replicate n (⟨#[]⟩ : ByteArray)).map Value.string)) := by
  have hv : ∀ w, (zeroValue 9).run Tryz.prog w = .ok (.string ⟨#[]⟩) w := fun w => by kernel_rfl
  have hzc : (Builtin.zeroCells (Value.string ⟨#[]⟩).cells n).toList = (List.replicate n (⟨#[]⟩ : ByteArray)).map Value.string := by
    rw [List.map_replicate, List.eq_replicate_iff]
    refine ⟨by simp [Builtin.zeroCells, Value.cells], fun x hx => ?_⟩
    simp [Builtin.zeroCells, Value.cells, Nat.mod_one] at hx
    exact hx.2.symm
  have hst := run_storeCells_cells (P := Tryz.prog) b o ((List.replicate n (⟨#[]⟩ : ByteArray)).map Value.string) 0 w (by simpa using hc) (by simpa using hf) (by intro v hv'; simp at hv'; obtain ⟨_, rfl⟩ := hv'; rfl)
  simp only [Nat.add_zero] at hst
  cases n with
  | zero => simp [Builtin.clear_, run_underlying Tryz.underlying48]; rfl
  | succ n => 
    generalize (List.replicate (n + 1) (⟨#[]⟩ : ByteArray)).map Value.string = rs at *
    simp [Builtin.clear_, run_underlying Tryz.underlying48, hv, hzc, hst]
def RetRow (w : World) (b L : Nat) (xs : List ByteArray) (e : Ending) (w' : World) : Prop := ∃ n cs, e = .returned (.slice (some ⟨b, 0, none⟩) n L) ∧ n = xs.length ∧ StrRow w' b cs ∧ cs.length = L ∧ cs.take n = xs ∧ Tch (fun k => k = b) w w'
set_option maxRecDepth 100000 in
set_option maxHeartbeats 1000000 in
theorem DeleteStr (l : List ByteArray) (b g : Nat) (lb : Array Value) (p : ByteArray → Bool) (w : World) (eg : ∀ args w, (callFunc g args).run Tryz.prog w = .ok (.enter g args) w) (hl : l.length ≤ 9000000)
    (hA : StrRow w b l) (hp : ∀ x ∈ l, ∀ w', Tch (fun k => k = b) w w' → Calls Tryz.prog g (#[.string x] ++ lb) w' fun e w'' => e = .returned (.bool (p x)) ∧ w'' = w') (L : Nat) (hL : L = l.length) :
    Calls Tryz.prog 98 #[.slice (some ⟨b, 0, none⟩) L L, .func (.func g) #[] lb] w (RetRow w b L (l.filter fun x => !p x)) := by
  have HC := Lib.hid hA
  have HP := Lib.hid hp
  have HL := Lib.hid hL
  have HI := Lib.hid (IndexStrX l b g lb p w eg hl hA (fun x hx => hp x hx w (Tch.refl _ _)) L hL)
  have hL2 : L ≤ 9000000 := by omega
  clear hA hp hL hl
  cases ha : l.any p with
  | false =>
    rw [ha, if_neg (by decide)] at HI
    have HF : Hid (l.filter (fun x => !p x) = l) := Lib.hid (List.filter_eq_self.2 fun x hx => by simpa using List.any_eq_false.1 ha x hx)
    clear ha
    go_enter Tryz.func98, Tryz.ntmps98
    go_wp2_with fail
    refine HI.out.mono ?_
    rintro e w1 ⟨rfl, rfl⟩
    go_wp2_with fail
    go_ret
    exact ⟨L, l, rfl, by rw [HF.out]; exact HL.out, HC.out, HL.out.symm, by rw [HF.out, HL.out]; exact List.take_length, Tch.refl _ _⟩
  | true =>
    rw [ha, if_pos rfl] at HI
    obtain ⟨i, hi, hil, hif⟩ := find_first ha
    rw [hi] at HI
    have HK0 := Lib.hid (Kept.start hil hif)
    have hiL : i < L := by rw [HL.out]; exact hil
    have hi1 : ((i : Int) == -1) = false := by rw [beq_eq_false_iff_ne]; omega
    clear ha hi hil hif
    go_enter Tryz.func98, Tryz.ntmps98
    go_wp2_with fail
    refine HI.out.mono ?_
    rintro e w1 ⟨rfl, rfl⟩
    go_wp2_with fail
    go_loopw [5, 6, 7] (fun m k _ wr => ∃ M K : Nat, ∃ cs, m = .int .i64 M ∧ k = .int .i64 K ∧ K ≤ L ∧ M < K ∧ Hid (Kept l p M K cs) ∧ Hid (StrRow wr b cs) ∧ Hid (Tch (fun k => k = b) w1 wr)) (fun _ k _ _ => L - (intOf k).toNat)
    case atStart => exact ⟨i, i + 1, l, rfl, by go_num, hiL, Nat.lt_succ_self _, HK0, HC, Tch.refl _ _⟩
    case round =>
      obtain ⟨M, K, cs, rfl, rfl, hKL, hMK, hkp, hrow, ht⟩ := hrel
      by_cases hlt : K < L
      · have hkl : K < l.length := by have := HL.out; omega
        obtain ⟨hk', hck⟩ := hkp.out.at' hkl
        have c0 := hrow.out.cell hk'
        rw [hck] at c0
        have hcall := HP.out l[K] (List.getElem_mem hkl) wr ht.out
        cases hpk : p l[K] with
        | true =>
          rw [hpk] at hcall
          have HCL := Lib.hid hcall
          have HN := Lib.hid (hkp.out.drop hkl hpk)
          clear hcall hpk hck
          go_wp2_with (go_at_fn g; refine HCL.out.mono ?_; rintro e w2 ⟨rfl, rfl⟩)
          go_roundw
          case rel => exact ⟨M, K + 1, cs, rfl, by go_num, by omega, by omega, HN, hrow, ht⟩
          case measure => simp [intOf]; omega
        | false =>
          rw [hpk] at hcall
          have HCL := Lib.hid hcall
          have HN := Lib.hid (hkp.out.keep hkl hpk)
          have cM := hrow.out.cell (j := M) (by omega)
          have fM := hrow.out.frozen M
          have HR2 := Lib.hid (hrow.out.set M l[K])
          clear hcall hpk hck
          go_wp2_with (go_at_fn g; refine HCL.out.mono ?_; rintro e w2 ⟨rfl, rfl⟩)
          go_roundw
          case rel => exact ⟨M + 1, K + 1, cs.set M l[K], by go_num, by go_num, by omega, by omega, HN, HR2, Lib.hid (Tch.setCell (X := fun k => k = b) ht.out (p := ⟨b, M, none⟩) (fun _ => rfl) _)⟩
          case measure => simp [intOf]; omega
      · have hKL' : K = L := by omega
        have hML : M < L := by omega
        have hlen := hkp.out.len
        have htk := hkp.out.took
        rw [hKL', HL.out, List.take_length] at htk
        have hs1 := run_slice_tail wr b M L (by omega)
        have hs2 := run_slice_lead wr b M L (by omega)
        have hcl := run_clear_strs wr 0 b M (L - M) (L - M) (fun j hj => by rw [hrow.out.cell (j := M + j) (by have := HL.out; omega)]; rfl) fun j _ => hrow.out.frozen _
        have HRW := Lib.hid (hrow.out.sets M (List.replicate (L - M) ⟨#[]⟩))
        have HT := Lib.hid (ht.out.grown (grownBy_setCells b ((List.replicate (L - M) ⟨#[]⟩).map Value.string) M wr) fun i hi _ => (Option.some.inj hi).symm)
        have HTK := Lib.hid htk
        have HLN : Hid (cs.length = L) := Lib.hid (by rw [hlen, HL.out])
        clear htk hlen
        generalize hLM : L - M = q at *
        have HLM := Lib.hid hLM
        clear hLM
        subst hKL'
        rw [List.map_replicate] at HRW HT
        go_wp2_with fail
        go_ret
        obtain ⟨cs', r1, r2, r3⟩ := HRW.out
        have hlc : cs.length = K := HLN.out
        refine ⟨M, cs', rfl, ?_, r1, by rw [r2, hlc], ?_, HT.out⟩
        · rw [← HTK.out, List.length_take]; omega
        · rw [← HTK.out]
          apply List.ext_getElem?
          intro j
          rw [List.getElem?_take, List.getElem?_take]
          by_cases hj : j < M
          · rw [if_pos hj, if_pos hj, r3 j hj]
          · rw [if_neg hj, if_neg hj]
end Go.Proofs.YtkeaoejgboefbaaGreatDoor

/- engine.pick. -/
namespace Go.Proofs.YtkeaoejgboefbaaGreatDoor
open Go.RowKit Go.Maps

/-- The library's variables hold what they were laid. -/
def Gl (w : World) : Prop := (∃ m, w.cell? ⟨0, 0, none⟩ = some (.int .i64 m)) ∧ Lib.TabIs Tryz.prog w "internal/strconv.uint64pow10" .u64 Lib.pow10Tab
theorem tab_block {w w' : World} {name : String} {k : IntKind} {zs : List Int} (h : Lib.TabIs Tryz.prog w name k zs) (he : ∀ g, g < w.heap.size → Tryz.prog.globalNamed name = some g → w'.heap[g]? = w.heap[g]?) : Lib.TabIs Tryz.prog w' name k zs := by
  unfold Lib.TabIs World.var? at *
  cases hg : Tryz.prog.globalNamed name with
  | none => rw [hg] at h; cases h
  | some g =>
    rw [hg] at h
    simp only [Option.bind_some] at h ⊢
    have hlt : g < w.heap.size := by
      rcases Nat.lt_or_ge g w.heap.size with h' | h'
      · exact h'
      · rw [Array.getElem?_eq_none h'] at h; cases h
    rw [he g hlt hg]
    exact h
/-- The library's blocks. -/
def Lib0 (k : Nat) : Prop := k = 0 ∨ Tryz.prog.globalNamed "internal/strconv.uint64pow10" = some k
/-- No block of X is one of the library's. -/
def Off (X : Nat → Prop) : Prop := ∀ k, X k → ¬ Lib0 k
theorem Gl.lt {w : World} (h : Gl w) {k : Nat} (hk : Lib0 k) : k < w.heap.size := by
  obtain ⟨⟨m, hm⟩, ht⟩ := h
  rcases hk with rfl | hk
  · exact World.block_lt_of_cell? _ _ hm
  · unfold Lib.TabIs World.var? at ht
    rw [hk] at ht
    simp only [Option.bind_some] at ht
    rcases Nat.lt_or_ge k w.heap.size with h' | h'
    · exact h'
    · rw [Array.getElem?_eq_none h'] at ht; cases ht
theorem Gl.off {w : World} (h : Gl w) {k : Nat} (hk : w.heap.size ≤ k) : ¬ Lib0 k := fun e => by have := h.lt e; omega
theorem Gl.tch {w w' : World} {X : Nat → Prop} (h : Gl w) (he : Tch X w w') (hX : Off X) : Gl w' := by
  obtain ⟨⟨m, hm⟩, ht⟩ := h
  exact ⟨⟨m, he.keepc hm fun hx => hX _ hx (.inl rfl)⟩, tab_block ht fun g hg hn => he.block g hg fun hx => hX _ hx (.inr hn)⟩
theorem Gl.ext {w w' : World} (h : Gl w) (he : Ext w w') : Gl w' := h.tch (he.tch fun _ => False) fun _ h => h.elim
theorem Itoa_any (n : Int) (w : World) (h0 : 0 ≤ n) (h1 : n ≤ 9223372036854775807) (hg : Gl w) : Calls Tryz.prog 82 #[.int .i64 n] w (Al (.string (E.mk (Lib.decDigits n.toNat))) w) := by
  refine (Tryz.strconv_Itoa n (by omega) h1 w hg.2).mono ?_
  rintro e w' ⟨rfl, k, os, rfl⟩
  refine ⟨?_, Lib.below_grow _ _ (Nat.le_refl _) k os⟩
  unfold Lib.itoa
  rw [if_neg (by omega)]
  rfl
theorem egc110 : ∀ (args : Array Value) (w : World), (callFunc 100 args).run Tryz.prog w = .ok (.enter 100 args) w := enters_of Tryz.func100 (by kernel_rfl) rfl
set_option maxRecDepth 100000 in
theorem pick1_any (s t : ByteArray) (g : Nat) (w : World) (hs : s.size ≤ 65536) (hc : w.cell? ⟨g, 0, none⟩ = some (.string t)) (hg : Gl w) :
    Calls Tryz.prog 100 #[.string s, .pointer (some ⟨g, 0, none⟩)] w fun e w' => e = .returned (.bool (!Lib.contains s.data.toList t.data.toList)) ∧ w' = w := by
  obtain ⟨m, hm⟩ := hg.1
  have H := Lib.hid (Tryz.strings_Contains s t m w (by omega) hm)
  generalize Lib.contains s.data.toList t.data.toList = b at *
  clear hg hm
  go_enter Tryz.func100, Tryz.ntmps100
  go_wp2_with fail
  refine H.out.mono ?_
  rintro e w1 ⟨rfl, rfl⟩
  go_wp2_with fail
  go_ret
  exact ⟨rfl, rfl⟩
theorem foundV_none : foundV none = .agg #[.string ⟨#[]⟩, .bool false] := rfl
theorem foundV_some (s : ByteArray) : foundV (some s) = .agg #[.string s, .bool true] := rfl
theorem size_alloc' (w : World) (o : Obj) : (w.alloc o).heap.size = w.heap.size + 1 := by simp
theorem two_new (w : World) (a b c d : Value) (t u : TypeId) (i : Nat) : ((w.alloc (.cells #[a, b] t)).alloc (.cells #[c, d] u)).cell? ⟨w.heap.size + 1, i, none⟩ = #[c, d][i]? := by
  have := cell_new (w.alloc (.cells #[a, b] t)) #[c, d] u i
  rw [size_alloc'] at this
  exact this
set_option maxRecDepth 100000 in
set_option maxHeartbeats 1000000 in
theorem pick_none (s : ByteArray) (w : World) : Calls Tryz.prog 83 #[.agg #[.string s, .bool true], .agg #[.string ⟨#[]⟩, .bool false]] w (Al (foundV none) w) := by
  rw [foundV_none]
  go_enter Tryz.func83, Tryz.ntmps83
  go_wp2_with fail
  refine bodyPost_ret (v := .agg #[.string ⟨#[]⟩, .bool false]) ?_ rfl ⟨rfl, (((Ext.refl w).alloc _).alloc _).alloc _⟩
  exact results_cell_row (p := 4) (ty := 86) Tryz.results83 _ _ (w.heap.size + 1 + 1) 86 #[.string ⟨#[]⟩, .bool false] (0, 0) _ rfl (by have := heap_alloc_new ((w.alloc (.cells #[.string s, .bool true] 86)).alloc (.cells #[.string ⟨#[]⟩, .bool false] 86)) (.cells #[.string ⟨#[]⟩, .bool false] 86); rw [size_alloc', size_alloc'] at this; exact this) Tryz.underlying86 rfl (by kernel_rfl)

/-! ### The lines that contain a text -/
def sep10 : ByteArray := ⟨#[10]⟩
def piecesB (s : ByteArray) : List ByteArray := Lib.splitB sep10 0 (Lib.countB s sep10) s
theorem pieces_data (s : ByteArray) : (piecesB s).map (·.data.toList) = Seg.segs 10 s.data.toList := by
  unfold piecesB
  rw [Lib.splitB_data]
  exact Seg.splitK_segs 10 _ _ rfl
theorem pieces_len (s : ByteArray) : (piecesB s).length = Lib.countB s sep10 + 1 := Lib.splitB_all sep10 (by decide) 0 _ s rfl
theorem segs_small (c : UInt8) : ∀ l : List UInt8, ∀ x ∈ Seg.segs c l, x.length ≤ l.length
  | [], x, h => by simp [Seg.segs] at h; simp [h]
  | a :: l, x, h => by
    rw [Seg.segs_cons] at h
    by_cases e : a = c
    · rw [if_pos e] at h
      rcases List.mem_cons.1 h with rfl | h
      · simp
      · have := segs_small c l x h; simp; omega
    · rw [if_neg e] at h
      cases hs : Seg.segs c l with
      | nil => exact absurd hs (Seg.segs_ne c l)
      | cons y r =>
        have ih := segs_small c l
        rw [hs] at h ih
        rcases List.mem_cons.1 h with rfl | h
        · have := ih y List.mem_cons_self; simp; omega
        · have := ih x (List.mem_cons_of_mem _ h); simp; omega
theorem segs_few (c : UInt8) : ∀ l : List UInt8, (Seg.segs c l).length ≤ l.length + 1
  | [] => by simp [Seg.segs]
  | a :: l => by
    have ih := segs_few c l
    rw [Seg.segs_cons]
    split
    · simp; omega
    · cases hs : Seg.segs c l with
      | nil => simp
      | cons y r => rw [hs] at ih; simp at ih ⊢; omega
theorem size_list (s : ByteArray) : s.data.toList.length = s.size := Array.length_toList
theorem piece_size {s x : ByteArray} (h : x ∈ piecesB s) : x.size ≤ s.size := by
  have h1 : x.data.toList ∈ (piecesB s).map (·.data.toList) := List.mem_map.2 ⟨x, h, rfl⟩
  rw [pieces_data] at h1
  have := segs_small 10 _ _ h1
  rw [size_list, size_list] at this
  exact this
theorem pieces_few (s : ByteArray) : (piecesB s).length ≤ s.size + 1 := by
  have h1 : ((piecesB s).map (·.data.toList)).length ≤ s.data.toList.length + 1 := by rw [pieces_data]; exact segs_few 10 _
  rw [List.length_map, size_list] at h1
  exact h1
theorem lens_le (k : Nat) : ∀ l : List (List UInt8), (∀ x ∈ l, x.length ≤ k) → Lib.lens l ≤ l.length * k
  | [], _ => by simp [Lib.lens]
  | x :: l, h => by
    have h1 := lens_le k l fun y hy => h y (List.mem_cons_of_mem _ hy)
    have h2 := h x List.mem_cons_self
    have h3 : Lib.lens (x :: l) = x.length + Lib.lens l := rfl
    rw [h3, List.length_cons, Nat.succ_mul]
    omega
theorem join_le (k : Nat) (sep : List UInt8) (l : List (List UInt8)) (h : ∀ x ∈ l, x.length ≤ k) : (Lib.join l sep).length ≤ sep.length * l.length + l.length * k := by
  cases l with
  | nil => simp [Lib.join_nil]
  | cons x r =>
    rw [Lib.join_length]
    have h1 := lens_le k (x :: r) h
    have : sep.length * r.length ≤ sep.length * (x :: r).length := Nat.mul_le_mul_left _ (by simp)
    omega
/-- What is picked. -/
def keptB (s t : ByteArray) : List ByteArray := (piecesB s).filter fun x => !(!Lib.contains x.data.toList t.data.toList)
theorem pickB_is (s t : ByteArray) : E.pickB s t = ⟨(Lib.join ((keptB s t).map (·.data.toList)) sep10.data.toList).toArray⟩ := by
  unfold E.pickB keptB
  have : ((piecesB s).filter fun x => !(!Lib.contains x.data.toList t.data.toList)).map (·.data.toList) = (Seg.segs 10 s.data.toList).filter fun l => Lib.contains l t.data.toList := by
    rw [← pieces_data, List.filter_map]
    simp [Function.comp_def]
  rw [this]
  rfl
theorem kept_bound {s t : ByteArray} (hs : s.size ≤ 65536) : (Lib.join ((keptB s t).map (·.data.toList)) sep10.data.toList).length ≤ 140737488355328 := by
  have h1 := join_le 65536 sep10.data.toList ((keptB s t).map (·.data.toList)) (fun x hx => by
    obtain ⟨y, hy, rfl⟩ := List.mem_map.1 hx
    have := piece_size (List.mem_filter.1 hy).1
    show y.data.toList.length ≤ _
    rw [size_list]
    omega)
  have h2 : (keptB s t).length ≤ 65537 := Nat.le_trans (List.length_filter_le _ _) (Nat.le_trans (pieces_few s) (by omega))
  rw [List.length_map] at h1
  have h3 : sep10.data.toList.length = 1 := rfl
  rw [h3] at h1
  have h4 : (keptB s t).length * 65536 ≤ 65537 * 65536 := Nat.mul_le_mul_right _ h2
  omega

theorem join_empty (l : List (List UInt8)) (h : l = []) (sep : List UInt8) : (⟨(Lib.join l sep).toArray⟩ : ByteArray) = ⟨#[]⟩ := by subst h; rfl
/-- strings.Join of a row's first elements. -/
theorem Join_row (b L n : Nat) (cs xs : List ByteArray) (sep : ByteArray) (w : World) (hR : StrRow w b cs) (hn : n = xs.length) (hL : cs.length = L) (hnL : n ≤ L) (ht : cs.take n = xs) (hL2 : L ≤ 9000000) (hb : (Lib.join (xs.map (·.data.toList)) sep.data.toList).length ≤ 140737488355328) :
    Calls Tryz.prog 80 #[.slice (some ⟨b, 0, none⟩) n L, .string sep] w (Al (.string ⟨(Lib.join (xs.map (·.data.toList)) sep.data.toList).toArray⟩) w) := by
  by_cases h0 : n = 0
  · have hx : xs = [] := List.eq_nil_of_length_eq_zero (by omega)
    subst h0 hx
    refine (Tryz.strings_Join_none (some ⟨b, 0, none⟩) L sep w).mono ?_
    rintro e w' ⟨rfl, rfl⟩
    exact ⟨rfl, Ext.refl _⟩
  · rw [hn]
    refine (Tryz.strings_Join b 0 L xs sep w (fun j x hj => ?_) hR.lt (by omega) (by omega) hb).mono ?_
    · obtain ⟨hj1, hj2⟩ := List.getElem?_eq_some_iff.1 hj
      have hj3 : j < cs.length := by omega
      rw [Nat.zero_add, hR.cell hj3]
      have : cs[j]? = some x := by rw [← hj, ← ht, List.getElem?_take, if_pos (by omega)]
      rw [List.getElem?_eq_getElem hj3] at this
      rw [Option.some.inj this]
    · rintro e w' ⟨rfl, h⟩
      exact ⟨rfl, h⟩
end Go.Proofs.YtkeaoejgboefbaaGreatDoor

/- engine.pick, with two texts. -/
namespace Go.Proofs.YtkeaoejgboefbaaGreatDoor
open Go.RowKit Go.Maps

theorem new_off {w : World} {k : Nat} {cs : Array Value} {t : TypeId} (h : w.heap[k]? = some (.cells cs t (0, 0))) (i : Nat) : w.cell? ⟨k, i, none⟩ = cs[i]? := cell_of_row w k i _ _ _ h
theorem heap_old {w : World} {k : Nat} {o : Obj} (h : w.heap[k]? = some o) (x : Obj) : (w.alloc x).heap[k]? = some o := (((Ext.refl w).alloc x).block k (Array.getElem?_eq_some_iff.1 h).1).trans h
theorem found_set {w : World} {g : Nat} {x y : Value} (h : w.heap[g]? = some (.cells #[x, y] 86 (0, 0))) (a b : Value) : ((w.setCell ⟨g, 0, none⟩ a).setCell ⟨g, 1, none⟩ b).heap[g]? = some (.cells #[a, b] 86 (0, 0)) := by
  have h1 := heap_setCell_cells h 0 a
  exact heap_setCell_cells h1 1 b
set_option maxRecDepth 100000 in
theorem info81 : (Tryz.prog.info? 86).map (·.size) = some 2 := by kernel_rfl
/-- The result lies in its cell. -/
theorem ret_found {fn : Func} (h : fn.results = #[.cell 4 86]) {R : Ending → World → Prop} {a : Act} {w : World} {g : Nat} {x y : Value} (hp : a.tmps.getD 4 undef = .pointer (some ⟨g, 0, none⟩)) (hg : w.heap[g]? = some (.cells #[x, y] 86 (0, 0))) (hd : a.defers = []) (hR : R (.returned (.agg #[x, y])) w) : bodyPost Tryz.prog fn R .ret a w :=
  bodyPost_ret (results_cell_row h a.tmps w g 86 #[x, y] (0, 0) _ hp hg Tryz.underlying86 rfl info81) hd hR
set_option maxRecDepth 100000 in
set_option maxHeartbeats 2000000 in
theorem pick_some (s t : ByteArray) (w : World) (hs : s.size ≤ 65536) (hg : Gl w) : Calls Tryz.prog 83 #[.agg #[.string s, .bool true], .agg #[.string t, .bool true]] w (Al (foundV (some (E.pickB s t))) w) := by
  rw [foundV_some, pickB_is]
  obtain ⟨W, hW⟩ : ∃ W, W = ((w.alloc (.cells #[.string s, .bool true] 86)).alloc (.cells #[.string t, .bool true] 86)).alloc (.cells #[.string ⟨#[]⟩, .bool false] 86) := ⟨_, rfl⟩
  have hWs : W.heap.size = w.heap.size + 3 := by rw [hW, size_alloc', size_alloc', size_alloc']
  have X : Ext w W := by rw [hW]; exact (((Ext.refl w).alloc _).alloc _).alloc _
  have r0 : W.heap[w.heap.size]? = some (.cells #[.string s, .bool true] 86) := by
    rw [hW]; exact heap_old (heap_old (heap_alloc_new w _) _) _
  have r1 : W.heap[w.heap.size + 1]? = some (.cells #[.string t, .bool true] 86) := by
    rw [hW]; refine heap_old ?_ _
    have := heap_alloc_new (w.alloc (.cells #[.string s, .bool true] 86)) (.cells #[.string t, .bool true] 86)
    rw [size_alloc'] at this; exact this
  have r2 : W.heap[w.heap.size + 2]? = some (.cells #[.string ⟨#[]⟩, .bool false] 86) := by
    rw [hW]
    have := heap_alloc_new ((w.alloc (.cells #[.string s, .bool true] 86)).alloc (.cells #[.string t, .bool true] 86)) (.cells #[.string ⟨#[]⟩, .bool false] 86)
    rw [size_alloc', size_alloc'] at this; exact this
  obtain ⟨m, hm⟩ := (hg.ext X).1
  have HS := Lib.hid (Tryz.strings_Split s sep10 m W (by omega) hm (by decide))
  have hpl := pieces_len s
  have hpf := pieces_few s
  obtain ⟨L, hL⟩ : ∃ L, L = Lib.countB s sep10 + 1 := ⟨_, rfl⟩
  obtain ⟨W1, hW1⟩ : ∃ W1, W1 = W.alloc (.cells ((piecesB s).map Value.string).toArray 9) := ⟨_, rfl⟩
  have hS : (Lib.splitB sep10 0 (Lib.countB s sep10) s) = piecesB s := rfl
  rw [hS, ← hL, ← hW1] at HS
  have hL2 : L ≤ 9000000 := by rw [hL, ← hpl]; omega
  have X1 : Ext w W1 := by rw [hW1]; exact X.alloc _
  have hrow : StrRow W1 W.heap.size (piecesB s) := by rw [hW1]; exact heap_alloc_new W _
  have hgW := hg.ext X
  have hD := DeleteStr (piecesB s) W.heap.size 100 #[.pointer (some ⟨w.heap.size + 1, 0, none⟩)] (fun x => !Lib.contains x.data.toList t.data.toList) W1 egc110 (by rw [hpl, ← hL]; exact hL2) hrow (fun x hx w' ht => by
    refine pick1_any x t (w.heap.size + 1) w' (Nat.le_trans (piece_size hx) hs) ?_ ?_
    · refine ht.keepc ?_ (by simp only; omega)
      rw [hW1]
      exact alloc_keepc _ (by rw [new_off r1]; rfl)
    · exact (hg.ext X1).tch ht fun k hk => by subst hk; exact hgW.off (Nat.le_refl _)) L (by rw [hpl, hL])
  have HD := Lib.hid (show Calls Tryz.prog 98 #[.slice (some ⟨W.heap.size, 0, none⟩) L L, .func (.func 100) #[] #[.pointer (some ⟨w.heap.size + 1, 0, none⟩)]] W1 (RetRow W1 W.heap.size L (keptB s t)) from hD)
  have HR := Lib.hid (show ∀ n cs w', n = (keptB s t).length → StrRow w' W.heap.size cs → cs.length = L → cs.take n = keptB s t → Calls Tryz.prog 80 #[.slice (some ⟨W.heap.size, 0, none⟩) n L, .string sep10] w' (Al (.string ⟨(Lib.join ((keptB s t).map (·.data.toList)) sep10.data.toList).toArray⟩) w') from fun n cs w' h1 h2 h3 h4 => Join_row _ L n cs _ sep10 w' h2 h1 h3 (by
    rw [h1]; refine Nat.le_trans (List.length_filter_le _ _) ?_; rw [hpl, hL]; exact Nat.le_refl _) h4 hL2 (kept_bound hs))
  have HX1 := Lib.hid X1
  have H2 := Lib.hid (show W1.heap[w.heap.size + 2]? = some (.cells #[.string ⟨#[]⟩, .bool false] 86) by rw [hW1]; exact heap_old r2 _)
  have HG0 := Lib.hid (show w.heap.size + 2 < W.heap.size by omega)
  have HG1 := Lib.hid (show w.heap.size ≤ W.heap.size by omega)
  have hc0 : W.cell? ⟨w.heap.size, 0, none⟩ = some (.string s) := by rw [new_off r0]; rfl
  have hc1 : W.cell? ⟨w.heap.size + 1, 1, none⟩ = some (.bool true) := by rw [new_off r1]; rfl
  generalize (⟨(Lib.join ((keptB s t).map (·.data.toList)) sep10.data.toList).toArray⟩ : ByteArray) = R at *
  clear X X1 r0 r1 r2 hpl hpf hS hrow hgW hD hg hm hWs hW1 hL
  go_enter Tryz.func83, Tryz.ntmps83
  go_wp2_with fail
  rw [← hW]
  clear hW
  refine HS.out.mono ?_
  rintro e w1 ⟨rfl, rfl⟩
  clear hc0 hc1
  go_wp2_with fail
  refine HD.out.mono ?_
  rintro e w2 ⟨n, cs, rfl, h1, h2, h3, h4, h5⟩
  have HJ := Lib.hid (HR.out n cs w2 h1 h2 h3 h4)
  have HX2 : Hid (Ext w w2) := Lib.hid (show Ext w w2 from ((HX1.out.tch (fun k => k = W.heap.size)).trans' h5 fun _ _ h => h).ext fun k hk e => by have := HG1.out; omega)
  have H3 : Hid (w2.heap[w.heap.size + 1 + 1]? = some (.cells #[.string ⟨#[]⟩, .bool false] 86)) := Lib.hid ((h5.block (w.heap.size + 2) (Array.getElem?_eq_some_iff.1 H2.out).1 (by have := HG0.out; omega)).trans H2.out)
  clear h1 h2 h3 h4 h5
  go_wp2_with fail
  refine HJ.out.mono ?_
  rintro e w3 ⟨rfl, d3⟩
  have H4 : Hid (w3.heap[w.heap.size + 1 + 1]? = some (.cells #[.string ⟨#[]⟩, .bool false] 86)) := Lib.hid ((d3.block _ (Array.getElem?_eq_some_iff.1 H3.out).1).trans H3.out)
  have HX3 := Lib.hid (HX2.out.trans d3)
  clear d3
  have c0 : w3.cell? ⟨w.heap.size + 1 + 1, 0, none⟩ = some (.string ⟨#[]⟩) := by rw [new_off H4.out]; rfl
  have c1 : w3.cell? ⟨w.heap.size + 1 + 1, 1, none⟩ = some (.bool false) := by rw [new_off H4.out]; rfl
  have f0 := Lib.frozen_of_heap H4.out 0
  have f1 := Lib.frozen_of_heap H4.out 1
  go_wp2_with fail
  exact ret_found Tryz.results83 rfl (found_set H4.out _ _) rfl ⟨rfl, (HX3.out.setCell (p := ⟨w.heap.size + 1 + 1, 0, none⟩) (by simp only; omega) _).setCell (p := ⟨w.heap.size + 1 + 1, 1, none⟩) (by simp only; omega) _⟩
end Go.Proofs.YtkeaoejgboefbaaGreatDoor

/- A run of Get in memory: alive, and behind an error. -/
namespace Go.Proofs.YtkeaoejgboefbaaGreatDoor
open Go.RowKit Go.Maps

/-- The run's block. -/
def runRow (g ob : Nat) (x : Int) : Array Value := #[.pointer (some ⟨g, 0, none⟩), .map (some ob), .int .i64 x]
structure RunRow (w : World) (rb g ob : Nat) (x : Int) : Prop where
  heap : w.heap[rb]? = some (.cells (runRow g ob x) 93 (0, 0))
section
variable {w w' : World} {rb g ob : Nat} {x : Int}
theorem RunRow.lt (h : RunRow w rb g ob x) : rb < w.heap.size := (Array.getElem?_eq_some_iff.1 h.heap).1
theorem RunRow.c0 (h : RunRow w rb g ob x) : w.cell? ⟨rb, 0, none⟩ = some (.pointer (some ⟨g, 0, none⟩)) := cell_of_row w rb 0 _ _ _ h.heap
theorem RunRow.c1 (h : RunRow w rb g ob x) : w.cell? ⟨rb, 1, none⟩ = some (.map (some ob)) := cell_of_row w rb 1 _ _ _ h.heap
theorem RunRow.c2 (h : RunRow w rb g ob x) : w.cell? ⟨rb, 2, none⟩ = some (.int .i64 x) := cell_of_row w rb 2 _ _ _ h.heap
theorem RunRow.frozen (h : RunRow w rb g ob x) (i : Nat) : w.frozen? ⟨rb, i, none⟩ = false := Lib.frozen_of_heap h.heap i
theorem RunRow.tch {X : Nat → Prop} (h : RunRow w rb g ob x) (hg : Tch X w w') (hx : ¬ X rb) : RunRow w' rb g ob x := ⟨(hg.block rb h.lt hx).trans h.heap⟩
theorem RunRow.set2 (h : RunRow w rb g ob x) (y : Int) : RunRow (w.setCell ⟨rb, 2, none⟩ (.int .i64 y)) rb g ob y := ⟨heap_setCell_cells h.heap 2 _⟩
end
/-- The names that are open. -/
def openF (opn : List ByteArray) : FnV := fun s => if E.has opn s then some (.bool true) else none
/-- What a run may turn. -/
def Mv (g br rb ob : Nat) : Nat → Prop := fun k => k = g ∨ k = br ∨ k = rb ∨ k = ob
/-- The run is alive. C: the computations that were counted before. -/
structure Live (w : World) (S : Nat → Prop) (g bc bi br rb ob C : Nat) (e : E.En) (opn : List ByteArray) : Prop where
  eng : EngAt w S g bc bi br e
  run : RunRow w rb g ob 0
  opens : MapF Tryz.prog w ob (openF opn)
  apart : rb ≠ g ∧ rb ≠ bc ∧ rb ≠ bi ∧ rb ≠ br ∧ ¬ S rb ∧ ob ≠ g ∧ ob ≠ bc ∧ ob ≠ bi ∧ ob ≠ br ∧ ¬ S ob ∧ rb ≠ ob
  gl : Gl w
  off : Off (Mv g br rb ob)
  inv : ∃ U, E.Inv (E.findC e.cells) e.vals e.rev E.form e.st opn U ∧ e.st.cnt ≤ C + U.length
/-- Behind an error. -/
structure Dead (w : World) (g bc bi br rb ob : Nat) (rev : Int) (x : Int) : Prop where
  row : ∃ cnt, Row w g bc bi br rev cnt
  run : RunRow w rb g ob x
  opens : ∃ f, MapF Tryz.prog w ob f
theorem Dead.ext {w w' : World} {g bc bi br rb ob : Nat} {rev x : Int} (h : Dead w g bc bi br rb ob rev x) (he : Ext w w') : Dead w' g bc bi br rb ob rev x := by
  obtain ⟨⟨cnt, h1⟩, h2, f, h3⟩ := h
  exact ⟨⟨cnt, h1.tch (he.tch fun _ => False) fun h => h⟩, h2.tch (he.tch fun _ => False) fun h => h, f, h3.ext he⟩
/-- What the map of cells holds, apart from the worlds. -/
def CellsVal (fc : E.Nm → Option E.Cell) (f : FnV) : Prop := ∀ s, match fc s with
  | none => f s = none
  | some c => ∃ A k, f s = some (cellV c A k)
theorem CellsIn.val {w : World} {S : Nat → Prop} {fc : E.Nm → Option E.Cell} {f : FnV} (h : CellsIn w S fc f) : CellsVal fc f := by
  intro s
  have := h s
  cases e : fc s with
  | none => rw [e] at this; exact this
  | some c =>
    rw [e] at this
    obtain ⟨_, _, _, _, A, k, h1, _⟩ := this
    exact ⟨A, k, h1⟩
/-- The lookup of a cell, as a case. -/
theorem cells_run {w : World} {b : Nat} {f : FnV} {fc : E.Nm → Option E.Cell} (h : MapF Tryz.prog w b f) (hc : CellsVal fc f) {n : ByteArray} (hs : n.size ≤ 9223372036854775807) :
    ∃ nm x A L k tx, (Instr.lookup 76 (.map (some b)) (.string n) true).run Tryz.prog w = .ok (.tuple #[.agg #[.string nm, .int .i64 x, .slice A L k, .string tx], .bool (fc n).isSome]) w := by
  have h1 := h.look Tryz.underlying9 Tryz.underlying76 (zv32 w) hs
  have h2 := hc n
  cases e : fc n with
  | none =>
    rw [e] at h2
    rw [h2] at h1
    exact ⟨_, _, _, _, _, _, h1⟩
  | some c =>
    rw [e] at h2
    obtain ⟨A, k, h3⟩ := h2
    rw [h3] at h1
    exact ⟨_, _, _, _, _, _, h1⟩
set_option maxRecDepth 100000 in
set_option maxHeartbeats 2000000 in
/-- Behind an error get gives nothing. -/
theorem get_dead {w : World} {g bc bi br rb ob : Nat} {rev x : Int} {f : FnV} {fc : E.Nm → Option E.Cell} (h : Dead w g bc bi br rb ob rev x) (hx : x ≠ 0) (hm : MapF Tryz.prog w bc f) (hc : CellsVal fc f) {n : ByteArray} (hn : n.size ≤ 9223372036854775807) :
    Calls Tryz.prog 36 #[.pointer (some ⟨rb, 0, none⟩), .string n] w (Al (foundV none) w) := by
  rw [foundV_none]
  obtain ⟨W1, hW1⟩ : ∃ W1, W1 = w.alloc (.cells #[.string ⟨#[]⟩, .bool false] 86) := ⟨_, rfl⟩
  have X1 : Ext w W1 := by rw [hW1]; exact (Ext.refl w).alloc _
  have H1 : Hid (W1.heap[w.heap.size]? = some (.cells #[.string ⟨#[]⟩, .bool false] 86)) := Lib.hid (by rw [hW1]; exact heap_alloc_new w _)
  obtain ⟨⟨cnt, h1⟩, h2, _⟩ := h.ext X1
  obtain ⟨nm, y, A, L, k, tx, hl⟩ := cells_run (hm.ext X1) hc hn
  have a0 := h2.c0
  have a1 := h1.c0
  have HX1 := Lib.hid X1
  have HR := Lib.hid h2
  have hx0 : (x == 0) = false := by rw [beq_eq_false_iff_ne]; exact hx
  clear h h1 h2 hm hc X1
  cases hq : (fc n).isSome with
  | false =>
    rw [hq] at hl
    clear hq
    go_enter Tryz.func36, Tryz.ntmps36
    go_upto_region 1 with (fail)
    rw [← hW1]
    clear hW1
    go_upto_region 2 with (fail)
    obtain ⟨W2, hW2⟩ : ∃ W2, W2 = W1.alloc (.cells #[.string nm, .int .i64 y, .slice A L k, .string tx] 50) := ⟨_, rfl⟩
    rw [← hW2]
    have X2 : Ext W1 W2 := by rw [hW2]; exact (Ext.refl W1).alloc _
    have H2 := Lib.hid ((X2.block _ (Array.getElem?_eq_some_iff.1 H1.out).1).trans H1.out)
    have HX2 := Lib.hid (HX1.out.trans X2)
    have b2 := X2.keepc HR.out.c2
    have c0 : W2.cell? ⟨w.heap.size, 0, none⟩ = some (.string ⟨#[]⟩) := by rw [new_off H2.out]; rfl
    have c1 : W2.cell? ⟨w.heap.size, 1, none⟩ = some (.bool false) := by rw [new_off H2.out]; rfl
    have f0 := Lib.frozen_of_heap H2.out 0
    have f1 := Lib.frozen_of_heap H2.out 1
    clear hW2 X2 a0 a1 hl
    go_wp2_with fail
    exact ret_found Tryz.results36 rfl (found_set H2.out _ _) rfl ⟨rfl, (HX2.out.setCell (p := ⟨w.heap.size, 0, none⟩) (Nat.le_refl _) _).setCell (p := ⟨w.heap.size, 1, none⟩) (Nat.le_refl _) _⟩
  | true =>
    rw [hq] at hl
    clear hq
    go_enter Tryz.func36, Tryz.ntmps36
    go_upto_region 1 with (fail)
    rw [← hW1]
    clear hW1
    go_upto_region 2 with (fail)
    obtain ⟨W2, hW2⟩ : ∃ W2, W2 = W1.alloc (.cells #[.string nm, .int .i64 y, .slice A L k, .string tx] 50) := ⟨_, rfl⟩
    rw [← hW2]
    have X2 : Ext W1 W2 := by rw [hW2]; exact (Ext.refl W1).alloc _
    have H2 := Lib.hid ((X2.block _ (Array.getElem?_eq_some_iff.1 H1.out).1).trans H1.out)
    have HX2 := Lib.hid (HX1.out.trans X2)
    have b2 := X2.keepc HR.out.c2
    have c0 : W2.cell? ⟨w.heap.size, 0, none⟩ = some (.string ⟨#[]⟩) := by rw [new_off H2.out]; rfl
    have c1 : W2.cell? ⟨w.heap.size, 1, none⟩ = some (.bool false) := by rw [new_off H2.out]; rfl
    have f0 := Lib.frozen_of_heap H2.out 0
    have f1 := Lib.frozen_of_heap H2.out 1
    clear hW2 X2 a0 a1 hl
    go_wp2_with fail
    exact ret_found Tryz.results36 rfl (found_set H2.out _ _) rfl ⟨rfl, (HX2.out.setCell (p := ⟨w.heap.size, 0, none⟩) (Nat.le_refl _) _).setCell (p := ⟨w.heap.size, 1, none⟩) (Nat.le_refl _) _⟩
end Go.Proofs.YtkeaoejgboefbaaGreatDoor
