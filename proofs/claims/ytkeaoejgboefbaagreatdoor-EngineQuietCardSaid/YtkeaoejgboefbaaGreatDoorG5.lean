/- The texts Hj Hk Hl Hm Hn Ho Hp Hq of the seat, joined. -/
import Derived.Test.YtkeaoejgboefbaaGreatDoorG4
import Derived.Laws.StructEq
import Derived.Lib.ItoaLen
/- What get answers; the closure of compute that reads and notes its reads. -/
namespace Go.Proofs.YtkeaoejgboefbaaGreatDoor
open Go.RowKit Go.Maps

/-- What get answers, alive: as the plain law says. -/
def RetG (w : World) (S : Nat → Prop) (g bc bi br rb ob C : Nat) (e : E.En) (opn : List ByteArray) (r : Except Int (E.V × E.St)) (ed : Ending) (w' : World) : Prop := Tch (Mv g br rb ob) w w' ∧ match r with
  | .ok (v, st) => ed = .returned (foundV v) ∧ (v.getD ⟨#[]⟩).size ≤ 65536 ∧ ∃ S', Live w' S' g bc bi br rb ob C { e with st := st } opn ∧ (∀ k, S k → S' k) ∧ ∀ k, S' k → S k ∨ w.heap.size ≤ k
  | .error x => ed = .returned (foundV none) ∧ x ≠ 0 ∧ Dead w' g bc bi br rb ob e.rev x
/-- Reads, as cells. -/
def flatR (rs : List (E.Nm × E.V)) : List Value := rs.flatMap fun r => .string r.1 :: foundL r.2
theorem flatR_snoc (rs : List (E.Nm × E.V)) (n : E.Nm) (x : E.V) : flatR (rs ++ [(n, x)]) = flatR rs ++ [.string n, .string (x.getD ⟨#[]⟩), .bool x.isSome] := by
  unfold flatR
  rw [List.flatMap_append]
  rfl
/-- The reads noted so far: the slice v in the cell of block b5. -/
structure Rds (w : World) (b5 : Nat) (v : Value) (rs : List (E.Nm × E.V)) : Prop where
  heap : w.heap[b5]? = some (.cells #[v] 87 (0, 0))
  own : OwnAt w 0 98 3 v rs.length (flatR rs)
  ne : v.ownBlock ≠ some b5
def RetC (w : World) (X : Nat → Prop) (Φ : E.V → World → Prop) (b5 : Nat) (v : Value) (n : ByteArray) (rs : List (E.Nm × E.V)) (ed : Ending) (w'' : World) : Prop :=
  ∃ x w1 v', ed = .returned (foundV x) ∧ Tch X w w1 ∧ Φ x w1 ∧ Tch (fun k => k = b5 ∨ v.ownBlock = some k ∨ k = w.heap.size) w1 w'' ∧ Rds w'' b5 v' (rs ++ [(n, x)]) ∧ (v'.ownBlock = v.ownBlock ∨ ∃ u, v'.ownBlock = some u ∧ w1.heap.size ≤ u)
theorem read_info : (Tryz.prog.info? 98).map (fun i => (i.zero, i.size, i.bytes)) = some (some (.agg #[.string ⟨#[]⟩, .string ⟨#[]⟩, .bool false]), 3, 40) := by kernel_rfl
def readL (n a : ByteArray) (b : Bool) : List Value := [.string n, .string a, .bool b]
theorem readL_one (n a : ByteArray) (b : Bool) : ∀ u ∈ readL n a b, u.oneCell' = true := by
  intro u hu
  simp [readL] at hu
  rcases hu with rfl | rfl | rfl <;> rfl
theorem cells_new_read (w : World) (n a : ByteArray) (b : Bool) : ∀ j u, (readL n a b)[j]? = some u → (w.alloc (.cells #[.string n, .string a, .bool b] 98)).cell? ((⟨w.heap.size, 0, none⟩ : Addr).add j) = some u := by
  intro j u hj
  rw [Addr.add_lit, Nat.zero_add, cell_new, ← hj]
  simp [readL]
theorem own_at_lt {w : World} {base : Nat} {e : TypeId} {size : Nat} {v : Value} {n : Nat} {xs : List Value} (h : OwnAt w base e size v n xs) {u : Nat} (hu : v.ownBlock = some u) : u < w.heap.size := by
  obtain ⟨_, ⟨rfl, _⟩ | ⟨g, off, cap, cur, rfl, _, hh, _⟩⟩ := h
  · simp [Value.ownBlock] at hu
  · simp [Value.ownBlock] at hu
    subst hu
    exact (Array.getElem?_eq_some_iff.1 hh).1
set_option maxRecDepth 100000 in
set_option maxHeartbeats 2000000 in
theorem read_any {w : World} {X : Nat → Prop} {Φ : E.V → World → Prop} {b2 b5 rb : Nat} {v : Value} {n : ByteArray} {rs : List (E.Nm × E.V)} (h2 : w.cell? ⟨b2, 0, none⟩ = some (.pointer (some ⟨rb, 0, none⟩))) (hr : Rds w b5 v rs) (hlen : rs.length ≤ 100) (hX : ∀ k, X k → k < w.heap.size) (h5 : ¬ X b5) (hv : ∀ u, v.ownBlock = some u → ¬ X u)
    (hget : ∀ W, Ext w W → w.heap.size < W.heap.size → Calls Tryz.prog 36 #[.pointer (some ⟨rb, 0, none⟩), .string n] W fun ed w' => ∃ x, ed = .returned (foundV x) ∧ Tch X W w' ∧ Φ x w') :
    Calls Tryz.prog 63 #[.string n, .pointer (some ⟨b2, 0, none⟩), .pointer (some ⟨b5, 0, none⟩)] w (RetC w X Φ b5 v n rs) := by
  obtain ⟨W1, hW1⟩ : ∃ W1, W1 = w.alloc (.cells #[.string ⟨#[]⟩, .bool false] 86) := ⟨_, rfl⟩
  have X1 : Ext w W1 := by rw [hW1]; exact (Ext.refl w).alloc _
  have H1 : Hid (W1.heap[w.heap.size]? = some (.cells #[.string ⟨#[]⟩, .bool false] 86)) := Lib.hid (by rw [hW1]; exact heap_alloc_new w _)
  have a2 := X1.keepc h2
  have HGT := Lib.hid (hget W1 X1 (Array.getElem?_eq_some_iff.1 H1.out).1)
  have HX1 := Lib.hid X1
  have HR := Lib.hid hr
  have HV := Lib.hid hv
  have H5 := Lib.hid h5
  have HX := Lib.hid hX
  clear hr hget h2 X1 hv h5 hX
  go_enter Tryz.func63, Tryz.ntmps63
  go_upto_region 1 with (fail)
  rw [← hW1]
  clear hW1
  go_wp2_with fail
  refine HGT.out.mono ?_
  rintro ed w1 ⟨x, rfl, t1, hΦ⟩
  have HP := Lib.hid hΦ
  have HT1 := Lib.hid t1
  clear hΦ t1
  have hfv : foundV x = .agg #[.string (x.getD ⟨#[]⟩), .bool x.isSome] := rfl
  rw [hfv]
  clear hfv
  obtain ⟨a, ha⟩ : ∃ a, a = x.getD ⟨#[]⟩ := ⟨_, rfl⟩
  obtain ⟨b, hb⟩ : ∃ b, b = x.isSome := ⟨_, rfl⟩
  rw [← ha, ← hb]
  have HA := Lib.hid ha
  have HB := Lib.hid hb
  clear ha hb a2
  obtain ⟨W2, hW2⟩ : ∃ W2, W2 = w1.alloc (.cells #[.string a, .bool b] 86) := ⟨_, rfl⟩
  have X2 : Ext w1 W2 := by rw [hW2]; exact (Ext.refl w1).alloc _
  have hs1 : w.heap.size < w1.heap.size := Nat.lt_of_lt_of_le (Array.getElem?_eq_some_iff.1 H1.out).1 HT1.out.size
  have H1' : Hid (W2.heap[w.heap.size]? = some (.cells #[.string ⟨#[]⟩, .bool false] 86)) := Lib.hid ((X2.block _ hs1).trans ((HT1.out.block _ (Array.getElem?_eq_some_iff.1 H1.out).1 fun e => by have := HX.out _ e; omega).trans H1.out))
  have H3 : Hid (W2.heap[w1.heap.size]? = some (.cells #[.string a, .bool b] 86)) := Lib.hid (by rw [hW2]; exact heap_alloc_new w1 _)
  have hb5 : b5 < w.heap.size := (Array.getElem?_eq_some_iff.1 HR.out.heap).1
  have hb5' : b5 < W1.heap.size := Nat.lt_of_lt_of_le hb5 HX1.out.size
  have H5' : Hid (W2.heap[b5]? = some (.cells #[v] 87 (0, 0))) := Lib.hid ((X2.block _ (by omega)).trans ((HT1.out.block _ hb5' H5.out).trans ((HX1.out.block _ hb5).trans HR.out.heap)))
  have HO : Hid (OwnAt W2 0 98 3 v rs.length (flatR rs)) := Lib.hid (((HR.out.own.ext HX1.out).keep fun u hu hl => HT1.out.block u hl (HV.out u hu)).ext X2)
  have c5 : W2.cell? ⟨b5, 0, none⟩ = some v := by rw [new_off H5'.out]; rfl
  have HX2 := Lib.hid X2
  have d0 : W2.cell? ⟨w1.heap.size, 0, none⟩ = some (.string a) := by rw [new_off H3.out]; rfl
  have d1 : W2.cell? ⟨w1.heap.size, 1, none⟩ = some (.bool b) := by rw [new_off H3.out]; rfl
  obtain ⟨i0, hi, hz0, hz1, hz2⟩ := info_parts read_info
  clear X2
  go_upto_region 2 with (fail)
  rw [← hW2]
  clear hW2
  go_wp2_with (at_builtin; refine wpList_append_ownAt _ rfl (.tmp 9) (.tmp 13) 87 rfl 0 98 i0 (.agg #[.string ⟨#[]⟩, .string ⟨#[]⟩, .bool false]) 3 40 Tryz.underlying87 hi hz0 hz1 hz2 rfl (by decide) _ _ _ rfl (HO.out.alloc _) ⟨_, 0, none⟩ 1 1 (readL n a b) rfl rfl (cells_new_read _ _ _ _) (readL_one _ _ _) (by unfold maxLen; omega) (by omega) (Nat.zero_le _) (by decide) ?_)
  intro v' w4 ho hg _ hf
  obtain ⟨gv, ov, cv, hve, _⟩ := ho.cells (Nat.succ_pos _)
  subst hve
  have hu : ∀ u, v.ownBlock = some u → u < w.heap.size := fun u => own_at_lt HR.out.own
  have hw1 : w1.heap.size < W2.heap.size := (Array.getElem?_eq_some_iff.1 H3.out).1
  have k5 : w4.heap[b5]? = some (.cells #[v] 87 (0, 0)) := (hg.block b5 (by rw [size_alloc']; omega) fun e => HR.out.ne e.symm).trans (heap_old H5'.out _)
  have k3 : w4.heap[w1.heap.size]? = some (.cells #[.string a, .bool b] 86 (0, 0)) := (hg.block _ (by rw [size_alloc']; omega) fun e => by have := hu _ e.symm; omega).trans (heap_old H3.out _)
  have k1 : w4.heap[w.heap.size]? = some (.cells #[.string ⟨#[]⟩, .bool false] 86 (0, 0)) := (hg.block _ (by rw [size_alloc']; omega) fun e => by have := hu _ e.symm; omega).trans (heap_old H1'.out _)
  have e5 : w4.cell? ⟨b5, 0, none⟩ = some v := by rw [new_off k5]; rfl
  have f5 := Lib.frozen_of_heap k5 0
  obtain ⟨W5, hW5⟩ : ∃ W5, W5 = w4.setCell ⟨b5, 0, none⟩ (.slice (some ⟨gv, ov, none⟩) (rs.length + 1) cv : Value) := ⟨_, rfl⟩
  have g5 : ∀ k, k ≠ b5 → W5.heap[k]? = w4.heap[k]? := fun k hk => by rw [hW5]; exact RowKit.Below.heap_setCell _ _ _ _ hk
  have H5b : Hid (W5.heap[b5]? = some (.cells #[(.slice (some ⟨gv, ov, none⟩) (rs.length + 1) cv : Value)] 87 (0, 0))) := Lib.hid (by rw [hW5]; exact heap_setCell_cells k5 0 (.slice (some ⟨gv, ov, none⟩) (rs.length + 1) cv : Value))
  have H3b : Hid (W5.heap[w1.heap.size]? = some (.cells #[.string a, .bool b] 86 (0, 0))) := Lib.hid ((g5 _ (by omega)).trans k3)
  have H1b : Hid (W5.heap[w.heap.size]? = some (.cells #[.string ⟨#[]⟩, .bool false] 86 (0, 0))) := Lib.hid ((g5 _ (by omega)).trans k1)
  have hvb : (Value.slice (some ⟨gv, ov, none⟩) (rs.length + 1) cv).ownBlock ≠ some b5 := by
    rcases hf with hf | ⟨u, hf, h1, _⟩
    · rw [hf]; exact HR.out.ne
    · rw [hf]; intro e; cases e; omega
  have HVB := Lib.hid hvb
  have HNW : Hid ((Value.slice (some ⟨gv, ov, none⟩) (rs.length + 1) cv).ownBlock ≠ some w.heap.size) := Lib.hid (by
    rcases hf with hf | ⟨u, hf, h1, _⟩
    · rw [hf]; intro e; have := hu _ e; omega
    · rw [hf]; intro e; cases e; omega)
  have HOB : Hid (OwnAt W5 0 98 3 (.slice (some ⟨gv, ov, none⟩) (rs.length + 1) cv : Value) (rs.length + 1) (flatR rs ++ readL n a b)) := Lib.hid (ho.keep fun u hu' _ => g5 u fun e => hvb (by rw [hu', e]))
  have HT4 : Hid (Tch (fun k => k = b5 ∨ v.ownBlock = some k) w1 W5) := Lib.hid (by
    rw [hW5]
    exact (((HX2.out.tch _).alloc _).grown hg fun i hi _ => .inr hi).setCell (p := ⟨b5, 0, none⟩) (fun _ => .inl rfl) _)
  have HF : Hid ((Value.slice (some ⟨gv, ov, none⟩) (rs.length + 1) cv).ownBlock = v.ownBlock ∨ ∃ u, (Value.slice (some ⟨gv, ov, none⟩) (rs.length + 1) cv).ownBlock = some u ∧ w1.heap.size ≤ u) := Lib.hid (by
    rcases hf with hf | ⟨u, hf, h1, _⟩
    · exact .inl hf
    · exact .inr ⟨u, hf, by omega⟩)
  have HS1 := Lib.hid hs1
  have HB5 := Lib.hid hb5
  have x0 : W5.cell? ⟨w1.heap.size, 0, none⟩ = some (.string a) := by rw [new_off H3b.out]; rfl
  have x1 : W5.cell? ⟨w1.heap.size, 1, none⟩ = some (.bool b) := by rw [new_off H3b.out]; rfl
  have y0 : W5.cell? ⟨w.heap.size, 0, none⟩ = some (.string ⟨#[]⟩) := by rw [new_off H1b.out]; rfl
  have y1 : W5.cell? ⟨w.heap.size, 1, none⟩ = some (.bool false) := by rw [new_off H1b.out]; rfl
  have z0 := Lib.frozen_of_heap H1b.out 0
  have z1 := Lib.frozen_of_heap H1b.out 1
  clear ho hg hf hu hw1 k5 k3 k1 g5 hvb hs1 hb5 hb5' d0 d1 c5 hi hz0 hz1 hz2
  go_upto_region 3 with (fail)
  rw [← hW5]
  clear hW5 e5 f5
  go_wp2_with fail
  have hne : b5 ≠ w.heap.size := by have := HB5.out; omega
  have g6 : ∀ k, k ≠ w.heap.size → ((W5.setCell ⟨w.heap.size, 0, none⟩ (.string a)).setCell ⟨w.heap.size, 1, none⟩ (.bool b)).heap[k]? = W5.heap[k]? := fun k hk => (RowKit.Below.heap_setCell _ _ _ _ hk).trans (RowKit.Below.heap_setCell _ _ _ _ hk)
  refine ret_found Tryz.results63 rfl (found_set H1b.out _ _) rfl ⟨x, w1, (Value.slice (some ⟨gv, ov, none⟩) (rs.length + 1) cv), by rw [HA.out, HB.out]; rfl, (HX1.out.tch X).trans HT1.out, HP.out, ?_, ⟨?_, ?_, HVB.out⟩, HF.out⟩
  · exact ((HT4.out.mono fun k _ h => h.elim .inl fun h => .inr (.inl h)).setCell (p := ⟨w.heap.size, 0, none⟩) (fun _ => .inr (.inr rfl)) _).setCell (p := ⟨w.heap.size, 1, none⟩) (fun _ => .inr (.inr rfl)) _
  · exact (g6 _ hne).trans H5b.out
  · rw [List.length_append, flatR_snoc]
    have := HOB.out.keep (w' := ((W5.setCell ⟨w.heap.size, 0, none⟩ (.string a)).setCell ⟨w.heap.size, 1, none⟩ (.bool b))) fun u hu' _ => g6 u fun e => HNW.out (by rw [hu', e])
    unfold readL at this
    rw [HA.out, HB.out] at this ⊢
    exact this
end Go.Proofs.YtkeaoejgboefbaaGreatDoor

/- run.stale. -/
namespace Go.Proofs.YtkeaoejgboefbaaGreatDoor
open Go.RowKit Go.Maps

/-- Read k's cells. -/
theorem read_get {w : World} {B : Nat → Prop} {A : Option Addr} {c : Nat} {l : List (E.Nm × E.V)} (h : SliceAt readR w B A c l) {k : Nat} (hk : k < l.length) :
    ∃ b off, A = some ⟨b, off, none⟩ ∧ B b ∧ w.cell? ⟨b, off + k * 3, none⟩ = some (.string l[k].1) ∧ w.cell? ⟨b, off + k * 3 + 1, none⟩ = some (.string (l[k].2.getD ⟨#[]⟩)) ∧ w.cell? ⟨b, off + k * 3 + 2, none⟩ = some (.bool l[k].2.isSome) ∧ l[k].1.size ≤ 9223372036854775807 ∧ (l[k].2.getD ⟨#[]⟩).size ≤ 9223372036854775807 := by
  obtain ⟨_, _, h3⟩ := h
  obtain ⟨b, off, hA, hb, hr⟩ := h3 (by intro e; rw [e] at hk; exact absurd hk (Nat.not_lt_zero _))
  obtain ⟨us, hu, hc⟩ := hr k hk
  obtain ⟨x, y, rfl, ⟨rfl, h1⟩, rfl, h2⟩ := hu
  have e : readR.size = 3 := rfl
  have c0 := hc 0 _ rfl
  have c1 := hc 1 _ rfl
  have c2 := hc 2 _ rfl
  rw [e] at c0 c1 c2
  exact ⟨b, off, hA, hb, c0, c1, c2, h1, h2⟩
/-- Two values of type found are not the same. -/
theorem neq_found (w : World) (a c : ByteArray) (b d : Bool) : (Go.binOp .neq 86 (.agg #[.string a, .bool b]) (.agg #[.string c, .bool d])).run Tryz.prog w = .ok (.bool (!((a.toList == c.toList) && (b == d)))) w := by
  have h1 : Tryz.prog.underlying 86 = some (.struct (Tryz.prog.fieldsOf 86)) := by kernel_rfl
  have h2 : Tryz.prog.stoodInHeld 86 = false := by kernel_rfl
  have h9 : Tryz.prog.underlying 9 = some .string := by kernel_rfl
  have h4 : Tryz.prog.underlying 4 = some .bool := by kernel_rfl
  rw [run_neq_struct, run_equalIn_agg _ _ _ _ _ h1 h2]
  have hm : (Tryz.prog.fieldsOf 86).toList.map (fun f => (decide (f.name ≠ "_"), f.type, f.offset)) = [(true, 9, 0), (true, 4, 1)] := by kernel_rfl
  generalize (Tryz.prog.fieldsOf 86).toList = l at hm
  obtain ⟨f, l1, rfl, ef, hm1⟩ := List.map_eq_cons_iff.1 hm
  obtain ⟨g, l2, rfl, eg, hm2⟩ := List.map_eq_cons_iff.1 hm1
  have hl2 := List.map_eq_nil_iff.1 hm2
  subst hl2
  clear hm hm1 hm2
  simp only [Prod.mk.injEq] at ef eg
  obtain ⟨a1, a2, a3⟩ := ef
  obtain ⟨b1, b2, b3⟩ := eg
  have a1' := of_decide_eq_true a1
  have b1' := of_decide_eq_true b1
  have hp : ∀ (x : ByteArray) (y : Bool), (part 9 #[.string x, .bool y] 0).run Tryz.prog w = .ok (.string x) w ∧ (part 4 #[.string x, .bool y] 1).run Tryz.prog w = .ok (.bool y) w := fun x y => ⟨by simp [part], by simp [part]⟩
  have hs := fun (d : Nat) (x y : ByteArray) => run_equalIn_string (P := Tryz.prog) w d 9 x y h9
  have hb := fun (d : Nat) (x y : Bool) => run_equalIn_bool (P := Tryz.prog) w d 4 x y h4
  cases hx : (a.toList == c.toList) <;> cases hy : (b == d) <;> simp [Op.eqFields, a1', a2, a3, b1', b2, b3, hp, hs, hb, hx, hy]
end Go.Proofs.YtkeaoejgboefbaaGreatDoor

/- run.stale. -/
namespace Go.Proofs.YtkeaoejgboefbaaGreatDoor
open Go.RowKit Go.Maps

/-- What stale answers. -/
def RetS (w : World) (S : Nat → Prop) (g bc bi br rb ob C : Nat) (e : E.En) (opn : List ByteArray) (r : Except Int (Bool × E.St)) (ed : Ending) (w' : World) : Prop := Tch (Mv g br rb ob) w w' ∧ match r with
  | .ok (b, st) => ed = .returned (.bool b) ∧ ∃ S', Live w' S' g bc bi br rb ob C { e with st := st } opn ∧ (∀ k, S k → S' k) ∧ ∀ k, S' k → S k ∨ w.heap.size ≤ k
  | .error x => ed = .returned (.bool true) ∧ x ≠ 0 ∧ Dead w' g bc bi br rb ob e.rev x
/-- get, as a hypothesis. -/
def GetIs (g bc bi br rb ob C : Nat) (e : E.En) (opn : List ByteArray) (get : E.St → E.Nm → Except Int (E.V × E.St)) : Prop :=
  ∀ (w : World) (S : Nat → Prop) (st : E.St), Live w S g bc bi br rb ob C { e with st := st } opn → ∀ n : ByteArray, n.size ≤ 9223372036854775807 →
    Calls Tryz.prog 36 #[.pointer (some ⟨rb, 0, none⟩), .string n] w (RetG w S g bc bi br rb ob C e opn (get st n))
theorem Live.ext {w w' : World} {S : Nat → Prop} {g bc bi br rb ob C : Nat} {e : E.En} {opn : List ByteArray} (h : Live w S g bc bi br rb ob C e opn) (he : Ext w w') : Live w' S g bc bi br rb ob C e opn :=
  ⟨h.eng.ext he, h.run.tch (he.tch fun _ => False) fun h => h, h.opens.ext he, h.apart, h.gl.ext he, h.off, h.inv⟩
theorem Live.mv {w : World} {S : Nat → Prop} {g bc bi br rb ob C : Nat} {e : E.En} {opn : List ByteArray} (h : Live w S g bc bi br rb ob C e opn) {k : Nat} (hk : S k) : k < w.heap.size ∧ ¬ Mv g br rb ob k := by
  refine ⟨h.eng.lt k hk, ?_⟩
  obtain ⟨o1, o2, o3, o4⟩ := h.eng.out
  obtain ⟨_, _, _, _, o5, _, _, _, _, o6, _⟩ := h.apart
  rintro (rfl | rfl | rfl | rfl) <;> contradiction
theorem found_eq (v f : E.V) : ((v.getD ⟨#[]⟩).toList == (f.getD ⟨#[]⟩).toList && (v.isSome == f.isSome)) = decide (v = f) := by
  have key : ∀ x y : ByteArray, (x.toList == y.toList) = decide (x = y) := fun x y => by
    rw [Bool.eq_iff_iff, beq_iff_eq, decide_eq_true_iff, ByteArray.toList_eq, ByteArray.toList_eq]
    exact ⟨bytes_inj, fun h => by rw [h]⟩
  rw [key]
  cases v <;> cases f <;> simp
theorem mv_lt {w : World} {S : Nat → Prop} {g bc bi br rb ob C : Nat} {e : E.En} {opn : List ByteArray} (h : Live w S g bc bi br rb ob C e opn) : ¬ Mv g br rb ob w.heap.size := by
  obtain ⟨f, h1, _⟩ := h.eng.results
  have l1 := h.eng.row.lt
  have l2 := h1.lt
  have l3 := h.run.lt
  have l4 := h.opens.lt
  rintro (e | e | e | e) <;> omega
set_option maxRecDepth 100000 in
set_option maxHeartbeats 2000000 in
theorem stale_any {w : World} {S : Nat → Prop} {g bc bi br rb ob C : Nat} {e : E.En} {opn : List ByteArray} {st0 : E.St} {get : E.St → E.Nm → Except Int (E.V × E.St)} (hget : GetIs g bc bi br rb ob C e opn get) (hL : Live w S g bc bi br rb ob C { e with st := st0 } opn)
    {A : Option Addr} {kk n : Nat} {rs : List (E.Nm × E.V)} (hA : SliceAt readR w S A kk rs) (hn : n = rs.length) (hn2 : n ≤ 100) (a0 : ByteArray) (b0 : Bool) (at0 : Int) :
    Calls Tryz.prog 52 #[.pointer (some ⟨rb, 0, none⟩), .agg #[.string a0, .bool b0, .slice A n kk, .int .i64 at0]] w (RetS w S g bc bi br rb ob C e opn (E.staleP get rs st0)) := by
  obtain ⟨R, hR⟩ : ∃ R, R = E.staleP get rs st0 := ⟨_, rfl⟩
  rw [← hR]
  have HR := Lib.hid hR
  have HL := Lib.hid hL
  have HG := Lib.hid hget
  have HA := Lib.hid hA
  have HN := Lib.hid hn
  clear hR hL hget hA hn
  go_enter Tryz.func52, Tryz.ntmps52
  go_wp2_with fail
  go_loopw [6, 7, 11] (fun _ _ i wr => ∃ (j : Nat) (st : E.St) (Sj : Nat → Prop), i = .int .i64 j ∧ j ≤ n ∧ Hid (Live wr Sj g bc bi br rb ob C { e with st := st } opn) ∧ Hid (R = E.staleP get (rs.drop j) st) ∧ Hid (∀ k, S k → Sj k) ∧ Hid (∀ k, Sj k → S k ∨ w.heap.size ≤ k) ∧ Hid (Tch (Mv g br rb ob) w wr)) (fun _ _ i _ => n - (intOf i).toNat)
  case atStart => exact ⟨0, st0, S, rfl, Nat.zero_le _, HL.out.ext ((Ext.refl w).alloc _), HR.out, fun _ h => h, fun _ h => .inl h, (Tch.refl _ w).alloc _⟩
  case round =>
    obtain ⟨j, st, Sj, rfl, hj, hlv, hst, hs1, hs2, ht⟩ := hrel
    by_cases hlt : j < n
    · have hjl : j < rs.length := by have := HN.out; omega
      obtain ⟨b, off, hAe, hbb, c0, c1, c2, z1, z2⟩ := read_get (HA.out.tch ht.out fun k hk => HL.out.mv hk) hjl
      subst hAe
      have hjl2 : j ≤ 100 := by omega
      go_wp2_with fail
      obtain ⟨Wc, hWc⟩ : ∃ Wc, Wc = wr.alloc (.cells #[.string rs[j].1, .string (rs[j].2.getD ⟨#[]⟩), .bool rs[j].2.isSome] 98) := ⟨_, rfl⟩
      rw [← hWc]
      have XC : Ext wr Wc := by rw [hWc]; exact (Ext.refl wr).alloc _
      have K6 : Hid (Wc.heap[wr.heap.size]? = some (.cells #[.string rs[j].1, .string (rs[j].2.getD ⟨#[]⟩), .bool rs[j].2.isSome] 98 (0, 0))) := Lib.hid (by rw [hWc]; exact heap_alloc_new wr _)
      have HLc := Lib.hid (hlv.out.ext XC)
      have HXC := Lib.hid XC
      clear hWc XC c0 c1 c2
      refine (HG.out Wc Sj st HLc.out _ z1).mono ?_
      rintro ed w1 ⟨t1, hr⟩
      have HT1 := Lib.hid t1
      have K6' : Hid (w1.heap[wr.heap.size]? = some (.cells #[.string rs[j].1, .string (rs[j].2.getD ⟨#[]⟩), .bool rs[j].2.isSome] 98 (0, 0))) := Lib.hid ((t1.block _ (Array.getElem?_eq_some_iff.1 K6.out).1 (mv_lt hlv.out)).trans K6.out)
      have HTW : Hid (Tch (Mv g br rb ob) w w1) := Lib.hid ((ht.out.trans (HXC.out.tch _)).trans t1)
      have hdr : rs.drop j = rs[j] :: rs.drop (j + 1) := List.drop_eq_getElem_cons hjl
      have HST : Hid (R = match get st rs[j].1 with | .error e => .error e | .ok (v, S') => if v = rs[j].2 then E.staleP get (rs.drop (j + 1)) S' else .ok (true, S')) := Lib.hid (by rw [hst.out, hdr]; rfl)
      clear t1 hdr
      cases hq : get st rs[j].1 with
      | error x =>
        rw [hq] at hr HST
        obtain ⟨rfl, hx0, hdead⟩ := hr
        have HDD := Lib.hid hdead
        have hxx : (x == 0) = false := by rw [beq_eq_false_iff_ne]; exact hx0
        have HX0 := Lib.hid hx0
        clear hq hdead hx0
        rw [foundV_none]
        obtain ⟨W3, hW3⟩ : ∃ W3, W3 = w1.alloc (.cells #[.string ⟨#[]⟩, .bool false] 86) := ⟨_, rfl⟩
        have X3 : Ext w1 W3 := by rw [hW3]; exact (Ext.refl w1).alloc _
        have b2 := (HDD.out.ext X3).run.c2
        have HX3 := Lib.hid X3
        clear X3
        go_upto_region 5 with (fail)
        rw [← hW3]
        clear hW3
        go_wp2_with fail
        go_ret
        refine ⟨HTW.out.trans (HX3.out.tch _), ?_⟩
        rw [HST.out]
        exact ⟨rfl, HX0.out, HDD.out.ext HX3.out⟩
      | ok p =>
        obtain ⟨v, st'⟩ := p
        rw [hq] at hr HST
        obtain ⟨rfl, _, S', hl', hss, hss'⟩ := hr
        have hfv : foundV v = .agg #[.string (v.getD ⟨#[]⟩), .bool v.isSome] := rfl
        have hva : v = rs[j].2 → v.getD ⟨#[]⟩ = rs[j].2.getD ⟨#[]⟩ ∧ v.isSome = rs[j].2.isSome := fun h => by rw [h]; exact ⟨rfl, rfl⟩
        have hvn : v ≠ rs[j].2 → v.getD ⟨#[]⟩ ≠ rs[j].2.getD ⟨#[]⟩ ∨ v.isSome ≠ rs[j].2.isSome := fun h => by
          by_cases h1 : v.getD ⟨#[]⟩ = rs[j].2.getD ⟨#[]⟩
          · refine .inr fun h2 => h ?_
            have := found_eq v rs[j].2
            rw [h1, h2] at this
            simpa using this.symm
          · exact .inl h1
        rw [hfv]
        have HST' : Hid (R = if v = rs[j].2 then E.staleP get (rs.drop (j + 1)) st' else .ok (true, st')) := HST
        obtain ⟨W3, hW3⟩ : ∃ W3, W3 = w1.alloc (.cells #[.string (v.getD ⟨#[]⟩), .bool v.isSome] 86) := ⟨_, rfl⟩
        have X3 : Ext w1 W3 := by rw [hW3]; exact (Ext.refl w1).alloc _
        have K7 : Hid (W3.heap[w1.heap.size]? = some (.cells #[.string (v.getD ⟨#[]⟩), .bool v.isSome] 86 (0, 0))) := Lib.hid (by rw [hW3]; exact heap_alloc_new w1 _)
        have K6'' : Hid (W3.heap[wr.heap.size]? = some (.cells #[.string rs[j].1, .string (rs[j].2.getD ⟨#[]⟩), .bool rs[j].2.isSome] 98 (0, 0))) := Lib.hid ((X3.block _ (Array.getElem?_eq_some_iff.1 K6'.out).1).trans K6'.out)
        have HLV := Lib.hid (hl'.ext X3)
        have b2 := HLV.out.run.c2
        have HX3 := Lib.hid X3
        have HS1 : Hid (∀ k, S k → S' k) := Lib.hid fun k hk => hss k (hs1.out k hk)
        have HS2 : Hid (∀ k, S' k → S k ∨ w.heap.size ≤ k) := Lib.hid fun k hk => by
          rcases hss' k hk with h | h
          · exact hs2.out k h
          · exact .inr (Nat.le_trans (Nat.le_trans ht.out.size HXC.out.size) h)
        have x0 : W3.cell? ⟨w1.heap.size, 0, none⟩ = some (.string (v.getD ⟨#[]⟩)) := by rw [new_off K7.out]; rfl
        have x1 : W3.cell? ⟨w1.heap.size, 1, none⟩ = some (.bool v.isSome) := by rw [new_off K7.out]; rfl
        have y1 : W3.cell? ⟨wr.heap.size, 1, none⟩ = some (.string (rs[j].2.getD ⟨#[]⟩)) := by rw [new_off K6''.out]; rfl
        have y2 : W3.cell? ⟨wr.heap.size, 2, none⟩ = some (.bool rs[j].2.isSome) := by rw [new_off K6''.out]; rfl
        have HTT := Lib.hid (HTW.out.trans (HX3.out.tch _))
        clear hq hl' hss hss' hfv X3 HST
        generalize v.getD ⟨#[]⟩ = va at *
        generalize v.isSome = vb at *
        generalize rs[j].2.getD ⟨#[]⟩ = fa at *
        generalize rs[j].2.isSome = fb at *
        by_cases hv : v = rs[j].2
        · obtain ⟨h1, h2⟩ := hva hv
          have HQ : Hid (R = E.staleP get (rs.drop (j + 1)) st') := Lib.hid (by rw [HST'.out, if_pos hv])
          clear hva hvn HST' hv
          subst h1
          subst h2
          go_upto_region 5 with (fail)
          rw [← hW3]
          clear hW3
          go_wp2_with fail
          go_roundw
          case rel => exact ⟨j + 1, st', S', by go_num, by omega, HLV, HQ, HS1, HS2, HTT⟩
          case measure => simp [intOf]; omega
        · have hor := hvn hv
          have HQ : Hid (R = .ok (true, st')) := Lib.hid (by rw [HST'.out, if_neg hv])
          clear hva hvn HST' hv
          by_cases hab : va = fa
          · subst hab
            have hbb2 : (vb == fb) = false := by rw [beq_eq_false_iff_ne]; rcases hor with h | h; exact absurd rfl h; exact h
            clear hor
            go_upto_region 5 with (fail)
            rw [← hW3]
            clear hW3
            go_wp2_with fail
            go_ret
            refine ⟨HTT.out, ?_⟩
            rw [HQ.out]
            exact ⟨rfl, S', HLV.out, HS1.out, HS2.out⟩
          · have haa : (va.toList == fa.toList) = false := by rw [beq_eq_false_iff_ne, ByteArray.toList_eq, ByteArray.toList_eq]; exact fun e => hab (bytes_inj e)
            clear hor hab
            go_upto_region 5 with (fail)
            rw [← hW3]
            clear hW3
            go_wp2_with fail
            go_ret
            refine ⟨HTT.out, ?_⟩
            rw [HQ.out]
            exact ⟨rfl, S', HLV.out, HS1.out, HS2.out⟩
    · have hjn : j = n := by omega
      have hd : rs.drop j = [] := List.drop_eq_nil_of_le (by have := HN.out; omega)
      have HE : Hid (R = .ok (false, st)) := Lib.hid (by rw [hst.out, hd]; rfl)
      clear hd
      go_wp2_with fail
      go_ret
      refine ⟨ht.out, ?_⟩
      rw [HE.out]
      exact ⟨rfl, Sj, hlv.out, hs1.out, hs2.out⟩
end Go.Proofs.YtkeaoejgboefbaaGreatDoor

/- A name is opened. -/
namespace Go.Proofs.YtkeaoejgboefbaaGreatDoor
open Go.RowKit Go.Maps

theorem inv_open {cells : E.Nm → Option E.Cell} {vals : E.Nm → E.V} {rev : Nat} {prog : E.Cell → E.Pr} {st : E.St} {opn U : List E.Nm} (h : E.Inv cells vals rev prog st opn U) {n : E.Nm} (hn : ∀ m, st.ms n = some m → m.at' ≠ rev) : E.Inv cells vals rev prog st (n :: opn) U where
  nodup := h.nodup
  apart := fun x hx hm => by
    rcases List.mem_cons.1 hm with rfl | hm
    · obtain ⟨m, h1, h2⟩ := (h.mem x).1 hx
      exact hn m h1 h2
    · exact h.apart x hx hm
  form := h.form
  mem := h.mem
  le := h.le
  back := h.back
theorem openF_put (opn : List ByteArray) (n : ByteArray) : ∀ x, openF (n :: opn) x = putF (openF opn) n (some (.bool true)) x := by
  intro x
  unfold openF putF E.has
  rw [List.any_cons]
  by_cases h : x = n
  · subst h; simp
  · rw [if_neg h]
    have : decide (n = x) = false := decide_eq_false fun e => h e.symm
    rw [this, Bool.false_or]
theorem openF_drop (opn : List ByteArray) {n : ByteArray} (hn : E.has opn n = false) : ∀ x, openF opn x = putF (openF (n :: opn)) n none x := by
  intro x
  rw [show putF (openF (n :: opn)) n none x = if x = n then none else openF (n :: opn) x from rfl]
  by_cases h : x = n
  · subst h; rw [if_pos rfl]; unfold openF; rw [hn]; rfl
  · rw [if_neg h, openF_put]
    unfold putF
    rw [if_neg h]
end Go.Proofs.YtkeaoejgboefbaaGreatDoor

/- A closure that reads cells, as formula sees it. -/
namespace Go.Proofs.YtkeaoejgboefbaaGreatDoor
open Go.RowKit Go.Maps

/-- What is known while a formula reads: the engine's state and the reads so far, or the error. -/
abbrev Qs := Except Int (E.St × List (E.Nm × E.V))
def askQ (get : E.St → E.Nm → Except Int (E.V × E.St)) : Qs → E.Nm → E.V × Qs
  | .error x, _ => (none, .error x)
  | .ok (st, rs), n => match get st n with
    | .error x => (none, .error x)
    | .ok (v, st') => (v, .ok (st', rs ++ [(n, v)]))
def runQ (get : E.St → E.Nm → Except Int (E.V × E.St)) : E.Pr → Qs → E.V × Qs
  | .ret v, q => (v, q)
  | .ask n k, q => runQ get (k (askQ get q n).1) (askQ get q n).2
theorem askQ_err {get : E.St → E.Nm → Except Int (E.V × E.St)} {st : E.St} {n : E.Nm} {x : Int} (h : get st n = .error x) (rs : List (E.Nm × E.V)) : askQ get (.ok (st, rs)) n = (none, .error x) := by simp [askQ, h]
theorem askQ_ok {get : E.St → E.Nm → Except Int (E.V × E.St)} {st st' : E.St} {n : E.Nm} {v : E.V} (h : get st n = .ok (v, st')) (rs : List (E.Nm × E.V)) : askQ get (.ok (st, rs)) n = (v, .ok (st', rs ++ [(n, v)])) := by simp [askQ, h]
theorem runQ_err (get : E.St → E.Nm → Except Int (E.V × E.St)) (x : Int) : ∀ p : E.Pr, (runQ get p (.error x)).2 = .error x
  | .ret _ => rfl
  | .ask _ k => runQ_err get x (k none)
theorem runQ_is (get : E.St → E.Nm → Except Int (E.V × E.St)) : ∀ (p : E.Pr) (st : E.St) (rs : List (E.Nm × E.V)), match E.runP get p st rs with
    | .ok (v, rs', st') => runQ get p (.ok (st, rs)) = (v, .ok (st', rs'))
    | .error x => (runQ get p (.ok (st, rs))).2 = .error x := by
  intro p
  induction p with
  | ret v => intro st rs; rfl
  | ask n k ih =>
    intro st rs
    cases hg : get st n with
    | error x =>
      have e1 : E.runP get (.ask n k) st rs = .error x := by rw [E.runP, hg]
      have e2 : runQ get (.ask n k) (.ok (st, rs)) = runQ get (k none) (.error x) := by rw [runQ, askQ_err hg]
      rw [e1, e2]
      exact runQ_err get x _
    | ok p =>
      obtain ⟨v, st'⟩ := p
      have e1 : E.runP get (.ask n k) st rs = E.runP get (k v) st' (rs ++ [(n, v)]) := by rw [E.runP, hg]
      have e2 : runQ get (.ask n k) (.ok (st, rs)) = runQ get (k v) (.ok (st', rs ++ [(n, v)])) := by rw [runQ, askQ_ok hg]
      rw [e1, e2]
      exact ih v st' (rs ++ [(n, v)])

/-- What a read may turn: blocks of X and the own block u of the reads; F: what the state stands on. -/
structure Turned (X : Nat → Prop) (u u' : Option Nat) (F F' : Nat → Prop) (w w' : World) : Prop where
  tch : Tch (fun k => X k ∨ u = some k) w w'
  own : u' = u ∨ ∃ t, u' = some t ∧ w.heap.size ≤ t
  foot : ∀ k, F' k → F k ∨ w.heap.size ≤ k
theorem Turned.refl (X : Nat → Prop) (u : Option Nat) (F : Nat → Prop) (w : World) : Turned X u u F F w w := ⟨Tch.refl _ w, .inl rfl, fun _ h => .inl h⟩
theorem Turned.trans {X : Nat → Prop} {u u' u'' : Option Nat} {F F' F'' : Nat → Prop} {a b c : World} (h : Turned X u u' F F' a b) (k : Turned X u' u'' F' F'' b c) : Turned X u u'' F F'' a c := by
  refine ⟨h.tch.trans' k.tch ?_, ?_, fun i hi => ?_⟩
  · rintro i hi (hx | hx)
    · exact .inl hx
    · rcases h.own with e | ⟨t, e, ht⟩
      · exact .inr (e ▸ hx)
      · rw [e] at hx; cases hx; omega
  · rcases k.own with e | ⟨t, e, ht⟩
    · rw [e]; exact h.own
    · exact .inr ⟨t, e, Nat.le_trans h.tch.size ht⟩
  · rcases k.foot i hi with e | e
    · exact h.foot i e
    · exact .inr (Nat.le_trans h.tch.size e)
theorem Turned.ext {X : Nat → Prop} {u u' : Option Nat} {F F' : Nat → Prop} {a b c : World} (h : Turned X u u' F F' a b) (k : Ext b c) : Turned X u u' F F' a c := h.trans ⟨k.tch _, .inl rfl, fun _ h => .inl h⟩
theorem Ext.turned {X : Nat → Prop} {u u' : Option Nat} {F F' : Nat → Prop} {a b c : World} (h : Ext a b) (k : Turned X u u' F F' b c) : Turned X u u' F F' a c := Turned.trans ⟨h.tch _, .inl rfl, fun _ h => .inl h⟩ k
/-- Blocks that were not there before are written. -/
theorem Turned.wrote {X Y : Nat → Prop} {u u' : Option Nat} {F F' : Nat → Prop} {a b c : World} (h : Turned X u u' F F' a b) (k : Tch Y b c) (hY : ∀ i, Y i → a.heap.size ≤ i) : Turned X u u' F F' a c := by
  refine ⟨h.tch.trans' k fun i hi hy => ?_, h.own, h.foot⟩
  have := hY i hy
  omega
/-- A closure that reads cells. Q w q m u F: in world w the state is q, m reads were made, the reads lie in block u, all stands on F. -/
structure Asks (f : Nat) (lb : Array Value) (get : E.St → E.Nm → Except Int (E.V × E.St)) (X : Nat → Prop) (Q : World → Qs → Nat → Option Nat → (Nat → Prop) → Prop) : Prop where
  enters : ∀ (args : Array Value) (w : World), (callFunc f args).run Tryz.prog w = .ok (.enter f args) w
  keep : ∀ {w w' q m u F} {Y : Nat → Prop}, Q w q m u F → Tch Y w w' → (∀ k, Y k → ¬ F k) → Q w' q m u F
  lt : ∀ {w q m u F}, Q w q m u F → ∀ k, F k → k < w.heap.size
  inX : ∀ {w q m u F}, Q w q m u F → ∀ k, X k → F k
  inU : ∀ {w q m F t}, Q w q m (some t) F → F t
  gl : ∀ {w q m u F}, Q w q m u F → Gl w
  ask : ∀ {w q m u F} (n : ByteArray), Q w q m u F → m ≤ 90 → n.size ≤ 9223372036854775807 → Calls Tryz.prog f (#[.string n] ++ lb) w fun ed w' =>
    ed = .returned (foundV (askQ get q n).1) ∧ ((askQ get q n).1.getD ⟨#[]⟩).size ≤ 65536 ∧ ∃ u' F', Turned X u u' F F' w w' ∧ Q w' (askQ get q n).2 (m + 1) u' F'
theorem Asks.ext {f : Nat} {lb : Array Value} {get : E.St → E.Nm → Except Int (E.V × E.St)} {X : Nat → Prop} {Q : World → Qs → Nat → Option Nat → (Nat → Prop) → Prop} (h : Asks f lb get X Q) {w w' : World} {q : Qs} {m : Nat} {u : Option Nat} {F : Nat → Prop} (he : Ext w w') (hq : Q w q m u F) : Q w' q m u F := h.keep hq (he.tch fun _ => False) fun _ h => h.elim
/-- A block of the call's own stays as it is. -/
theorem Asks.stays {f : Nat} {lb : Array Value} {get : E.St → E.Nm → Except Int (E.V × E.St)} {X : Nat → Prop} {Q : World → Qs → Nat → Option Nat → (Nat → Prop) → Prop} (h : Asks f lb get X Q) {w w' : World} {q : Qs} {m : Nat} {u u' : Option Nat} {F F' : Nat → Prop} (hq : Q w q m u F) (ht : Turned X u u' F F' w w') {k : Nat} {o : Obj} (hk : w.heap[k]? = some o) (hf : ¬ F k) : w'.heap[k]? = some o ∧ ¬ F' k := by
  have hl := (Array.getElem?_eq_some_iff.1 hk).1
  refine ⟨(ht.tch.block k hl ?_).trans hk, fun e => ?_⟩
  · rintro (e | e)
    · exact hf (h.inX hq k e)
    · subst e; exact hf (h.inU hq)
  · rcases ht.foot k e with e | e
    · exact hf e
    · omega
/-- What formula answers. -/
def RetP (X : Nat → Prop) (Q : World → Qs → Nat → Option Nat → (Nat → Prop) → Prop) (u : Option Nat) (F : Nat → Prop) (w : World) (r : E.V × Qs) (ed : Ending) (w' : World) : Prop :=
  ed = .returned (foundV r.1) ∧ (r.1.getD ⟨#[]⟩).size ≤ 140737488355328 ∧ ∃ u' F' m, m ≤ 90 ∧ Turned X u u' F F' w w' ∧ Q w' r.2 m u' F'
end Go.Proofs.YtkeaoejgboefbaaGreatDoor

/- engine.formula: a join. -/
namespace Go.Proofs.YtkeaoejgboefbaaGreatDoor
open Go.RowKit Go.Maps

/-- formula on its way: its boxes, the closure's state, the arguments. -/
structure Fl (X SA : Nat → Prop) (Q : World → Qs → Nat → Option Nat → (Nat → Prop) → Prop) (u : Option Nat) (F : Nat → Prop) (w : World) (c0 : Array Value) (A : Option Addr) (k : Nat) (args : List ByteArray) (wr : World) (q : Qs) (m : Nat) (ur : Option Nat) (Fr : Nat → Prop) : Prop where
  b0 : wr.heap[w.heap.size]? = some (.cells c0 50 (0, 0))
  b1 : wr.heap[w.heap.size + 1]? = some (.cells #[.string ⟨#[]⟩, .bool false] 86 (0, 0))
  q : Q wr q m ur Fr
  t : Turned X u ur F Fr w wr
  n0 : ¬ Fr w.heap.size
  n1 : ¬ Fr (w.heap.size + 1)
  args : SliceAt strR wr SA A k args
  off : ∀ k, SA k → k < w.heap.size ∧ ¬ X k ∧ ur ≠ some k
section
variable {X SA : Nat → Prop} {Q : World → Qs → Nat → Option Nat → (Nat → Prop) → Prop} {f : Nat} {lb : Array Value} {get : E.St → E.Nm → Except Int (E.V × E.St)} {u : Option Nat} {F : Nat → Prop} {w : World} {c0 : Array Value} {A : Option Addr} {k : Nat} {args : List ByteArray} {wr : World} {q : Qs} {m : Nat} {ur : Option Nat} {Fr : Nat → Prop}
theorem Fl.size (h : Fl X SA Q u F w c0 A k args wr q m ur Fr) : w.heap.size + 2 ≤ wr.heap.size := (Array.getElem?_eq_some_iff.1 h.b1).1
/-- New blocks, and writes on blocks of the call's own. -/
theorem Fl.wrote (ha : Asks f lb get X Q) (h : Fl X SA Q u F w c0 A k args wr q m ur Fr) {w2 : World} {Y : Nat → Prop} (he : Tch Y wr w2) (hY : ∀ k, Y k → ¬ Fr k ∧ w.heap.size + 2 ≤ k) : Fl X SA Q u F w c0 A k args w2 q m ur Fr where
  b0 := (he.block _ (Array.getElem?_eq_some_iff.1 h.b0).1 fun e => by have := (hY _ e).2; omega).trans h.b0
  b1 := (he.block _ (Array.getElem?_eq_some_iff.1 h.b1).1 fun e => by have := (hY _ e).2; omega).trans h.b1
  q := ha.keep h.q he fun k hk => (hY k hk).1
  t := h.t.wrote he fun i hi => by have := (hY i hi).2; omega
  n0 := h.n0
  n1 := h.n1
  args := h.args.tch he fun k hk => ⟨Nat.lt_of_lt_of_le (h.off k hk).1 h.t.tch.size, fun e => by have := (hY k e).2; have := (h.off k hk).1; omega⟩
  off := h.off
theorem Fl.ext (ha : Asks f lb get X Q) (h : Fl X SA Q u F w c0 A k args wr q m ur Fr) {w2 : World} (he : Ext wr w2) : Fl X SA Q u F w c0 A k args w2 q m ur Fr := h.wrote ha (he.tch fun _ => False) fun _ h => h.elim
theorem Fl.turned (ha : Asks f lb get X Q) (h : Fl X SA Q u F w c0 A k args wr q m ur Fr) {w2 : World} {q2 : Qs} {m2 : Nat} {u2 : Option Nat} {F2 : Nat → Prop} (ht : Turned X ur u2 Fr F2 wr w2) (hq : Q w2 q2 m2 u2 F2) : Fl X SA Q u F w c0 A k args w2 q2 m2 u2 F2 := by
  have k0 := ha.stays h.q ht h.b0 h.n0
  have k1 := ha.stays h.q ht h.b1 h.n1
  refine ⟨k0.1, k1.1, hq, h.t.trans ht, k0.2, k1.2, ?_, fun k hk => ?_⟩
  · refine h.args.tch ht.tch fun k hk => ?_
    obtain ⟨h1, h2, h3⟩ := h.off k hk
    exact ⟨Nat.lt_of_lt_of_le h1 h.t.tch.size, by rintro (e | e); exact h2 e; exact h3 e⟩
  · obtain ⟨h1, h2, h3⟩ := h.off k hk
    refine ⟨h1, h2, ?_⟩
    rcases ht.own with e | ⟨t, e, hl⟩
    · rw [e]; exact h3
    · rw [e]; intro e'; cases e'
      have := h.t.tch.size
      omega
/-- formula's boxes are made. -/
theorem Fl.start (ha : Asks f lb get X Q) (hq : Q w q m u F) (hs : SliceAt strR w SA A k args) (ho : ∀ k, SA k → k < w.heap.size ∧ ¬ X k ∧ u ≠ some k) :
    Fl X SA Q u F w c0 A k args ((w.alloc (.cells c0 50)).alloc (.cells #[.string ⟨#[]⟩, .bool false] 86)) q m u F := by
  have e1 : Ext w (w.alloc (.cells c0 50)) := (Ext.refl w).alloc _
  have e2 : Ext w ((w.alloc (.cells c0 50)).alloc (.cells #[.string ⟨#[]⟩, .bool false] 86)) := e1.alloc _
  refine ⟨heap_old (heap_alloc_new w _) _, ?_, ha.ext e2 hq, Ext.turned e2 (Turned.refl _ _ _ _), fun e => ?_, fun e => ?_, hs.tch (e2.tch fun _ => False) fun k hk => ⟨(ho k hk).1, fun e => e⟩, ho⟩
  · have := heap_alloc_new (w.alloc (.cells c0 50)) (.cells #[.string ⟨#[]⟩, .bool false] 86)
    rw [size_alloc'] at this
    exact this
  · have := ha.lt hq _ e; omega
  · have := ha.lt hq _ e; omega
/-- What was asked. -/
theorem Fl.ask (ha : Asks f lb get X Q) (h : Fl X SA Q u F w c0 A k args wr q m ur Fr) (hm : m ≤ 90) {n : ByteArray} (hn : n.size ≤ 9223372036854775807) : Calls Tryz.prog f (#[.string n] ++ lb) wr fun ed w' =>
    ed = .returned (foundV (askQ get q n).1) ∧ ((askQ get q n).1.getD ⟨#[]⟩).size ≤ 65536 ∧ ∃ u' F', (∀ (i : Nat) (o : Obj), wr.heap[i]? = some o → ¬ Fr i → w'.heap[i]? = some o ∧ ¬ F' i) ∧ Fl X SA Q u F w c0 A k args w' (askQ get q n).2 (m + 1) u' F' := by
  refine (ha.ask n h.q hm hn).mono ?_
  rintro e w' ⟨h1, h2, u', F', h3, h4⟩
  exact ⟨h1, h2, u', F', fun i o hi hf => ha.stays h.q h3 hi hf, h.turned ha h3 h4⟩
/-- The result is stored. -/
theorem Fl.ends (ha : Asks f lb get X Q) (h : Fl X SA Q u F w c0 A k args wr q m ur Fr) (hm : m ≤ 90) {v : E.V} (hv : (v.getD ⟨#[]⟩).size ≤ 140737488355328) (x y : Value) : RetP X Q u F w (v, q) (.returned (foundV v)) ((wr.setCell ⟨w.heap.size + 1, 0, none⟩ x).setCell ⟨w.heap.size + 1, 1, none⟩ y) := by
  have ht : Tch (fun k => k = w.heap.size + 1) wr ((wr.setCell ⟨w.heap.size + 1, 0, none⟩ x).setCell ⟨w.heap.size + 1, 1, none⟩ y) := ((Tch.refl (fun k => k = w.heap.size + 1) wr).setCell (p := ⟨w.heap.size + 1, 0, none⟩) (fun _ => rfl) x).setCell (p := ⟨w.heap.size + 1, 1, none⟩) (fun _ => rfl) y
  exact ⟨rfl, hv, ur, Fr, m, hm, h.t.wrote ht fun i hi => by omega, ha.keep h.q ht fun k hk => by rw [hk]; exact h.n1⟩
end
/-- The result's cell is written: what was there before stays. -/
theorem ext_result {a b : World} {g : Nat} (h : Ext a b) (hg : a.heap.size ≤ g) (x y : Value) : Ext a ((b.setCell ⟨g, 0, none⟩ x).setCell ⟨g, 1, none⟩ y) := (h.setCell (p := ⟨g, 0, none⟩) hg x).setCell (p := ⟨g, 1, none⟩) hg y
/-- strings.Join of a slice of the call's own. -/
theorem Join_own {base n : Nat} {v : Value} (xs : List ByteArray) (sep : ByteArray) (w : World) (ho : OwnAt w base 9 1 v n (xs.map Value.string)) (hn : n = xs.length) (hl : n ≤ 100) (hx : ∀ s ∈ xs, s.size ≤ 65536) (hs : sep.size ≤ 64) :
    Calls Tryz.prog 80 #[v, .string sep] w (Al (.string (E.joinT xs sep)) w) := by
  have e : E.joinT xs sep = ⟨(Lib.join (xs.map (·.data.toList)) sep.data.toList).toArray⟩ := rfl
  rw [e]
  by_cases h0 : n = 0
  · have hx0 : xs = [] := List.eq_nil_of_length_eq_zero (by omega)
    subst h0 hx0
    obtain ⟨_, ⟨rfl, _⟩ | ⟨g, off, cap, cur, rfl, _⟩⟩ := ho
    · refine (Tryz.strings_Join_none none 0 sep w).mono ?_
      rintro e w' ⟨rfl, rfl⟩
      exact ⟨rfl, Ext.refl _⟩
    · refine (Tryz.strings_Join_none (some ⟨g, off, none⟩) cap sep w).mono ?_
      rintro e w' ⟨rfl, rfl⟩
      exact ⟨rfl, Ext.refl _⟩
  · obtain ⟨g, off, cap, rfl, _, hg, hc1, hc2, hcell⟩ := ho.cells (by omega)
    rw [hn]
    refine (Tryz.strings_Join g off cap xs sep w (fun j x hj => ?_) hg (by omega) (by omega) ?_).mono ?_
    · exact hcell j _ (by rw [List.getElem?_map, hj]; rfl)
    · have h1 := join_le 65536 sep.data.toList (xs.map (·.data.toList)) (by
        intro l hl
        obtain ⟨s, hs1, rfl⟩ := List.mem_map.1 hl
        rw [size_list]; exact hx s hs1)
      rw [List.length_map, size_list] at h1
      have h2 : sep.size * xs.length ≤ 64 * 100 := Nat.mul_le_mul hs (by omega)
      have h3 : xs.length * 65536 ≤ 100 * 65536 := Nat.mul_le_mul_right _ (by omega)
      omega
    · rintro e w' ⟨rfl, h⟩
      exact ⟨rfl, h⟩
theorem joinT_le {xs : List ByteArray} {sep : ByteArray} (hl : xs.length ≤ 100) (hx : ∀ s ∈ xs, s.size ≤ 65536) (hs : sep.size ≤ 64) : (E.joinT xs sep).size ≤ 140737488355328 := by
  unfold E.joinT
  rw [E.mk_size]
  have h1 := join_le 65536 sep.data.toList (xs.map (·.data.toList)) (by
    intro l hl
    obtain ⟨s, hs1, rfl⟩ := List.mem_map.1 hl
    rw [size_list]; exact hx s hs1)
  rw [List.length_map, size_list] at h1
  have h2 : sep.size * xs.length ≤ 64 * 100 := Nat.mul_le_mul hs hl
  have h3 : xs.length * 65536 ≤ 100 * 65536 := Nat.mul_le_mul_right _ hl
  omega
end Go.Proofs.YtkeaoejgboefbaaGreatDoor

/- engine.formula: a join. -/
namespace Go.Proofs.YtkeaoejgboefbaaGreatDoor
open Go.RowKit Go.Maps

theorem str_info : (Tryz.prog.info? 9).map (fun i => (i.zero, i.size, i.bytes)) = some (some (.string ⟨#[]⟩), 1, 16) := by kernel_rfl
theorem own_apart {w : World} {base : Nat} {e : TypeId} {size : Nat} {v : Value} {n : Nat} {xs : List Value} (h : OwnAt w base e size v n xs) {g : Nat} (hg : v.ownBlock = some g) : base ≤ g := by
  obtain ⟨_, ⟨rfl, _⟩ | ⟨g', off, cap, cur, rfl, hb, _⟩⟩ := h
  · simp [Value.ownBlock] at hg
  · simp [Value.ownBlock] at hg
    omega
/-- A join behind an argument's value. -/
def joinK (t : ByteArray) (rest : List E.Nm) (acc : List ByteArray) : E.V → E.Pr
  | none => .ret none
  | some s => E.joinP t rest (acc ++ [s])
set_option maxRecDepth 100000 in
set_option maxHeartbeats 4000000 in
theorem formula_join {X SA : Nat → Prop} {Q : World → Qs → Nat → Option Nat → (Nat → Prop) → Prop} {f : Nat} {lb : Array Value} {get : E.St → E.Nm → Except Int (E.V × E.St)} (ha : Asks f lb get X Q) {u : Option Nat} {F : Nat → Prop} {w : World} {A : Option Addr} {k n : Nat} {nm tx : ByteArray} {args : List ByteArray} {q : Qs}
    (hq : Q w q 0 u F) (hs : SliceAt strR w SA A k args) (ho : ∀ k, SA k → k < w.heap.size ∧ ¬ X k ∧ u ≠ some k) (hn : n = args.length) (hl : n ≤ 8) (ht : tx.size ≤ 64) :
    Calls Tryz.prog 62 #[.agg #[.string nm, .int .i64 2, .slice A n k, .string tx], .func (.func f) #[] lb] w (RetP X Q u F w (runQ get (E.joinP tx args []) q)) := by
  obtain ⟨c0, hc0⟩ : ∃ c0 : Array Value, c0 = #[.string nm, .int .i64 2, .slice A n k, .string tx] := ⟨_, rfl⟩
  obtain ⟨R, hR⟩ : ∃ R, R = runQ get (E.joinP tx args []) q := ⟨_, rfl⟩
  obtain ⟨W1, hW1⟩ : ∃ W1, W1 = ((w.alloc (.cells #[.string nm, .int .i64 2, .slice A n k, .string tx] 50)).alloc (.cells #[.string ⟨#[]⟩, .bool false] 86)) := ⟨_, rfl⟩
  have HF : Hid (Fl X SA Q u F w c0 A k args W1 q 0 u F) := Lib.hid (by rw [hW1, hc0]; exact Fl.start ha hq hs ho)
  rw [← hR]
  have HR := Lib.hid hR
  have HA := Lib.hid ha
  have HN := Lib.hid hn
  have HT := Lib.hid ht
  have eg := ha.enters
  have HC0 := Lib.hid hc0
  have ac : ∀ i, W1.cell? ⟨w.heap.size, i, none⟩ = c0[i]? := fun i => new_off HF.out.b0 i
  have a1 : W1.cell? ⟨w.heap.size, 1, none⟩ = some (.int .i64 2) := by rw [ac, hc0]; rfl
  have a2 : W1.cell? ⟨w.heap.size, 2, none⟩ = some (.slice A n k) := by rw [ac, hc0]; rfl
  clear hR ha hn ht hc0 hq hs ho ac
  go_enter Tryz.func62, Tryz.ntmps62
  go_upto_region 1 with (fail)
  rw [← hW1]
  clear hW1
  go_wp2_with fail
  go_loopw [5, 7, 8, 17] (fun v5 _ _ i wr => ∃ (j m : Nat) (qj : Qs) (ur : Option Nat) (Fr : Nat → Prop) (acc : List ByteArray), i = .int .i64 j ∧ j ≤ n ∧ Hid (Fl X SA Q u F w c0 A k args wr qj m ur Fr) ∧ Hid (m ≤ j) ∧ Hid (OwnAt wr (w.heap.size + 2) 9 1 v5 j (acc.map Value.string)) ∧ Hid (∀ g, v5.ownBlock = some g → ¬ Fr g) ∧ Hid (acc.length = j) ∧ Hid (∀ s ∈ acc, s.size ≤ 65536) ∧ Hid (R = runQ get (E.joinP tx (args.drop j) acc) qj)) (fun _ _ _ i _ => n - (intOf i).toNat)
  case atStart => exact ⟨0, 0, q, u, F, [], rfl, Nat.zero_le _, HF, Lib.hid (Nat.le_refl _), Lib.hid (OwnAt.nil _ _ _ _), Lib.hid (fun g hg => by simp [Value.ownBlock] at hg), Lib.hid rfl, Lib.hid (fun _ h => absurd h List.not_mem_nil), HR⟩
  case round =>
    obtain ⟨j, m, qj, ur, Fr, acc, rfl, hj, hf, hm, hown, hap, hacc, hsz, hrr⟩ := hrel
    by_cases hlt : j < n
    · have hjl : j < args.length := by have := HN.out; omega
      obtain ⟨b, off, hAe, hbb, d0, hz⟩ := str_get hf.out.args hjl
      subst hAe
      have hj8 : j ≤ 8 := by omega
      have hcall := Lib.hid (hf.out.ask HA.out (by have := hm.out; omega) hz)
      have HST : Hid (R = runQ get (joinK tx (args.drop (j + 1)) acc (askQ get qj args[j]).1) (askQ get qj args[j]).2) := Lib.hid (by
        rw [hrr.out, List.drop_eq_getElem_cons hjl]
        rfl)
      generalize args[j] = an at *
      generalize askQ get qj an = qa at *
      obtain ⟨v, q'⟩ := qa
      go_wp2_with fail
      go_at_fn f
      refine hcall.out.mono ?_
      rintro e w1 ⟨rfl, h2, u', F', h3, h4⟩
      have HST' : Hid (R = runQ get (joinK tx (args.drop (j + 1)) acc v) q') := HST
      have h2' : (v.getD ⟨#[]⟩).size ≤ 65536 := h2
      have h4' : Fl X SA Q u F w c0 (some ⟨b, off, none⟩) k args w1 q' (m + 1) u' F' := h4
      have HF4 := Lib.hid h4'
      have HK3 := Lib.hid h3
      have HB3 := Lib.hid h2'
      clear HST h2 h4 h4' h3 h2' hcall
      cases v with
      | none =>
        have HE : Hid (R = (none, q')) := HST'
        clear HST'
        rw [foundV_none]
        obtain ⟨W2, hW2⟩ : ∃ W2, W2 = w1.alloc (.cells #[.string ⟨#[]⟩, .bool false] 86) := ⟨_, rfl⟩
        have X2 : Ext w1 W2 := by rw [hW2]; exact (Ext.refl w1).alloc _
        have K8 : Hid (W2.heap[w1.heap.size]? = some (.cells #[.string ⟨#[]⟩, .bool false] 86 (0, 0))) := Lib.hid (by rw [hW2]; exact heap_alloc_new w1 _)
        have HF2 := Lib.hid (HF4.out.ext HA.out X2)
        have e1 : W2.cell? ⟨w1.heap.size, 1, none⟩ = some (.bool false) := by rw [new_off K8.out]; rfl
        have r0 : W2.cell? ⟨w.heap.size + 1, 0, none⟩ = some (.string ⟨#[]⟩) := by rw [new_off HF2.out.b1]; rfl
        have r1 : W2.cell? ⟨w.heap.size + 1, 1, none⟩ = some (.bool false) := by rw [new_off HF2.out.b1]; rfl
        have f0 := Lib.frozen_of_heap HF2.out.b1 0
        have f1 := Lib.frozen_of_heap HF2.out.b1 1
        clear X2 d0 HB3
        go_upto_region 7 with (fail)
        rw [← hW2]
        clear hW2
        go_wp2_with fail
        exact ret_found Tryz.results62 rfl (found_set HF2.out.b1 _ _) rfl (by rw [HE.out]; exact HF2.out.ends HA.out (v := none) (by have := hm.out; omega) (Nat.zero_le _) _ _)
      | some s =>
        have HE : Hid (R = runQ get (E.joinP tx (args.drop (j + 1)) (acc ++ [s])) q') := HST'
        clear HST'
        rw [foundV_some]
        obtain ⟨W2, hW2⟩ : ∃ W2, W2 = w1.alloc (.cells #[.string s, .bool true] 86) := ⟨_, rfl⟩
        have X2 : Ext w1 W2 := by rw [hW2]; exact (Ext.refl w1).alloc _
        have K8 : Hid (W2.heap[w1.heap.size]? = some (.cells #[.string s, .bool true] 86 (0, 0))) := Lib.hid (by rw [hW2]; exact heap_alloc_new w1 _)
        have HF2 := Lib.hid (HF4.out.ext HA.out X2)
        have e0 : W2.cell? ⟨w1.heap.size, 0, none⟩ = some (.string s) := by rw [new_off K8.out]; rfl
        have e1 : W2.cell? ⟨w1.heap.size, 1, none⟩ = some (.bool true) := by rw [new_off K8.out]; rfl
        have HO : Hid (OwnAt W2 (w.heap.size + 2) 9 1 u5 j (acc.map Value.string)) := Lib.hid ((hown.out.keep fun g hg hl => by
          have hgo : wr.heap[g]? = some wr.heap[g] := Array.getElem?_eq_getElem hl
          rw [hgo]
          exact (HK3.out g _ hgo (hap.out g hg)).1).ext X2)
        have HAP : Hid (∀ g, u5.ownBlock = some g → ¬ F' g) := Lib.hid fun g hg => by
          have hl := own_at_lt hown.out hg
          exact (HK3.out g _ (Array.getElem?_eq_getElem hl) (hap.out g hg)).2
        obtain ⟨i0, hi, hz0, hz1, hz2⟩ := info_parts str_info
        have HX2 := Lib.hid X2
        have hW2s : w.heap.size + 2 ≤ W2.heap.size := HF2.out.size
        clear X2 d0
        go_upto_region 7 with (fail)
        rw [← hW2]
        clear hW2
        go_wp2_with (at_builtin; refine wpList_append_ownAt _ rfl (.tmp 28) (.tmp 31) 48 rfl (w.heap.size + 2) 9 i0 (.string ⟨#[]⟩) 1 16 Tryz.underlying48 hi hz0 hz1 hz2 rfl (by decide) _ _ _ rfl (HO.out.alloc _) ⟨_, 0, none⟩ 1 1 [.string s] rfl rfl ?_ ?_ (by unfold maxLen; omega) (by omega) (by rw [size_alloc']; omega) (by decide) ?_)
        · intro i u hi'
          rw [Addr.add_lit, Nat.zero_add, cell_new, ← hi']
          simp
        · intro u hu
          rw [List.mem_singleton.1 hu]
          rfl
        · intro v' w4 ho hg _ hf
          have hlt := HA.out.lt HF2.out.q
          have ht : Tch (fun k => u5.ownBlock = some k) W2 w4 := ((Tch.refl _ W2).alloc _).grown hg fun i hi _ => hi
          have HF5 := Lib.hid (HF2.out.wrote HA.out ht fun g hg => ⟨HAP.out g hg, own_apart hown.out hg⟩)
          have HAP5 : Hid (∀ g, v'.ownBlock = some g → ¬ F' g) := Lib.hid fun g hg => by
            rcases hf with e | ⟨t, e, h1, _⟩
            · exact HAP.out g (e ▸ hg)
            · rw [e] at hg; cases hg
              intro hF
              have := hlt _ hF
              omega
          have HO5 : Hid (OwnAt w4 (w.heap.size + 2) 9 1 v' (j + 1) ((acc ++ [s]).map Value.string)) := Lib.hid (by rw [List.map_append]; exact ho)
          clear ho hg hf ht hlt hi hz0 hz1 hz2
          go_wp2_with fail
          go_roundw
          case rel =>
            refine ⟨j + 1, m + 1, q', u', F', acc ++ [s], by go_num, by omega, HF5, Lib.hid (Nat.succ_le_succ hm.out), HO5, HAP5, Lib.hid (by rw [List.length_append, hacc.out]; rfl), Lib.hid fun x hx => ?_, HE⟩
            rcases List.mem_append.1 hx with hx | hx
            · exact hsz.out x hx
            · rw [List.mem_singleton.1 hx]; exact HB3.out
          case measure => simp [intOf]; omega
    · have hjn : j = n := by omega
      subst hjn
      have hd : args.drop j = [] := List.drop_eq_nil_of_le (by have := HN.out; omega)
      have HE : Hid (R = (some (E.joinT acc tx), qj)) := Lib.hid (by rw [hrr.out, hd]; rfl)
      have a3 : wr.cell? ⟨w.heap.size, 3, none⟩ = some (.string tx) := by rw [new_off hf.out.b0, HC0.out]; rfl
      have HJ := Lib.hid (Join_own acc tx wr hown.out hacc.out.symm (by omega) hsz.out HT.out)
      have HJL : Hid ((E.joinT acc tx).size ≤ 140737488355328) := Lib.hid (joinT_le (by rw [hacc.out]; omega) hsz.out HT.out)
      generalize E.joinT acc tx = jt at *
      clear hd
      go_wp2_with fail
      refine HJ.out.mono ?_
      rintro e w1 ⟨rfl, d1⟩
      have HF2 := Lib.hid (hf.out.ext HA.out d1)
      have r0 : w1.cell? ⟨w.heap.size + 1, 0, none⟩ = some (.string ⟨#[]⟩) := by rw [new_off HF2.out.b1]; rfl
      have r1 : w1.cell? ⟨w.heap.size + 1, 1, none⟩ = some (.bool false) := by rw [new_off HF2.out.b1]; rfl
      have f0 := Lib.frozen_of_heap HF2.out.b1 0
      have f1 := Lib.frozen_of_heap HF2.out.b1 1
      clear d1 a3
      go_wp2_with fail
      exact ret_found Tryz.results62 rfl (found_set HF2.out.b1 _ _) rfl (by rw [HE.out]; exact HF2.out.ends HA.out (v := some jt) (by have := hm.out; omega) HJL.out _ _)
end Go.Proofs.YtkeaoejgboefbaaGreatDoor

/- engine.formula: the operations but joins. -/
namespace Go.Proofs.YtkeaoejgboefbaaGreatDoor
open Go.RowKit Go.Maps

/-- What an Or does with its first argument's value. -/
def orK (b : ByteArray) : E.V → E.Pr
  | none => .ask b .ret
  | some s => .ret (some s)
set_option maxRecDepth 100000 in
set_option maxHeartbeats 4000000 in
theorem formula_or {X SA : Nat → Prop} {Q : World → Qs → Nat → Option Nat → (Nat → Prop) → Prop} {f : Nat} {lb : Array Value} {get : E.St → E.Nm → Except Int (E.V × E.St)} (ha : Asks f lb get X Q) {u : Option Nat} {F : Nat → Prop} {w : World} {A : Option Addr} {k : Nat} {nm tx x1 x2 : ByteArray} {q : Qs}
    (hq : Q w q 0 u F) (hs : SliceAt strR w SA A k [x1, x2]) (ho : ∀ k, SA k → k < w.heap.size ∧ ¬ X k ∧ u ≠ some k) :
    Calls Tryz.prog 62 #[.agg #[.string nm, .int .i64 7, .slice A 2 k, .string tx], .func (.func f) #[] lb] w (RetP X Q u F w (runQ get (.ask x1 (orK x2)) q)) := by
  obtain ⟨c0, hc0⟩ : ∃ c0 : Array Value, c0 = #[.string nm, .int .i64 7, .slice A 2 k, .string tx] := ⟨_, rfl⟩
  obtain ⟨R, hR⟩ : ∃ R, R = runQ get (.ask x1 (orK x2)) q := ⟨_, rfl⟩
  obtain ⟨W1, hW1⟩ : ∃ W1, W1 = ((w.alloc (.cells #[.string nm, .int .i64 7, .slice A 2 k, .string tx] 50)).alloc (.cells #[.string ⟨#[]⟩, .bool false] 86)) := ⟨_, rfl⟩
  have HF : Hid (Fl X SA Q u F w c0 A k [x1, x2] W1 q 0 u F) := Lib.hid (by rw [hW1, hc0]; exact Fl.start ha hq hs ho)
  rw [← hR]
  have HA := Lib.hid ha
  have eg := ha.enters
  have HC0 := Lib.hid hc0
  obtain ⟨b, off, hAe, hbb, d0, hz⟩ := str_get HF.out.args (k := 0) (Nat.zero_lt_succ _)
  subst hAe
  have hcall := Lib.hid (HF.out.ask HA.out (Nat.zero_le _) hz)
  replace d0 : W1.cell? ⟨b, off, none⟩ = some (.string x1) := d0
  have a1 : W1.cell? ⟨w.heap.size, 1, none⟩ = some (.int .i64 7) := by rw [new_off HF.out.b0, hc0]; rfl
  have a2 : W1.cell? ⟨w.heap.size, 2, none⟩ = some (.slice (some ⟨b, off, none⟩) 2 k) := by rw [new_off HF.out.b0, hc0]; rfl
  have HST : Hid (R = runQ get ((orK x2) (askQ get q x1).1) (askQ get q x1).2) := Lib.hid hR
  replace hcall : Hid (Calls Tryz.prog f (#[.string x1] ++ lb) W1 fun ed w' => ed = .returned (foundV (askQ get q x1).1) ∧ ((askQ get q x1).1.getD ⟨#[]⟩).size ≤ 65536 ∧ ∃ u' F', (∀ (i : Nat) (o : Obj), W1.heap[i]? = some o → ¬ F i → w'.heap[i]? = some o ∧ ¬ F' i) ∧ Fl X SA Q u F w c0 (some ⟨b, off, none⟩) k [x1, x2] w' (askQ get q x1).2 1 u' F') := hcall
  clear hR ha hc0 hq hs ho HF
  generalize askQ get q x1 = qa at *
  obtain ⟨v, q'⟩ := qa
  go_enter Tryz.func62, Tryz.ntmps62
  go_upto_region 1 with (fail)
  rw [← hW1]
  clear hW1
  go_wp2_with fail
  go_at_fn f
  refine hcall.out.mono ?_
  rintro e w1 ⟨rfl, h2, u', F', h3, h4⟩
  have HST' : Hid (R = runQ get ((orK x2) v) q') := HST
  have h2' : (v.getD ⟨#[]⟩).size ≤ 65536 := h2
  have h4' : Fl X SA Q u F w c0 (some ⟨b, off, none⟩) k [x1, x2] w1 q' 1 u' F' := h4
  have HF4 := Lib.hid h4'
  have HB3 := Lib.hid h2'
  clear HST h2 h4 h4' h3 h2' hcall a1 a2 d0
  cases v with
  | none =>
    have HE : Hid (R = ((askQ get q' x2).1, (askQ get q' x2).2)) := HST'
    clear HST'
    rw [foundV_none]
    obtain ⟨W2, hW2⟩ : ∃ W2, W2 = w1.alloc (.cells #[.string ⟨#[]⟩, .bool false] 86) := ⟨_, rfl⟩
    have X2 : Ext w1 W2 := by rw [hW2]; exact (Ext.refl w1).alloc _
    have K8 : Hid (W2.heap[w1.heap.size]? = some (.cells #[.string ⟨#[]⟩, .bool false] 86 (0, 0))) := Lib.hid (by rw [hW2]; exact heap_alloc_new w1 _)
    have HF2 := Lib.hid (HF4.out.ext HA.out X2)
    have e0 : W2.cell? ⟨w1.heap.size, 0, none⟩ = some (.string ⟨#[]⟩) := by rw [new_off K8.out]; rfl
    have e1 : W2.cell? ⟨w1.heap.size, 1, none⟩ = some (.bool false) := by rw [new_off K8.out]; rfl
    have HNX : Hid (¬ F' w1.heap.size) := Lib.hid fun e => by have := HA.out.lt HF4.out.q _ e; omega
    clear X2
    go_upto_region 13 with (fail)
    rw [← hW2]
    clear hW2
    have a1 : W2.cell? ⟨w.heap.size, 1, none⟩ = some (.int .i64 7) := by rw [new_off HF2.out.b0, HC0.out]; rfl
    have a2 : W2.cell? ⟨w.heap.size, 2, none⟩ = some (.slice (some ⟨b, off, none⟩) 2 k) := by rw [new_off HF2.out.b0, HC0.out]; rfl
    obtain ⟨b', off', hAe, _, d1, hz1⟩ := str_get HF2.out.args (k := 1) (by simp)
    obtain ⟨rfl, rfl⟩ : b' = b ∧ off' = off := by
      injection hAe with e
      injection e with e1 e2
      exact ⟨e1.symm, e2.symm⟩
    replace d1 : W2.cell? ⟨b', off' + 1, none⟩ = some (.string x2) := d1
    clear hAe
    have hcall := Lib.hid (HF2.out.ask HA.out (by decide) hz1)
    replace hcall : Hid (Calls Tryz.prog f (#[.string x2] ++ lb) W2 fun ed w' => ed = .returned (foundV (askQ get q' x2).1) ∧ ((askQ get q' x2).1.getD ⟨#[]⟩).size ≤ 65536 ∧ ∃ u'' F'', (∀ (i : Nat) (o : Obj), W2.heap[i]? = some o → ¬ F' i → w'.heap[i]? = some o ∧ ¬ F'' i) ∧ Fl X SA Q u F w c0 (some ⟨b', off', none⟩) k [x1, x2] w' (askQ get q' x2).2 2 u'' F'') := hcall
    generalize askQ get q' x2 = qb at *
    obtain ⟨y, q''⟩ := qb
    replace HE : Hid (R = (y, q'')) := HE
    go_wp2_with fail
    go_at_fn f
    refine hcall.out.mono ?_
    rintro e w3 ⟨rfl, g2, u'', F'', g3, g4⟩
    have g2' : (y.getD ⟨#[]⟩).size ≤ 65536 := g2
    have g4' : Fl X SA Q u F w c0 (some ⟨b', off', none⟩) k [x1, x2] w3 q'' 2 u'' F'' := g4
    have HF3 := Lib.hid g4'
    have HB4 : Hid ((y.getD ⟨#[]⟩).size ≤ 140737488355328) := Lib.hid (Nat.le_trans g2' (by decide))
    replace HE : Hid (R = (y, q'')) := HE
    clear g2 g2' g3 g4 g4' hcall e0 e1 a1 a2 d1
    have HY : Hid (foundV y = .agg #[.string (y.getD ⟨#[]⟩), .bool y.isSome]) := Lib.hid rfl
    rw [HY.out]
    have r0 : w3.cell? ⟨w.heap.size + 1, 0, none⟩ = some (.string ⟨#[]⟩) := by rw [new_off HF3.out.b1]; rfl
    have r1 : w3.cell? ⟨w.heap.size + 1, 1, none⟩ = some (.bool false) := by rw [new_off HF3.out.b1]; rfl
    have f0 := Lib.frozen_of_heap HF3.out.b1 0
    have f1 := Lib.frozen_of_heap HF3.out.b1 1
    generalize hya : y.getD ⟨#[]⟩ = ya
    generalize hyb : y.isSome = yb
    have HYA := Lib.hid hya
    have HYB := Lib.hid hyb
    clear hya hyb
    go_wp2_with fail
    refine ret_found Tryz.results62 rfl (found_set HF3.out.b1 _ _) rfl ?_
    rw [HE.out, ← HYA.out, ← HYB.out]
    exact HF3.out.ends HA.out (v := y) (by decide) HB4.out _ _
  | some s =>
    have HE : Hid (R = (some s, q')) := HST'
    clear HST'
    have HSB : Hid (s.size ≤ 140737488355328) := Lib.hid (Nat.le_trans HB3.out (by decide))
    rw [foundV_some]
    obtain ⟨W2, hW2⟩ : ∃ W2, W2 = w1.alloc (.cells #[.string s, .bool true] 86) := ⟨_, rfl⟩
    have X2 : Ext w1 W2 := by rw [hW2]; exact (Ext.refl w1).alloc _
    have K8 : Hid (W2.heap[w1.heap.size]? = some (.cells #[.string s, .bool true] 86 (0, 0))) := Lib.hid (by rw [hW2]; exact heap_alloc_new w1 _)
    have HF2 := Lib.hid (HF4.out.ext HA.out X2)
    have e0 : W2.cell? ⟨w1.heap.size, 0, none⟩ = some (.string s) := by rw [new_off K8.out]; rfl
    have e1 : W2.cell? ⟨w1.heap.size, 1, none⟩ = some (.bool true) := by rw [new_off K8.out]; rfl
    have HNX : Hid (¬ F' w1.heap.size) := Lib.hid fun e => by have := HA.out.lt HF4.out.q _ e; omega
    clear X2
    go_upto_region 13 with (fail)
    rw [← hW2]
    clear hW2
    have a1 : W2.cell? ⟨w.heap.size, 1, none⟩ = some (.int .i64 7) := by rw [new_off HF2.out.b0, HC0.out]; rfl
    have a2 : W2.cell? ⟨w.heap.size, 2, none⟩ = some (.slice (some ⟨b, off, none⟩) 2 k) := by rw [new_off HF2.out.b0, HC0.out]; rfl
    have r0 : W2.cell? ⟨w.heap.size + 1, 0, none⟩ = some (.string ⟨#[]⟩) := by rw [new_off HF2.out.b1]; rfl
    have r1 : W2.cell? ⟨w.heap.size + 1, 1, none⟩ = some (.bool false) := by rw [new_off HF2.out.b1]; rfl
    have f0 := Lib.frozen_of_heap HF2.out.b1 0
    have f1 := Lib.frozen_of_heap HF2.out.b1 1
    go_wp2_with fail
    exact ret_found Tryz.results62 rfl (found_set HF2.out.b1 _ _) rfl (by rw [HE.out]; exact HF2.out.ends HA.out (v := some s) (by omega) HSB.out _ _)
def countK : E.V → E.Pr
  | none => .ret none
  | some s => .ret (some (E.countB s))
theorem digits_le {n : Nat} (h : n ≤ 65537) : (Lib.decDigits n).length ≤ 140737488355328 := by
  rw [Lib.decDigits_length]
  have := Lib.nDigits_le20 n (by omega)
  omega
theorem countB_le {s : ByteArray} (h : s.size ≤ 65536) : (E.countB s).size ≤ 140737488355328 ∧ E.linesN s ≤ 65537 := by
  have h1 : E.linesN s ≤ 65537 := by
    unfold E.linesN
    have := List.count_le_length (a := (10 : UInt8)) (l := s.data.toList)
    rw [size_list] at this
    split <;> omega
  refine ⟨?_, h1⟩
  unfold E.countB
  rw [E.mk_size]
  exact digits_le h1
set_option maxRecDepth 100000 in
set_option maxHeartbeats 4000000 in
theorem formula_count {X SA : Nat → Prop} {Q : World → Qs → Nat → Option Nat → (Nat → Prop) → Prop} {f : Nat} {lb : Array Value} {get : E.St → E.Nm → Except Int (E.V × E.St)} (ha : Asks f lb get X Q) {u : Option Nat} {F : Nat → Prop} {w : World} {A : Option Addr} {k : Nat} {nm tx x1 : ByteArray} {q : Qs}
    (hq : Q w q 0 u F) (hs : SliceAt strR w SA A k [x1]) (ho : ∀ k, SA k → k < w.heap.size ∧ ¬ X k ∧ u ≠ some k) :
    Calls Tryz.prog 62 #[.agg #[.string nm, .int .i64 3, .slice A 1 k, .string tx], .func (.func f) #[] lb] w (RetP X Q u F w (runQ get (.ask x1 countK) q)) := by
  obtain ⟨c0, hc0⟩ : ∃ c0 : Array Value, c0 = #[.string nm, .int .i64 3, .slice A 1 k, .string tx] := ⟨_, rfl⟩
  obtain ⟨R, hR⟩ : ∃ R, R = runQ get (.ask x1 countK) q := ⟨_, rfl⟩
  obtain ⟨W1, hW1⟩ : ∃ W1, W1 = ((w.alloc (.cells #[.string nm, .int .i64 3, .slice A 1 k, .string tx] 50)).alloc (.cells #[.string ⟨#[]⟩, .bool false] 86)) := ⟨_, rfl⟩
  have HF : Hid (Fl X SA Q u F w c0 A k [x1] W1 q 0 u F) := Lib.hid (by rw [hW1, hc0]; exact Fl.start ha hq hs ho)
  rw [← hR]
  have HA := Lib.hid ha
  have eg := ha.enters
  have HC0 := Lib.hid hc0
  obtain ⟨b, off, hAe, hbb, d0, hz⟩ := str_get HF.out.args (k := 0) (Nat.zero_lt_succ _)
  subst hAe
  have hcall := Lib.hid (HF.out.ask HA.out (Nat.zero_le _) hz)
  replace d0 : W1.cell? ⟨b, off, none⟩ = some (.string x1) := d0
  have a1 : W1.cell? ⟨w.heap.size, 1, none⟩ = some (.int .i64 3) := by rw [new_off HF.out.b0, hc0]; rfl
  have a2 : W1.cell? ⟨w.heap.size, 2, none⟩ = some (.slice (some ⟨b, off, none⟩) 1 k) := by rw [new_off HF.out.b0, hc0]; rfl
  have HST : Hid (R = runQ get (countK (askQ get q x1).1) (askQ get q x1).2) := Lib.hid hR
  replace hcall : Hid (Calls Tryz.prog f (#[.string x1] ++ lb) W1 fun ed w' => ed = .returned (foundV (askQ get q x1).1) ∧ ((askQ get q x1).1.getD ⟨#[]⟩).size ≤ 65536 ∧ ∃ u' F', (∀ (i : Nat) (o : Obj), W1.heap[i]? = some o → ¬ F i → w'.heap[i]? = some o ∧ ¬ F' i) ∧ Fl X SA Q u F w c0 (some ⟨b, off, none⟩) k [x1] w' (askQ get q x1).2 1 u' F') := hcall
  clear hR ha hc0 hq hs ho HF
  generalize askQ get q x1 = qa at *
  obtain ⟨v, q'⟩ := qa
  go_enter Tryz.func62, Tryz.ntmps62
  go_upto_region 1 with (fail)
  rw [← hW1]
  clear hW1
  go_wp2_with fail
  go_at_fn f
  refine hcall.out.mono ?_
  rintro e w1 ⟨rfl, h2, u', F', h3, h4⟩
  have HST' : Hid (R = runQ get (countK v) q') := HST
  have h2' : (v.getD ⟨#[]⟩).size ≤ 65536 := h2
  have h4' : Fl X SA Q u F w c0 (some ⟨b, off, none⟩) k [x1] w1 q' 1 u' F' := h4
  have HF4 := Lib.hid h4'
  have HB3 := Lib.hid h2'
  clear HST h2 h4 h4' h3 h2' hcall a1 a2 d0
  cases v with
  | none =>
    have HE : Hid (R = (none, q')) := HST'
    clear HST'
    rw [foundV_none]
    obtain ⟨W2, hW2⟩ : ∃ W2, W2 = w1.alloc (.cells #[.string ⟨#[]⟩, .bool false] 86) := ⟨_, rfl⟩
    have X2 : Ext w1 W2 := by rw [hW2]; exact (Ext.refl w1).alloc _
    have K8 : Hid (W2.heap[w1.heap.size]? = some (.cells #[.string ⟨#[]⟩, .bool false] 86 (0, 0))) := Lib.hid (by rw [hW2]; exact heap_alloc_new w1 _)
    have HF2 := Lib.hid (HF4.out.ext HA.out X2)
    have e0 : W2.cell? ⟨w1.heap.size, 0, none⟩ = some (.string ⟨#[]⟩) := by rw [new_off K8.out]; rfl
    have e1 : W2.cell? ⟨w1.heap.size, 1, none⟩ = some (.bool false) := by rw [new_off K8.out]; rfl
    have HNX : Hid (¬ F' w1.heap.size) := Lib.hid fun e => by have := HA.out.lt HF4.out.q _ e; omega
    clear X2
    go_upto_region 13 with (fail)
    rw [← hW2]
    clear hW2
    have a1 : W2.cell? ⟨w.heap.size, 1, none⟩ = some (.int .i64 3) := by rw [new_off HF2.out.b0, HC0.out]; rfl
    have a2 : W2.cell? ⟨w.heap.size, 2, none⟩ = some (.slice (some ⟨b, off, none⟩) 1 k) := by rw [new_off HF2.out.b0, HC0.out]; rfl
    have r0 : W2.cell? ⟨w.heap.size + 1, 0, none⟩ = some (.string ⟨#[]⟩) := by rw [new_off HF2.out.b1]; rfl
    have r1 : W2.cell? ⟨w.heap.size + 1, 1, none⟩ = some (.bool false) := by rw [new_off HF2.out.b1]; rfl
    have f0 := Lib.frozen_of_heap HF2.out.b1 0
    have f1 := Lib.frozen_of_heap HF2.out.b1 1
    go_wp2_with fail
    exact ret_found Tryz.results62 rfl (found_set HF2.out.b1 _ _) rfl (by rw [HE.out]; exact HF2.out.ends HA.out (v := none) (by omega) (Nat.zero_le _) _ _)
  | some s =>
    have HE : Hid (R = (some (E.countB s), q')) := HST'
    clear HST'
    rw [foundV_some]
    obtain ⟨W2, hW2⟩ : ∃ W2, W2 = w1.alloc (.cells #[.string s, .bool true] 86) := ⟨_, rfl⟩
    have X2 : Ext w1 W2 := by rw [hW2]; exact (Ext.refl w1).alloc _
    have K8 : Hid (W2.heap[w1.heap.size]? = some (.cells #[.string s, .bool true] 86 (0, 0))) := Lib.hid (by rw [hW2]; exact heap_alloc_new w1 _)
    have HF2 := Lib.hid (HF4.out.ext HA.out X2)
    have e0 : W2.cell? ⟨w1.heap.size, 0, none⟩ = some (.string s) := by rw [new_off K8.out]; rfl
    have e1 : W2.cell? ⟨w1.heap.size, 1, none⟩ = some (.bool true) := by rw [new_off K8.out]; rfl
    have HNX : Hid (¬ F' w1.heap.size) := Lib.hid fun e => by have := HA.out.lt HF4.out.q _ e; omega
    clear X2
    go_upto_region 13 with (fail)
    rw [← hW2]
    clear hW2
    have a1 : W2.cell? ⟨w.heap.size, 1, none⟩ = some (.int .i64 3) := by rw [new_off HF2.out.b0, HC0.out]; rfl
    have a2 : W2.cell? ⟨w.heap.size, 2, none⟩ = some (.slice (some ⟨b, off, none⟩) 1 k) := by rw [new_off HF2.out.b0, HC0.out]; rfl
    have r0 : W2.cell? ⟨w.heap.size + 1, 0, none⟩ = some (.string ⟨#[]⟩) := by rw [new_off HF2.out.b1]; rfl
    have r1 : W2.cell? ⟨w.heap.size + 1, 1, none⟩ = some (.bool false) := by rw [new_off HF2.out.b1]; rfl
    have f0 := Lib.frozen_of_heap HF2.out.b1 0
    have f1 := Lib.frozen_of_heap HF2.out.b1 1
    have hsz : s.size ≤ 65536 := HB3.out
    obtain ⟨hcb, hln⟩ := countB_le hsz
    have HCB := Lib.hid hcb
    obtain ⟨c, hc⟩ : ∃ c, c = s.data.toList.count 10 := ⟨_, rfl⟩
    have hcn : c ≤ 65536 := by
      rw [hc]
      have := List.count_le_length (a := (10 : UInt8)) (l := s.data.toList)
      rw [size_list] at this
      omega
    have HCN : Hid (Calls Tryz.prog 81 #[.string s, .string ⟨#[10]⟩] W2 fun e w' => e = .returned (.int .i64 c) ∧ w' = W2) := Lib.hid (by rw [hc]; exact Tryz.strings_Count_one s 10 W2)
    have HGL := Lib.hid (HA.out.gl HF2.out.q)
    by_cases h0 : s.size = 0
    · have hem : s.toList.isEmpty = true := by rw [empty_dec, decide_eq_true h0]
      have HIT : Hid (Calls Tryz.prog 82 #[.int .i64 0] W2 (Al (.string (E.countB s)) W2)) := Lib.hid (by
        have e : E.countB s = E.mk (Lib.decDigits (0 : Int).toNat) := by unfold E.countB E.linesN; rw [if_pos h0]; rfl
        rw [e]
        exact Itoa_any 0 W2 (by decide) (by decide) HGL.out)
      generalize E.countB s = cb at *
      clear h0 hc hcb hln hsz
      go_wp2_with fail
      refine HCN.out.mono ?_
      rintro e w2 ⟨rfl, rfl⟩
      go_wp2_with fail
      refine HIT.out.mono ?_
      rintro e w3 ⟨rfl, d3⟩
      have HF3 := Lib.hid (HF2.out.ext HA.out d3)
      clear d3 e0 e1 a1 a2 r0 r1 f0 f1
      have r0 : w3.cell? ⟨w.heap.size + 1, 0, none⟩ = some (.string ⟨#[]⟩) := by rw [new_off HF3.out.b1]; rfl
      have r1 : w3.cell? ⟨w.heap.size + 1, 1, none⟩ = some (.bool false) := by rw [new_off HF3.out.b1]; rfl
      have f0 := Lib.frozen_of_heap HF3.out.b1 0
      have f1 := Lib.frozen_of_heap HF3.out.b1 1
      go_wp2_with fail
      exact ret_found Tryz.results62 rfl (found_set HF3.out.b1 _ _) rfl (by rw [HE.out]; exact HF3.out.ends HA.out (v := some cb) (by decide) HCB.out _ _)
    · have hem : s.toList.isEmpty = false := by rw [empty_dec, decide_eq_false h0]
      have HIT : Hid (Calls Tryz.prog 82 #[.int .i64 ((c : Int) + 1)] W2 (Al (.string (E.countB s)) W2)) := Lib.hid (by
        have e : E.countB s = E.mk (Lib.decDigits ((c : Int) + 1).toNat) := by
          unfold E.countB E.linesN
          rw [if_neg h0, hc]
          congr 2
        rw [e]
        exact Itoa_any _ W2 (by omega) (by omega) HGL.out)
      generalize E.countB s = cb at *
      clear h0 hc hcb hln hsz
      go_wp2_with fail
      refine HCN.out.mono ?_
      rintro e w2 ⟨rfl, rfl⟩
      go_wp2_with fail
      refine HIT.out.mono ?_
      rintro e w3 ⟨rfl, d3⟩
      have HF3 := Lib.hid (HF2.out.ext HA.out d3)
      clear d3 e0 e1 a1 a2 r0 r1 f0 f1
      have r0 : w3.cell? ⟨w.heap.size + 1, 0, none⟩ = some (.string ⟨#[]⟩) := by rw [new_off HF3.out.b1]; rfl
      have r1 : w3.cell? ⟨w.heap.size + 1, 1, none⟩ = some (.bool false) := by rw [new_off HF3.out.b1]; rfl
      have f0 := Lib.frozen_of_heap HF3.out.b1 0
      have f1 := Lib.frozen_of_heap HF3.out.b1 1
      go_wp2_with fail
      exact ret_found Tryz.results62 rfl (found_set HF3.out.b1 _ _) rfl (by rw [HE.out]; exact HF3.out.ends HA.out (v := some cb) (by decide) HCB.out _ _)
def followK : E.V → E.Pr
  | none => .ret none
  | some s => .ask s .ret
set_option maxRecDepth 100000 in
set_option maxHeartbeats 4000000 in
theorem formula_follow {X SA : Nat → Prop} {Q : World → Qs → Nat → Option Nat → (Nat → Prop) → Prop} {f : Nat} {lb : Array Value} {get : E.St → E.Nm → Except Int (E.V × E.St)} (ha : Asks f lb get X Q) {u : Option Nat} {F : Nat → Prop} {w : World} {A : Option Addr} {k : Nat} {nm tx x1 : ByteArray} {q : Qs}
    (hq : Q w q 0 u F) (hs : SliceAt strR w SA A k [x1]) (ho : ∀ k, SA k → k < w.heap.size ∧ ¬ X k ∧ u ≠ some k) :
    Calls Tryz.prog 62 #[.agg #[.string nm, .int .i64 6, .slice A 1 k, .string tx], .func (.func f) #[] lb] w (RetP X Q u F w (runQ get (.ask x1 followK) q)) := by
  obtain ⟨c0, hc0⟩ : ∃ c0 : Array Value, c0 = #[.string nm, .int .i64 6, .slice A 1 k, .string tx] := ⟨_, rfl⟩
  obtain ⟨R, hR⟩ : ∃ R, R = runQ get (.ask x1 followK) q := ⟨_, rfl⟩
  obtain ⟨W1, hW1⟩ : ∃ W1, W1 = ((w.alloc (.cells #[.string nm, .int .i64 6, .slice A 1 k, .string tx] 50)).alloc (.cells #[.string ⟨#[]⟩, .bool false] 86)) := ⟨_, rfl⟩
  have HF : Hid (Fl X SA Q u F w c0 A k [x1] W1 q 0 u F) := Lib.hid (by rw [hW1, hc0]; exact Fl.start ha hq hs ho)
  rw [← hR]
  have HA := Lib.hid ha
  have eg := ha.enters
  have HC0 := Lib.hid hc0
  obtain ⟨b, off, hAe, hbb, d0, hz⟩ := str_get HF.out.args (k := 0) (Nat.zero_lt_succ _)
  subst hAe
  have hcall := Lib.hid (HF.out.ask HA.out (Nat.zero_le _) hz)
  replace d0 : W1.cell? ⟨b, off, none⟩ = some (.string x1) := d0
  have a1 : W1.cell? ⟨w.heap.size, 1, none⟩ = some (.int .i64 6) := by rw [new_off HF.out.b0, hc0]; rfl
  have a2 : W1.cell? ⟨w.heap.size, 2, none⟩ = some (.slice (some ⟨b, off, none⟩) 1 k) := by rw [new_off HF.out.b0, hc0]; rfl
  have HST : Hid (R = runQ get (followK (askQ get q x1).1) (askQ get q x1).2) := Lib.hid hR
  replace hcall : Hid (Calls Tryz.prog f (#[.string x1] ++ lb) W1 fun ed w' => ed = .returned (foundV (askQ get q x1).1) ∧ ((askQ get q x1).1.getD ⟨#[]⟩).size ≤ 65536 ∧ ∃ u' F', (∀ (i : Nat) (o : Obj), W1.heap[i]? = some o → ¬ F i → w'.heap[i]? = some o ∧ ¬ F' i) ∧ Fl X SA Q u F w c0 (some ⟨b, off, none⟩) k [x1] w' (askQ get q x1).2 1 u' F') := hcall
  clear hR ha hc0 hq hs ho HF
  generalize askQ get q x1 = qa at *
  obtain ⟨v, q'⟩ := qa
  go_enter Tryz.func62, Tryz.ntmps62
  go_upto_region 1 with (fail)
  rw [← hW1]
  clear hW1
  go_wp2_with fail
  go_at_fn f
  refine hcall.out.mono ?_
  rintro e w1 ⟨rfl, h2, u', F', h3, h4⟩
  have HST' : Hid (R = runQ get (followK v) q') := HST
  have h2' : (v.getD ⟨#[]⟩).size ≤ 65536 := h2
  have h4' : Fl X SA Q u F w c0 (some ⟨b, off, none⟩) k [x1] w1 q' 1 u' F' := h4
  have HF4 := Lib.hid h4'
  have HB3 := Lib.hid h2'
  clear HST h2 h4 h4' h3 h2' hcall a1 a2 d0
  cases v with
  | none =>
    have HE : Hid (R = (none, q')) := HST'
    clear HST'
    rw [foundV_none]
    obtain ⟨W2, hW2⟩ : ∃ W2, W2 = w1.alloc (.cells #[.string ⟨#[]⟩, .bool false] 86) := ⟨_, rfl⟩
    have X2 : Ext w1 W2 := by rw [hW2]; exact (Ext.refl w1).alloc _
    have K8 : Hid (W2.heap[w1.heap.size]? = some (.cells #[.string ⟨#[]⟩, .bool false] 86 (0, 0))) := Lib.hid (by rw [hW2]; exact heap_alloc_new w1 _)
    have HF2 := Lib.hid (HF4.out.ext HA.out X2)
    have e0 : W2.cell? ⟨w1.heap.size, 0, none⟩ = some (.string ⟨#[]⟩) := by rw [new_off K8.out]; rfl
    have e1 : W2.cell? ⟨w1.heap.size, 1, none⟩ = some (.bool false) := by rw [new_off K8.out]; rfl
    have HNX : Hid (¬ F' w1.heap.size) := Lib.hid fun e => by have := HA.out.lt HF4.out.q _ e; omega
    clear X2
    go_upto_region 13 with (fail)
    rw [← hW2]
    clear hW2
    have a1 : W2.cell? ⟨w.heap.size, 1, none⟩ = some (.int .i64 6) := by rw [new_off HF2.out.b0, HC0.out]; rfl
    have a2 : W2.cell? ⟨w.heap.size, 2, none⟩ = some (.slice (some ⟨b, off, none⟩) 1 k) := by rw [new_off HF2.out.b0, HC0.out]; rfl
    have r0 : W2.cell? ⟨w.heap.size + 1, 0, none⟩ = some (.string ⟨#[]⟩) := by rw [new_off HF2.out.b1]; rfl
    have r1 : W2.cell? ⟨w.heap.size + 1, 1, none⟩ = some (.bool false) := by rw [new_off HF2.out.b1]; rfl
    have f0 := Lib.frozen_of_heap HF2.out.b1 0
    have f1 := Lib.frozen_of_heap HF2.out.b1 1
    go_wp2_with fail
    exact ret_found Tryz.results62 rfl (found_set HF2.out.b1 _ _) rfl (by rw [HE.out]; exact HF2.out.ends HA.out (v := none) (by omega) (Nat.zero_le _) _ _)
  | some s =>
    have HE : Hid (R = ((askQ get q' s).1, (askQ get q' s).2)) := HST'
    clear HST'
    rw [foundV_some]
    obtain ⟨W2, hW2⟩ : ∃ W2, W2 = w1.alloc (.cells #[.string s, .bool true] 86) := ⟨_, rfl⟩
    have X2 : Ext w1 W2 := by rw [hW2]; exact (Ext.refl w1).alloc _
    have K8 : Hid (W2.heap[w1.heap.size]? = some (.cells #[.string s, .bool true] 86 (0, 0))) := Lib.hid (by rw [hW2]; exact heap_alloc_new w1 _)
    have HF2 := Lib.hid (HF4.out.ext HA.out X2)
    have e0 : W2.cell? ⟨w1.heap.size, 0, none⟩ = some (.string s) := by rw [new_off K8.out]; rfl
    have e1 : W2.cell? ⟨w1.heap.size, 1, none⟩ = some (.bool true) := by rw [new_off K8.out]; rfl
    have HNX : Hid (¬ F' w1.heap.size) := Lib.hid fun e => by have := HA.out.lt HF4.out.q _ e; omega
    clear X2
    go_upto_region 13 with (fail)
    rw [← hW2]
    clear hW2
    have a1 : W2.cell? ⟨w.heap.size, 1, none⟩ = some (.int .i64 6) := by rw [new_off HF2.out.b0, HC0.out]; rfl
    have a2 : W2.cell? ⟨w.heap.size, 2, none⟩ = some (.slice (some ⟨b, off, none⟩) 1 k) := by rw [new_off HF2.out.b0, HC0.out]; rfl
    have hz1 : s.size ≤ 9223372036854775807 := Nat.le_trans HB3.out (by decide)
    have d1 : True := trivial
    have hcall := Lib.hid (HF2.out.ask HA.out (by decide) hz1)
    replace hcall : Hid (Calls Tryz.prog f (#[.string s] ++ lb) W2 fun ed w' => ed = .returned (foundV (askQ get q' s).1) ∧ ((askQ get q' s).1.getD ⟨#[]⟩).size ≤ 65536 ∧ ∃ u'' F'', (∀ (i : Nat) (o : Obj), W2.heap[i]? = some o → ¬ F' i → w'.heap[i]? = some o ∧ ¬ F'' i) ∧ Fl X SA Q u F w c0 (some ⟨b, off, none⟩) k [x1] w' (askQ get q' s).2 2 u'' F'') := hcall
    generalize askQ get q' s = qb at *
    obtain ⟨y, q''⟩ := qb
    replace HE : Hid (R = (y, q'')) := HE
    go_wp2_with fail
    go_at_fn f
    refine hcall.out.mono ?_
    rintro e w3 ⟨rfl, g2, u'', F'', g3, g4⟩
    have g2' : (y.getD ⟨#[]⟩).size ≤ 65536 := g2
    have g4' : Fl X SA Q u F w c0 (some ⟨b, off, none⟩) k [x1] w3 q'' 2 u'' F'' := g4
    have HF3 := Lib.hid g4'
    have HB4 : Hid ((y.getD ⟨#[]⟩).size ≤ 140737488355328) := Lib.hid (Nat.le_trans g2' (by decide))
    replace HE : Hid (R = (y, q'')) := HE
    clear g2 g2' g3 g4 g4' hcall e0 e1 a1 a2 d1
    have HY : Hid (foundV y = .agg #[.string (y.getD ⟨#[]⟩), .bool y.isSome]) := Lib.hid rfl
    rw [HY.out]
    have r0 : w3.cell? ⟨w.heap.size + 1, 0, none⟩ = some (.string ⟨#[]⟩) := by rw [new_off HF3.out.b1]; rfl
    have r1 : w3.cell? ⟨w.heap.size + 1, 1, none⟩ = some (.bool false) := by rw [new_off HF3.out.b1]; rfl
    have f0 := Lib.frozen_of_heap HF3.out.b1 0
    have f1 := Lib.frozen_of_heap HF3.out.b1 1
    generalize hya : y.getD ⟨#[]⟩ = ya
    generalize hyb : y.isSome = yb
    have HYA := Lib.hid hya
    have HYB := Lib.hid hyb
    clear hya hyb
    go_wp2_with fail
    refine ret_found Tryz.results62 rfl (found_set HF3.out.b1 _ _) rfl ?_
    rw [HE.out, ← HYA.out, ← HYB.out]
    exact HF3.out.ends HA.out (v := y) (by decide) HB4.out _ _
def chooseK (b c : ByteArray) : E.V → E.Pr
  | none => .ret none
  | some s => if s.size = 0 then .ask c .ret else .ask b .ret
set_option maxRecDepth 100000 in
set_option maxHeartbeats 4000000 in
theorem formula_choose {X SA : Nat → Prop} {Q : World → Qs → Nat → Option Nat → (Nat → Prop) → Prop} {f : Nat} {lb : Array Value} {get : E.St → E.Nm → Except Int (E.V × E.St)} (ha : Asks f lb get X Q) {u : Option Nat} {F : Nat → Prop} {w : World} {A : Option Addr} {k : Nat} {nm tx x1 x2 x3 : ByteArray} {q : Qs}
    (hq : Q w q 0 u F) (hs : SliceAt strR w SA A k [x1, x2, x3]) (ho : ∀ k, SA k → k < w.heap.size ∧ ¬ X k ∧ u ≠ some k) :
    Calls Tryz.prog 62 #[.agg #[.string nm, .int .i64 5, .slice A 3 k, .string tx], .func (.func f) #[] lb] w (RetP X Q u F w (runQ get (.ask x1 (chooseK x2 x3)) q)) := by
  obtain ⟨c0, hc0⟩ : ∃ c0 : Array Value, c0 = #[.string nm, .int .i64 5, .slice A 3 k, .string tx] := ⟨_, rfl⟩
  obtain ⟨R, hR⟩ : ∃ R, R = runQ get (.ask x1 (chooseK x2 x3)) q := ⟨_, rfl⟩
  obtain ⟨W1, hW1⟩ : ∃ W1, W1 = ((w.alloc (.cells #[.string nm, .int .i64 5, .slice A 3 k, .string tx] 50)).alloc (.cells #[.string ⟨#[]⟩, .bool false] 86)) := ⟨_, rfl⟩
  have HF : Hid (Fl X SA Q u F w c0 A k [x1, x2, x3] W1 q 0 u F) := Lib.hid (by rw [hW1, hc0]; exact Fl.start ha hq hs ho)
  rw [← hR]
  have HA := Lib.hid ha
  have eg := ha.enters
  have HC0 := Lib.hid hc0
  obtain ⟨b, off, hAe, hbb, d0, hz⟩ := str_get HF.out.args (k := 0) (Nat.zero_lt_succ _)
  subst hAe
  have hcall := Lib.hid (HF.out.ask HA.out (Nat.zero_le _) hz)
  replace d0 : W1.cell? ⟨b, off, none⟩ = some (.string x1) := d0
  have a1 : W1.cell? ⟨w.heap.size, 1, none⟩ = some (.int .i64 5) := by rw [new_off HF.out.b0, hc0]; rfl
  have a2 : W1.cell? ⟨w.heap.size, 2, none⟩ = some (.slice (some ⟨b, off, none⟩) 3 k) := by rw [new_off HF.out.b0, hc0]; rfl
  have HST : Hid (R = runQ get ((chooseK x2 x3) (askQ get q x1).1) (askQ get q x1).2) := Lib.hid hR
  replace hcall : Hid (Calls Tryz.prog f (#[.string x1] ++ lb) W1 fun ed w' => ed = .returned (foundV (askQ get q x1).1) ∧ ((askQ get q x1).1.getD ⟨#[]⟩).size ≤ 65536 ∧ ∃ u' F', (∀ (i : Nat) (o : Obj), W1.heap[i]? = some o → ¬ F i → w'.heap[i]? = some o ∧ ¬ F' i) ∧ Fl X SA Q u F w c0 (some ⟨b, off, none⟩) k [x1, x2, x3] w' (askQ get q x1).2 1 u' F') := hcall
  clear hR ha hc0 hq hs ho HF
  generalize askQ get q x1 = qa at *
  obtain ⟨v, q'⟩ := qa
  go_enter Tryz.func62, Tryz.ntmps62
  go_upto_region 1 with (fail)
  rw [← hW1]
  clear hW1
  go_wp2_with fail
  go_at_fn f
  refine hcall.out.mono ?_
  rintro e w1 ⟨rfl, h2, u', F', h3, h4⟩
  have HST' : Hid (R = runQ get ((chooseK x2 x3) v) q') := HST
  have h2' : (v.getD ⟨#[]⟩).size ≤ 65536 := h2
  have h4' : Fl X SA Q u F w c0 (some ⟨b, off, none⟩) k [x1, x2, x3] w1 q' 1 u' F' := h4
  have HF4 := Lib.hid h4'
  have HB3 := Lib.hid h2'
  clear HST h2 h4 h4' h3 h2' hcall a1 a2 d0
  cases v with
  | none =>
    have HE : Hid (R = (none, q')) := HST'
    clear HST'
    rw [foundV_none]
    obtain ⟨W2, hW2⟩ : ∃ W2, W2 = w1.alloc (.cells #[.string ⟨#[]⟩, .bool false] 86) := ⟨_, rfl⟩
    have X2 : Ext w1 W2 := by rw [hW2]; exact (Ext.refl w1).alloc _
    have K8 : Hid (W2.heap[w1.heap.size]? = some (.cells #[.string ⟨#[]⟩, .bool false] 86 (0, 0))) := Lib.hid (by rw [hW2]; exact heap_alloc_new w1 _)
    have HF2 := Lib.hid (HF4.out.ext HA.out X2)
    have e0 : W2.cell? ⟨w1.heap.size, 0, none⟩ = some (.string ⟨#[]⟩) := by rw [new_off K8.out]; rfl
    have e1 : W2.cell? ⟨w1.heap.size, 1, none⟩ = some (.bool false) := by rw [new_off K8.out]; rfl
    have HNX : Hid (¬ F' w1.heap.size) := Lib.hid fun e => by have := HA.out.lt HF4.out.q _ e; omega
    clear X2
    go_upto_region 13 with (fail)
    rw [← hW2]
    clear hW2
    have a1 : W2.cell? ⟨w.heap.size, 1, none⟩ = some (.int .i64 5) := by rw [new_off HF2.out.b0, HC0.out]; rfl
    have a2 : W2.cell? ⟨w.heap.size, 2, none⟩ = some (.slice (some ⟨b, off, none⟩) 3 k) := by rw [new_off HF2.out.b0, HC0.out]; rfl
    have r0 : W2.cell? ⟨w.heap.size + 1, 0, none⟩ = some (.string ⟨#[]⟩) := by rw [new_off HF2.out.b1]; rfl
    have r1 : W2.cell? ⟨w.heap.size + 1, 1, none⟩ = some (.bool false) := by rw [new_off HF2.out.b1]; rfl
    have f0 := Lib.frozen_of_heap HF2.out.b1 0
    have f1 := Lib.frozen_of_heap HF2.out.b1 1
    go_wp2_with fail
    exact ret_found Tryz.results62 rfl (found_set HF2.out.b1 _ _) rfl (by rw [HE.out]; exact HF2.out.ends HA.out (v := none) (by omega) (Nat.zero_le _) _ _)
  | some s =>
    rw [foundV_some]
    obtain ⟨W2, hW2⟩ : ∃ W2, W2 = w1.alloc (.cells #[.string s, .bool true] 86) := ⟨_, rfl⟩
    have X2 : Ext w1 W2 := by rw [hW2]; exact (Ext.refl w1).alloc _
    have K8 : Hid (W2.heap[w1.heap.size]? = some (.cells #[.string s, .bool true] 86 (0, 0))) := Lib.hid (by rw [hW2]; exact heap_alloc_new w1 _)
    have HF2 := Lib.hid (HF4.out.ext HA.out X2)
    have e0 : W2.cell? ⟨w1.heap.size, 0, none⟩ = some (.string s) := by rw [new_off K8.out]; rfl
    have e1 : W2.cell? ⟨w1.heap.size, 1, none⟩ = some (.bool true) := by rw [new_off K8.out]; rfl
    have HNX : Hid (¬ F' w1.heap.size) := Lib.hid fun e => by have := HA.out.lt HF4.out.q _ e; omega
    clear X2
    go_upto_region 13 with (fail)
    rw [← hW2]
    clear hW2
    have a1 : W2.cell? ⟨w.heap.size, 1, none⟩ = some (.int .i64 5) := by rw [new_off HF2.out.b0, HC0.out]; rfl
    have a2 : W2.cell? ⟨w.heap.size, 2, none⟩ = some (.slice (some ⟨b, off, none⟩) 3 k) := by rw [new_off HF2.out.b0, HC0.out]; rfl
    by_cases h0 : s.size = 0
    · have hem : s.toList.isEmpty = true := by rw [empty_dec, decide_eq_true h0]
      have HE : Hid (R = ((askQ get q' x3).1, (askQ get q' x3).2)) := Lib.hid (by rw [HST'.out]; show runQ get (if s.size = 0 then .ask x3 .ret else .ask x2 .ret) q' = _; rw [if_pos h0]; rfl)
      clear HST' h0
      obtain ⟨b', off', hAe, _, d1, hz1⟩ := str_get HF2.out.args (k := 2) (by simp)
      obtain ⟨rfl, rfl⟩ : b' = b ∧ off' = off := by
        injection hAe with e
        injection e with e1 e2
        exact ⟨e1.symm, e2.symm⟩
      replace d1 : W2.cell? ⟨b', off' + 2, none⟩ = some (.string x3) := d1
      clear hAe
      have hcall := Lib.hid (HF2.out.ask HA.out (by decide) hz1)
      replace hcall : Hid (Calls Tryz.prog f (#[.string x3] ++ lb) W2 fun ed w' => ed = .returned (foundV (askQ get q' x3).1) ∧ ((askQ get q' x3).1.getD ⟨#[]⟩).size ≤ 65536 ∧ ∃ u'' F'', (∀ (i : Nat) (o : Obj), W2.heap[i]? = some o → ¬ F' i → w'.heap[i]? = some o ∧ ¬ F'' i) ∧ Fl X SA Q u F w c0 (some ⟨b', off', none⟩) k [x1, x2, x3] w' (askQ get q' x3).2 2 u'' F'') := hcall
      generalize askQ get q' x3 = qb at *
      obtain ⟨y, q''⟩ := qb
      replace HE : Hid (R = (y, q'')) := HE
      go_wp2_with fail
      go_at_fn f
      refine hcall.out.mono ?_
      rintro e w3 ⟨rfl, g2, u'', F'', g3, g4⟩
      have g2' : (y.getD ⟨#[]⟩).size ≤ 65536 := g2
      have g4' : Fl X SA Q u F w c0 (some ⟨b', off', none⟩) k [x1, x2, x3] w3 q'' 2 u'' F'' := g4
      have HF3 := Lib.hid g4'
      have HB4 : Hid ((y.getD ⟨#[]⟩).size ≤ 140737488355328) := Lib.hid (Nat.le_trans g2' (by decide))
      replace HE : Hid (R = (y, q'')) := HE
      clear g2 g2' g3 g4 g4' hcall e0 e1 a1 a2 d1
      have HY : Hid (foundV y = .agg #[.string (y.getD ⟨#[]⟩), .bool y.isSome]) := Lib.hid rfl
      rw [HY.out]
      have r0 : w3.cell? ⟨w.heap.size + 1, 0, none⟩ = some (.string ⟨#[]⟩) := by rw [new_off HF3.out.b1]; rfl
      have r1 : w3.cell? ⟨w.heap.size + 1, 1, none⟩ = some (.bool false) := by rw [new_off HF3.out.b1]; rfl
      have f0 := Lib.frozen_of_heap HF3.out.b1 0
      have f1 := Lib.frozen_of_heap HF3.out.b1 1
      generalize hya : y.getD ⟨#[]⟩ = ya
      generalize hyb : y.isSome = yb
      have HYA := Lib.hid hya
      have HYB := Lib.hid hyb
      clear hya hyb
      go_wp2_with fail
      refine ret_found Tryz.results62 rfl (found_set HF3.out.b1 _ _) rfl ?_
      rw [HE.out, ← HYA.out, ← HYB.out]
      exact HF3.out.ends HA.out (v := y) (by decide) HB4.out _ _
    · have hem : s.toList.isEmpty = false := by rw [empty_dec, decide_eq_false h0]
      have HE : Hid (R = ((askQ get q' x2).1, (askQ get q' x2).2)) := Lib.hid (by rw [HST'.out]; show runQ get (if s.size = 0 then .ask x3 .ret else .ask x2 .ret) q' = _; rw [if_neg h0]; rfl)
      clear HST' h0
      obtain ⟨b', off', hAe, _, d1, hz1⟩ := str_get HF2.out.args (k := 1) (by simp)
      obtain ⟨rfl, rfl⟩ : b' = b ∧ off' = off := by
        injection hAe with e
        injection e with e1 e2
        exact ⟨e1.symm, e2.symm⟩
      replace d1 : W2.cell? ⟨b', off' + 1, none⟩ = some (.string x2) := d1
      clear hAe
      have hcall := Lib.hid (HF2.out.ask HA.out (by decide) hz1)
      replace hcall : Hid (Calls Tryz.prog f (#[.string x2] ++ lb) W2 fun ed w' => ed = .returned (foundV (askQ get q' x2).1) ∧ ((askQ get q' x2).1.getD ⟨#[]⟩).size ≤ 65536 ∧ ∃ u'' F'', (∀ (i : Nat) (o : Obj), W2.heap[i]? = some o → ¬ F' i → w'.heap[i]? = some o ∧ ¬ F'' i) ∧ Fl X SA Q u F w c0 (some ⟨b', off', none⟩) k [x1, x2, x3] w' (askQ get q' x2).2 2 u'' F'') := hcall
      generalize askQ get q' x2 = qb at *
      obtain ⟨y, q''⟩ := qb
      replace HE : Hid (R = (y, q'')) := HE
      go_wp2_with fail
      go_at_fn f
      refine hcall.out.mono ?_
      rintro e w3 ⟨rfl, g2, u'', F'', g3, g4⟩
      have g2' : (y.getD ⟨#[]⟩).size ≤ 65536 := g2
      have g4' : Fl X SA Q u F w c0 (some ⟨b', off', none⟩) k [x1, x2, x3] w3 q'' 2 u'' F'' := g4
      have HF3 := Lib.hid g4'
      have HB4 : Hid ((y.getD ⟨#[]⟩).size ≤ 140737488355328) := Lib.hid (Nat.le_trans g2' (by decide))
      replace HE : Hid (R = (y, q'')) := HE
      clear g2 g2' g3 g4 g4' hcall e0 e1 a1 a2 d1
      have HY : Hid (foundV y = .agg #[.string (y.getD ⟨#[]⟩), .bool y.isSome]) := Lib.hid rfl
      rw [HY.out]
      have r0 : w3.cell? ⟨w.heap.size + 1, 0, none⟩ = some (.string ⟨#[]⟩) := by rw [new_off HF3.out.b1]; rfl
      have r1 : w3.cell? ⟨w.heap.size + 1, 1, none⟩ = some (.bool false) := by rw [new_off HF3.out.b1]; rfl
      have f0 := Lib.frozen_of_heap HF3.out.b1 0
      have f1 := Lib.frozen_of_heap HF3.out.b1 1
      generalize hya : y.getD ⟨#[]⟩ = ya
      generalize hyb : y.isSome = yb
      have HYA := Lib.hid hya
      have HYB := Lib.hid hyb
      clear hya hyb
      go_wp2_with fail
      refine ret_found Tryz.results62 rfl (found_set HF3.out.b1 _ _) rfl ?_
      rw [HE.out, ← HYA.out, ← HYB.out]
      exact HF3.out.ends HA.out (v := y) (by decide) HB4.out _ _
end Go.Proofs.YtkeaoejgboefbaaGreatDoor
