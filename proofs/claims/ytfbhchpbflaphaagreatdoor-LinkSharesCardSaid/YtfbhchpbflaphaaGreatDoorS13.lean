/- The texts Hc Hd Ia Nr Mf Hf Ib of the seat, joined. -/
import Derived.Test.YtfbhchpbflaphaaGreatDoorS12
import Derived.Laws.Rows
import Derived.Laws.Tables
namespace Go.Proofs.YtfbhchpbflaphaaGreatDoor
open Go.RowKit Go.Maps Go.ChangeMaps
theorem BinV.keep {w w' : World} {B B' : Nat -> Prop} {b : L.Bin} {vs : List Value} (h : BinV w B b vs) (hB : ∀ k, B k -> B' k) (hw : ∀ k, B k -> w'.heap[k]? = w.heap[k]?) : BinV w' B' b vs := by
 obtain ⟨A1, c1, A2, c2, A3, c3, A4, c4, A5, c5, e, h1, h2, h3, h4, h5, k⟩ := h.form
 exact ⟨⟨A1, c1, A2, c2, A3, c3, A4, c4, A5, c5, e, h1.keep hB hw, h2.keep hB hw, h3.keep hB hw, h4.keep hB hw, h5.keep hB hw, k⟩⟩
theorem RdV.keep {w w' : World} {B B' : Nat -> Prop} {r : L.Rd} {vs : List Value} (h : RdV w B r vs) (hB : ∀ k, B k -> B' k) (hw : ∀ k, B k -> w'.heap[k]? = w.heap[k]?) : RdV w' B' r vs := by
 obtain ⟨A1, c1, A2, c2, e, h1, h2⟩ := h
 exact ⟨A1, c1, A2, c2, e, h1.keep hB hw, h2.keep hB hw⟩
def zero35 : List Value := [.int .i64 0, .int .i64 0, .string ⟨#[]⟩, .slice none 0 0, .slice none 0 0, .slice none 0 0, .slice none 0 0, .slice none 0 0]
def zero38 : List Value := [.slice none 0 0, .slice none 0 0]
theorem BinV.zero (w : World) (B : Nat -> Prop) : BinV w B zeroB zero35 :=
 ⟨⟨none, 0, none, 0, none, 0, none, 0, none, 0, rfl, SliceAt.nil _ _ _ _ _ (by omega), SliceAt.nil _ _ _ _ _ (by omega), SliceAt.nil _ _ _ _ _ (by omega), SliceAt.nil _ _ _ _ _ (by omega), SliceAt.nil _ _ _ _ _ (by omega), by decide, by decide, by decide⟩⟩
theorem RdV.zero (w : World) (B : Nat -> Prop) : RdV w B ([], []) zero38 := ⟨none, 0, none, 0, rfl, SliceAt.nil _ _ _ _ _ (by omega), SliceAt.nil _ _ _ _ _ (by omega)⟩
theorem results_two {P : Program} {fn : Func} {p q u : Tmp} {ty ty2 : TypeId} (h : fn.results = #[.cell p ty, .cell q ty2, .tmp u]) (tmps : Array Value) (w : World) (g g2 : Nat) (t t2 : TypeId) (cs cs2 : Array Value) (fr fr2 : Nat × Nat) (d d2 : TypeDesc)
 (hp : tmps.getD p undef = .pointer (some ⟨g, 0, none⟩)) (hg : w.heap[g]? = some (.cells cs t fr)) (hu : P.underlying ty = some d) (hd : (match d with | .struct _ | .array _ _ => true | _ => false) = true) (hi : (P.info? ty).map (·.size) = some cs.size)
 (hp2 : tmps.getD q undef = .pointer (some ⟨g2, 0, none⟩)) (hg2 : w.heap[g2]? = some (.cells cs2 t2 fr2)) (hu2 : P.underlying ty2 = some d2) (hd2 : (match d2 with | .struct _ | .array _ _ => true | _ => false) = true) (hi2 : (P.info? ty2).map (·.size) = some cs2.size) :
 (results fn tmps).run P w = .ok (.tuple #[.agg cs, .agg cs2, tmps.getD u undef]) w := by
 have hp' : tmps[p]?.getD undef = .pointer (some ⟨g, 0, none⟩) := by simpa using hp
 have hp2' : tmps[q]?.getD undef = .pointer (some ⟨g2, 0, none⟩) := by simpa using hp2
 simp [results, h, hp', hp2', asAddr, run_loadVar_row w g t ty cs fr d hg hu hd hi, run_loadVar_row w g2 t2 ty2 cs2 fr2 d2 hg2 hu2 hd2 hi2]
theorem ret_bre {fn : Func} {p q u : Tmp} (h : fn.results = #[.cell p 35, .cell q 38, .tmp u]) {R : Ending -> World -> Prop} {a : Act} {w : World} {g g2 : Nat} {vs rs : List Value} {er : Value} (hp : a.tmps.getD p undef = .pointer (some ⟨g, 0, none⟩)) (hq : a.tmps.getD q undef = .pointer (some ⟨g2, 0, none⟩)) (hu : a.tmps.getD u undef = er)
 (hg : w.heap[g]? = some (.cells (Array.mk vs) 35 (0, 0))) (hg2 : w.heap[g2]? = some (.cells (Array.mk rs) 38 (0, 0))) (hl : vs.length = 8) (hl2 : rs.length = 2) (hd : a.defers = [])
 (hR : R (.returned (.tuple #[.agg (Array.mk vs), .agg (Array.mk rs), er])) w) : bodyPost Tryz.prog fn R .ret a w :=
 bodyPost_ret (results_two h a.tmps w g g2 35 38 (Array.mk vs) (Array.mk rs) (0, 0) (0, 0) _ _ hp hg Tryz.underlying35 rfl (by rw [size35]; show some 8 = some vs.length; rw [hl]) hq hg2 Tryz.underlying38 rfl (by rw [size38]; show some 2 = some rs.length; rw [hl2])) hd (by rw [hu]; exact hR)
def RetBR (w w' : World) (b : L.Bin) (r : L.Rd) (er : Int) (e : Ending) : Prop := ∃ vs rs, e = .returned (.tuple #[.agg (Array.mk vs), .agg (Array.mk rs), .int .i64 er]) /\ BinV w' (Fresh w w') b vs /\ RdV w' (Fresh w w') r rs
theorem BinV.len {w : World} {B : Nat -> Prop} {b : L.Bin} {vs : List Value} (h : BinV w B b vs) : vs.length = 8 := by
 obtain ⟨A1, c1, A2, c2, A3, c3, A4, c4, A5, c5, rfl, _⟩ := h.form
 rfl
theorem all_one {vs : List Value} (h : ∀ v ∈ vs, v.oneCell' = true) : (Array.mk vs).all (·.oneCell') = true := Array.all_eq_true_iff_forall_mem.2 fun v hv => h v (by simpa using hv)
theorem BinV.one {w : World} {B : Nat -> Prop} {b : L.Bin} {vs : List Value} (h : BinV w B b vs) : (Array.mk vs).all (·.oneCell') = true := by
 obtain ⟨A1, c1, A2, c2, A3, c3, A4, c4, A5, c5, rfl, _⟩ := h.form
 refine all_one fun v hv => ?_
 simp only [List.mem_cons, List.not_mem_nil, or_false] at hv
 rcases hv with rfl | rfl | rfl | rfl | rfl | rfl | rfl | rfl <;> rfl
theorem RdV.len {w : World} {B : Nat -> Prop} {r : L.Rd} {vs : List Value} (h : RdV w B r vs) : vs.length = 2 := by
 obtain ⟨A1, c1, A2, c2, rfl, _⟩ := h
 rfl
theorem RdV.one {w : World} {B : Nat -> Prop} {r : L.Rd} {vs : List Value} (h : RdV w B r vs) : (Array.mk vs).all (·.oneCell') = true := by
 obtain ⟨A1, c1, A2, c2, rfl, _⟩ := h
 refine all_one fun v hv => ?_
 simp only [List.mem_cons, List.not_mem_nil, or_false] at hv
 rcases hv with rfl | rfl <;> rfl
theorem row35 {w : World} {B : Nat -> Prop} {b : L.Bin} {vs : List Value} (h : BinV w B b vs) : (Tryz.prog.info? 35).map (·.size) = some (Array.mk vs).size := by rw [size35]; show some 8 = some vs.length; rw [h.len]
theorem row38 {w : World} {B : Nat -> Prop} {r : L.Rd} {vs : List Value} (h : RdV w B r vs) : (Tryz.prog.info? 38).map (·.size) = some (Array.mk vs).size := by rw [size38]; show some 2 = some vs.length; rw [h.len]
theorem zcells {w : World} {g : Nat} (h : w.heap[g]? = some (.cells (Array.mk zero35) 35 (0, 0))) : (w.cell? ⟨g, 0, none⟩ = some (.int .i64 0) /\ w.cell? ⟨g, 1, none⟩ = some (.int .i64 0) /\ w.cell? ⟨g, 2, none⟩ = some (.string ⟨#[]⟩) /\ w.cell? ⟨g, 3, none⟩ = some (.slice none 0 0) /\ w.cell? ⟨g, 4, none⟩ = some (.slice none 0 0) /\ w.cell? ⟨g, 5, none⟩ = some (.slice none 0 0) /\ w.cell? ⟨g, 6, none⟩ = some (.slice none 0 0) /\ w.cell? ⟨g, 7, none⟩ = some (.slice none 0 0)) /\ w.frozen? ⟨g, 0, none⟩ = false /\ w.frozen? ⟨g, 1, none⟩ = false /\ w.frozen? ⟨g, 2, none⟩ = false /\ w.frozen? ⟨g, 3, none⟩ = false /\ w.frozen? ⟨g, 4, none⟩ = false /\ w.frozen? ⟨g, 5, none⟩ = false /\ w.frozen? ⟨g, 6, none⟩ = false /\ w.frozen? ⟨g, 7, none⟩ = false :=
 ⟨⟨cell_of_row w g 0 _ _ _ h, cell_of_row w g 1 _ _ _ h, cell_of_row w g 2 _ _ _ h, cell_of_row w g 3 _ _ _ h, cell_of_row w g 4 _ _ _ h, cell_of_row w g 5 _ _ _ h, cell_of_row w g 6 _ _ _ h, cell_of_row w g 7 _ _ _ h⟩, Lib.frozen_of_heap h 0, Lib.frozen_of_heap h 1, Lib.frozen_of_heap h 2, Lib.frozen_of_heap h 3, Lib.frozen_of_heap h 4, Lib.frozen_of_heap h 5, Lib.frozen_of_heap h 6, Lib.frozen_of_heap h 7⟩
theorem zcells2 {w : World} {g : Nat} (h : w.heap[g]? = some (.cells (Array.mk zero38) 38 (0, 0))) : w.cell? ⟨g, 0, none⟩ = some (.slice none 0 0) /\ w.cell? ⟨g, 1, none⟩ = some (.slice none 0 0) /\ w.frozen? ⟨g, 0, none⟩ = false /\ w.frozen? ⟨g, 1, none⟩ = false :=
 ⟨cell_of_row w g 0 _ _ _ h, cell_of_row w g 1 _ _ _ h, Lib.frozen_of_heap h 0, Lib.frozen_of_heap h 1⟩
abbrev zput (w : World) (g : Nat) : World := ((((((((((w.setCell ⟨g, 0, none⟩ (.int .i64 0)).setCell ⟨g, 1, none⟩ (.int .i64 0)).setCell ⟨g, 2, none⟩ (.string ⟨#[]⟩)).setCell ⟨g, 3, none⟩ (.slice none 0 0)).setCell ⟨g, 4, none⟩ (.slice none 0 0)).setCell ⟨g, 5, none⟩ (.slice none 0 0)).setCell ⟨g, 6, none⟩ (.slice none 0 0)).setCell ⟨g, 7, none⟩ (.slice none 0 0)).setCell ⟨g + 1, 0, none⟩ (.slice none 0 0)).setCell ⟨g + 1, 1, none⟩ (.slice none 0 0))
theorem zput_tch (w : World) (g : Nat) : Tch (fun i => i = g ∨ i = g + 1) w (zput w g) := by
 have h0 : Tch (fun i => i = g ∨ i = g + 1) w w := Tch.refl _ _
 exact ((((((((((h0.setCell (p := ⟨g, 0, none⟩) (fun _ => .inl rfl) _).setCell (p := ⟨g, 1, none⟩) (fun _ => .inl rfl) _).setCell (p := ⟨g, 2, none⟩) (fun _ => .inl rfl) _).setCell (p := ⟨g, 3, none⟩) (fun _ => .inl rfl) _).setCell (p := ⟨g, 4, none⟩) (fun _ => .inl rfl) _).setCell (p := ⟨g, 5, none⟩) (fun _ => .inl rfl) _).setCell (p := ⟨g, 6, none⟩) (fun _ => .inl rfl) _).setCell (p := ⟨g, 7, none⟩) (fun _ => .inl rfl) _).setCell (p := ⟨g + 1, 0, none⟩) (fun _ => .inr rfl) _).setCell (p := ⟨g + 1, 1, none⟩) (fun _ => .inr rfl) _)
theorem zput_rows {w : World} {g : Nat} (h1 : w.heap[g]? = some (.cells (Array.mk zero35) 35 (0, 0))) (h2 : w.heap[g + 1]? = some (.cells (Array.mk zero38) 38 (0, 0))) : (zput w g).heap[g]? = some (.cells (Array.mk zero35) 35 (0, 0)) /\ (zput w g).heap[g + 1]? = some (.cells (Array.mk zero38) 38 (0, 0)) := by
 have h0 : Tch (fun i => i = g) w w := Tch.refl _ _
 have k1 := (heap_setCell_cells (heap_setCell_cells (heap_setCell_cells (heap_setCell_cells (heap_setCell_cells (heap_setCell_cells (heap_setCell_cells (heap_setCell_cells h1 0 (.int .i64 0)) 1 (.int .i64 0)) 2 (.string ⟨#[]⟩)) 3 (.slice none 0 0)) 4 (.slice none 0 0)) 5 (.slice none 0 0)) 6 (.slice none 0 0)) 7 (.slice none 0 0))
 have k2 := ((((((((h0.setCell (p := ⟨g, 0, none⟩) (fun _ => rfl) (.int .i64 0)).setCell (p := ⟨g, 1, none⟩) (fun _ => rfl) (.int .i64 0)).setCell (p := ⟨g, 2, none⟩) (fun _ => rfl) (.string ⟨#[]⟩)).setCell (p := ⟨g, 3, none⟩) (fun _ => rfl) (.slice none 0 0)).setCell (p := ⟨g, 4, none⟩) (fun _ => rfl) (.slice none 0 0)).setCell (p := ⟨g, 5, none⟩) (fun _ => rfl) (.slice none 0 0)).setCell (p := ⟨g, 6, none⟩) (fun _ => rfl) (.slice none 0 0)).setCell (p := ⟨g, 7, none⟩) (fun _ => rfl) (.slice none 0 0))
 have m1 := (k2.block (g + 1) (hltA h2) (by omega)).trans h2
 refine ⟨?_, heap_setCell_cells (heap_setCell_cells m1 0 _) 1 _⟩
 have j1 := grown_tch (grownBy_setCell ((((((((w.setCell ⟨g, 0, none⟩ (.int .i64 0)).setCell ⟨g, 1, none⟩ (.int .i64 0)).setCell ⟨g, 2, none⟩ (.string ⟨#[]⟩)).setCell ⟨g, 3, none⟩ (.slice none 0 0)).setCell ⟨g, 4, none⟩ (.slice none 0 0)).setCell ⟨g, 5, none⟩ (.slice none 0 0)).setCell ⟨g, 6, none⟩ (.slice none 0 0)).setCell ⟨g, 7, none⟩ (.slice none 0 0)) ⟨g + 1, 0, none⟩ (.slice none 0 0))
 have j2 := j1.trans (grown_tch (grownBy_setCell _ ⟨g + 1, 1, none⟩ (.slice none 0 0)))
 exact (j2.block g (hltA k1) (by show ¬ g = g + 1; omega)).trans k1
def finV (E : L.Env) (r : Except Int L.St) : L.Bin × (L.Rd × Int) := match r with
 | .error n => (zeroB, ([], []), n)
 | .ok st => (E.bin st.1 0 0 [], E.reading st.2, 0)
def RetFin (w : World) (X : Nat -> Prop) (v : L.Bin × (L.Rd × Int)) (e : Ending) (w' : World) : Prop := Tch X w w' /\ ∃ vs rs, e = .returned (.tuple #[.agg (Array.mk vs), .agg (Array.mk rs), .int .i64 v.2.2]) /\ BinV w' (Fresh w w') v.1 vs /\ RdV w' (Fresh w w') v.2.1 rs /\ vs[6]? = some (.slice none 0 0)
theorem quiet_load_row {P : Program} {o : Oper} {a : Act} {C : World -> Prop} {K : Act -> Prop} (ty : TypeId) (x : Operand) (ho : o.op = .load ty x) (g : Nat) (hx : a.eval x = .pointer (some ⟨g, 0, none⟩)) (t : TypeId) (cs : Array Value) (fr : Nat × Nat) (d : TypeDesc)
 (hg : ∀ w, C w -> w.heap[g]? = some (.cells cs t fr)) (hu : P.underlying ty = some d) (hd : (match d with | .struct _ | .array _ _ => true | _ => false) = true) (hi : (P.info? ty).map (·.size) = some cs.size) (h : K (a.put o.dst (.agg cs))) : o.quiet P a C K := by
 refine ⟨.agg cs, fun w hw => ?_, h⟩
 unfold Oper.quietAt execOp
 simp only [ho, hx, Instr.loadAt, Instr.sureAddr, Sem.run_bind, Sem.run_pure, Result.andThen_ok, run_loadVar_row w g t ty cs fr d (hg w hw) hu hd hi]
 exact ⟨rfl, rfl⟩
attribute [local irreducible] wpLex wpT
set_option maxRecDepth 8000 in
set_option maxHeartbeats 4000000 in
theorem finish_any (w : World) (S X : Nat -> Prop) (base g : Nat) (E : L.Env) (st : L.St) (k : LC) (h : LinkAt w S X base g E st [] k) (hE : EnvOk E) (hl : L.ListOk E st.1) (hb : L.Bd E st.2) (hlz : ∀ l ∈ E.libs, l.1.size <= 9223372036854775807) :
 Calls Tryz.prog 50 #[.pointer (some ⟨g, 0, none⟩)] w (RetFin w X (finV E (L.finish E st))) := by
 obtain ⟨W1, hW1⟩ : ∃ W1, W1 = (w.alloc (.cells #[.int .i64 0, .int .i64 0, .string ⟨#[]⟩, .slice none 0 0, .slice none 0 0, .slice none 0 0, .slice none 0 0, .slice none 0 0] 35)).alloc (.cells #[.slice none 0 0, .slice none 0 0] 38) := ⟨_, rfl⟩
 have E1 : Ext w W1 := by rw [hW1]; exact ((Ext.refl w).alloc _).alloc _
 have hsz : (w.alloc (.cells #[.int .i64 0, .int .i64 0, .string ⟨#[]⟩, .slice none 0 0, .slice none 0 0, .slice none 0 0, .slice none 0 0, .slice none 0 0] 35)).heap.size = w.heap.size + 1 := by simp
 have hb1 : W1.heap[w.heap.size]? = some (.cells (Array.mk zero35) 35 (0, 0)) := by rw [hW1]; exact (((Ext.refl (w.alloc _)).alloc _).block _ (by simp)).trans (heap_alloc_new w _)
 have hb2 : W1.heap[w.heap.size + 1]? = some (.cells (Array.mk zero38) 38 (0, 0)) := by rw [hW1, <- hsz]; exact heap_alloc_new _ _
 have hx1 : ¬ X w.heap.size := fun hx => by have := (h.lt _ hx).2; omega
 have hx2 : ¬ X (w.heap.size + 1) := fun hx => by have := (h.lt _ hx).2; omega
 obtain ⟨R, hR⟩ : ∃ R, R = L.selF E 129 0 st := ⟨_, rfl⟩
 have HSEL := Lib.hid (selection_any W1 S X base g E st k (h.ext E1) hE hl)
 rw [<- hR] at HSEL
 obtain ⟨FV, hFV⟩ : ∃ FV, FV = finV E (L.finish E st) := ⟨_, rfl⟩
 rw [<- hFV]
 unfold L.finish at hFV
 rw [<- hR] at hFV
 have hs1 : W1.heap.size = w.heap.size + 2 := by rw [hW1]; simp
 have HW1 := Lib.hid hW1
 have HE1 := Lib.hid E1
 have HS1 := Lib.hid hs1
 have HE := Lib.hid hE
 have HLZ := Lib.hid hlz
 have HX1 := Lib.hid hx1
 have HX2 := Lib.hid hx2
 have HB1 := Lib.hid hb1
 have HB2 := Lib.hid hb2
 have HG : Hid (∀ s', R = .ok s' -> GoodTo E s'.1 s'.1.length /\ L.Bd E s'.2) := fun s' e => by
  rw [e] at hR
  exact ⟨selF_good hE.units hR.symm (by omega) (Nat.zero_le _) hl fun i _ hi => absurd hi (Nat.not_lt_zero _), L.selF_bd hR.symm hb⟩
 clear h hW1 E1 hsz hb1 hb2 hx1 hx2 hR hE hl hb hlz hs1
 cases R with
 | error n =>
  have HFV := Lib.hid hFV
  clear hFV
  go_enter Tryz.func50, Tryz.ntmps50
  go_upto_region 1 with (fail)
  rw [<- HW1.out]
  go_wp2_with fail
  refine HSEL.out.mono ?_
  rintro e w2 ⟨ht, hn0, rfl⟩
  have hA := (ht.block _ (hltA HB1.out) HX1.out).trans HB1.out
  have hB := (ht.block _ (hltA HB2.out) HX2.out).trans HB2.out
  have hne : (n == 0) = false := by simpa using hn0
  have hne2 : (n != 0) = true := by simp [bne, hne]
  obtain ⟨⟨r0, r1, r2, r3, r4, r5, r6, r7⟩, f0, f1, f2, f3, f4, f5, f6, f7⟩ := zcells hA
  obtain ⟨s0, s1, t0, t1⟩ := zcells2 hB
  obtain ⟨hA3, hB3⟩ := zput_rows hA hB
  have HA3 := Lib.hid hA3
  have HB3 := Lib.hid hB3
  have HT := Lib.hid ht
  clear ht hA3 hB3 hA hB
  go_wp2_with fail
  refine ret_bre rfl rfl rfl rfl HA3.out HB3.out rfl rfl rfl ?_
  rw [HFV.out]
  refine ⟨?_, _, _, rfl, BinV.zero _ _, RdV.zero _ _, rfl⟩
  have h1 : Tch X w w2 := (HE1.out.tch X).trans HT.out
  exact h1.trans' (zput_tch w2 _) fun i hi e => absurd hi (by omega)
 | ok st' =>
  have hgd := HG.out st' rfl
  obtain ⟨hG, hB⟩ := hgd
  have HBD := Lib.hid hB
  have HFV := Lib.hid hFV
  clear hFV hB
  go_enter Tryz.func50, Tryz.ntmps50
  go_upto_region 1 with (fail)
  rw [<- HW1.out]
  go_wp2_with fail
  refine HSEL.out.mono ?_
  rintro e w2 ⟨ht, rfl, S', X', k', hX', hL2, hO2⟩
  have HPL := Lib.hid (place_any w2 S' X' base g E st' k' hL2 HE.out hO2 hG)
  have hA := (ht.block _ (hltA HB1.out) HX1.out).trans HB1.out
  have hB := (ht.block _ (hltA HB2.out) HX2.out).trans HB2.out
  have HT := Lib.hid ht
  have HL2 := Lib.hid hL2
  have HA := Lib.hid hA
  have HB := Lib.hid hB
  clear ht hX' hL2 hO2 hG hA hB
  go_wp2_with fail
  refine HPL.out.mono ?_
  rintro e w3 ⟨e3, vs, b, er, rfl, hBV, hv6, hbe⟩
  have HV6 := Lib.hid hv6
  clear hv6
  have hn3 := heap_alloc_new w3 (.cells #[.int .i64 0, .int .i64 0, .string ⟨#[]⟩, .slice none 0 0, .slice none 0 0, .slice none 0 0, .slice none 0 0, .slice none 0 0] 35)
  have hrow := row35 hBV
  have hone := hBV.one
  have hlen := hBV.len
  obtain ⟨W4, hW4⟩ : ∃ W4, W4 = (w3.alloc (.cells #[.int .i64 0, .int .i64 0, .string ⟨#[]⟩, .slice none 0 0, .slice none 0 0, .slice none 0 0, .slice none 0 0, .slice none 0 0] 35)).setRow w3.heap.size (Array.mk vs) := ⟨_, rfl⟩
  have E4 : Ext w3 W4 := by
   rw [hW4]
   have h1 : Tch (fun _ => False) w3 (w3.alloc (.cells #[.int .i64 0, .int .i64 0, .string ⟨#[]⟩, .slice none 0 0, .slice none 0 0, .slice none 0 0, .slice none 0 0, .slice none 0 0] 35)) := ((Ext.refl w3).alloc _).tch _
   exact (h1.trans' (tch_setRow _ w3.heap.size _) fun i hi e => absurd hi (by omega)).ext fun _ _ h => h
  have hb4 : W4.heap[w3.heap.size]? = some (.cells (Array.mk vs) 35 (0, 0)) := by rw [hW4]; exact heap_setRow _ _ _ hn3
  have HBV := Lib.hid hBV
  have HE3 := Lib.hid e3
  have HE4 := Lib.hid E4
  have HBE := Lib.hid hbe
  have HB4 := Lib.hid hb4
  clear e3 hBV hbe E4 hb4
  go_upto_region 5 with (refine wpList_store_row rfl 35 (.tmp 6) (.tmp 18) rfl w3.heap.size (Array.mk vs) rfl rfl 35 _ hn3 hrow (show 8 = vs.length from hlen.symm) hone ?_)
  rw [<- hW4]
  clear hW4 hn3
  have hA4 := ((HE3.out.trans HE4.out).block _ (hltA HA.out)).trans HA.out
  have hB4 := ((HE3.out.trans HE4.out).block _ (hltA HB.out)).trans HB.out
  by_cases hbig : 65536 < L.fin (E.sizes st'.1) 0
  ·have hbe := HBE.out
   rw [if_pos hbig] at hbe
   have her : er = 10 := congrArg Prod.snd hbe
   have hfv : FV = (zeroB, ([], []), 10) := by rw [HFV.out]; simp only [if_pos hbig]; rfl
   have HFV2 := Lib.hid hfv
   clear hbe hfv hbig
   subst her
   obtain ⟨⟨r0, r1, r2, r3, r4, r5, r6, r7⟩, f0, f1, f2, f3, f4, f5, f6, f7⟩ := zcells hA4
   obtain ⟨s0, s1, t0, t1⟩ := zcells2 hB4
   obtain ⟨hA3, hB3⟩ := zput_rows hA4 hB4
   have HA3 := Lib.hid hA3
   have HB3 := Lib.hid hB3
   clear hA3 hB3 hA4 hB4
   go_wp2_with fail
   refine ret_bre rfl rfl rfl rfl HA3.out HB3.out rfl rfl rfl ?_
   rw [HFV2.out]
   refine ⟨?_, _, _, rfl, BinV.zero _ _, RdV.zero _ _, rfl⟩
   have h1 : Tch X w W4 := ((HE1.out.tch X).trans HT.out).trans ((HE3.out.trans HE4.out).tch X)
   exact h1.trans' (zput_tch W4 _) fun i hi e => absurd hi (by omega)
  ·have hbe := HBE.out
   rw [if_neg hbig] at hbe
   have her : er = 0 := congrArg Prod.snd hbe
   have hbb : b = E.bin st'.1 0 0 [] := congrArg Prod.fst hbe
   have hfv : FV = (E.bin st'.1 0 0 [], E.reading st'.2, 0) := by rw [HFV.out]; simp only [if_neg hbig]; rfl
   have HFV2 := Lib.hid hfv
   have HBB := Lib.hid hbb
   clear hbe hfv hbig hbb
   subst her
   obtain ⟨tb, htb⟩ : ∃ tb, tb = w3.heap.size := ⟨_, rfl⟩
   have hb4 := HB4.out
   have hl1 : W1.heap.size <= w2.heap.size := HT.out.size
   have hl2 : w2.heap.size <= w3.heap.size := HE3.out.size
   have ht0 : w.heap.size ≠ tb := by have := HS1.out; omega
   have ht1 : w.heap.size + 1 ≠ tb := by have := HS1.out; omega
   have htl : tb < W4.heap.size := by rw [htb]; exact (hltA hb4)
   rw [<- htb] at hb4
   have HL4 := Lib.hid (HL2.out.ext (HE3.out.trans HE4.out))
   have HT0 := Lib.hid ht0
   have HT1 := Lib.hid ht1
   have HTB := Lib.hid htb
   have HLO := Lib.hid (show w.heap.size + 2 <= W4.heap.size by have := HE4.out.size; have := HS1.out; omega)
   obtain ⟨Φ, hΦ⟩ : ∃ Φ : World -> Prop, ∀ W, Φ W ↔ Tch (fun i => i = w.heap.size) W4 W := ⟨_, fun _ => Iff.rfl⟩
   have h0 : Φ W4.drew := (hΦ _).2 (((Ext.refl W4).drew).tch _)
   have hfx : ∀ w', (∃ x : Lat Φ, w' = x.w') -> w'.heap[tb]? = some (.cells (Array.mk vs) 35 (0, 0)) := by
    rintro w' ⟨x, rfl⟩
    exact (((hΦ _).1 x.h).block _ htl (Ne.symm ht0)).trans hb4
   have hne := Lat.some h0
   have HRD := Lib.hid (fun W (hW : Ext W4 W) => reading_any W S' X' base g E st' _ k' (HL4.out.ext hW) HE.out HBD.out HLZ.out)
   have HFX := Lib.hid hfx
   have HPH := Lib.hid hΦ
   clear hl1 hl2 ht0 ht1 htl hb4 hfx
   go_upto_region 7 with (fail)
   rw [<- HTB.out]
   refine wp_region_tail 4 [2, 3] Φ h0 (by kernel_rfl) (by kernel_rfl) (by kernel_rfl) ?_
   simp only [List.take_succ_cons, List.take_zero, List.drop_succ_cons, List.drop_zero]
   refine lex_pure rfl rfl rfl ?_
   intro K hK
   refine quiet_load_row 35 _ rfl tb rfl 35 (Array.mk vs) (0, 0) _ HFX.out Tryz.underlying35 rfl hrow ?_
   go_simp
   go_big_quiet_on
   refine lex_pure rfl rfl rfl ?_; intro K hK; go_big_quiet_op; go_big_quiet_on
   refine lex_eff rfl ?_
   go_wp2_with fail
   refine (HRD.out _ ((Ext.refl W4).drew)).mono ?_
   rintro e w5 ⟨e5, rs, rfl, hRV⟩
   go_wp2_with fail
   have hP5 : Φ w5 := (HPH.out _).2 ((((Ext.refl W4).drew).trans e5).tch _)
   have hA5 := ((((Ext.refl W4).drew).trans e5).block _ (hltA hA4)).trans hA4
   have hB5 := ((((Ext.refl W4).drew).trans e5).block _ (hltA hB4)).trans hB4
   refine ⟨⟨⟨w5, hP5⟩, rfl⟩, ?_⟩
   refine lex_eff rfl ?_
   go_wp2_with (refine wpList_store_row rfl 35 (.tmp 2) (.tmp 25) rfl w.heap.size (Array.mk vs) rfl rfl 35 _ hA5 hrow (show 8 = vs.length from hlen.symm) hone ?_)
   have hT6 : Tch (fun i => i = w.heap.size) W4 (w5.setRow w.heap.size (Array.mk vs)) := ((((Ext.refl W4).drew).trans e5).tch _).trans (tch_setRow _ _ _)
   have hA6 := heap_setRow w5 w.heap.size (Array.mk vs) hA5
   have hB6 := (heap_setRow_other w5 w.heap.size (w.heap.size + 1) (Array.mk vs) (by omega)).trans hB5
   refine ⟨⟨⟨_, (HPH.out _).2 hT6⟩, rfl⟩, ?_⟩
   refine lex_nil ?_
   show wpList _ _ _ (_ :: _ :: []) _ _
   have hrow2 := row38 hRV
   have hone2 := hRV.one
   have hlen2 := hRV.len
   go_wp2_with (refine wpList_store_row rfl 38 (.tmp 3) (.tmp 27) rfl (w.heap.size + 1) (Array.mk rs) rfl rfl 38 _ hB6 hrow2 (show 2 = rs.length from hlen2.symm) hone2 ?_)
   have hA7 := (heap_setRow_other (w5.setRow w.heap.size (Array.mk vs)) (w.heap.size + 1) w.heap.size (Array.mk rs) (by omega)).trans hA6
   have hB7 := heap_setRow (w5.setRow w.heap.size (Array.mk vs)) (w.heap.size + 1) (Array.mk rs) hB6
   refine ret_bre rfl rfl rfl rfl hA7 hB7 hlen hlen2 rfl ?_
   rw [HFV2.out]
   have hT7 : Tch (fun i => i = w.heap.size ∨ i = w.heap.size + 1) w5 ((w5.setRow w.heap.size (Array.mk vs)).setRow (w.heap.size + 1) (Array.mk rs)) := by
    have h1 : Tch (fun i => i = w.heap.size ∨ i = w.heap.size + 1) w5 (w5.setRow w.heap.size (Array.mk vs)) := (tch_setRow _ _ _).mono fun _ _ h => .inl h
    exact h1.trans' (tch_setRow _ _ _) fun _ _ h => .inr h
   have hL1 : W1.heap.size <= w2.heap.size := HT.out.size
   have hL2 := HE3.out.size
   have hL3 := HE4.out.size
   have hL4 := e5.size
   have hS1 := HS1.out
   have hL5 : W4.drew.heap.size = W4.heap.size := rfl
   refine ⟨?_, _, _, rfl, ?_, ?_, HV6.out⟩
   ·have h1 : Tch X w w5 := (((HE1.out.tch X).trans HT.out).trans ((HE3.out.trans HE4.out).tch X)).trans ((((Ext.refl W4).drew).trans e5).tch X)
    exact h1.trans' hT7 fun i hi e => absurd hi (by omega)
   ·rw [<- HBB.out]
    refine HBV.out.keep (fun i hi => ?_) fun i hi => ?_
    ·have h1 := hi.1
     have h2 := hi.2
     have h3 := hT7.size
     exact ⟨by omega, by omega⟩
    ·have h1 := hi.1
     have h2 := hi.2
     exact (hT7.block i (by omega) (by omega)).trans (((HE4.out.drew).trans e5).block i h2)
   ·refine hRV.keep (fun i hi => ?_) fun i hi => ?_
    ·have h1 := hi.1
     have h2 := hi.2
     have h3 := hT7.size
     exact ⟨by omega, by omega⟩
    ·have h1 := hi.1
     have h2 := hi.2
     exact hT7.block i h2 (by omega)
end Go.Proofs.YtfbhchpbflaphaaGreatDoor

namespace Go.Proofs.YtfbhchpbflaphaaGreatDoor
open Go.RowKit Go.Maps Go.ChangeMaps
def RetNone (w : World) (er : Int) (e : Ending) (w' : World) : Prop := Ext w w' /\ e = .returned (.tuple #[.agg #[.int .i64 0, .int .i64 0, .string ⟨#[]⟩, .slice none 0 0, .slice none 0 0, .slice none 0 0, .slice none 0 0, .slice none 0 0], .agg #[.slice none 0 0, .slice none 0 0], .int .i64 er])
abbrev zrow35 : Array Value := #[.int .i64 0, .int .i64 0, .string ⟨#[]⟩, .slice none 0 0, .slice none 0 0, .slice none 0 0, .slice none 0 0, .slice none 0 0]
abbrev zrow38 : Array Value := #[.slice none 0 0, .slice none 0 0]
theorem two_cells (w : World) : Ext w ((w.alloc (.cells zrow35 35)).alloc (.cells zrow38 38)) /\ ((w.alloc (.cells zrow35 35)).alloc (.cells zrow38 38)).heap[w.heap.size]? = some (.cells (Array.mk zero35) 35 (0, 0)) /\
 ((w.alloc (.cells zrow35 35)).alloc (.cells zrow38 38)).heap[w.heap.size + 1]? = some (.cells (Array.mk zero38) 38 (0, 0)) /\ ((w.alloc (.cells zrow35 35)).alloc (.cells zrow38 38)).heap.size = w.heap.size + 2 := by
 have hsz : (w.alloc (.cells zrow35 35)).heap.size = w.heap.size + 1 := by simp
 refine ⟨((Ext.refl w).alloc _).alloc _, (((Ext.refl (w.alloc _)).alloc _).block _ (by simp)).trans (heap_alloc_new w _), ?_, by simp⟩
 rw [<- hsz]
 exact heap_alloc_new _ _
theorem two_stores (w0 w : World) (vs rs : List Value) (hx : Ext w0 w) (h1 : w.heap[w0.heap.size]? = some (.cells (Array.mk zero35) 35 (0, 0))) (h2 : w.heap[w0.heap.size + 1]? = some (.cells (Array.mk zero38) 38 (0, 0))) :
 (w.setRow w0.heap.size (Array.mk vs)).heap[w0.heap.size + 1]? = some (.cells (Array.mk zero38) 38 (0, 0)) /\
 ((w.setRow w0.heap.size (Array.mk vs)).setRow (w0.heap.size + 1) (Array.mk rs)).heap[w0.heap.size]? = some (.cells (Array.mk vs) 35 (0, 0)) /\
 ((w.setRow w0.heap.size (Array.mk vs)).setRow (w0.heap.size + 1) (Array.mk rs)).heap[w0.heap.size + 1]? = some (.cells (Array.mk rs) 38 (0, 0)) /\
 Ext w0 ((w.setRow w0.heap.size (Array.mk vs)).setRow (w0.heap.size + 1) (Array.mk rs)) /\ Tch (fun i => i = w0.heap.size ∨ i = w0.heap.size + 1) w ((w.setRow w0.heap.size (Array.mk vs)).setRow (w0.heap.size + 1) (Array.mk rs)) := by
 have hB2 := (heap_setRow_other w w0.heap.size (w0.heap.size + 1) (Array.mk vs) (by omega)).trans h2
 have hT : Tch (fun i => i = w0.heap.size ∨ i = w0.heap.size + 1) w ((w.setRow w0.heap.size (Array.mk vs)).setRow (w0.heap.size + 1) (Array.mk rs)) :=
  ((tch_setRow _ _ _).mono fun _ _ h => .inl h).trans' (tch_setRow _ _ _) fun _ _ h => .inr h
 refine ⟨hB2, (heap_setRow_other _ (w0.heap.size + 1) w0.heap.size (Array.mk rs) (by omega)).trans (heap_setRow w _ _ h1), heap_setRow _ _ _ hB2, ?_, hT⟩
 have h1 : Tch (fun _ => False) w0 w := hx.tch _
 exact (h1.trans' hT fun i hi e => absurd hi (by omega)).ext fun _ _ h => h
theorem zput_ext {w0 w : World} (h : Ext w0 w) : Ext w0 (zput w w0.heap.size) := by
 have h1 : Tch (fun _ => False) w0 w := h.tch _
 exact (h1.trans' (zput_tch w _) fun i hi e => absurd hi (by omega)).ext fun _ _ h => h
set_option maxRecDepth 8000 in
theorem none43_any (er : Int) (w : World) : Calls Tryz.prog 43 #[.int .i64 er] w (RetNone w er) := by
 obtain ⟨hx, hA, hB, _⟩ := two_cells w
 obtain ⟨W1, hW1⟩ : ∃ W1, W1 = (w.alloc (.cells zrow35 35)).alloc (.cells zrow38 38) := ⟨_, rfl⟩
 rw [<- hW1] at hx hA hB
 obtain ⟨⟨r0, r1, r2, r3, r4, r5, r6, r7⟩, f0, f1, f2, f3, f4, f5, f6, f7⟩ := zcells hA
 obtain ⟨s0, s1, t0, t1⟩ := zcells2 hB
 obtain ⟨hA3, hB3⟩ := zput_rows hA hB
 have HA3 := Lib.hid hA3
 have HB3 := Lib.hid hB3
 have HX := Lib.hid hx
 have HW1 := Lib.hid hW1
 clear hx hW1 hA hB hA3 hB3
 go_enter Tryz.func43, Tryz.ntmps43
 go_upto_region 1 with (fail)
 rw [<- HW1.out]
 go_wp2_with fail
 exact ret_bre rfl rfl rfl rfl HA3.out HB3.out rfl rfl rfl ⟨zput_ext HX.out, rfl⟩
def linkV (r : Except Int (L.Bin × L.Rd)) : L.Bin × (L.Rd × Int) := match r with
 | .error n => (zeroB, ([], []), n)
 | .ok (b, r) => (b, r, 0)
def RetLk (w : World) (v : L.Bin × (L.Rd × Int)) (e : Ending) (w' : World) : Prop := Ext w w' /\ RetBR w w' v.1 v.2.1 v.2.2 e
theorem RetBR.none (w w' : World) (er : Int) : RetBR w w' zeroB ([], []) er (.returned (.tuple #[.agg (Array.mk zero35), .agg (Array.mk zero38), .int .i64 er])) := ⟨_, _, rfl, BinV.zero _ _, RdV.zero _ _⟩
theorem BinV.kind {w : World} {B : Nat -> Prop} {b : L.Bin} {vs : List Value} (h : BinV w B b vs) (n : Int) (hn : (Lit.int .i64 n).wf = true) : BinV w B (n, b.2) (vs.set 0 (.int .i64 n)) := by
 obtain ⟨A1, c1, A2, c2, A3, c3, A4, c4, A5, c5, rfl, h1, h2, h3, h4, h5, _, k2, k3⟩ := h.form
 exact ⟨⟨A1, c1, A2, c2, A3, c3, A4, c4, A5, c5, rfl, h1, h2, h3, h4, h5, hn, k2, k3⟩⟩
end Go.Proofs.YtfbhchpbflaphaaGreatDoor

namespace Go.Proofs.YtfbhchpbflaphaaGreatDoor
open Go.RowKit Go.Maps Go.ChangeMaps
theorem list_three (a b : List UInt8) : a < b ∨ a = b ∨ b < a := by
 rcases List.le_total a b with h1 | h1
 ·rcases List.le_iff_lt_or_eq.1 h1 with h | h
  ·exact .inl h
  ·exact .inr (.inl h)
 ·rcases List.le_iff_lt_or_eq.1 h1 with h | h
  ·exact .inr (.inr h)
  ·exact .inr (.inl h.symm)
def lastE (l : List L.Expd) (k : Nat) (s : ByteArray) : Prop := (k = 0 -> s = ⟨#[]⟩) /\ ∀ h : k - 1 < l.length, 0 < k -> s = l[k - 1].1
theorem expGood_last {l : List L.Expd} {k : Nat} {s : ByteArray} (hs : lastE l k s) (hk : k < l.length) : expGood l k hk ↔ okN l[k].1 = true /\ s.data.toList < l[k].1.data.toList := by
 unfold expGood
 constructor
 ·rintro ⟨h1, h2⟩
  refine ⟨h1, ?_⟩
  rcases Nat.eq_zero_or_pos k with h0 | h0
  ·rw [hs.1 h0]
   have hne : l[k].1.data.toList ≠ [] := by
    intro e
    have hn : K.name l[k].1.data.toList = true := h1
    rw [e] at hn
    exact absurd hn (by decide)
   cases hl : l[k].1.data.toList with
   | nil => exact absurd hl hne
   | cons b t => exact List.Lex.nil
  ·rw [hs.2 (by omega) h0]
   exact h2 h0
 ·rintro ⟨h1, h2⟩
  refine ⟨h1, fun h0 => ?_⟩
  rw [hs.2 (by omega) h0] at h2
  exact h2
set_option maxRecDepth 8000 in
set_option maxHeartbeats 2000000 in
theorem rLibrary_any (l : L.Libr) (vs : List Value) (w : World) (h : BinV w (Old w) l.2 vs) (hz : LibSize l) : Calls Tryz.prog 89 #[.agg (Array.mk vs)] w (Al (.bool (L.libB okN l)) w) := by
 obtain ⟨A1, c1, A2, c2, A3, c3, A4, c4, A5, c5, rfl, h1, h2, h3, h4, h5, k1, k2, k3⟩ := h.form
 obtain ⟨ex, hex⟩ : ∃ ex, ex = L.exps l := ⟨_, rfl⟩
 have hex' : l.2.2.2.2.2.2.2.1 = ex := hex.symm
 rw [hex'] at h4 ⊢
 obtain ⟨R, hR⟩ : ∃ R, R = L.libB okN l := ⟨_, rfl⟩
 rw [<- hR]
 have hg := libGood_iff l
 rw [<- hR] at hg
 unfold libGood at hg
 rw [<- hex] at hg
 have HZ : Hid (ex.length <= 1000000 /\ ∀ y ∈ ex, y.1.size <= 9000000) := by rw [hex]; exact ⟨hz.2.1, hz.2.2⟩
 obtain ⟨kd, hkd⟩ : ∃ kd, kd = l.2.1 := ⟨_, rfl⟩
 rw [<- hkd] at hg ⊢
 generalize l.2.2.1 = en
 generalize l.2.2.2.1 = im
 generalize l.2.2.2.2.1.length = n1
 generalize l.2.2.2.2.2.1.length = n2
 generalize l.2.2.2.2.2.2.1.length = n3
 generalize l.2.2.2.2.2.2.2.2.length = n5
 obtain ⟨n, hn⟩ : ∃ n, n = ex.length := ⟨_, rfl⟩
 rw [<- hn]
 have hn2 : n <= 1000000 := by rw [hn]; exact HZ.out.1
 have HN := Lib.hid hn
 have H4 := Lib.hid h4
 have HG := Lib.hid hg
 obtain ⟨W1, hW1⟩ : ∃ W1, W1 = w.alloc (.cells #[.int .i64 kd, .int .i64 en, .string im, .slice A1 n1 c1, .slice A2 n2 c2, .slice A3 n3 c3, .slice A4 n c4, .slice A5 n5 c5] 35) := ⟨_, rfl⟩
 have E1 : Ext w W1 := by rw [hW1]; exact (Ext.refl w).alloc _
 have c0 : W1.cell? ⟨w.heap.size, 0, none⟩ = some (.int .i64 kd) := by rw [hW1]; exact cell_new w _ 35 0
 have c6 : W1.cell? ⟨w.heap.size, 6, none⟩ = some (.slice A4 n c4) := by rw [hW1]; exact cell_new w _ 35 6
 have HW1 := Lib.hid hW1
 have HE1 := Lib.hid E1
 have HC0 := Lib.hid c0
 clear h1 h2 h3 h4 h5 k1 k2 k3 hex hex' hkd hR hg hn hz h hW1 E1 c0
 go_enter Tryz.func89, Tryz.ntmps89
 go_upto_region 2 with (fail)
 rw [<- HW1.out]
 go_wp2_with fail
 clear c6
 go_loopw [3, 9] (fun v i wr => ∃ (k : Nat) (s : ByteArray), k <= n /\ i = .int .i64 (k : Int) /\ v = .string s /\ Hid (lastE ex k s /\ (∀ i (h : i < ex.length), i < k -> expGood ex i h) /\ Ext W1 wr)) (fun _ i _ => n - (intOf i).toNat)
 case atStart => exact ⟨0, _, Nat.zero_le _, rfl, rfl, ⟨fun _ => rfl, fun _ h => absurd h (Nat.lt_irrefl 0)⟩, fun _ _ h => absurd h (Nat.not_lt_zero _), Ext.refl _⟩
 case round =>
  obtain ⟨k, s, hk, rfl, rfl, HK⟩ := hrel
  by_cases hlt : k < n
  ·have hkl : k < ex.length := by rw [<- HN.out]; exact hlt
   obtain ⟨b, off, rfl, hb, hs, _, z0, z1⟩ := exp_get H4.out hkl
   have z0' := (HE1.out.trans HK.out.2.2).keepc z0
   have z1' := (HE1.out.trans HK.out.2.2).keepc z1
   have hif := expGood_last HK.out.1 hkl
   have hnm : okN ex[k].1 = K.name ex[k].1.data.toList := rfl
   rw [hnm] at hif
   have hbad : ¬ expGood ex k hkl -> R = false := fun hx => by
    rw [Bool.eq_false_iff]
    intro hr
    exact hx ((HG.out.1 hr).2 k hkl)
   have hgo : expGood ex k hkl -> ∀ i (hi : i < ex.length), i < k + 1 -> expGood ex i hi := fun h i hi hik => by
    by_cases e : i = k
    ·cases e; exact h
    ·exact HK.out.2.1 i hi (by omega)
   have hln : lastE ex (k + 1) ex[k].1 := ⟨fun h => absurd h (by omega), fun _ _ => rfl⟩
   have HLN := Lib.hid hln
   have HIF := Lib.hid hif
   have HBAD := Lib.hid hbad
   have HGO := Lib.hid hgo
   have hl1 := less_dec ex[k].1 s
   have hl2 := less_dec s ex[k].1
   have heq : (ex[k].1.toList == s.toList) = decide (ex[k].1.data.toList = s.data.toList) := by rw [ByteArray.toList_eq, ByteArray.toList_eq, Bool.eq_iff_iff]; simp
   have HNM := Lib.hid (fun W => refName_any ex[k].1 W hs)
   generalize ex[k].1 = x at *
   generalize ex[k].2 = xa at *
   obtain ⟨W2, hW2⟩ : ∃ W2, W2 = wr.alloc (.cells #[.string x, .int .i64 xa] 74) := ⟨_, rfl⟩
   have E2 : Ext wr W2 := by rw [hW2]; exact (Ext.refl wr).alloc _
   have y0 : W2.cell? ⟨wr.heap.size, 0, none⟩ = some (.string x) := by rw [hW2]; exact cell_new wr _ 74 0
   have HW2 := Lib.hid hW2
   have HE2 := Lib.hid E2
   have HY0 := Lib.hid y0
   clear hnm hif hbad hgo hln z0 z1 hW2 E2 hb hs
   rcases Bool.eq_false_or_eq_true (K.name x.data.toList) with hN | hN
   ·rcases list_three s.data.toList x.data.toList with h3 | h3 | h3
    ·have hG := HIF.out.2 ⟨hN, h3⟩
     have e1 : ¬ x.data.toList < s.data.toList := fun h => List.lt_irrefl _ (List.lt_trans h h3)
     have e2 : ¬ x.data.toList = s.data.toList := fun h => List.lt_irrefl _ (by rw [h] at h3; exact h3)
     rw [decide_eq_false e1] at hl1
     rw [decide_eq_true h3] at hl2
     rw [decide_eq_false e2] at heq
     have H9 := Lib.hid (HGO.out hG)
     rw [hN] at HNM
     have HL := Lib.hid (And.intro hl1 (And.intro hl2 heq))
     clear hN h3 hG e1 e2 hl1 hl2 heq
     go_upto_region 5 with (fail)
     rw [<- HW2.out]
     go_wp2_with fail
     refine (HNM.out _).mono ?_
     rintro e w3 ⟨rfl, e3⟩
     have y1 := e3.keepc HY0.out
     obtain ⟨hl1, hl2, heq⟩ := HL.out
     have HX3 := Lib.hid ((HK.out.2.2.trans HE2.out).trans e3)
     clear e3
     go_wp2_with fail
     clear hl1 hl2 heq
     go_roundw
     case rel => exact ⟨k + 1, x, by omega, by go_num, rfl, HLN.out, H9.out, HX3.out⟩
     case measure => simp [intOf]; omega
    ·have hB : R = false := HBAD.out fun hx => absurd (HIF.out.1 hx).2 (by rw [h3]; exact List.lt_irrefl _)
     rw [h3] at hl1 hl2 heq
     rw [decide_eq_false (List.lt_irrefl _)] at hl1 hl2
     rw [decide_eq_true rfl] at heq
     rw [hN] at HNM
     have HB := Lib.hid hB
     have HL := Lib.hid (And.intro hl1 (And.intro hl2 heq))
     clear hN h3 hB hl1 hl2 heq
     go_upto_region 5 with (fail)
     rw [<- HW2.out]
     go_wp2_with fail
     refine (HNM.out _).mono ?_
     rintro e w3 ⟨rfl, e3⟩
     have y1 := e3.keepc HY0.out
     obtain ⟨hl1, hl2, heq⟩ := HL.out
     have HX3 := Lib.hid (HE1.out.trans ((HK.out.2.2.trans HE2.out).trans e3))
     clear e3
     go_wp2_with fail
     go_ret
     exact ⟨by first | (rw [HB.out]; done) | (rw [HB.out]; rfl), HX3.out⟩
    ·have hB : R = false := HBAD.out fun hx => List.lt_irrefl _ (List.lt_trans h3 (HIF.out.1 hx).2)
     have e1 : ¬ s.data.toList < x.data.toList := fun h => List.lt_irrefl _ (List.lt_trans h h3)
     have e2 : ¬ x.data.toList = s.data.toList := fun h => List.lt_irrefl _ (by rw [h] at h3; exact h3)
     rw [decide_eq_true h3] at hl1
     rw [decide_eq_false e1] at hl2
     rw [decide_eq_false e2] at heq
     rw [hN] at HNM
     have HB := Lib.hid hB
     have HL := Lib.hid (And.intro hl1 (And.intro hl2 heq))
     clear hN h3 hB e1 e2 hl1 hl2 heq
     go_upto_region 5 with (fail)
     rw [<- HW2.out]
     go_wp2_with fail
     refine (HNM.out _).mono ?_
     rintro e w3 ⟨rfl, e3⟩
     have y1 := e3.keepc HY0.out
     obtain ⟨hl1, hl2, heq⟩ := HL.out
     have HX3 := Lib.hid (HE1.out.trans ((HK.out.2.2.trans HE2.out).trans e3))
     clear e3
     go_wp2_with fail
     go_ret
     exact ⟨by first | (rw [HB.out]; done) | (rw [HB.out]; rfl), HX3.out⟩
   ·have hB : R = false := HBAD.out fun hx => by rw [hN] at HIF; exact absurd (HIF.out.1 hx).1 Bool.false_ne_true
    rw [hN] at HNM
    have HB := Lib.hid hB
    clear hN hB hl1 hl2 heq
    go_upto_region 5 with (fail)
    rw [<- HW2.out]
    go_wp2_with fail
    refine (HNM.out _).mono ?_
    rintro e w3 ⟨rfl, e3⟩
    have HX3 := Lib.hid (HE1.out.trans ((HK.out.2.2.trans HE2.out).trans e3))
    clear e3
    go_wp2_with fail
    go_ret
    exact ⟨by first | (rw [HB.out]; done) | (rw [HB.out]; rfl), HX3.out⟩
  ·obtain rfl : k = n := by omega
   have y0 := HK.out.2.2.keepc HC0.out
   have HX := Lib.hid (HE1.out.trans HK.out.2.2)
   have hall : ∀ i (h : i < ex.length), expGood ex i h := fun i hi => HK.out.2.1 i hi (by rw [HN.out]; exact hi)
   by_cases hk2 : kd = 2
   ·have hB : R = true := HG.out.2 ⟨hk2, hall⟩
    have HB := Lib.hid hB
    subst hk2
    clear hall HK hB
    go_wp2_with fail
    go_ret
    exact ⟨by first | (rw [HB.out]; done) | (rw [HB.out]; rfl), HX.out⟩
   ·have hB : R = false := by
     rw [Bool.eq_false_iff]
     intro hr
     exact hk2 (HG.out.1 hr).1
    have HB := Lib.hid hB
    have q1 : (kd == 2) = false := by simpa using hk2
    clear hall HK hB
    go_wp2_with fail
    go_ret
    exact ⟨by first | (rw [HB.out]; done) | (rw [HB.out]; rfl), HX.out⟩
end Go.Proofs.YtfbhchpbflaphaaGreatDoor

namespace Go.Proofs.YtfbhchpbflaphaaGreatDoor
open Go.RowKit Go.Maps Go.ChangeMaps Go.Sort
theorem OwnS.extOwn {a b c : World} {base n : Nat} {v : Value} {l : List C.Bs} (h : Ext a b) (ho : OwnS b base v n l) (hb : a.heap.size <= base) (hg : b.grownBy c v.ownBlock) : Ext a c := h.grown (ho.2.mono hb) hg
theorem has_step {l : List C.Bs} {k : Nat} {x s : ByteArray} (h : ¬ s.data.toList ∈ l.take k) (hk : k < l.length) (hx : l[k]? = some x.data.toList) :
 ((x.toList == s.toList) = true /\ Hid (decide (s.data.toList ∈ l) = true)) ∨ ((x.toList == s.toList) = false /\ Hid (¬ s.data.toList ∈ l.take (k + 1))) := by
 have e : l[k] = x.data.toList := by rw [List.getElem?_eq_getElem hk] at hx; exact Option.some.inj hx
 rw [eq_dec]
 by_cases he : x.data.toList = s.data.toList
 ·exact .inl ⟨decide_eq_true he, decide_eq_true (by rw [<- he, <- e]; exact List.getElem_mem hk)⟩
 ·refine .inr ⟨decide_eq_false he, ?_⟩
  unfold Hid
  rw [List.take_succ_eq_append_getElem hk, List.mem_append, List.mem_singleton, e]
  rintro (h1 | h1)
  ·exact h h1
  ·exact he h1.symm
set_option maxHeartbeats 1000000 in
theorem Has_own (l : List C.Bs) (v : Value) (n base : Nat) (s : ByteArray) (w : World) (h : OwnS w base v n l) (hn2 : n <= 9000000000000000000) :
 Calls Tryz.prog 68 #[v, .string s] w fun e w' => e = .returned (.bool (decide (s.data.toList ∈ l))) /\ w = w' := by
 have HN := Lib.hid h.1
 obtain ⟨A, c, rfl, _, hcs⟩ := h.form
 have HCS := Lib.hid hcs
 obtain ⟨R, hR⟩ : ∃ R, R = decide (s.data.toList ∈ l) := ⟨_, rfl⟩
 rw [<- hR]
 have HR := Lib.hid hR
 have H0 : Hid (¬ s.data.toList ∈ l.take 0) := by unfold Hid; simp
 clear h hcs hR
 go_enter Tryz.func68, Tryz.ntmps68
 go_wp2_with fail
 go_loop [9] (fun i => ∃ k : Nat, k <= n /\ i = .int .i64 k /\ Hid (¬ s.data.toList ∈ l.take k)) (fun i => n - (intOf i).toNat)
 case atStart => exact ⟨0, Nat.zero_le _, rfl, H0⟩
 case round =>
  obtain ⟨k, hk, rfl, HK⟩ := hrel
  by_cases hlt : k < n
  ·have hkz : k < l.length := by rw [<- HN.out]; exact hlt
   obtain ⟨g, off, x, rfl, hg, hc⟩ := HCS.out k hkz
   have c1 := hc w (Ext.refl w)
   have hw := has_step HK.out hkz hg
   clear hc hg
   rcases hw with ⟨e1, H9⟩ | ⟨e1, H9⟩
   ·go_wp2_with fail
    go_ret
    exact ⟨by rw [HR.out, H9.out]; rfl, rfl⟩
   ·go_wp2_with fail
    go_round
    case rel => exact ⟨k + 1, by omega, by go_num, H9⟩
    case measure => simp [intOf]; omega
  ·have HE : Hid (R = false) := by
    unfold Hid
    rw [HR.out]
    have := HK.out
    rw [List.take_of_length_le (by have := HN.out; omega)] at this
    exact decide_eq_false this
   go_wp2_with fail
   go_ret
   exact ⟨by rw [HE.out]; rfl, rfl⟩
end Go.Proofs.YtfbhchpbflaphaaGreatDoor

namespace Go.Proofs.YtfbhchpbflaphaaGreatDoor
open Go.RowKit Go.Maps Go.ChangeMaps
set_option maxRecDepth 8000 in
set_option maxHeartbeats 4000000 in
theorem CheckMembers_any (l : List C.Mem) (A : Option Addr) (c n : Nat) (w : World) (hn : n = l.length) (hA : SliceAt memR w (Old w) A c l) (hz : MemSizes l) :
 Calls Tryz.prog 87 #[.slice A n c] w (Al (.bool (C.memsB okN okP l)) w) := by
 obtain ⟨i0, hi0, hz0, hz1, hz2⟩ := info_parts str_info
 rcases Nat.lt_or_ge 64 n with hbig | hbig
 ·rw [mems_long (by omega)]
  clear hn hA hz
  go_enter Tryz.func87, Tryz.ntmps87
  go_wp2_with fail
  go_ret
  exact ⟨rfl, Ext.refl w⟩
 have HN := Lib.hid hn
 have HA := Lib.hid hA
 have HZ := Lib.hid hz
 have FB := Lib.hid (fun k hk => @mems_bad l k hk)
 have FE := Lib.hid (@mems_end l)
 generalize C.memsB okN okP l = R at FB FE ⊢
 clear hn hA hz
 go_enter Tryz.func87, Tryz.ntmps87
 go_wp2_with fail
 go_loopw [3, 11] (fun v i wr => ∃ k : Nat, k <= n /\ i = .int .i64 k /\ Hid (memTo l k /\ OwnS wr w.heap.size v k ((l.take k).map mnm) /\ Ext w wr)) (fun _ i _ => n - (intOf i).toNat)
 case atStart => exact ⟨0, Nat.zero_le _, rfl, fun _ _ h => absurd h (Nat.not_lt_zero _), OwnS.nil _ _, Ext.refl w⟩
 case round =>
  obtain ⟨k, hk, rfl, HK⟩ := hrel
  by_cases hlt : k < n
  ·have hkz : k < l.length := by rw [<- HN.out]; exact hlt
   obtain ⟨b, off, s, SA, sc, SB, sd, rfl, hB, hgk, hs, hSA, hSB, c0, c1, c2⟩ := mem_getB (HA.out.ext HK.out.2.2) hkz
   have hgi := memGood_iff hkz
   have hfb := FB.out k hkz
   have hon := memTo_succ HK.out.1 hkz
   have htk := mem_take_snoc hkz
   have hzz := HZ.out _ (List.getElem_mem hkz)
   have hmn : mnm l[k] = s.data.toList := by unfold mnm; rw [hgk]
   rw [hgi] at hfb hon
   rw [hmn] at hfb hon htk
   rw [hgk] at hfb hon hzz
   generalize l[k].2 = o at hSA hSB c1 c2 hfb hon hzz
   obtain ⟨sn, hsn⟩ : ∃ x, x = o.1.length := ⟨_, rfl⟩
   obtain ⟨sm, hsm⟩ : ∃ x, x = o.2.length := ⟨_, rfl⟩
   rw [<- hsn] at c1
   rw [<- hsm] at c2
   have HFB := Lib.hid hfb
   have HON := Lib.hid hon
   have HTK := Lib.hid htk
   have E1 : Ext wr (wr.alloc (.cells #[.string s, .slice SA sn sc, .slice SB sm sd] 69)) := (Ext.refl wr).alloc _
   have HPA := Lib.hid (fun W => refPath_any s W (by have := hzz.1; omega))
   have hpe : pathL s.data.toList = okP s := rfl
   rw [hpe] at HPA
   have HCK := Lib.hid (fun W (h : Ext wr W) => rCheck_any o SA SB sc sd sn sm W hsn (hSA.ext h) hsm (hSB.ext h) hzz.2)
   have HX1 := Lib.hid (HK.out.2.2.trans E1)
   have HE1 := Lib.hid E1
   have HO1 := Lib.hid (HK.out.2.1.ext E1)
   have hsz := hzz.1
   obtain ⟨ns, hns⟩ : ∃ x, x = (l.take k).map mnm := ⟨_, rfl⟩
   rw [<- hns] at HO1 HFB HON HTK
   clear hgi hfb hon htk hzz hmn hgk hsn hsm hSA hSB E1 HK hns hpe
   go_wp2_with fail
   refine (HPA.out _).mono ?_
   rintro e w2 ⟨rfl, d2⟩
   have x0 := d2.keepc (cell_new wr #[.string s, .slice SA sn sc, .slice SB sm sd] 69 0)
   have x1 := d2.keepc (cell_new wr #[.string s, .slice SA sn sc, .slice SB sm sd] 69 1)
   have x2 := d2.keepc (cell_new wr #[.string s, .slice SA sn sc, .slice SB sm sd] 69 2)
   have HE2 := Lib.hid (HE1.out.trans d2)
   have HX2 := Lib.hid (HX1.out.trans d2)
   have HO2 := Lib.hid (HO1.out.ext d2)
   clear d2
   rcases Bool.eq_false_or_eq_true (okP s) with hp | hp
   ·rw [hp, show pathErr true = 0 from rfl]
    have HHS := Lib.hid (Has_own ns u3 k w.heap.size s w2 HO2.out (by omega))
    by_cases hin : s.data.toList ∈ ns
    ·have HR := Lib.hid (HFB.out (fun h => h.1 hin))
     rw [decide_eq_true hin] at HHS
     clear hin hp
     go_wp2_with fail
     refine HHS.out.mono ?_
     rintro e w3 ⟨rfl, rfl⟩
     go_wp2_with fail
     go_ret
     exact ⟨by rw [HR.out]; rfl, HX2.out⟩
    ·rw [decide_eq_false hin] at HHS
     have HIN := Lib.hid hin
     clear hin
     go_wp2_with fail
     refine HHS.out.mono ?_
     rintro e w3 ⟨rfl, rfl⟩
     go_wp2_with fail
     refine (HCK.out _ HE2.out).mono ?_
     rintro e w3 ⟨rfl, d3⟩
     have y0 := d3.keepc x0
     have HX3 := Lib.hid (HX2.out.trans d3)
     have HO3 := Lib.hid (HO2.out.ext d3)
     clear d3 x0 x1 x2
     rcases Bool.eq_false_or_eq_true (C.checkB okN o) with hc | hc
     ·rw [hc, show chk true = 0 from rfl]
      have H9 := Lib.hid (HON.out ⟨HIN.out, hp, hc⟩)
      have hown := HO3.out.2
      have hbs := HX3.out.size
      clear hp hc
      go_wp2_with (at_builtin; (refine wpList_append_ownAt _ rfl (.tmp 31) (.tmp 34) 36 rfl w.heap.size 9 i0 (.string ⟨#[]⟩) 1 16 Tryz.underlying36 hi0 hz0 hz1 hz2 rfl (by decide) _ _ _ rfl (hown.alloc _) ⟨w3.heap.size, 0, none⟩ 1 1 ([s.data.toList].map encStr) rfl rfl (cells_new_str _ _ _ rfl) (enc_one _) (by unfold maxLen; omega) (by omega) (by simp; omega) (by decide) ?_); intro v3 w4 hown3 hg3 _ _)
      have HO4 : Hid (OwnS w4 w.heap.size v3 (k + 1) (ns ++ [s.data.toList])) := ⟨by have := HO3.out.1; simp; omega, by rw [List.map_append]; exact hown3⟩
      have HX4 := Lib.hid (OwnS.extOwn (HX3.out.alloc (.cells #[.string s] 9)) (HO3.out.ext ((Ext.refl _).alloc (.cells #[.string s] 9))) (Nat.le_refl _) hg3)
      clear hown3 hg3
      go_roundw
      case rel => exact ⟨k + 1, by omega, by go_num, H9.out, by rw [HTK.out]; exact HO4.out, HX4.out⟩
      case measure => simp [intOf]; omega
     ·rw [hc, show chk false = 1 from rfl]
      have HR := Lib.hid (HFB.out (fun h => by rw [hc] at h; cases h.2.2))
      clear hp hc
      go_wp2_with fail
      go_ret
      exact ⟨by rw [HR.out]; rfl, HX3.out⟩
   ·rw [hp, show pathErr false = 2 from rfl]
    have HR := Lib.hid (HFB.out (fun h => by rw [hp] at h; cases h.2.1))
    clear hp
    go_wp2_with fail
    go_ret
    exact ⟨by rw [HR.out]; rfl, HX2.out⟩
  ·have HE := Lib.hid (FE.out (by have := HK.out.1; rwa [show k = l.length by have := HN.out; omega] at this))
   have HNL : Hid (R = true) := by
    unfold Hid
    rw [HE.out]
    exact decide_eq_true (by have := HN.out; omega)
   clear HE
   go_wp2_with fail
   go_ret
   exact ⟨by rw [HNL.out]; rfl, HK.out.2.2⟩
end Go.Proofs.YtfbhchpbflaphaaGreatDoor

namespace Go.Proofs.YtfbhchpbflaphaaGreatDoor
open Go.RowKit Go.Maps Go.ChangeMaps Go.Sort
theorem OwnS.lt {w : World} {base n : Nat} {v : Value} {l : List C.Bs} (h : OwnS w base v n l) {k : Nat} (hk : v.ownBlock = some k) : base <= k /\ k < w.heap.size := h.2.lt hk
theorem OwnS.tch {X : Nat -> Prop} {w w' : World} {base n : Nat} {v : Value} {l : List C.Bs} (h : OwnS w base v n l) (hg : Tch X w w') (hv : ∀ k, v.ownBlock = some k -> ¬ X k) : OwnS w' base v n l := ⟨h.1, h.2.tch hg hv⟩
theorem OwnS.grown {w0 w w' : World} {base n : Nat} {v : Value} {l : List C.Bs} (h : OwnS w base v n l) (hx : Ext w0 w) (hb : w0.heap.size <= base) (hg : w.grownBy w' v.ownBlock) : Ext w0 w' := by
 refine Below.grown hx hg hx.size fun k hk => ?_
 have := (h.lt hk).1
 omega
theorem OwnS.form2 {w : World} {base n : Nat} {v : Value} {l : List C.Bs} (h : OwnS w base v n l) : ∃ A c, v = .slice A n c /\ n <= c /\ c <= 9223372036854775807 := by
 obtain ⟨_, _, ⟨rfl, h0⟩ | ⟨g, off, cap, cur, rfl, _, _, h1, h2, _⟩⟩ := h
 ·exact ⟨none, 0, by rw [h0], by omega, by decide⟩
 ·exact ⟨_, cap, rfl, h1, h2⟩
theorem sort_any {L : List C.Bs} {base n : Nat} {v : Value} {w : World} (h : OwnS w base v n L) (hl : n <= 100000) :
 Calls Tryz.prog 26 #[v] w fun e w' => e = .returned (.tuple #[]) /\ OwnS w' base v n (L.mergeSort fun x y => decide (x <= y)) /\ w.grownBy w' v.ownBlock := by
 rcases h.2.2 with ⟨rfl, h0⟩ | ⟨g, off, cap, cur, rfl, _⟩
 ·have hn := h.1
  subst h0
  have hL : L = [] := List.eq_nil_of_length_eq_zero hn.symm
  subst hL
  refine (Tryz.slices_Sort_string_none none 0 w).mono ?_
  rintro e w' ⟨rfl, rfl⟩
  exact ⟨rfl, by simpa using h, World.grownBy.refl _ _⟩
 ·exact sort_own L g off cap base n w h hl
theorem compact_any {L : List C.Bs} {base n : Nat} {v : Value} {w : World} (h : OwnS w base v n L) (hl : n <= 100000) :
 Calls Tryz.prog 27 #[v] w fun e w' => ∃ v', e = .returned v' /\ OwnS w' base v' (Lib.compact L).length (Lib.compact L) /\ v'.ownBlock = v.ownBlock /\ w.grownBy w' v.ownBlock := by
 rcases h.2.2 with ⟨rfl, h0⟩ | ⟨g, off, cap, cur, rfl, _⟩
 ·have hn := h.1
  subst h0
  have hL : L = [] := List.eq_nil_of_length_eq_zero hn.symm
  subst hL
  refine (Tryz.slices_Compact_string_empty none 0 w).mono ?_
  rintro e w' ⟨rfl, rfl⟩
  exact ⟨_, rfl, h, rfl, World.grownBy.refl _ _⟩
 ·refine (compact_own L g off cap base n w h hl).mono ?_
  rintro e w' ⟨rfl, h1, h2⟩
  exact ⟨_, rfl, h1, rfl, h2⟩
theorem wpList_append_ownS {ops : Array Oper} {rest : List Oper} {o : Oper} {a : Act} {w : World} {Q : Exit -> Act -> World -> Prop} (hgd : o.guard = none) (s x : Operand)
 (ho : o.op = .call { callee := .builtin .append, args := #[s, x], argTypes := #[36, 36] })
 {base base2 : Nat} {v v2 : Value} {n m : Nat} {l l2 : List C.Bs} (hs : a.eval s = v) (hown : OwnS w base v n l) (hx : a.eval x = v2) (hown2 : OwnS w base2 v2 m l2) (hb : n + m <= 1000000) (hbase : base <= w.heap.size)
 (h : ∀ v' w', OwnS w' base v' (n + m) (l ++ l2) -> w.grownBy w' v.ownBlock -> wpList Tryz.prog ops Q rest (a.put o.dst v') w') :
 wpList Tryz.prog ops Q (o :: rest) a w := by
 obtain ⟨i9, hi9, hz9, hz91, hz92⟩ := info_parts str_info
 by_cases hm0 : m = 0
 ·subst hm0
  have hl2 : l2 = [] := List.eq_nil_of_length_eq_zero hown2.1.symm
  subst hl2
  obtain ⟨B, cp, rfl, _, _⟩ := hown2.form2
  refine wpList_wanted' hgd ?_
  have hsrc : Src Tryz.prog i9.size 36 (.slice B 0 cp) 0 [] w := by
   cases B with
   | none => exact Src.ofNil w Tryz.underlying36 cp
   | some ad => exact Src.ofSlice w Tryz.underlying36 ad 0 cp [] (by simp) (fun j u hj => by simp at hj) (fun u hu => by simp at hu)
  obtain ⟨b, cp2, rfl, hle, _⟩ := hown.form2
  have hr := run_append_nothing (P := Tryz.prog) w 36 36 o.type 9 i9 Tryz.underlying36 hi9 b n cp2 hle _ hsrc
  unfold Oper.wp execOp
  simp only [ho, resolve, invoke, builtin, Sem.run_bind, Sem.run_pure, Result.andThen_ok, List.map_toArray, List.map_cons, List.map_nil, hs, hx, hr]
  exact h _ _ (by rw [List.append_nil]; exact hown) (World.grownBy.refl _ _)
 ·obtain ⟨g, off, cap, rfl, hgb, hgl, hnc, hcm, hcells⟩ := hown2.2.cells (by omega)
  refine wpList_append_ownAt w hgd s x 36 ho base 9 i9 _ 1 16 Tryz.underlying36 hi9 hz9 hz91 hz92 rfl (by decide) v n (l.map encStr) hs hown.2 ⟨g, off, none⟩ m cap (l2.map encStr) hx (by rw [List.length_map, <- hown2.1]; omega) (fun j u hj => by rw [Addr.add_lit]; exact hcells j u hj) (enc_one _) (by unfold maxLen; omega) (by omega) hbase (by omega) ?_
  intro v' w' h2 h3 _ _
  exact h v' w' ⟨by rw [List.length_append, hown.1, hown2.1], by rw [List.map_append]; exact h2⟩ h3
set_option maxRecDepth 8000 in
theorem none59_any (er : Int) (w : World) : Calls Tryz.prog 59 #[.int .i64 er] w (RetNone w er) := by
 obtain ⟨hx, hA, hB, _⟩ := two_cells w
 obtain ⟨W1, hW1⟩ : ∃ W1, W1 = (w.alloc (.cells zrow35 35)).alloc (.cells zrow38 38) := ⟨_, rfl⟩
 rw [<- hW1] at hx hA hB
 obtain ⟨⟨r0, r1, r2, r3, r4, r5, r6, r7⟩, f0, f1, f2, f3, f4, f5, f6, f7⟩ := zcells hA
 obtain ⟨s0, s1, t0, t1⟩ := zcells2 hB
 obtain ⟨hA3, hB3⟩ := zput_rows hA hB
 have HA3 := Lib.hid hA3
 have HB3 := Lib.hid hB3
 have HX := Lib.hid hx
 have HW1 := Lib.hid hW1
 clear hx hW1 hA hB hA3 hB3
 go_enter Tryz.func59, Tryz.ntmps59
 go_upto_region 1 with (fail)
 rw [<- HW1.out]
 go_wp2_with fail
 exact ret_bre rfl rfl rfl rfl HA3.out HB3.out rfl rfl rfl ⟨zput_ext HX.out, rfl⟩
def catE (l : List C.Mem) : List C.Bs := l.flatMap fun m => (expL m.2.1).foldl C.insB []
theorem catE_take {l : List C.Mem} {k : Nat} (hk : k < l.length) : catE (l.take (k + 1)) = catE (l.take k) ++ (expL l[k].2.1).foldl C.insB [] := by
 unfold catE
 rw [List.take_succ_eq_append_getElem hk, List.flatMap_append]
 simp
theorem exports_len (l : List C.Bs) : (l.foldl C.insB []).length <= l.length := by
 rw [<- C.exports_eq]
 have := Lib.compact_length_le (l.mergeSort fun x y => decide (x <= y))
 rwa [List.length_mergeSort] at this
theorem expNames_is (l : List C.Mem) : L.expNames l = (l.flatMap fun m => expL m.2.1).foldl C.insB [] := rfl
theorem catE_names (l : List C.Mem) : Lib.compact ((catE l).mergeSort fun x y => decide (x <= y)) = L.expNames l := by
 rw [C.exports_eq, expNames_is]
 have h1 := C.foldl_ins (catE l) [] List.Pairwise.nil
 have h2 := C.foldl_ins (l.flatMap fun m => expL m.2.1) [] List.Pairwise.nil
 refine C.sorted_eq h1.1 h2.1 fun y => ?_
 rw [h1.2 y, h2.2 y]
 simp only [List.not_mem_nil, false_or]
 unfold catE
 rw [List.mem_flatMap, List.mem_flatMap]
 constructor
 ·rintro ⟨m, hm, hy⟩
  have := (C.foldl_ins (expL m.2.1) [] List.Pairwise.nil).2 y
  exact ⟨m, hm, by simpa using this.1 hy⟩
 ·rintro ⟨m, hm, hy⟩
  have := (C.foldl_ins (expL m.2.1) [] List.Pairwise.nil).2 y
  exact ⟨m, hm, this.2 (by simpa using hy)⟩
theorem expNames_sorted (l : List C.Mem) : (L.expNames l).Pairwise (· < ·) := by
 rw [expNames_is]
 exact (C.foldl_ins (l.flatMap fun m => expL m.2.1) [] List.Pairwise.nil).1
theorem valid_alone (objs : List C.Mem) : L.validB okN okP objs [] [] = C.memsB okN okP objs := by
 unfold L.validB L.distB
 simp
end Go.Proofs.YtfbhchpbflaphaaGreatDoor

namespace Go.Proofs.YtfbhchpbflaphaaGreatDoor
open Go.RowKit Go.Maps Go.ChangeMaps
structure MkAt (w : World) (vo vl pv : Value) (k : Nat) (ns : List C.Bs) (mv : Value) (nk : Nat) (ml : List C.Mem) (wr : World) : Prop where
 ext : Ext w wr
 res : wr.heap[w.heap.size]? = some (.cells #[.slice none 0 0, .slice none 0 0, .slice none 0 0] 109 (0, 0))
 row : wr.heap[w.heap.size + 1]? = some (.cells #[vo, mv, vl] 109 (0, 0))
 own : OwnP memR (Old w) 69 wr (w.heap.size + 2) mv nk ml
 pth : OwnS wr (w.heap.size + 2) pv k ns
 off : ∀ b, mv.ownBlock = some b -> pv.ownBlock ≠ some b
section
variable {w a d W : World} {vo vl pv mv : Value} {k nk : Nat} {ns : List C.Bs} {ml : List C.Mem}
theorem MkAt.ext' (h : MkAt w vo vl pv k ns mv nk ml a) (he : Ext a W) : MkAt w vo vl pv k ns mv nk ml W where
 ext := h.ext.trans he
 res := (he.block _ (hltA h.res)).trans h.res
 row := (he.block _ (hltA h.row)).trans h.row
 own := h.own.ext he fun _ hb => Nat.lt_of_lt_of_le hb h.ext.size
 pth := h.pth.ext he
 off := h.off
theorem MkAt.fresh (h : MkAt w vo vl pv k ns mv nk ml a) : MkAt w vo vl (.slice none 0 0) 0 [] mv nk ml a :=
 ⟨h.ext, h.res, h.row, h.own, OwnS.nil _ _, fun _ _ h => by simp [Value.ownBlock] at h⟩
theorem MkAt.path (h : MkAt w vo vl pv k ns mv nk ml a) {v' : Value} {m : Nat} {ns' : List C.Bs} (ho : OwnS d (w.heap.size + 2) v' m ns') (hg : a.grownBy d pv.ownBlock) (hv : v'.ownBlock = pv.ownBlock ∨ ∃ i, v'.ownBlock = some i /\ a.heap.size <= i /\ i < d.heap.size) :
 MkAt w vo vl v' m ns' mv nk ml d := by
 have hT : Tch (fun i => pv.ownBlock = some i) a d := ⟨hg.os, hg.tape, hg.output, hg.size, fun i hi hx => hg.block i hi fun e => hx e.symm⟩
 have hl := fun b hb => h.pth.2.lt (k := b) hb
 have hm := fun b hb => h.own.lt (k := b) hb
 exact {
  ext := ((h.ext.tch fun _ => False).trans' hT fun i hi e => absurd hi (by have := (hl i e).1; omega)).ext fun _ _ h => h
  res := (hT.block _ (hltA h.res) fun e => by have := (hl _ e).1; omega).trans h.res
  row := (hT.block _ (hltA h.row) fun e => by have := (hl _ e).1; omega).trans h.row
  own := h.own.tch hT (fun b hb e => h.off b hb e) fun b hb => ⟨Nat.lt_of_lt_of_le hb h.ext.size, fun e => by have h1 := (hl _ e).1; have h2 : b < w.heap.size := hb; omega⟩
  pth := ho
  off := fun b hb e => by
   rcases hv with h1 | ⟨i, h1, h2, _⟩
   ·exact h.off b hb (h1.symm.trans e)
   ·rw [h1] at e
    cases e
    have := (hm _ hb).2
    omega }
theorem MkAt.memb (h : MkAt w vo vl pv k ns mv nk ml a) {v' : Value} {m : Nat} {ml' : List C.Mem} (ho : OwnP memR (Old w) 69 d (w.heap.size + 2) v' m ml') (hg : a.grownBy d mv.ownBlock) (hv : v'.ownBlock = mv.ownBlock ∨ ∃ i, v'.ownBlock = some i /\ a.heap.size <= i /\ i < d.heap.size) :
 MkAt w vo vl pv k ns v' m ml' (d.setCell ⟨w.heap.size + 1, 1, none⟩ v') /\ d.cell? ⟨w.heap.size + 1, 1, none⟩ = some mv /\ d.frozen? ⟨w.heap.size + 1, 1, none⟩ = false := by
 have hT : Tch (fun i => mv.ownBlock = some i) a d := ⟨hg.os, hg.tape, hg.output, hg.size, fun i hi hx => hg.block i hi fun e => hx e.symm⟩
 have hS : Tch (fun i => i = w.heap.size + 1) d (d.setCell ⟨w.heap.size + 1, 1, none⟩ v') := grown_tch (grownBy_setCell d ⟨w.heap.size + 1, 1, none⟩ v')
 have hl := fun b hb => h.pth.2.lt (k := b) hb
 have hm := fun b hb => h.own.lt (k := b) hb
 have b1 := (hT.block _ (hltA h.row) fun e => by have := (hm _ e).1; omega).trans h.row
 have b2 := (hT.block _ (hltA h.res) fun e => by have := (hm _ e).1; omega).trans h.res
 refine ⟨?_, cell_of_row d _ 1 _ _ _ b1, Lib.frozen_of_heap b1 1⟩
 exact {
  ext := (((h.ext.tch fun _ => False).trans' hT fun i hi e => absurd hi (by have := (hm i e).1; omega)).trans' hS fun i hi e => absurd hi (by omega)).ext fun _ _ h => h
  res := (hS.block _ (hltA b2) (by omega)).trans b2
  row := heap_setCell_cells b1 1 _
  own := ho.tch hS (fun b hb e => by have := (ho.lt hb).1; omega) fun b hb => ⟨Nat.lt_of_lt_of_le (Nat.lt_of_lt_of_le hb h.ext.size) hg.size, fun e => by have h2 : b < w.heap.size := hb; omega⟩
  pth := (h.pth.tch hT fun b hb e => h.off b e hb).tch hS fun b hb e => by have := (hl b hb).1; omega
  off := fun b hb e => by
   rcases hv with h1 | ⟨i, h1, h2, _⟩
   ·exact h.off b (h1.symm.trans hb) e
   ·rw [h1] at hb
    cases hb
    have := (hl _ e).2
    omega }
end
def shGood (l : List L.Shelf) (i : Nat) (h : i < l.length) : Prop := (¬ nmB l[i].1 ∈ (l.take i).map fun s => nmB s.1) /\ okP l[i].1 = true /\ C.memsB okN okP l[i].2 = true
def lbGood (l : List L.Libr) (i : Nat) (h : i < l.length) : Prop := (¬ nmB l[i].1 ∈ (l.take i).map fun s => nmB s.1) /\ okP l[i].1 = true /\ L.libB okN l[i] = true
theorem dist_all {α : Type} {l : List (ByteArray × α)} : L.distB okP (l.map (·.1)) = true ↔ (∀ i (h : i < l.length), (¬ nmB l[i].1 ∈ (l.take i).map fun s => nmB s.1) /\ okP l[i].1 = true) /\ l.length <= 64 := by
 rw [L.distB_iff]
 have e : ∀ i (h : i < l.length), ((l.take i).map fun s => nmB s.1) = ((l.map (·.1)).take i).map nmB := fun i _ => by rw [<- List.map_take, List.map_map]; rfl
 constructor
 ·rintro ⟨h1, h2, h3⟩
  refine ⟨fun i hi => ⟨?_, h1 _ (List.mem_map.2 ⟨_, List.getElem_mem hi, rfl⟩)⟩, by simpa using h2⟩
  have := dist_nodup.1 h3 i (by simpa using hi)
  rw [e i hi]
  simpa using this
 ·rintro ⟨h1, h2⟩
  refine ⟨fun s hs => ?_, by simpa using h2, dist_nodup.2 fun i hi => ?_⟩
  ·obtain ⟨x, hx, rfl⟩ := List.mem_map.1 hs
   obtain ⟨i, hi, rfl⟩ := List.getElem_of_mem hx
   exact (h1 i hi).2
  ·have hi' : i < l.length := by simpa using hi
   have := (h1 i hi').1
   rw [e i hi'] at this
   simpa using this
theorem valid_make {objs : List C.Mem} {sh : List L.Shelf} {libs : List L.Libr} : L.validB okN okP objs sh libs = true ↔ (sh.length <= 64 /\ libs.length <= 64 /\ C.memsB okN okP objs = true) /\ (∀ i (h : i < sh.length), shGood sh i h) /\ ∀ i (h : i < libs.length), lbGood libs i h := by
 unfold L.validB
 simp only [Bool.and_eq_true, List.all_eq_true]
 rw [dist_all, dist_all]
 constructor
 ·rintro ⟨⟨⟨⟨h1, h2⟩, h3, h4⟩, h5⟩, h6, h7⟩
  exact ⟨⟨h4, h7, h1⟩, fun i hi => ⟨(h3 i hi).1, (h3 i hi).2, h2 _ (List.getElem_mem hi)⟩, fun i hi => ⟨(h6 i hi).1, (h6 i hi).2, h5 _ (List.getElem_mem hi)⟩⟩
 ·rintro ⟨⟨h4, h7, h1⟩, h2, h5⟩
  refine ⟨⟨⟨⟨h1, fun s hs => ?_⟩, fun i hi => ⟨(h2 i hi).1, (h2 i hi).2.1⟩, h4⟩, fun l hl => ?_⟩, fun i hi => ⟨(h5 i hi).1, (h5 i hi).2.1⟩, h7⟩
  ·obtain ⟨i, hi, rfl⟩ := List.getElem_of_mem hs
   exact (h2 i hi).2.2
  ·obtain ⟨i, hi, rfl⟩ := List.getElem_of_mem hl
   exact (h5 i hi).2.2
def RetMk (w : World) (vo vl : Value) (V : Bool) (ml : List C.Mem) (e : Ending) (w' : World) : Prop :=
 Ext w w' /\ ∃ MA mk mc, e = .returned (.tuple #[.agg #[vo, .slice MA mk mc, vl], .bool V]) /\ (V = true -> OwnP memR (Old w) 69 w' (w.heap.size + 2) (.slice MA mk mc) ml.length ml)
theorem size109 : (Tryz.prog.info? 109).map (·.size) = some 3 := by kernel_rfl
theorem results_one {P : Program} {fn : Func} {p u : Tmp} {ty : TypeId} (h : fn.results = #[.cell p ty, .tmp u]) (tmps : Array Value) (w : World) (g : Nat) (t : TypeId) (cs : Array Value) (fr : Nat × Nat) (d : TypeDesc)
 (hp : tmps.getD p undef = .pointer (some ⟨g, 0, none⟩)) (hg : w.heap[g]? = some (.cells cs t fr)) (hu : P.underlying ty = some d) (hd : (match d with | .struct _ | .array _ _ => true | _ => false) = true) (hi : (P.info? ty).map (·.size) = some cs.size) :
 (results fn tmps).run P w = .ok (.tuple #[.agg cs, tmps.getD u undef]) w := by
 have hp' : tmps[p]?.getD undef = .pointer (some ⟨g, 0, none⟩) := by simpa using hp
 simp [results, h, hp', asAddr, run_loadVar_row w g t ty cs fr d hg hu hd hi]
theorem ret_mk {fn : Func} {p u : Tmp} (h : fn.results = #[.cell p 109, .tmp u]) {a : Act} {w wr : World} {vo vl pv mv : Value} {k nk : Nat} {ns : List C.Bs} {ml mm : List C.Mem} {V : Bool} (hm : MkAt w vo vl pv k ns mv nk ml wr) (hp : a.tmps.getD p undef = .pointer (some ⟨w.heap.size, 0, none⟩)) (hu : a.tmps.getD u undef = .bool V) (hd : a.defers = [])
 (hV : V = true -> ml = mm) : bodyPost Tryz.prog fn (RetMk w vo vl V mm) .ret a (((wr.setCell ⟨w.heap.size, 0, none⟩ vo).setCell ⟨w.heap.size, 1, none⟩ mv).setCell ⟨w.heap.size, 2, none⟩ vl) := by
 have hr : (((wr.setCell ⟨w.heap.size, 0, none⟩ vo).setCell ⟨w.heap.size, 1, none⟩ mv).setCell ⟨w.heap.size, 2, none⟩ vl).heap[w.heap.size]? = some (.cells #[vo, mv, vl] 109 (0, 0)) := heap_setCell_cells (heap_setCell_cells (heap_setCell_cells hm.res 0 _) 1 _) 2 _
 have hT : Tch (fun i => i = w.heap.size) wr (((wr.setCell ⟨w.heap.size, 0, none⟩ vo).setCell ⟨w.heap.size, 1, none⟩ mv).setCell ⟨w.heap.size, 2, none⟩ vl) := ((grown_tch (grownBy_setCell wr ⟨w.heap.size, 0, none⟩ _)).trans (grown_tch (grownBy_setCell _ ⟨w.heap.size, 1, none⟩ _))).trans (grown_tch (grownBy_setCell _ ⟨w.heap.size, 2, none⟩ _))
 refine bodyPost_ret (results_one h a.tmps _ w.heap.size 109 #[vo, mv, vl] (0, 0) _ hp hr Tryz.underlying109 rfl size109) hd ?_
 rw [hu]
 obtain ⟨MA, mc, rfl, _, _⟩ := hm.own.form
 refine ⟨((hm.ext.tch fun _ => False).trans' hT fun i hi e => absurd hi (by omega)).ext fun _ _ h => h, MA, nk, mc, rfl, fun hv => ?_⟩
 have h1 := hm.own.tch hT (fun b hb e => by have := (hm.own.lt hb).1; omega) fun b hb => ⟨Nat.lt_of_lt_of_le hb hm.ext.size, fun e => by have h2 : b < w.heap.size := hb; omega⟩
 have h2 := hm.own.1
 subst h2
 rw [<- hV hv]
 exact h1
theorem mk_cells {w wr : World} {vo vl pv mv : Value} {k nk : Nat} {ns : List C.Bs} {ml : List C.Mem} (hm : MkAt w vo vl pv k ns mv nk ml wr) : (wr.cell? ⟨w.heap.size, 0, none⟩ = some (.slice none 0 0) /\ wr.cell? ⟨w.heap.size, 1, none⟩ = some (.slice none 0 0) /\ wr.cell? ⟨w.heap.size, 2, none⟩ = some (.slice none 0 0)) /\
 (wr.frozen? ⟨w.heap.size, 0, none⟩ = false /\ wr.frozen? ⟨w.heap.size, 1, none⟩ = false /\ wr.frozen? ⟨w.heap.size, 2, none⟩ = false) /\ (wr.cell? ⟨w.heap.size + 1, 0, none⟩ = some vo /\ wr.cell? ⟨w.heap.size + 1, 1, none⟩ = some mv /\ wr.cell? ⟨w.heap.size + 1, 2, none⟩ = some vl) :=
 ⟨⟨cell_of_row wr _ 0 _ _ _ hm.res, cell_of_row wr _ 1 _ _ _ hm.res, cell_of_row wr _ 2 _ _ _ hm.res⟩, ⟨Lib.frozen_of_heap hm.res 0, Lib.frozen_of_heap hm.res 1, Lib.frozen_of_heap hm.res 2⟩, cell_of_row wr _ 0 _ _ _ hm.row, cell_of_row wr _ 1 _ _ _ hm.row, cell_of_row wr _ 2 _ _ _ hm.row⟩
end Go.Proofs.YtfbhchpbflaphaaGreatDoor
