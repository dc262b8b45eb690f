/- The texts Lr Hg Hi Lt of the seat, joined. -/
import Derived.Test.YtfbhchpbflaphaaGreatDoorS18
namespace Go.Proofs.YtfbhchpbflaphaaGreatDoor
open Go.RowKit Go.Maps Go.ChangeMaps
theorem Ext.low {w a b : World} {X : Nat -> Prop} (h : Ext w a) (hT : Tch X a b) (hX : ∀ k, X k -> w.heap.size <= k) : Ext w b := by
 have h1 : Tch (fun _ => False) w a := h.tch _
 exact (h1.trans' hT fun i hi e => absurd (hX i e) (by omega)).ext fun _ _ h => h
section
variable {g : Nat} {E : L.Env} {A M D : Option Addr} {a m d : Nat} {w : World} {v : Value}
theorem found_unit {u m0 : Nat} (hc : (m0 = 0 /\ u < E.objs.length) ∨ ∃ i, ∃ _ : i < E.mems.length, m0 = i + 1 /\ u = E.objs.length + i) (hE : EnvOk E) :
 u < E.units.length /\ m0 <= E.mems.length /\ ∃ f0 f1 : Int, (∀ E', foundH E' (.unit u m0) = ((f0, f1, -1, (m0 : Int), 0), 0)) /\
  ∀ (g : Nat) (A M D : Option Addr) (a m d : Nat) (W : World) (v : Value) (st : L.St), RlAt g E A M D a m d W v st -> Calls Tryz.prog 55 #[.agg #[.slice A E.objs.length a, .slice M E.mems.length m, .slice D E.libs.length d], .agg #[.int .i64 f0, .int .i64 f1, .int .i64 (-1), .int .i64 (m0 : Int), .int .i64 0]] W (RetMb (fun k => k < g) W (unitAt E u)) := by
 have hlens := hE.lens
 have hul : E.units.length = E.objs.length + E.mems.length := by unfold L.Env.units; simp
 rcases hc with ⟨rfl, ho⟩ | ⟨i, hi, rfl, rfl⟩
 ·refine ⟨by omega, Nat.zero_le _, (u : Int), -1, fun _ => rfl, fun g A M D a m d W v st h => ?_⟩
  have he : unitAt E u = E.objs[u] := by
   rw [unitAt_is (by omega)]
   unfold L.Env.units
   exact List.getElem_append_left ho
  rw [he]
  exact member_obj E.objs A a _ u _ _ (-1) (-1) 0 0 W rfl _ (fun k hk => Nat.lt_trans hk h.lt) h.objs ho (by omega) ⟨_, _, _, rfl⟩ ⟨_, _, _, rfl⟩
 ·refine ⟨by omega, hi, -1, (i : Int), fun _ => ?_, fun g A M D a m d W v st h => ?_⟩
  ·simp only [foundH]
   rw [if_neg (by omega), Nat.add_sub_cancel]
  ·have he : unitAt E (E.objs.length + i) = E.mems[i] := by
    rw [unitAt_is (by omega)]
    unfold L.Env.units
    rw [List.getElem_append_right (by omega)]
    congr 1
    omega
   rw [he]
   exact member_mem E.mems M m _ i _ _ (-1) ((i + 1 : Nat) : Int) 0 W rfl _ (fun k hk => Nat.lt_trans hk h.lt) h.mems hi (by omega) ⟨_, _, _, rfl⟩ ⟨_, _, _, rfl⟩
theorem RlAt.new (hA : SliceAt memR w (Old w) A a E.objs) (hM : SliceAt memR w (Old w) M m E.mems) (hD : SliceAt librR w (Old w) D d E.libs) :
 RlAt w.heap.size E A M D a m d (w.alloc (.cells #[.slice A E.objs.length a, .slice M E.mems.length m, .slice D E.libs.length d, .slice none 0 0, .int .i64 0, .int .i64 0] 115)) (.slice none 0 0) ([], 0, 0) where
 row := heap_alloc_new w _
 objs := hA.keep (fun _ h => h) fun k hk => ((Ext.refl w).alloc _).block k hk
 mems := hM.keep (fun _ h => h) fun k hk => ((Ext.refl w).alloc _).block k hk
 libs := hD.keep (fun _ h => h) fun k hk => ((Ext.refl w).alloc _).block k hk
 list := ⟨rfl, [], OwnAt.nil _ _ _ _, rfl⟩
theorem RlAt.one {n : Nat × Nat} (h : RlAt g E A M D a m d w (.slice none 0 0) ([], n)) (p : L.Spot) {SA SB : Option Addr} {sc sd : Nat} (hSA : SliceAt symR w (fun k => k < g) SA sc (unitAt E p.1).2.1) (hSB : SliceAt secR w (fun k => k < g) SB sd (unitAt E p.1).2.2) (hs : (unitAt E p.1).1.size <= 9223372036854775807) (hx : p.2.size <= 9223372036854775807) {W : World}
 (hW : W = w.alloc (.cells (spotV (unitAt E p.1).1 SA (unitAt E p.1).2.1.length sc SB (unitAt E p.1).2.2.length sd p.2) 123)) :
 RlAt g E A M D a m d (W.setCell ⟨g, 3, none⟩ (.slice (some ⟨w.heap.size, 0, none⟩) 1 1)) (.slice (some ⟨w.heap.size, 0, none⟩) 1 1) ([p], n) /\ Tch (fun k => k = g) w (W.setCell ⟨g, 3, none⟩ (.slice (some ⟨w.heap.size, 0, none⟩) 1 1)) /\ W.cell? ⟨g, 3, none⟩ = some (.slice none 0 0) /\ W.frozen? ⟨g, 3, none⟩ = false := by
 have hx1 : Ext w W := by rw [hW]; exact (Ext.refl w).alloc _
 have hlt := h.lt
 have hb : W.heap[w.heap.size]? = some (.cells (spotV (unitAt E p.1).1 SA (unitAt E p.1).2.1.length sc SB (unitAt E p.1).2.2.length sd p.2) 123 (0, 0)) := by rw [hW]; exact heap_alloc_new w _
 have hsp := spotM_is (E := E) (w := W) (B := fun k => k < g) (p := p) (hSA.keep (fun _ h => h) fun k hk => hx1.block k (Nat.lt_trans hk hlt)) (hSB.keep (fun _ h => h) fun k hk => hx1.block k (Nat.lt_trans hk hlt)) hs hx
 have ho : OwnP spotR (fun k => k < g) 123 W (g + 1) (.slice (some ⟨w.heap.size, 0, none⟩) 1 1) (([] : List L.Spot).length + 1) (spots E [] ++ [spotM E p]) :=
  ⟨rfl, _, ⟨rfl, .inr ⟨w.heap.size, 0, 1, _, rfl, hlt, hb, Nat.le_refl _, by omega, by show 0 + 1 * 4 <= 4; omega, fun j hj => by rw [Nat.zero_add]; exact (List.getElem?_toArray ..)⟩⟩, Flat.one hsp⟩
 have hg : w.grownBy W (Value.slice none 0 0).ownBlock := ⟨hx1.os, hx1.tape, hx1.output, hx1.size, fun k hk _ => hx1.block k hk⟩
 obtain ⟨h1, h2, h3, h4⟩ := h.pushed ho hg
 have h5 : Tch (fun k => k = g) w (W.setCell ⟨g, 3, none⟩ (.slice (some ⟨w.heap.size, 0, none⟩) 1 1)) := h2.mono fun k _ hk => by
  rcases hk with e | e
  ·exact e
  ·cases e
 exact ⟨h1, h5, h3, h4⟩
theorem fin_hyps (hE : EnvOk E) {st st' : L.St} (hs : L.selF E 129 0 st = .ok st') (hL : L.ListOk E st.1) : GoodTo E st'.1 st'.1.length /\ NotedTo E st'.1 st'.2 st'.1.length :=
 ⟨selF_good hE.units hs (by omega) (Nat.zero_le _) hL fun i _ hi => absurd hi (Nat.not_lt_zero _), selF_noted hE.units hs (by omega) (Nat.zero_le _) hL fun i _ hi => absurd hi (Nat.not_lt_zero _)⟩
end
end Go.Proofs.YtfbhchpbflaphaaGreatDoor

namespace Go.Proofs.YtfbhchpbflaphaaGreatDoor
open Go.RowKit Go.Maps Go.ChangeMaps
def expC (y : L.Expd) : List Value := [.string y.1, .int .i64 y.2]
theorem expC_one (y : L.Expd) : ∀ u ∈ expC y, u.oneCell' = true := by
 intro u hu
 simp only [expC, List.mem_cons, List.not_mem_nil, or_false] at hu
 rcases hu with rfl | rfl <;> rfl
theorem info74 : (Tryz.prog.info? 74).map (fun i => (i.zero, i.size, i.bytes)) = some (some (.agg #[.string ⟨#[]⟩, .int .i64 0]), 2, 24) := by kernel_rfl
def mkN (b : C.Bs) : ByteArray := ⟨b.toArray⟩
theorem mkN_inj {a b : C.Bs} (h : mkN a = mkN b) : a = b := by
 have := congrArg (fun s : ByteArray => s.data.toList) h
 simpa [mkN] using this
def namesE (objs : List C.Mem) : List ByteArray := (L.expNames objs).map mkN
theorem namesE_len (objs : List C.Mem) : (namesE objs).length = (L.expNames objs).length := by unfold namesE; rw [List.length_map]
theorem namesE_new {objs : List C.Mem} {k : Nat} (hk : k < (namesE objs).length) : (namesE objs)[k] ∉ (namesE objs).take k := by
 intro hm
 obtain ⟨i, hi, e⟩ := List.mem_iff_getElem.1 hm
 rw [List.getElem_take] at e
 have hik : i < k := by rw [List.length_take] at hi; omega
 have hs := expNames_sorted objs
 rw [List.pairwise_iff_getElem] at hs
 rw [namesE_len] at hk
 have h1 := hs i k (by omega) hk hik
 have e2 : mkN (L.expNames objs)[i] = mkN (L.expNames objs)[k] := by simpa [namesE] using e
 rw [mkN_inj e2] at h1
 exact List.lt_irrefl _ h1
theorem namesE_size {objs : List C.Mem} (h : MemSizes objs) : ∀ y ∈ namesE objs, y.size <= 9000000 := by
 intro y hy
 obtain ⟨b, hb, rfl⟩ := List.mem_map.1 hy
 rw [expNames_is] at hb
 have h1 := (C.foldl_ins (objs.flatMap fun m => expL m.2.1) [] List.Pairwise.nil).2 b
 have h2 := h1.1 hb
 simp only [List.not_mem_nil, false_or] at h2
 obtain ⟨m, hm, h3⟩ := List.mem_flatMap.1 h2
 unfold expL at h3
 obtain ⟨s, hs, rfl⟩ := List.mem_map.1 h3
 have := (h m hm).2 s (List.mem_filter.1 hs).1
 have e : mkN (C.nm s) = s.1 := by
  show (⟨s.1.data.toList.toArray⟩ : ByteArray) = s.1
  rw [Array.toArray_toList]
 rw [e]
 exact this
theorem starts_at {E : L.Env} {ns : List ByteArray} {k : Nat} (hk : k < ns.length) (st : L.St) : L.starts E (ns.drop k) st = match L.hit E ns[k] with
 | .unit u m => match L.addS (L.note st (m, 0)) (u, ns[k]) with
  | .error e => .error e
  | .ok st' => L.starts E (ns.drop (k + 1)) st'
 | .twice => .error 6
 | _ => .error 8 := by
 rw [List.drop_eq_getElem_cons hk]
 rfl
theorem addS_new {st : L.St} {u m : Nat} {x : ByteArray} (hx : x ∉ st.1.map (·.2)) : L.addS (L.note st (m, 0)) (u, x) = if 128 <= st.1.length then .error 10 else .ok (st.1 ++ [(u, x)], max st.2.1 m, max st.2.2 0) := by
 have hn : L.has st.1 (u, x) = false := by
  rw [Bool.eq_false_iff]
  intro h
  exact hx (List.mem_map.2 ⟨_, L.has_iff.1 h, rfl⟩)
 unfold L.addS L.note
 simp only [hn]
 rfl
theorem new_spot {st : L.St} {u : Nat} {x : ByteArray} (hx : x ∉ st.1.map (·.2)) : (u, x) ∉ st.1 := fun h => hx (List.mem_map.2 ⟨_, h, rfl⟩)
def exL (E : L.Env) (l : List L.Spot) (ns : List ByteArray) : List L.Expd := (ns.zip (E.atL l)).map fun q => (q.1, (q.2 : Int))
theorem exL_len {E : L.Env} {l : List L.Spot} {ns : List ByteArray} (h : ns.length <= l.length) : (exL E l ns).length = ns.length := by
 have : (E.atL l).length = l.length := by unfold L.Env.atL; rw [L.ats_len]; unfold L.Env.sizes; simp
 unfold exL
 rw [List.length_map, List.length_zip]
 omega
theorem exL_get {E : L.Env} {l : List L.Spot} {ns : List ByteArray} {k : Nat} (hk : k < ns.length) (h : k < l.length) : (exL E l ns)[k]? = some (ns[k], ((L.up (L.fin ((E.sizes l).take k) 0) : Nat) : Int)) := by
 have hz : (ns.zip (E.atL l))[k]? = some (ns[k], L.up (L.fin ((E.sizes l).take k) 0)) := by
  rw [List.getElem?_zip_eq_some]
  exact ⟨List.getElem?_eq_getElem hk, at_get h⟩
 unfold exL
 rw [List.getElem?_map, hz]
 rfl
theorem exL_take {E : L.Env} {l : List L.Spot} {ns : List ByteArray} {k : Nat} (hk : k < ns.length) (h : ns.length <= l.length) : (exL E l ns).take (k + 1) = (exL E l ns).take k ++ [(ns[k], ((L.up (L.fin ((E.sizes l).take k) 0) : Nat) : Int))] := by
 have hk2 : k < (exL E l ns).length := by rw [exL_len h]; exact hk
 rw [List.take_succ_eq_append_getElem hk2]
 have := exL_get (E := E) (l := l) hk (by omega)
 rw [List.getElem?_eq_getElem hk2] at this
 rw [Option.some.inj this]
theorem catE_len {l : List C.Mem} (h : ∀ m ∈ l, m.2.1.length <= 128) : (catE l).length <= l.length * 128 :=
 length_flatMap_le fun m hm => Nat.le_trans (exports_len _) (Nat.le_trans (expL_len _) (h m hm))
theorem BinV.share {w W : World} {B B' : Nat -> Prop} {E : L.Env} {l : List L.Spot} {vs : List Value} (h : BinV w B (E.bin l 0 0 []) vs) (hB : ∀ k, B k -> B' k) (hw : ∀ k, B k -> W.heap[k]? = w.heap[k]?) {A : Option Addr} {c : Nat} {ex : List L.Expd} (hA : SliceAt expR W B' A c ex) :
 BinV W B' (E.bin l 2 (-1) ex) (((vs.set 0 (.int .i64 2)).set 1 (.int .i64 (-1))).set 6 (.slice A ex.length c)) := by
 obtain ⟨A1, c1, A2, c2, A3, c3, A4, c4, A5, c5, rfl, h1, h2, h3, h4, h5, _, _, k3⟩ := h.form
 exact ⟨⟨A1, c1, A2, c2, A3, c3, A, c, A5, c5, rfl, h1.keep hB hw, h2.keep hB hw, h3.keep hB hw, hA, h5.keep hB hw, (by decide : (Lit.int .i64 2).wf = true), (by decide : (Lit.int .i64 (-1)).wf = true), k3⟩⟩
end Go.Proofs.YtfbhchpbflaphaaGreatDoor

namespace Go.Proofs.YtfbhchpbflaphaaGreatDoor
open Go.RowKit Go.Maps Go.ChangeMaps
theorem finish_ok {E : L.Env} (hU : L.UnitsOk okN E) {st sf : L.St} (h : L.finish E st = .ok sf) (hL : L.ListOk E st.1) : L.ListOk E sf.1 /\ st.1 <+: sf.1 /\ L.selF E 129 0 st = .ok sf /\ L.fin (E.sizes sf.1) 0 <= 65536 := by
 unfold L.finish at h
 split at h
 ·cases h
 ·rename_i s hs
  split at h
  ·cases h
  ·rename_i hf
   cases h
   obtain ⟨h1, h2, _⟩ := L.selF_ok hU hs (by omega) (Nat.zero_le _) hL fun i _ hi => absurd hi (Nat.not_lt_zero _)
   exact ⟨h1, h2, hs, by omega⟩
theorem set_same {α : Type} {l : List α} {i : Nat} {x : α} (h : l[i]? = some x) : l.set i x = l := by
 apply List.ext_getElem?
 intro j
 rw [List.getElem?_set]
 by_cases e : i = j
 ·subst e
  rw [if_pos rfl, h]
  have := (List.getElem?_eq_some_iff.1 h).1
  simp [this]
 ·rw [if_neg e]
theorem plc_at {w : World} {B : Nat -> Prop} {A : Option Addr} {c k : Nat} {l : List L.Plc} (h : SliceAt plcR w B A c l) (hk : k < l.length) : ∃ b off, A = some ⟨b, off, none⟩ /\ B b /\ w.cell? ⟨b, off + k * 5 + 3, none⟩ = some (.int .i64 l[k].2.2.2.1) := by
 obtain ⟨b, off, rfl, hb, hr⟩ := h.2.2 (by intro h; rw [h] at hk; simp at hk)
 obtain ⟨us, ⟨x1, y1, rfl, ⟨rfl, _⟩, x2, y2, rfl, ⟨rfl, _⟩, x3, y3, rfl, ⟨rfl, _⟩, x4, y4, rfl, ⟨rfl, _⟩, h5⟩, hc⟩ := hr k hk
 exact ⟨b, off, rfl, hb, hc 3 _ rfl⟩
theorem at_le {E : L.Env} (hE : EnvOk E) {l : List L.Spot} (h : L.ListOk E l) {k : Nat} (hk : k < l.length) : L.up (L.fin ((E.sizes l).take k) 0) <= 2000000 := by
 have hz : (l.zip (E.atL l))[k]? = some (l[k], L.up (L.fin ((E.sizes l).take k) 0)) := by
  rw [List.getElem?_zip_eq_some]
  exact ⟨List.getElem?_eq_getElem hk, at_get hk⟩
 exact (at_small hE h (List.mem_of_getElem? hz)).2
theorem exp_is {E : L.Env} (hE : EnvOk E) {l : List L.Spot} (h : L.ListOk E l) {ns : List ByteArray} (hn : ns.length <= l.length) (hs : ∀ y ∈ ns, y.size <= 9223372036854775807) {w : World} {B : Nat -> Prop} : ∀ a ∈ exL E l ns, expR.is w B a (expC a) := by
 intro a ha
 obtain ⟨i, hi, rfl⟩ := List.mem_iff_getElem.1 ha
 rw [exL_len hn] at hi
 have h1 := exL_get (E := E) (l := l) hi (by omega)
 rw [List.getElem?_eq_getElem (by rw [exL_len hn]; exact hi)] at h1
 rw [Option.some.inj h1]
 have h2 := at_le hE h (k := i) (by omega)
 exact ⟨_, _, rfl, ⟨rfl, hs _ (List.getElem_mem hi)⟩, rfl, wf_nat (by omega)⟩
structure ExAt (W1 : World) (tb : Nat) (v1 : List Value) (ex : List L.Expd) (j : Nat) (vE : Value) (wr : World) : Prop where
 tch : Tch (fun i => i = tb) W1 wr
 row : wr.heap[tb]? = some (.cells (Array.mk (v1.set 6 vE)) 35 (0, 0))
 own : OwnL expC 74 2 wr W1.heap.size vE j (ex.take j)
 low : tb < W1.heap.size
theorem ExAt.pushed {W1 a d : World} {tb j m : Nat} {v1 : List Value} {ex : List L.Expd} {vE v' : Value} (h : ExAt W1 tb v1 ex j vE a) (h8 : v1.length = 8) (ho : OwnL expC 74 2 d W1.heap.size v' m (ex.take m)) (hg : Tch (fun i => vE.ownBlock = some i) a d) :
 ExAt W1 tb v1 ex m v' (d.setCell ⟨tb, 6, none⟩ v') /\ d.cell? ⟨tb, 6, none⟩ = some vE /\ d.frozen? ⟨tb, 6, none⟩ = false := by
 have hl := fun b hb => h.own.lt (k := b) hb
 have hlo := h.low
 have b1 := (hg.block _ (hltA h.row) fun e => by have := (hl _ e).1; omega).trans h.row
 have hS : Tch (fun i => i = tb) d (d.setCell ⟨tb, 6, none⟩ v') := grown_tch (grownBy_setCell d ⟨tb, 6, none⟩ v')
 refine ⟨?_, ?_, Lib.frozen_of_heap b1 6⟩
 ·exact {
   tch := (h.tch.trans' hg fun i hi e => absurd hi (by have := (hl i e).1; omega)).trans hS
   row := by
    have := heap_setCell_cells b1 6 v'
    rw [this]
    simp
   own := ho.tch hS fun b hb e => by have := (ho.lt hb).1; omega
   low := hlo }
 ·have := cell_of_row d _ 6 _ _ _ b1
  rw [this]
  rw [<- Array.getElem?_toList]
  exact List.getElem?_set_self (by omega)
theorem flat_ints : ∀ l : List Int, l.flatMap intC = l.map fun n => Value.int .i64 n
 | [] => rfl
 | x :: l => by rw [List.flatMap_cons, List.map_cons, flat_ints l]; rfl
end Go.Proofs.YtfbhchpbflaphaaGreatDoor

namespace Go.Proofs.YtfbhchpbflaphaaGreatDoor
open Go.RowKit Go.Maps Go.ChangeMaps
def namesTo (l : List C.Mem) : List C.Bs := (catE l).foldl C.insB []
theorem namesTo_all (l : List C.Mem) : namesTo l = L.expNames l := by unfold namesTo; rw [<- C.exports_eq, catE_names]
theorem namesTo_step {l : List C.Mem} {k : Nat} (hk : k < l.length) : ((expL l[k].2.1).foldl C.insB []).foldl C.insB (namesTo (l.take k)) = namesTo (l.take (k + 1)) := by
 unfold namesTo
 rw [catE_take hk, List.foldl_append]
theorem namesTo_part (l : List C.Mem) (LX : List C.Bs) (j : Nat) : ((LX.take j).foldl C.insB (namesTo l)).length <= (catE l).length + LX.length := by
 have h : (LX.take j).foldl C.insB (namesTo l) = (catE l ++ LX.take j).foldl C.insB [] := by unfold namesTo; rw [List.foldl_append]
 rw [h]
 have h1 := exports_len (catE l ++ LX.take j)
 rw [List.length_append, List.length_take] at h1
 omega
theorem fold_take {LX : List C.Bs} {j : Nat} (hj : j < LX.length) (a : List C.Bs) : C.insB ((LX.take j).foldl C.insB a) LX[j] = (LX.take (j + 1)).foldl C.insB a := by
 rw [List.take_succ_eq_append_getElem hj, List.foldl_append]
 rfl
theorem pos_nodup {l : List L.Spot} (hn : l.Nodup) {i : Nat} (hi : i < l.length) : L.pos l l[i] = i := by
 have hm : l[i] ∈ l := List.getElem_mem hi
 have h1 := pos_lt hm
 have h2 := pos_get hm
 rw [List.nodup_iff_pairwise_ne, List.pairwise_iff_getElem] at hn
 rcases Nat.lt_trichotomy (L.pos l l[i]) i with k | k | k
 ·exact absurd h2 (hn _ _ h1 hi k)
 ·exact k
 ·exact absurd h2.symm (hn _ _ hi h1 k)
theorem at_nodup {E : L.Env} {l : List L.Spot} (hn : l.Nodup) {i : Nat} (hi : i < l.length) : E.at l l[i] = L.up (L.fin ((E.sizes l).take i) 0) := by
 unfold L.Env.at
 rw [pos_nodup hn hi, List.getD_eq_getElem?_getD, at_get hi]
 rfl
structure SfAt (w4 : World) (g : Nat) (E : L.Env) (A MA : Option Addr) (a mc : Nat) (RS : Except Int L.St) (ns : List ByteArray) (k : Nat) (st : L.St) (v : Value) (wr : World) : Prop where
 rest : RS = L.starts E (ns.drop k) st
 names : st.1.map (·.2) = ns.take k
 ok : L.ListOk E st.1
 two : st.2 = (0, 0)
 link : RlAt g E A MA none a mc 0 wr v st
 ext : Ext w4 wr
theorem SfAt.ext' {w4 : World} {g : Nat} {E : L.Env} {A MA : Option Addr} {a mc : Nat} {RS : Except Int L.St} {ns : List ByteArray} {k : Nat} {st : L.St} {v : Value} {wr W : World} (h : SfAt w4 g E A MA a mc RS ns k st v wr) (he : Ext wr W) : SfAt w4 g E A MA a mc RS ns k st v W :=
 ⟨h.rest, h.names, h.ok, h.two, h.link.ext he, h.ext.trans he⟩
theorem CoAt.first {g : Nat} {E : L.Env} {A M D : Option Addr} {a m d : Nat} {w wr : World} {v vj : Value} {st sj : L.St} (h : CoAt g E A M D a m d w v wr vj sj) (hl : RlAt g E A M D a m d w v st) {i : Nat} (hi : i < st.1.length) :
 ∃ b off cap SA sc SB sd, v = .slice (some ⟨b, off, none⟩) st.1.length cap /\ g < b /\ b < w.heap.size /\
  (wr.cell? ⟨b, off + i * 4, none⟩ = some (.string (unitAt E st.1[i].1).1) /\ wr.cell? ⟨b, off + i * 4 + 1, none⟩ = some (.slice SA (unitAt E st.1[i].1).2.1.length sc) /\ wr.cell? ⟨b, off + i * 4 + 1 + 1, none⟩ = some (.slice SB (unitAt E st.1[i].1).2.2.length sd) /\ wr.cell? ⟨b, off + i * 4 + 3, none⟩ = some (.string st.1[i].2)) := by
 have hso : i < (spots E st.1).length := by rw [spots_len]; exact hi
 obtain ⟨bl, ol, cap, SA, sc, SB, sd, hve, hbl, hz1, hz2, hSA, hSB, m0, m1, m2, m3⟩ := own_spot hl.list hso
 have hge : (spots E st.1)[i] = (unitAt E st.1[i].1, st.1[i].2) := spots_get E hi
 rw [hge] at m0 m1 m2 m3
 have hlo := h.low bl (by rw [hve]; rfl)
 have hk := h.kept.cells bl ol st.1.length cap hve
 have h4 : i * 4 + 3 < st.1.length * 4 := by omega
 refine ⟨bl, ol, cap, SA, sc, SB, sd, hve, hlo.1, hlo.2, hk _ _ (show i * 4 < st.1.length * 4 by omega) m0, ?_, ?_, hk _ _ (show i * 4 + 3 < st.1.length * 4 from h4) m3⟩
 ·have := hk (i * 4 + 1) _ (show i * 4 + 1 < st.1.length * 4 by omega) m1
  exact this
 ·have := hk (i * 4 + 1 + 1) _ (show i * 4 + 1 + 1 < st.1.length * 4 by omega) m2
  exact this
theorem BinV.share2 {w W : World} {B B' : Nat -> Prop} {E : L.Env} {l : List L.Spot} {vs : List Value} (h : BinV w B (E.bin l 2 0 []) vs) (hB : ∀ k, B k -> B' k) (hw : ∀ k, B k -> W.heap[k]? = w.heap[k]?) {A : Option Addr} {c : Nat} {ex : List L.Expd} (hA : SliceAt expR W B' A c ex) :
 BinV W B' (E.bin l 2 (-1) ex) ((vs.set 1 (.int .i64 (-1))).set 6 (.slice A ex.length c)) := by
 obtain ⟨A1, c1, A2, c2, A3, c3, A4, c4, A5, c5, rfl, h1, h2, h3, h4, h5, k1, _, k3⟩ := h.form
 exact ⟨⟨A1, c1, A2, c2, A3, c3, A, c, A5, c5, rfl, h1.keep hB hw, h2.keep hB hw, h3.keep hB hw, hA, h5.keep hB hw, k1, (by decide : (Lit.int .i64 (-1)).wf = true), k3⟩⟩
end Go.Proofs.YtfbhchpbflaphaaGreatDoor
