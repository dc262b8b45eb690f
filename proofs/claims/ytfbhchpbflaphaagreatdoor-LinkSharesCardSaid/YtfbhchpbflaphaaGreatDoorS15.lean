/- The texts Lb Lc Owt Ld Le of the seat, joined. -/
import Derived.Test.YtfbhchpbflaphaaGreatDoorS14
namespace Go.Proofs.YtfbhchpbflaphaaGreatDoor
open Go.RowKit Go.Maps Go.ChangeMaps
set_option maxRecDepth 8000 in
set_option maxHeartbeats 2000000 in
theorem section_rf (E : L.Env) (hE : EnvOk E) (p : L.Spot) (c : C.Sec) (hc : E.sec? p = some c) (w : World) (B : Nat -> Prop) (hBw : ∀ k, B k -> k < w.heap.size) (SA SB : Option Addr) (sc sd : Nat)
 (hSA : SliceAt symR w B SA sc (unitAt E p.1).2.1) (hSB : SliceAt secR w B SB sd (unitAt E p.1).2.2) (s : ByteArray) (hp : p.2.size <= 9223372036854775807) :
 Calls Tryz.prog 56 #[.agg #[.string s, .slice SA (unitAt E p.1).2.1.length sc, .slice SB (unitAt E p.1).2.2.length sd, .string p.2]] w (RetSec w B c) := by
 obtain ⟨m, sy, hm, hsy, hs0, hs1, hs2⟩ := L.sec_parts hc
 obtain ⟨hu, rfl⟩ := List.getElem?_eq_some_iff.1 hm
 rw [unitAt_is hu] at hSA hSB ⊢
 have hsl := hE.syms _ (List.getElem_mem hu)
 obtain ⟨sb, so, RA, rc, rfl, hRA, z0, z1, z2⟩ := sec_getB hSB hs1
 rw [hs2] at hRA z0 z1 z2
 obtain ⟨nm, md, ss, bb, hfv, g1, g2, hd3, hd4⟩ := find_form E.units[p.1].2 p.2
 obtain ⟨hmd, hss⟩ := hd3 _ hsy
 clear hmd
 obtain ⟨sq, hsq⟩ : ∃ q : Nat, sy.2.2 = (q : Int) := ⟨sy.2.2.toNat, by omega⟩
 rw [hsq] at z0 z1 z2 hs1 hss
 rw [Int.toNat_natCast] at z0 z1 z2 hs1
 subst hss
 obtain ⟨sn, hsn⟩ : ∃ q, q = E.units[p.1].2.1.length := ⟨_, rfl⟩
 obtain ⟨sm, hsm⟩ : ∃ q, q = E.units[p.1].2.2.length := ⟨_, rfl⟩
 have hsqm : sq < sm := by rw [hsm]; exact hs1
 have HFIND := Lib.hid (fun W (hW : Ext w W) => rFind_any E.units[p.1].2.1 SA (some ⟨sb, so, none⟩) sc sd sn sm p.2 W hsn ((hSA.keep hBw fun _ _ => rfl : SliceAt symR w (Old w) SA sc _).ext hW) (by omega) hp)
 rw [hfv] at HFIND
 rw [<- hsn, <- hsm]
 have HRA := Lib.hid hRA
 obtain ⟨ck, cd, cr⟩ := c
 simp only at z0 z1 z2 HRA
 obtain ⟨rn, hrn⟩ : ∃ rn, rn = cr.length := ⟨_, rfl⟩
 rw [<- hrn] at z2
 have HRN := Lib.hid hrn
 generalize p.2 = px at *
 obtain ⟨W1, hW1⟩ : ∃ W1, W1 = (w.alloc (.cells #[.string s, .slice SA sn sc, .slice (some ⟨sb, so, none⟩) sm sd, .string px] 123)).alloc (.cells #[.int .i64 0, .string ⟨#[]⟩, .slice none 0 0] 67) := ⟨_, rfl⟩
 have hsz : (w.alloc (.cells #[.string s, .slice SA sn sc, .slice (some ⟨sb, so, none⟩) sm sd, .string px] 123)).heap.size = w.heap.size + 1 := by simp
 have E1 : Ext w W1 := by rw [hW1]; exact ((Ext.refl w).alloc _).alloc _
 have hb1 : W1.heap[w.heap.size]? = some (.cells #[.string s, .slice SA sn sc, .slice (some ⟨sb, so, none⟩) sm sd, .string px] 123 (0, 0)) := by rw [hW1]; exact (((Ext.refl (w.alloc _)).alloc _).block _ (by simp)).trans (heap_alloc_new w _)
 have hb2 : W1.heap[w.heap.size + 1]? = some (.cells #[.int .i64 0, .string ⟨#[]⟩, .slice none 0 0] 67 (0, 0)) := by rw [hW1, <- hsz]; exact heap_alloc_new _ _
 have t1 : W1.cell? ⟨w.heap.size, 1, none⟩ = _ := cell_of_row W1 _ 1 _ _ _ hb1
 have t2 : W1.cell? ⟨w.heap.size, 2, none⟩ = _ := cell_of_row W1 _ 2 _ _ _ hb1
 have t3 : W1.cell? ⟨w.heap.size, 3, none⟩ = _ := cell_of_row W1 _ 3 _ _ _ hb1
 have q0 := E1.keepc z0
 have q1 := E1.keepc z1
 have q2 := E1.keepc z2
 have HW1 := Lib.hid hW1
 have HE1 := Lib.hid E1
 have HB1 := Lib.hid hb1
 have HB2 := Lib.hid hb2
 clear hs1
 clear hm hsy hs0 hs2 hs1 hd3 hd4 g1 g2 hfv hsq hsn hsm hrn hRA hSA hSB hc hu hsl hBw hp hW1 hsz E1 hb1 hb2 z0 z1 z2 hE
 go_enter Tryz.func56, Tryz.ntmps56
 go_upto_region 1 with (fail)
 rw [<- HW1.out]
 go_wp2_with fail
 refine (HFIND.out _ HE1.out).mono ?_
 rintro e w2 ⟨rfl, d2⟩
 obtain ⟨W3, hW3⟩ : ∃ W3, W3 = w2.alloc (.cells #[.string nm, .int .i64 md, .int .i64 (sq : Int)] 60) := ⟨_, rfl⟩
 obtain ⟨fb, hfb⟩ : ∃ fb, fb = w2.heap.size := ⟨_, rfl⟩
 have E3 : Ext W1 W3 := by rw [hW3]; exact d2.alloc _
 have hb3 : W3.heap[fb]? = some (.cells #[.string nm, .int .i64 md, .int .i64 (sq : Int)] 60 (0, 0)) := by rw [hW3, hfb]; exact heap_alloc_new w2 _
 have s2 : W3.cell? ⟨fb, 2, none⟩ = _ := cell_of_row W3 fb 2 _ _ _ hb3
 have t2' := E3.keepc t2
 have q0' := E3.keepc q0
 have q1' := E3.keepc q1
 have q2' := E3.keepc q2
 have hr := (E3.block _ (hltA HB2.out)).trans HB2.out
 have l0 : W3.cell? ⟨w.heap.size + 1, 0, none⟩ = _ := cell_of_row W3 _ 0 _ _ _ hr
 have l1 : W3.cell? ⟨w.heap.size + 1, 1, none⟩ = _ := cell_of_row W3 _ 1 _ _ _ hr
 have l2 : W3.cell? ⟨w.heap.size + 1, 2, none⟩ = _ := cell_of_row W3 _ 2 _ _ _ hr
 have f0 := Lib.frozen_of_heap hr 0
 have f1 := Lib.frozen_of_heap hr 1
 have f2 := Lib.frozen_of_heap hr 2
 have HX3 := Lib.hid (HE1.out.trans E3)
 have HFB := Lib.hid hfb
 clear d2 E3 hb3 hfb hr t1 t2 t3 q0 q1 q2
 go_upto_region 2 with (fail)
 rw [<- hW3, <- HFB.out]
 clear hW3
 go_wp2_with fail
 refine bodyPost_ret (v := .agg #[.int .i64 ck, .string cd, .slice RA rn rc]) (by simp [results, Tryz.results56, go_sem, l0, l1, l2]) rfl ⟨((HX3.out.setCell (p := ⟨w.heap.size + 1, 0, none⟩) (by show w.heap.size <= w.heap.size + 1; omega) _).setCell (p := ⟨w.heap.size + 1, 1, none⟩) (by show w.heap.size <= w.heap.size + 1; omega) _).setCell (p := ⟨w.heap.size + 1, 2, none⟩) (by show w.heap.size <= w.heap.size + 1; omega) _, RA, rc, HRA.out, ?_⟩
 rw [HRN.out]
end Go.Proofs.YtfbhchpbflaphaaGreatDoor

namespace Go.Proofs.YtfbhchpbflaphaaGreatDoor
open Go.RowKit Go.Maps Go.ChangeMaps
def FoundIs (E : L.Env) (u : Nat) (x : ByteArray) (f0 f1 f2 : Int) (m1 m2 : Nat) (er : Int) : Prop :=
 (er ≠ 0 /\ L.aim E u x = .bad er) ∨ (er = 0 /\ L.aimN E u x = (m1, m2) /\ ((∃ j : Nat, f2 = (j : Int) /\ j < E.libs.length /\ L.aim E u x = .lib j) ∨
  (f2 = -1 /\ ∃ u', ∃ hu : u' < E.units.length, L.aim E u x = .spot (u', x) /\ ((∃ h : u' < E.objs.length, f0 = (u' : Int) /\ E.objs[u'] = E.units[u']) ∨ ∃ i, ∃ h : i < E.mems.length, f0 = -1 /\ f1 = (i : Int) /\ E.mems[i] = E.units[u']))))
theorem found_cases {E : L.Env} (hU : L.UnitsOk okN E) {u : Nat} {x : ByteArray} {sy : C.Sym} (hsy : E.sym (u, x) = some sy) (h0 : sy.2.1 ≠ 0) :
 ∃ (f0 f1 f2 : Int) (m1 m2 : Nat) (er : Int), foundH E (L.hit E x) = ((f0, f1, f2, (m1 : Int), (m2 : Int)), er) /\ L.Bd E (m1, m2) /\ FoundIs E u x f0 f1 f2 m1 m2 er := by
 have ha : L.aim E u x = match L.hit E x with | .twice => .bad 6 | .unknown => .bad 8 | .unit v _ => .spot (v, x) | .lib j => .lib j := by unfold L.aim; rw [hsy]; simp only [if_neg h0]; cases L.hit E x <;> rfl
 have hn : L.aimN E u x = match L.hit E x with | .unit _ m => (m, 0) | .lib j => (E.mems.length, j + 1) | _ => (0, 0) := by unfold L.aimN; rw [hsy]; simp only [if_neg h0]; cases L.hit E x <;> rfl
 unfold FoundIs
 cases hh : L.hit E x with
 | twice =>
  rw [hh] at ha
  exact ⟨0, 0, 0, 0, 0, 6, rfl, ⟨Nat.zero_le _, Nat.zero_le _⟩, .inl ⟨by decide, ha⟩⟩
 | unknown =>
  rw [hh] at ha
  exact ⟨-1, -1, -1, E.mems.length, E.libs.length, 8, rfl, ⟨Nat.le_refl _, Nat.le_refl _⟩, .inl ⟨by decide, ha⟩⟩
 | lib j =>
  rw [hh] at ha hn
  have hj := L.hit_lib hh
  exact ⟨-1, -1, (j : Int), E.mems.length, j + 1, 0, rfl, ⟨Nat.le_refl _, hj⟩, .inr ⟨rfl, hn, .inl ⟨j, rfl, hj, ha⟩⟩⟩
 | unit v m =>
  rw [hh] at ha hn
  have hv := (L.hit_sec hU hh).1
  rcases hit_cases hh with ⟨rfl, ho⟩ | ⟨i, hi, rfl, rfl⟩
  ·have hu : E.objs[v] = E.units[v] := by have := L.units_left ho; rw [List.getElem?_eq_getElem hv] at this; exact (Option.some.inj this).symm
   exact ⟨(v : Int), -1, -1, 0, 0, 0, rfl, ⟨Nat.zero_le _, Nat.zero_le _⟩, .inr ⟨rfl, hn, .inr ⟨rfl, v, hv, ha, .inl ⟨ho, rfl, hu⟩⟩⟩⟩
  ·have hu : E.mems[i] = E.units[E.objs.length + i] := by have := L.units_right hi; rw [List.getElem?_eq_getElem hv] at this; exact (Option.some.inj this).symm
   exact ⟨-1, (i : Int), -1, i + 1, 0, 0, rfl, ⟨hi, Nat.zero_le _⟩, .inr ⟨rfl, hn, .inr ⟨rfl, _, hv, ha, .inr ⟨i, hi, rfl, rfl, hu⟩⟩⟩⟩
abbrev zspot : Array Value := #[.string ⟨#[]⟩, .slice none 0 0, .slice none 0 0, .string ⟨#[]⟩]
abbrev spotV (s : ByteArray) (SA : Option Addr) (n sc : Nat) (SB : Option Addr) (m sd : Nat) (x : ByteArray) : Array Value := #[.string s, .slice SA n sc, .slice SB m sd, .string x]
def RetMt (g : Nat) (E : L.Env) (A M D : Option Addr) (a m d : Nat) (w : World) (v : Value) (st' : L.St) (q : L.Aim) (e : Ending) (w' : World) : Prop :=
 Tch (fun k => k = g) w w' /\ w'.cell? ⟨g, 3, none⟩ = some v /\ match q with
 | .bad n => e = .returned (.tuple #[.agg zspot, .int .i64 (-1), .int .i64 n])
 | .lib j => e = .returned (.tuple #[.agg zspot, .int .i64 (j : Int), .int .i64 0]) /\ RlAt g E A M D a m d w' v st'
 | .spot p => (∃ SA sc SB sd, e = .returned (.tuple #[.agg (spotV (unitAt E p.1).1 SA (unitAt E p.1).2.1.length sc SB (unitAt E p.1).2.2.length sd p.2), .int .i64 (-1), .int .i64 0]) /\ SliceAt symR w' (fun k => k < g) SA sc (unitAt E p.1).2.1 /\ SliceAt secR w' (fun k => k < g) SB sd (unitAt E p.1).2.2) /\ RlAt g E A M D a m d w' v st'
theorem size123 : (Tryz.prog.info? 123).map (·.size) = some 4 := by kernel_rfl
theorem results_ctt {P : Program} {fn : Func} {p u u2 : Tmp} {ty : TypeId} (h : fn.results = #[.cell p ty, .tmp u, .tmp u2]) (tmps : Array Value) (w : World) (g : Nat) (t : TypeId) (cs : Array Value) (fr : Nat × Nat) (d : TypeDesc)
 (hp : tmps.getD p undef = .pointer (some ⟨g, 0, none⟩)) (hg : w.heap[g]? = some (.cells cs t fr)) (hu : P.underlying ty = some d) (hd : (match d with | .struct _ | .array _ _ => true | _ => false) = true) (hi : (P.info? ty).map (·.size) = some cs.size) :
 (results fn tmps).run P w = .ok (.tuple #[.agg cs, tmps.getD u undef, tmps.getD u2 undef]) w := by
 have hp' : tmps[p]?.getD undef = .pointer (some ⟨g, 0, none⟩) := by simpa using hp
 simp [results, h, hp', asAddr, run_loadVar_row w g t ty cs fr d hg hu hd hi]
abbrev sput (w : World) (b : Nat) (x0 x1 x2 x3 : Value) : World := (((w.setCell ⟨b, 0, none⟩ x0).setCell ⟨b, 1, none⟩ x1).setCell ⟨b, 2, none⟩ x2).setCell ⟨b, 3, none⟩ x3
theorem sput_tch (w : World) (b : Nat) (x0 x1 x2 x3 : Value) : Tch (fun k => k = b) w (sput w b x0 x1 x2 x3) :=
 ((((Tch.refl (fun k => k = b) w).setCell (p := ⟨b, 0, none⟩) (fun _ => rfl) _).setCell (p := ⟨b, 1, none⟩) (fun _ => rfl) _).setCell (p := ⟨b, 2, none⟩) (fun _ => rfl) _).setCell (p := ⟨b, 3, none⟩) (fun _ => rfl) _
theorem sput_row {w : World} {b : Nat} {o0 o1 o2 o3 : Value} (h : w.heap[b]? = some (.cells #[o0, o1, o2, o3] 123 (0, 0))) (x0 x1 x2 x3 : Value) : (sput w b x0 x1 x2 x3).heap[b]? = some (.cells #[x0, x1, x2, x3] 123 (0, 0)) :=
 heap_setCell_cells (heap_setCell_cells (heap_setCell_cells (heap_setCell_cells h 0 x0) 1 x1) 2 x2) 3 x3
theorem ret_sp {fn : Func} (h : fn.results = #[.cell 6 123, .tmp 7, .tmp 8]) {R : Ending -> World -> Prop} {a : Act} {w : World} {b : Nat} {x0 x1 x2 x3 i j : Value} (hp : a.tmps.getD 6 undef = .pointer (some ⟨b, 0, none⟩)) (hi : a.tmps.getD 7 undef = i) (hj : a.tmps.getD 8 undef = j)
 (hr : w.heap[b]? = some (.cells #[x0, x1, x2, x3] 123 (0, 0))) (hd : a.defers = []) (hR : R (.returned (.tuple #[.agg #[x0, x1, x2, x3], i, j])) w) : bodyPost Tryz.prog fn R .ret a w :=
 bodyPost_ret (results_ctt h a.tmps w b 123 _ (0, 0) _ hp hr Tryz.underlying123 rfl size123) hd (by rw [hi, hj]; exact hR)
section
variable {g : Nat} {E : L.Env} {A M D : Option Addr} {a m d : Nat} {w w' : World} {v : Value} {st : L.St}
theorem RlAt.sput (h : RlAt g E A M D a m d w v st) {b : Nat} (hb : g < b) (hv : ∀ k, v.ownBlock = some k -> k ≠ b) (x0 x1 x2 x3 : Value) : RlAt g E A M D a m d (sput w b x0 x1 x2 x3) v st :=
 h.tch (sput_tch w b x0 x1 x2 x3) (fun k hk => by rw [hk]; exact hb) fun k hk e => hv k hk e
theorem low_tch {α : Type} {r : Rep α} {X : Nat -> Prop} {A : Option Addr} {c : Nat} {l : List α} (h : SliceAt r w (fun k => k < g) A c l) (hT : Tch X w w') (hg : g < w.heap.size) (hX : ∀ k, X k -> g <= k) : SliceAt r w' (fun k => k < g) A c l :=
 h.tch hT fun k hk => ⟨Nat.lt_trans hk hg, fun hx => by have := hX k hx; have hk2 : k < g := hk; omega⟩
end
attribute [local irreducible] wpLex wpT
set_option maxRecDepth 8000 in
set_option maxHeartbeats 4000000 in
theorem meant_any {g : Nat} {E : L.Env} {A M D : Option Addr} {a m d : Nat} {w : World} {v : Value} {st : L.St} (h : RlAt g E A M D a m d w v st) (hE : EnvOk E) (hb : L.Bd E st.2) (u : Nat) (hu : u < E.units.length) (x : ByteArray) (hx : x.size <= 9223372036854775807) (sy : C.Sym) (hsy : E.sym (u, x) = some sy) (SA SB : Option Addr) (sc sd : Nat)
 (hSA : SliceAt symR w (fun k => k < g) SA sc (unitAt E u).2.1) (hSB : SliceAt secR w (fun k => k < g) SB sd (unitAt E u).2.2) :
 Calls Tryz.prog 92 #[.pointer (some ⟨g, 0, none⟩), .agg #[.string (unitAt E u).1, .slice SA (unitAt E u).2.1.length sc, .slice SB (unitAt E u).2.2.length sd], .string x] w (RetMt g E A M D a m d w v (L.note st (L.aimN E u x)) (L.aim E u x)) := by
 have hlow : ∀ k, k < g -> k < w.heap.size := fun k hk => Nat.lt_trans hk h.lt
 have hsl : (unitAt E u).2.1.length <= 128 := by rw [unitAt_is hu]; exact hE.syms _ (List.getElem_mem hu)
 obtain ⟨nm, md, ss, bb, hfv, g1, g2, hd3, hd4⟩ := find_form (unitAt E u).2 x
 have hsym : L.symP (unitAt E u).2 x = some sy := by
  unfold L.Env.sym at hsy
  rw [List.getElem?_eq_getElem hu] at hsy
  rw [unitAt_is hu]
  exact hsy
 obtain ⟨hmd, hss⟩ := hd3 _ hsym
 obtain ⟨sn, hsn⟩ : ∃ q, q = (unitAt E u).2.1.length := ⟨_, rfl⟩
 obtain ⟨sm, hsm⟩ : ∃ q, q = (unitAt E u).2.2.length := ⟨_, rfl⟩
 obtain ⟨s, hs⟩ : ∃ q, q = (unitAt E u).1 := ⟨_, rfl⟩
 have HFIND := Lib.hid (fun W (hW : Ext w W) => rFind_any (unitAt E u).2.1 SA SB sc sd sn sm x W hsn ((hSA.keep hlow fun _ _ => rfl : SliceAt symR w (Old w) SA sc _).ext hW) (by omega) hx)
 rw [hfv] at HFIND
 rw [<- hsn, <- hsm, <- hs]
 have HU : Hid (sn = (unitAt E u).2.1.length /\ sm = (unitAt E u).2.2.length /\ s = (unitAt E u).1) := ⟨hsn, hsm, hs⟩
 have hlens := hE.lens
 have hfl := hE.fewL
 have HRES := Lib.hid (fun W (hW : Ext w W) => rResolve_any E A M D a m d _ _ _ x W rfl ((h.objs.keep hlow fun _ _ => rfl : SliceAt memR w (Old w) A a E.objs).ext hW) rfl ((h.mems.keep hlow fun _ _ => rfl : SliceAt memR w (Old w) M m E.mems).ext hW) rfl ((h.libs.keep hlow fun _ _ => rfl : SliceAt librR w (Old w) D d E.libs).ext hW) hE.syms (by omega) (by omega) (by omega) hx)
 have HSYM : Hid (E.sym (u, x) = some sy /\ md = sy.2.1 /\ ss = sy.2.2) := ⟨hsy, hmd, hss⟩
 obtain ⟨Q, hQ⟩ : ∃ Q, Q = L.aim E u x := ⟨_, rfl⟩
 obtain ⟨N', hN'⟩ : ∃ N', N' = L.note st (L.aimN E u x) := ⟨_, rfl⟩
 rw [<- hQ, <- hN']
 have HQ := Lib.hid hQ
 have HN' := Lib.hid hN'
 have HE := Lib.hid hE
 have HB := Lib.hid hb
 have HH := Lib.hid h
 have HSA := Lib.hid hSA
 have HSB := Lib.hid hSB
 have HLEN : Hid (E.objs.length + E.mems.length <= 100000 /\ E.libs.length <= 100000) := ⟨hlens, hfl⟩
 obtain ⟨W1, hW1⟩ : ∃ W1, W1 = (w.alloc (.cells #[.string s, .slice SA sn sc, .slice SB sm sd] 69)).alloc (.cells zspot 123) := ⟨_, rfl⟩
 have hsz : (w.alloc (.cells #[.string s, .slice SA sn sc, .slice SB sm sd] 69)).heap.size = w.heap.size + 1 := by simp
 have E1 : Ext w W1 := by rw [hW1]; exact ((Ext.refl w).alloc _).alloc _
 have hb1 : W1.heap[w.heap.size]? = some (.cells #[.string s, .slice SA sn sc, .slice SB sm sd] 69 (0, 0)) := by rw [hW1]; exact (((Ext.refl (w.alloc _)).alloc _).block _ (by simp)).trans (heap_alloc_new w _)
 have hb2 : W1.heap[w.heap.size + 1]? = some (.cells zspot 123 (0, 0)) := by rw [hW1, <- hsz]; exact heap_alloc_new _ _
 have t0 : W1.cell? ⟨w.heap.size, 0, none⟩ = _ := cell_of_row W1 _ 0 _ _ _ hb1
 have t1 : W1.cell? ⟨w.heap.size, 1, none⟩ = _ := cell_of_row W1 _ 1 _ _ _ hb1
 have t2 : W1.cell? ⟨w.heap.size, 2, none⟩ = _ := cell_of_row W1 _ 2 _ _ _ hb1
 have HW1 := Lib.hid hW1
 have HE1 := Lib.hid E1
 have HB2 := Lib.hid hb2
 have hgw := h.lt
 have HGW := Lib.hid hgw
 clear h hE hb hu hsy hSA hSB hlow hsl hfv g1 g2 hd3 hd4 hsym hmd hss hsn hsm hs hlens hfl hQ hN' hW1 hsz E1 hb1 hb2 hx hgw
 go_enter Tryz.func92, Tryz.ntmps92
 go_upto_region 1 with (fail)
 rw [<- HW1.out]
 go_wp2_with fail
 refine (HFIND.out _ HE1.out).mono ?_
 rintro e w2 ⟨rfl, d2⟩
 obtain ⟨W3, hW3⟩ : ∃ W3, W3 = w2.alloc (.cells #[.string nm, .int .i64 md, .int .i64 ss] 60) := ⟨_, rfl⟩
 obtain ⟨fb, hfb⟩ : ∃ fb, fb = w2.heap.size := ⟨_, rfl⟩
 have E3 : Ext W1 W3 := by rw [hW3]; exact d2.alloc _
 have hb3 : W3.heap[fb]? = some (.cells #[.string nm, .int .i64 md, .int .i64 ss] 60 (0, 0)) := by rw [hW3, hfb]; exact heap_alloc_new w2 _
 have s1 : W3.cell? ⟨fb, 1, none⟩ = _ := cell_of_row W3 fb 1 _ _ _ hb3
 have s2 : W3.cell? ⟨fb, 2, none⟩ = _ := cell_of_row W3 fb 2 _ _ _ hb3
 have t0' := E3.keepc t0
 have t1' := E3.keepc t1
 have t2' := E3.keepc t2
 have hr := (E3.block _ (hltA HB2.out)).trans HB2.out
 have HR := Lib.hid hr
 have HX3 := Lib.hid (HE1.out.trans E3)
 have HFB := Lib.hid hfb
 clear d2 E3 hb3 hfb t0 t1 t2
 go_upto_region 2 with (fail)
 rw [<- hW3, <- HFB.out]
 clear hW3
 by_cases h0 : md = 0
 ·subst h0
  have hnote : N' = st := by
   rw [HN'.out]
   have : L.aimN E u x = (0, 0) := by unfold L.aimN; rw [HSYM.out.1]; simp only [if_pos HSYM.out.2.1.symm]
   rw [this, note_zero]
  have HNN := Lib.hid hnote
  have r0 : W3.cell? ⟨w.heap.size + 1, 0, none⟩ = _ := cell_of_row W3 _ 0 _ _ _ hr
  have r1 : W3.cell? ⟨w.heap.size + 1, 1, none⟩ = _ := cell_of_row W3 _ 1 _ _ _ hr
  have r2 : W3.cell? ⟨w.heap.size + 1, 2, none⟩ = _ := cell_of_row W3 _ 2 _ _ _ hr
  have r3 : W3.cell? ⟨w.heap.size + 1, 3, none⟩ = _ := cell_of_row W3 _ 3 _ _ _ hr
  have f0 := Lib.frozen_of_heap hr 0
  have f1 := Lib.frozen_of_heap hr 1
  have f2 := Lib.frozen_of_heap hr 2
  have f3 := Lib.frozen_of_heap hr 3
  by_cases hneg : ss < 0
  ·have hq : Q = .bad 8 := by
    rw [HQ.out]
    unfold L.aim
    rw [HSYM.out.1]
    simp only [if_pos HSYM.out.2.1.symm]
    rw [if_pos (by rw [<- HSYM.out.2.2]; exact hneg)]
   have HQ2 := Lib.hid hq
   have hdn : decide (ss < 0) = true := decide_eq_true hneg
   clear hr hnote hq
   go_wp2_with fail
   refine ret_sp rfl rfl rfl rfl (sput_row HR.out _ _ _ _) rfl ?_
   rw [HQ2.out]
   have hgw := HGW.out
   exact ⟨(HX3.out.tch _).trans' (sput_tch W3 _ _ _ _ _) fun i hi e => absurd hi (by omega), ((HH.out.ext HX3.out).sput (by omega) (fun k hk e => by have := (HH.out.own hk).2; omega) _ _ _ _).cell 3, rfl⟩
  ·have hq : Q = .spot (u, x) := by
    rw [HQ.out]
    unfold L.aim
    rw [HSYM.out.1]
    simp only [if_pos HSYM.out.2.1.symm]
    rw [if_neg (by rw [<- HSYM.out.2.2]; exact hneg)]
   have HQ2 := Lib.hid hq
   have hdn : decide (ss < 0) = false := decide_eq_false hneg
   clear hr hnote hq
   go_wp2_with fail
   refine ret_sp rfl rfl rfl rfl (sput_row HR.out _ _ _ _) rfl ?_
   rw [HQ2.out, HNN.out]
   have hT : Tch (fun i => i = w.heap.size + 1) w (sput W3 (w.heap.size + 1) (.string s) (.slice SA sn sc) (.slice SB sm sd) (.string x)) := (HX3.out.tch _).trans (sput_tch W3 _ _ _ _ _)
   have hgw := HGW.out
   refine ⟨(HX3.out.tch _).trans' (sput_tch W3 _ _ _ _ _) fun i hi e => absurd hi (by omega), ((HH.out.ext HX3.out).sput (by omega) (fun k hk e => by have := (HH.out.own hk).2; omega) _ _ _ _).cell 3, ⟨SA, sc, SB, sd, ?_, low_tch HSA.out hT hgw fun k hk => by omega, low_tch HSB.out hT hgw fun k hk => by omega⟩, ?_⟩
   ·obtain ⟨u1, u2, u3⟩ := HU.out
    show _ = Ending.returned (.tuple #[.agg (spotV (unitAt E u).1 SA (unitAt E u).2.1.length sc SB (unitAt E u).2.2.length sd x), .int .i64 (-1), .int .i64 0])
    rw [<- u1, <- u2, <- u3]
    rfl
   ·exact HH.out.tch hT (fun k hk => by omega) fun k hk e => by have := (HH.out.own hk).2; omega
 ·have hm0 : (md == 0) = false := by simpa using h0
  obtain ⟨f0, f1, f2, m1, m2, er, hF, hBd, hFI⟩ := found_cases HE.out.units HSYM.out.1 (by rw [<- HSYM.out.2.1]; exact h0)
  rw [hF] at HRES
  unfold RetFnd fndV at HRES
  simp only at HRES
  have h3 := HH.out.ext HX3.out
  have c0 : W3.cell? ⟨g, 0, none⟩ = _ := h3.cell 0
  have c1 : W3.cell? ⟨g, 1, none⟩ = _ := h3.cell 1
  have c2 : W3.cell? ⟨g, 2, none⟩ = _ := h3.cell 2
  have HFI := Lib.hid hFI
  have HBD := Lib.hid hBd
  have H3 := Lib.hid h3
  clear hr hF hBd hFI h3
  go_wp2_with fail
  refine (HRES.out _ HX3.out).mono ?_
  rintro e w4 ⟨e4, rfl⟩
  obtain ⟨W5, hW5⟩ : ∃ W5, W5 = w4.alloc (.cells #[.int .i64 f0, .int .i64 f1, .int .i64 f2, .int .i64 (m1 : Int), .int .i64 (m2 : Int)] 117) := ⟨_, rfl⟩
  obtain ⟨gb, hgb⟩ : ∃ gb, gb = w4.heap.size := ⟨_, rfl⟩
  have E5 : Ext W3 W5 := by rw [hW5]; exact e4.alloc _
  have hb5 : W5.heap[gb]? = some (.cells #[.int .i64 f0, .int .i64 f1, .int .i64 f2, .int .i64 (m1 : Int), .int .i64 (m2 : Int)] 117 (0, 0)) := by rw [hW5, hgb]; exact heap_alloc_new w4 _
  have y0 : W5.cell? ⟨gb, 0, none⟩ = _ := cell_of_row W5 gb 0 _ _ _ hb5
  have y1 : W5.cell? ⟨gb, 1, none⟩ = _ := cell_of_row W5 gb 1 _ _ _ hb5
  have y2 : W5.cell? ⟨gb, 2, none⟩ = _ := cell_of_row W5 gb 2 _ _ _ hb5
  have y3 : W5.cell? ⟨gb, 3, none⟩ = _ := cell_of_row W5 gb 3 _ _ _ hb5
  have y4 : W5.cell? ⟨gb, 4, none⟩ = _ := cell_of_row W5 gb 4 _ _ _ hb5
  have HNT := Lib.hid (note_any (H3.out.ext E5) f0 f1 f2 m1 m2 HB.out HBD.out ⟨by have := HLEN.out.1; omega, HLEN.out.2⟩)
  have HE5 := Lib.hid E5
  have HB5 := Lib.hid hb5
  have HW4 := Lib.hid e4.size
  have hgg : ¬ gb = g := by have := HGW.out; have := e4.size; have := HX3.out.size; omega
  have HGG := Lib.hid hgg
  have HGB := Lib.hid hgb
  clear e4 E5 hb5 hgg hgb c0 c1 c2 s1 s2 t0' t1' t2'
  go_upto_region 7 with (fail)
  rw [<- hW5, <- HGB.out]
  clear hW5
  go_wp2_with fail
  refine HNT.out.mono ?_
  rintro e w6 ⟨rfl, hT6, hR6⟩
  have hT3 : Tch (fun i => i = g) W3 w6 := (HE5.out.tch _).trans hT6
  have hgw := HGW.out
  have hr := (hT3.block (w.heap.size + 1) (hltA HR.out) (by omega)).trans HR.out
  have r0 : w6.cell? ⟨w.heap.size + 1, 0, none⟩ = _ := cell_of_row w6 _ 0 _ _ _ hr
  have r1 : w6.cell? ⟨w.heap.size + 1, 1, none⟩ = _ := cell_of_row w6 _ 1 _ _ _ hr
  have r2 : w6.cell? ⟨w.heap.size + 1, 2, none⟩ = _ := cell_of_row w6 _ 2 _ _ _ hr
  have r3 : w6.cell? ⟨w.heap.size + 1, 3, none⟩ = _ := cell_of_row w6 _ 3 _ _ _ hr
  have k0 := Lib.frozen_of_heap hr 0
  have k1 := Lib.frozen_of_heap hr 1
  have k2 := Lib.frozen_of_heap hr 2
  have k3 := Lib.frozen_of_heap hr 3
  have hf := (hT6.block gb (hltA HB5.out) HGG.out).trans HB5.out
  have HR6 := Lib.hid hr
  have HRL := Lib.hid hR6
  have HT := Lib.hid ((HX3.out.tch _).trans hT3)
  have HF := Lib.hid hf
  clear hT6 hR6 hT3 hgw hr hf y0 y1 y2 y3 y4
  have y0 : w6.cell? ⟨gb, 0, none⟩ = _ := cell_of_row w6 gb 0 _ _ _ HF.out
  have y1 : w6.cell? ⟨gb, 1, none⟩ = _ := cell_of_row w6 gb 1 _ _ _ HF.out
  have y2 : w6.cell? ⟨gb, 2, none⟩ = _ := cell_of_row w6 gb 2 _ _ _ HF.out
  have y3 : w6.cell? ⟨gb, 3, none⟩ = _ := cell_of_row w6 gb 3 _ _ _ HF.out
  have y4 : w6.cell? ⟨gb, 4, none⟩ = _ := cell_of_row w6 gb 4 _ _ _ HF.out
  rcases HFI.out with ⟨hne, haim⟩ | ⟨rfl, hnm, ⟨j, rfl, hj, haim⟩ | ⟨rfl, u', hu', haim, hwh⟩⟩
  ·have he : (er == 0) = false := by simpa using hne
   have HQ2 : Hid (Q = .bad er) := HQ.out.trans haim
   clear hne haim
   go_wp2_with fail
   refine ret_sp rfl rfl rfl rfl (sput_row HR6.out _ _ _ _) rfl ?_
   rw [HQ2.out]
   have hgw := HGW.out
   exact ⟨HT.out.trans' (sput_tch w6 _ _ _ _ _) fun i hi e => absurd hi (by omega), (HRL.out.sput (by omega) (fun k hk e => by have := (HH.out.own hk).2; omega) _ _ _ _).cell 3, rfl⟩
  ·have HQ2 : Hid (Q = .lib j) := HQ.out.trans haim
   have hN2 : N' = L.note st (m1, m2) := by rw [HN'.out, hnm]
   have HN2 := Lib.hid hN2
   have hj2 : j <= 100000 := by have := HLEN.out.2; omega
   clear haim hnm hN2 hj
   go_upto_region 11 with (fail)
   obtain ⟨Φ, hΦ⟩ : ∃ Φ : World -> Prop, ∀ W, Φ W ↔ Tch (fun i => i = w.heap.size + 1) w6 W := ⟨_, fun _ => Iff.rfl⟩
   have h0' : Φ w6.drew := (hΦ _).2 (((Ext.refl w6).drew).tch _)
   have hgs : ¬ gb = w.heap.size + 1 := by have := HGB.out; have := HX3.out.size; have := HE5.out.size; have := (hltA HR.out); have := HW4.out; omega
   have fx0 : ∀ z : Lat Φ, z.w'.cell? ⟨gb, 2, none⟩ = _ := fun z => ((hΦ _).1 z.h).keepc y2 hgs
   have hne := Lat.some h0'
   refine wp_region_tail 4 [3] Φ h0' (by kernel_rfl) (by kernel_rfl) (by kernel_rfl) ?_
   simp only [List.take_succ_cons, List.take_zero, List.drop_succ_cons, List.drop_zero]
   iterate 3 (refine lex_pure rfl rfl rfl ?_; intro K hK; go_big_quiet_op; go_big_quiet_on)
   have r0 : w6.drew.cell? ⟨w.heap.size + 1, 0, none⟩ = _ := r0
   have r1 : w6.drew.cell? ⟨w.heap.size + 1, 1, none⟩ = _ := r1
   have r2 : w6.drew.cell? ⟨w.heap.size + 1, 2, none⟩ = _ := r2
   have r3 : w6.drew.cell? ⟨w.heap.size + 1, 3, none⟩ = _ := r3
   have k0 : w6.drew.frozen? ⟨w.heap.size + 1, 0, none⟩ = _ := k0
   have k1 : w6.drew.frozen? ⟨w.heap.size + 1, 1, none⟩ = _ := k1
   have k2 : w6.drew.frozen? ⟨w.heap.size + 1, 2, none⟩ = _ := k2
   have k3 : w6.drew.frozen? ⟨w.heap.size + 1, 3, none⟩ = _ := k3
   refine lex_eff rfl ?_
   go_wp2_with fail
   refine ⟨⟨⟨_, (hΦ _).2 ((((Ext.refl w6).drew).tch _).trans (sput_tch w6.drew _ _ _ _ _))⟩, rfl⟩, ?_⟩
   refine lex_nil ?_
   clear fx0 hne
   go_wp2_with fail
   have HR7 : Hid (w6.drew.heap[w.heap.size + 1]? = some (.cells zspot 123 (0, 0))) := HR6.out
   refine ret_sp rfl rfl rfl rfl (sput_row HR7.out _ _ _ _) rfl ?_
   rw [HQ2.out, HN2.out]
   have hgw := HGW.out
   refine ⟨(HT.out.trans (((Ext.refl w6).drew).tch _)).trans' (sput_tch w6.drew _ _ _ _ _) fun i hi e => absurd hi (by omega), ((HRL.out.ext (Ext.refl w6).drew).sput (by omega) (fun k hk e => by have := (HH.out.own hk).2; omega) _ _ _ _).cell 3, rfl, ?_⟩
   exact (HRL.out.ext (Ext.refl w6).drew).sput (by omega) (fun k hk e => by have := (HH.out.own hk).2; omega) _ _ _ _
  ·have HQ2 : Hid (Q = .spot (u', x)) := HQ.out.trans haim
   have hN2 : N' = L.note st (m1, m2) := by rw [HN'.out, hnm]
   have HN2 := Lib.hid hN2
   have HMB := Lib.hid (fun W (hW : Ext w6 W) => (show Calls Tryz.prog 55 #[.agg #[.slice A E.objs.length a, .slice M E.mems.length m, .slice D E.libs.length d], .agg #[.int .i64 f0, .int .i64 f1, .int .i64 (-1), .int .i64 (m1 : Int), .int .i64 (m2 : Int)]] W (RetMb (fun k => k < g) W (unitAt E u')) from by
    have hl := (HRL.out.ext hW).lt
    have hlens := HLEN.out.1
    rw [unitAt_is hu']
    rcases hwh with ⟨ho, rfl, hoe⟩ | ⟨i, hi, rfl, rfl, hie⟩
    ·rw [<- hoe]
     exact member_obj E.objs A a _ u' _ _ f1 (-1) m1 m2 W rfl _ (fun k hk => Nat.lt_trans hk hl) (HRL.out.ext hW).objs ho (by omega) ⟨_, _, _, rfl⟩ ⟨_, _, _, rfl⟩
    ·rw [<- hie]
     exact member_mem E.mems M m _ i _ _ (-1) m1 m2 W rfl _ (fun k hk => Nat.lt_trans hk hl) (HRL.out.ext hW).mems hi (by omega) ⟨_, _, _, rfl⟩ ⟨_, _, _, rfl⟩))
   have c0 : w6.cell? ⟨g, 0, none⟩ = _ := HRL.out.cell 0
   have c1 : w6.cell? ⟨g, 1, none⟩ = _ := HRL.out.cell 1
   have c2 : w6.cell? ⟨g, 2, none⟩ = _ := HRL.out.cell 2
   obtain ⟨Φ, hΦ⟩ : ∃ Φ : World -> Prop, ∀ W, Φ W ↔ Tch (fun i => i = w.heap.size + 1) w6 W := ⟨_, fun _ => Iff.rfl⟩
   have h0' : Φ w6.drew := (hΦ _).2 (((Ext.refl w6).drew).tch _)
   have hgs : ¬ gb = w.heap.size + 1 := by have := HGB.out; have := HX3.out.size; have := HE5.out.size; have := (hltA HR.out); have := HW4.out; omega
   have hgt : ¬ g = w.heap.size + 1 := by have := HGW.out; omega
   have fx0 : ∀ z : Lat Φ, z.w'.cell? ⟨gb, 0, none⟩ = _ := fun z => ((hΦ _).1 z.h).keepc y0 hgs
   have fx1 : ∀ z : Lat Φ, z.w'.cell? ⟨gb, 1, none⟩ = _ := fun z => ((hΦ _).1 z.h).keepc y1 hgs
   have fx2 : ∀ z : Lat Φ, z.w'.cell? ⟨gb, 2, none⟩ = _ := fun z => ((hΦ _).1 z.h).keepc y2 hgs
   have fx3 : ∀ z : Lat Φ, z.w'.cell? ⟨gb, 3, none⟩ = _ := fun z => ((hΦ _).1 z.h).keepc y3 hgs
   have fx4 : ∀ z : Lat Φ, z.w'.cell? ⟨gb, 4, none⟩ = _ := fun z => ((hΦ _).1 z.h).keepc y4 hgs
   have fx5 : ∀ z : Lat Φ, z.w'.cell? ⟨g, 0, none⟩ = _ := fun z => ((hΦ _).1 z.h).keepc c0 hgt
   have fx6 : ∀ z : Lat Φ, z.w'.cell? ⟨g, 1, none⟩ = _ := fun z => ((hΦ _).1 z.h).keepc c1 hgt
   have fx7 : ∀ z : Lat Φ, z.w'.cell? ⟨g, 2, none⟩ = _ := fun z => ((hΦ _).1 z.h).keepc c2 hgt
   have hne := Lat.some h0'
   clear haim hnm hN2 hwh hu'
   go_upto_region 12 with (fail)
   refine wp_region_tail 9 [5, 8] Φ h0' (by kernel_rfl) (by kernel_rfl) (by kernel_rfl) ?_
   simp only [List.take_succ_cons, List.take_zero, List.drop_succ_cons, List.drop_zero]
   iterate 5 (refine lex_pure rfl rfl rfl ?_; intro K hK; go_big_quiet_op; go_big_quiet_on)
   refine lex_eff rfl ?_
   go_wp2_with fail
   refine (HMB.out _ ((Ext.refl w6).drew)).mono ?_
   rintro e w7 ⟨e7, SC, cc, SD, cd, rfl, hSC, hSD⟩
   have E7 := ((Ext.refl w6).drew).trans e7
   have HX7 := Lib.hid E7
   have hr7 := (E7.block _ (hltA HR6.out)).trans HR6.out
   have HR7 := Lib.hid hr7
   have HSC := Lib.hid hSC
   have HSD := Lib.hid hSD
   clear e7 hSC hSD
   go_wp2_with fail
   refine ⟨⟨⟨w7, (hΦ _).2 (HX7.out.tch _)⟩, rfl⟩, ?_⟩
   iterate 2 (refine lex_pure rfl rfl rfl ?_; intro K hK; go_big_quiet_op; go_big_quiet_on)
   clear r0 r1 r2 r3 k0 k1 k2 k3 E7
   have r0 : w7.cell? ⟨w.heap.size + 1, 0, none⟩ = _ := cell_of_row w7 _ 0 _ _ _ hr7
   have r1 : w7.cell? ⟨w.heap.size + 1, 1, none⟩ = _ := cell_of_row w7 _ 1 _ _ _ hr7
   have r2 : w7.cell? ⟨w.heap.size + 1, 2, none⟩ = _ := cell_of_row w7 _ 2 _ _ _ hr7
   have r3 : w7.cell? ⟨w.heap.size + 1, 3, none⟩ = _ := cell_of_row w7 _ 3 _ _ _ hr7
   have k0 := Lib.frozen_of_heap hr7 0
   have k1 := Lib.frozen_of_heap hr7 1
   have k2 := Lib.frozen_of_heap hr7 2
   have k3 := Lib.frozen_of_heap hr7 3
   clear hr7
   refine lex_eff rfl ?_
   go_wp2_with fail
   refine ⟨⟨⟨_, (hΦ _).2 ((HX7.out.tch _).trans (sput_tch w7 _ _ _ _ _))⟩, rfl⟩, ?_⟩
   refine lex_nil ?_
   clear fx0 fx1 fx2 fx3 fx4 fx5 fx6 fx7 hne c0 c1 c2 y0 y1 y2 y3 y4
   go_wp2_with fail
   refine ret_sp rfl rfl rfl rfl (sput_row HR7.out _ _ _ _) rfl ?_
   rw [HQ2.out, HN2.out]
   have hgw := HGW.out
   have hT7 : Tch (fun i => i = w.heap.size + 1) w7 (sput w7 (w.heap.size + 1) (.string (unitAt E u').1) (.slice SC (unitAt E u').2.1.length cc) (.slice SD (unitAt E u').2.2.length cd) (.string x)) := sput_tch w7 _ _ _ _ _
   have hl7 := (HRL.out.ext HX7.out).lt
   refine ⟨(HT.out.trans (HX7.out.tch _)).trans' hT7 fun i hi e => absurd hi (by omega), ((HRL.out.ext HX7.out).sput (by omega) (fun k hk e => by have := (HH.out.own hk).2; omega) _ _ _ _).cell 3, ⟨SC, cc, SD, cd, rfl, low_tch HSC.out hT7 hl7 fun k hk => by omega, low_tch HSD.out hT7 hl7 fun k hk => by omega⟩, ?_⟩
   exact (HRL.out.ext HX7.out).sput (by omega) (fun k hk e => by have := (HH.out.own hk).2; omega) _ _ _ _
end Go.Proofs.YtfbhchpbflaphaaGreatDoor

namespace Go.Proofs.YtfbhchpbflaphaaGreatDoor
open Go.RowKit
structure KeptV (size : Nat) (w w' : World) (v v' : Value) : Prop where
 cells : ∀ b off n c, v = .slice (some ⟨b, off, none⟩) n c -> ∀ j u, j < n * size -> w.cell? ⟨b, off + j, none⟩ = some u -> w'.cell? ⟨b, off + j, none⟩ = some u
 same : ∀ b off n c, v = .slice (some ⟨b, off, none⟩) n c -> v'.ownBlock = some b -> ∃ n' c', v' = .slice (some ⟨b, off, none⟩) n' c' /\ n <= n'
section
variable {size : Nat} {w w1 w2 : World} {v v1 v2 : Value}
theorem KeptV.tch {X : Nat -> Prop} (hT : Tch X w w1) (hX : ∀ k, v.ownBlock = some k -> ¬ X k) : KeptV size w w1 v v where
 cells := by
  rintro b off n c rfl j u _ hu
  exact hT.keepc hu (hX b rfl)
 same := by
  rintro b off n c rfl _
  exact ⟨n, c, rfl, Nat.le_refl _⟩
theorem KeptV.ext (hT : Ext w w1) : KeptV size w w1 v v := KeptV.tch (hT.tch fun _ => False) fun _ _ h => h
theorem KeptV.refl : KeptV size w w v v := KeptV.ext (Ext.refl w)
theorem KeptV.trans {X : Nat -> Prop} (h : KeptV size w w1 v v1) (k : KeptV size w1 w2 v1 v2) (hT : Tch X w1 w2) (hX : ∀ b, v.ownBlock = some b -> X b -> v1.ownBlock = some b) (hl : ∀ b, v.ownBlock = some b -> b < w1.heap.size) (hv : ∀ b, v2.ownBlock = some b -> v1.ownBlock = some b ∨ w1.heap.size <= b) : KeptV size w w2 v v2 where
 cells := by
  rintro b off n c rfl j u hj hu
  have h1 := h.cells b off n c rfl j u hj hu
  by_cases e : v1.ownBlock = some b
  ·obtain ⟨n', c', e2, hn⟩ := h.same b off n c rfl e
   exact k.cells b off n' c' e2 j u (Nat.lt_of_lt_of_le hj (Nat.mul_le_mul_right _ hn)) h1
  ·exact hT.keepc h1 fun hx => e (hX b rfl hx)
 same := by
  rintro b off n c rfl hb
  rcases hv b hb with e | hi
  ·obtain ⟨n', c', e2, hn⟩ := h.same b off n c rfl e
   obtain ⟨m, d, e3, hm⟩ := k.same b off n' c' e2 hb
   exact ⟨m, d, e3, Nat.le_trans hn hm⟩
  ·have h9 : b < w1.heap.size := hl b rfl
   omega
theorem KeptV.of_own {base : Nat} {e : TypeId} {n : Nat} {xs : List Value} (h : OwnAt w base e size v n xs) (h' : OwnAt w1 base e size v n xs) (hs : ∀ b off c, v = .slice (some ⟨b, off, none⟩) n c -> v1.ownBlock = some b -> ∃ n' c', v1 = .slice (some ⟨b, off, none⟩) n' c' /\ n <= n') : KeptV size w w1 v v1 where
 cells := by
  rintro b off n0 c rfl j u hj hu
  rcases Nat.eq_zero_or_pos n with h0 | h0
  ·obtain ⟨_, ⟨h1, _⟩ | ⟨g, off', cap, cur, h1, _⟩⟩ := h
   ·cases h1
   ·cases h1
    rw [h0, Nat.zero_mul] at hj
    omega
  ·have hlen := h.1
   obtain ⟨g, o, cap, h1, _, _, _, _, hx⟩ := h.cells h0
   obtain ⟨g', o', cap', h1', _, _, _, _, hx'⟩ := h'.cells h0
   cases h1
   cases h1'
   have hjx : j < xs.length := by rw [hlen]; exact hj
   have e1 := hx j xs[j] (List.getElem?_eq_getElem hjx)
   have e2 := hx' j xs[j] (List.getElem?_eq_getElem hjx)
   rw [hu] at e1
   rw [e1]
   exact e2
 same := by
  rintro b off n0 c rfl hb
  obtain ⟨_, ⟨h1, _⟩ | ⟨g, off', cap, cur, h1, _⟩⟩ := h
  ·cases h1
  ·cases h1
   exact hs b off c rfl hb
end
section
variable {P : Program} (w : World)
theorem run_append_ownAt2 (base : Nat) (t ty e : TypeId) (i : TypeInfo) (z : Value) (size bytes : Nat) (ht : P.underlying t = some (.slice e)) (hi : P.info? e = some i) (hz : i.zero = some z)
 (hsize : i.size = size) (hby : i.bytes = bytes) (hzs : z.cells.size = size) (hsz : 0 < size)
 (v : Value) (n : Nat) (xs : List Value) (hown : OwnAt w base e size v n xs)
 (ad : Addr) (m c : Nat) (news : List Value) (hl : news.length = m * size) (hnews : ∀ j u, news[j]? = some u -> w.cell? (ad.add j) = some u) (h1 : ∀ u ∈ news, u.oneCell' = true)
 (h63 : n + m <= maxLen) (hbytes : (n + m) * bytes <= 140737488355328) (hbase : base <= w.heap.size) (hm : 0 < m) :
 ∃ v' w', (Builtin.append_ #[t, t] ty #[v, .slice (some ad) m c]).run P w = .ok v' w' /\ OwnAt w' base e size v' (n + m) (xs ++ news) /\ w.grownBy w' v.ownBlock /\
  OwnAt w' base e size v n xs /\ (v'.ownBlock = v.ownBlock ∨ ∃ g, v'.ownBlock = some g /\ w.heap.size <= g /\ g < w'.heap.size) /\ (∀ b off c, v = .slice (some ⟨b, off, none⟩) n c -> v'.ownBlock = some b -> ∃ n' c', v' = .slice (some ⟨b, off, none⟩) n' c' /\ n <= n') := by
 obtain ⟨hx1, ⟨rfl, rfl⟩ | ⟨g, off, cap, cur, rfl, hb, hh, hnc, hc, hs, hx⟩⟩ := hown
 ·have hxs : xs = [] := List.eq_nil_of_length_eq_zero (by simpa using hx1)
  subst hxs
  obtain ⟨v', w', hrun, h2, h3, h4⟩ := run_append_own (P := P) w w.heap.size t ty e i z size bytes ht hi hz hsize hby hzs hsz (.slice none 0 0) 0 [] ⟨by simp, .inl ⟨rfl, rfl⟩⟩ ad m c news hl hnews h1 h63 hbytes (Nat.le_refl _)
  refine ⟨v', w', hrun, (OwnAt.of_row h2).mono hbase, h3, ⟨by simp, .inl ⟨rfl, rfl⟩⟩, .inr ?_, fun b off c e => by cases e⟩
  obtain ⟨k1, ⟨_, k2⟩ | ⟨g, cap, cur, rfl, hg, hh, _⟩⟩ := h2
  ·omega
  ·exact ⟨g, rfl, hg, by
    rcases Nat.lt_or_ge g w'.heap.size with h | h
    ·exact h
    ·rw [Array.getElem?_eq_none h] at hh; cases hh⟩
 ·by_cases hroom : n + m <= cap
  ·subst hsize
   have hcapm : (n + m) * i.size <= cap * i.size := Nat.mul_le_mul_right _ hroom
   have hadd : (n + m) * i.size = n * i.size + m * i.size := Nat.add_mul _ _ _
   have hcell : ∀ j, j < news.length -> (w.cell? ⟨g, off + n * i.size + j, none⟩).isSome = true := by
    intro j hj
    rw [cell_of_row w g _ cur e (0, 0) hh]
    simp
    omega
   have hfro : ∀ j, j < news.length -> w.frozen? ⟨g, off + n * i.size + j, none⟩ = false := by
    intro j hj
    simp [World.frozen?, hh]
   have hrun := run_append_room_cells (P := P) w t ty e i ht hi g off n cap ad m c news hl hnews h1 hroom hcell hfro
   refine ⟨_, _, hrun, ⟨by rw [List.length_append, hx1, hl, Nat.add_mul], .inr ⟨g, off, cap, _, rfl, hb, heap_setCells_at g news _ w cur e hh, hroom, hc, by rw [setArr_size]; exact hs, fun j hj => ?_⟩⟩, grownBy_setCells g news _ w,
    ⟨hx1, .inr ⟨g, off, cap, _, rfl, hb, heap_setCells_at g news _ w cur e hh, hnc, hc, by rw [setArr_size]; exact hs, fun j hj => by rw [setArr_lt _ _ _ _ (by omega)]; exact hx j hj⟩⟩, .inl rfl, fun b off' c' e _ => by cases e; exact ⟨_, _, rfl, by omega⟩⟩
   by_cases hj1 : j < n * i.size
   ·rw [setArr_lt _ _ _ _ (by omega), hx j hj1, List.getElem?_append_left (by omega)]
   ·obtain ⟨q, rfl⟩ : ∃ q, j = n * i.size + q := ⟨j - n * i.size, by omega⟩
    rw [show off + (n * i.size + q) = off + n * i.size + q by omega, setArr_in _ _ _ _ (by omega) (by omega), List.getElem?_append_right (by omega)]
    congr 1
    omega
  ·obtain ⟨v', w', hrun, h2, h3⟩ := run_append_arg_grows (P := P) w t ty e i z size bytes ht hi hz hsize hby hzs hsz ⟨g, off, none⟩ n cap xs hx1
    (fun j u hj => by
     have hj' : j < n * size := by
      rcases Nat.lt_or_ge j xs.length with h | h
      ·omega
      ·rw [List.getElem?_eq_none h] at hj; cases hj
     rw [Addr.add_lit, cell_of_row w g _ cur e (0, 0) hh, hx j hj', hj])
    ad m c news hl hnews (by omega) h63 hbytes
   refine ⟨v', w', hrun, (OwnAt.of_row h2).mono hbase, ⟨h3.os, h3.tape, h3.output, h3.size, fun k hk _ => h3.block k hk (by simp)⟩, ?_, .inr ?_, ?_⟩
   ·refine ⟨hx1, .inr ⟨g, off, cap, cur, rfl, hb, (h3.block g ?_ (by simp)).trans hh, hnc, hc, hs, hx⟩⟩
    rcases Nat.lt_or_ge g w.heap.size with h | h
    ·exact h
    ·rw [Array.getElem?_eq_none h] at hh; cases hh
   ·obtain ⟨k1, ⟨_, k2⟩ | ⟨g', cap', cur', rfl, hg, hh', _⟩⟩ := h2
    ·omega
    ·exact ⟨g', rfl, hg, by
      rcases Nat.lt_or_ge g' w'.heap.size with h | h
      ·exact h
      ·rw [Array.getElem?_eq_none h] at hh'; cases hh'⟩
   ·intro b off' c' e hb'
    cases e
    obtain ⟨k1, ⟨_, k2⟩ | ⟨g', cap', cur', rfl, hg, hh', _⟩⟩ := h2
    ·omega
    ·have hb8 : g' = g := by
      have h8 : (Value.slice (some ⟨g', 0, none⟩) (n + m) cap').ownBlock = some g' := rfl
      have h9 : some g' = some g := h8.symm.trans hb'
      exact Option.some.inj h9
     have hgl : g < w.heap.size := by
      rcases Nat.lt_or_ge g w.heap.size with h | h
      ·exact h
      ·rw [Array.getElem?_eq_none h] at hh; cases hh
     omega
theorem wp_append_ownAt2 {o : Oper} {a : Act} {K : Act -> World -> Prop} {Q : Exit -> Act -> World -> Prop} (s x : Operand) (t : TypeId)
 (ho : o.op = .call { callee := .builtin .append, args := #[s, x], argTypes := #[t, t] })
 (base : Nat) (e : TypeId) (i : TypeInfo) (z : Value) (size bytes : Nat) (ht : P.underlying t = some (.slice e)) (hi : P.info? e = some i) (hz : i.zero = some z)
 (hsize : i.size = size) (hby : i.bytes = bytes) (hzs : z.cells.size = size) (hsz : 0 < size)
 (v : Value) (n : Nat) (xs : List Value) (hs : a.eval s = v) (hown : OwnAt w base e size v n xs)
 (ad : Addr) (m c : Nat) (news : List Value) (hx : a.eval x = .slice (some ad) m c) (hl : news.length = m * size) (hnews : ∀ j u, news[j]? = some u -> w.cell? (ad.add j) = some u) (h1 : ∀ u ∈ news, u.oneCell' = true)
 (h63 : n + m <= maxLen) (hbytes : (n + m) * bytes <= 140737488355328) (hbase : base <= w.heap.size) (hm : 0 < m)
 (h : ∀ v' w', OwnAt w' base e size v' (n + m) (xs ++ news) -> w.grownBy w' v.ownBlock -> OwnAt w' base e size v n xs -> (v'.ownBlock = v.ownBlock ∨ ∃ g, v'.ownBlock = some g /\ w.heap.size <= g /\ g < w'.heap.size) -> (∀ b off c, v = .slice (some ⟨b, off, none⟩) n c -> v'.ownBlock = some b -> ∃ n' c', v' = .slice (some ⟨b, off, none⟩) n' c' /\ n <= n') -> K (a.put o.dst v') w') : o.wp P a w K Q := by
 obtain ⟨v', w', hrun, h2, h3, h5, h4, h6⟩ := run_append_ownAt2 (P := P) w base t o.type e i z size bytes ht hi hz hsize hby hzs hsz v n xs hown ad m c news hl hnews h1 h63 hbytes hbase hm
 unfold Oper.wp execOp
 simp only [ho, resolve, invoke, builtin, Sem.run_bind, Sem.run_pure, Result.andThen_ok, List.map_toArray, List.map_cons, List.map_nil, hs, hx, hrun]
 exact h v' w' h2 h3 h5 h4 h6
theorem wpList_append_ownAt2 {ops : Array Oper} {rest : List Oper} {o : Oper} {a : Act} {Q : Exit -> Act -> World -> Prop} (hgd : o.guard = none) (s x : Operand) (t : TypeId)
 (ho : o.op = .call { callee := .builtin .append, args := #[s, x], argTypes := #[t, t] })
 (base : Nat) (e : TypeId) (i : TypeInfo) (z : Value) (size bytes : Nat) (ht : P.underlying t = some (.slice e)) (hi : P.info? e = some i) (hz : i.zero = some z)
 (hsize : i.size = size) (hby : i.bytes = bytes) (hzs : z.cells.size = size) (hsz : 0 < size)
 (v : Value) (n : Nat) (xs : List Value) (hs : a.eval s = v) (hown : OwnAt w base e size v n xs)
 (ad : Addr) (m c : Nat) (news : List Value) (hx : a.eval x = .slice (some ad) m c) (hl : news.length = m * size) (hnews : ∀ j u, news[j]? = some u -> w.cell? (ad.add j) = some u) (h1 : ∀ u ∈ news, u.oneCell' = true)
 (h63 : n + m <= maxLen) (hbytes : (n + m) * bytes <= 140737488355328) (hbase : base <= w.heap.size) (hm : 0 < m)
 (h : ∀ v' w', OwnAt w' base e size v' (n + m) (xs ++ news) -> w.grownBy w' v.ownBlock -> OwnAt w' base e size v n xs -> (v'.ownBlock = v.ownBlock ∨ ∃ g, v'.ownBlock = some g /\ w.heap.size <= g /\ g < w'.heap.size) -> (∀ b off c, v = .slice (some ⟨b, off, none⟩) n c -> v'.ownBlock = some b -> ∃ n' c', v' = .slice (some ⟨b, off, none⟩) n' c' /\ n <= n') -> wpList P ops Q rest (a.put o.dst v') w') :
 wpList P ops Q (o :: rest) a w :=
 wpList_plain hgd fun _ hK => wp_append_ownAt2 w s x t ho base e i z size bytes ht hi hz hsize hby hzs hsz v n xs hs hown ad m c news hx hl hnews h1 h63 hbytes hbase hm fun v' w' h2 h3 h5 h4 h6 => hK _ _ (h v' w' h2 h3 h5 h4 h6)
end
section
variable {α : Type} {P : Program} {w : World} {r : Rep α}
theorem wpList_append_cells2 {ops : Array Oper} {rest : List Oper} {o : Oper} {a : Act} {Q : Exit -> Act -> World -> Prop} (hgd : o.guard = none) (s x : Operand) (t : TypeId)
 (ho : o.op = .call { callee := .builtin .append, args := #[s, x], argTypes := #[t, t] }) {e : TypeId} {i : TypeInfo} {z : Value} {bytes : Nat} (ht : P.underlying t = some (.slice e)) (hi : P.info? e = some i) (hz : i.zero = some z)
 (hsize : i.size = r.size) (hby : i.bytes = bytes) (hzs : z.cells.size = r.size) (hsz : 0 < r.size) (hone : ∀ w S a us, r.is w S a us -> ∀ u ∈ us, u.oneCell' = true)
 {S : Nat -> Prop} {base : Nat} {v : Value} {n : Nat} {l : List α} (hs : a.eval s = v) (hown : OwnP r S e w base v n l) (y : List α) (ad : Addr) (m c : Nat) (hx : a.eval x = .slice (some ad) m c) (hm : m = y.length) (hpos : 0 < m)
 {news : List Value} (hf : Flat r w S y news) (hnews : ∀ j u, news[j]? = some u -> w.cell? (ad.add j) = some u)
 (h63 : n + m <= maxLen) (hbytes : (n + m) * bytes <= 140737488355328) (hbase : base <= w.heap.size) (hS : ∀ b, S b -> b < w.heap.size /\ v.ownBlock ≠ some b)
 (h : ∀ v' w', OwnP r S e w' base v' (n + m) (l ++ y) -> w.grownBy w' v.ownBlock -> (v'.ownBlock = v.ownBlock ∨ ∃ g, v'.ownBlock = some g /\ w.heap.size <= g /\ g < w'.heap.size) -> KeptV r.size w w' v v' -> wpList P ops Q rest (a.put o.dst v') w') :
 wpList P ops Q (o :: rest) a w := by
 obtain ⟨hn, xs, hown, hfl⟩ := hown
 refine wpList_append_ownAt2 w hgd s x t ho base e i z r.size bytes ht hi hz hsize hby hzs hsz v n xs hs hown ad m c news hx (by rw [hm]; exact hf.length) hnews (hf.one' hone) h63 hbytes hbase hpos ?_
 intro v' w' h2 h3 h5 h4 h6
 have hk : ∀ k, S k -> w'.heap[k]? = w.heap[k]? := fun k hk => h3.block k (hS k hk).1 fun e => (hS k hk).2 e.symm
 exact h v' w' ⟨by rw [List.length_append, hn, hm], _, h2, Flat.append (hf.keep (fun _ h => h) hk) (hfl.keep (fun _ h => h) hk)⟩ h3 h4 (KeptV.of_own hown h5 h6)
end
end Go.Proofs.YtfbhchpbflaphaaGreatDoor

namespace Go.Proofs.YtfbhchpbflaphaaGreatDoor
open Go.RowKit Go.Maps Go.ChangeMaps
theorem beq_bytes {a b : ByteArray} : (a.toList == b.toList) = decide (a.data.toList = b.data.toList) := by rw [ByteArray.toList_eq, ByteArray.toList_eq, Bool.eq_iff_iff]; simp
theorem info123 : (Tryz.prog.info? 123).map (fun i => (i.zero, i.size, i.bytes)) = some (some (.agg zspot), 4, 80) := by kernel_rfl
def RetAd (g : Nat) (E : L.Env) (A M D : Option Addr) (a m d : Nat) (w : World) (v : Value) (r : Except Int L.St) (e : Ending) (w' : World) : Prop :=
 Tch (fun k => k = g ∨ v.ownBlock = some k) w w' /\ match r with
 | .error n => e = .returned (.int .i64 n)
 | .ok st' => e = .returned (.int .i64 0) /\ ∃ v', RlAt g E A M D a m d w' v' st' /\ (v'.ownBlock = v.ownBlock ∨ ∃ i, v'.ownBlock = some i /\ w.heap.size <= i /\ i < w'.heap.size) /\ KeptV spotR.size w w' v v'
section
variable {g : Nat} {E : L.Env} {A M D : Option Addr} {a m d : Nat} {w w' : World} {v : Value} {st : L.St}
theorem RlAt.pushed (h : RlAt g E A M D a m d w v st) {v' : Value} {p : L.Spot} (ho : OwnP spotR (fun k => k < g) 123 w' (g + 1) v' (st.1.length + 1) (spots E st.1 ++ [spotM E p])) (hg : w.grownBy w' v.ownBlock) :
 RlAt g E A M D a m d (w'.setCell ⟨g, 3, none⟩ v') v' (st.1 ++ [p], st.2) /\ Tch (fun k => k = g ∨ v.ownBlock = some k) w (w'.setCell ⟨g, 3, none⟩ v') /\ w'.cell? ⟨g, 3, none⟩ = some v /\ w'.frozen? ⟨g, 3, none⟩ = false := by
 have hT : Tch (fun i => v.ownBlock = some i) w w' := ⟨hg.os, hg.tape, hg.output, hg.size, fun i hi hx => hg.block i hi fun e => hx e.symm⟩
 have hS : Tch (fun i => i = g) w' (w'.setCell ⟨g, 3, none⟩ v') := grown_tch (grownBy_setCell w' ⟨g, 3, none⟩ v')
 have b1 := (hT.block _ h.lt fun e => by have := (h.own e).1; omega).trans h.row
 have hlw := h.lt
 have hT2 : Tch (fun k => k = g ∨ v.ownBlock = some k) w (w'.setCell ⟨g, 3, none⟩ v') := (hT.mono fun _ _ h => .inr h).trans' hS fun _ _ h => .inl h
 have hX : ∀ k, (k = g ∨ v.ownBlock = some k) -> g <= k := fun k hk => by
  rcases hk with rfl | hk
  ·exact Nat.le_refl _
  ·have := (h.own hk).1; omega
 refine ⟨⟨?_, low_tch h.objs hT2 hlw hX, low_tch h.mems hT2 hlw hX, low_tch h.libs hT2 hlw hX, ?_⟩, hT2, cell_of_row w' _ 3 _ _ _ b1, Lib.frozen_of_heap b1 3⟩
 ·have := heap_setCell_cells b1 3 v'
  exact this
 ·have h1 : OwnP spotR (fun k => k < g) 123 (w'.setCell ⟨g, 3, none⟩ v') (g + 1) v' (st.1.length + 1) (spots E st.1 ++ [spotM E p]) :=
   ho.tch hS (fun b hb e => by have := (ho.lt hb).1; omega) fun b hb => ⟨by have := hg.size; have hb2 : b < g := hb; omega, fun e => by have hb2 : b < g := hb; omega⟩
  have e1 : (st.1 ++ [p]).length = st.1.length + 1 := by simp
  have e2 : spots E (st.1 ++ [p]) = spots E st.1 ++ [spotM E p] := by unfold spots; simp
  show OwnP spotR _ 123 _ (g + 1) v' (st.1 ++ [p]).length (spots E (st.1 ++ [p]))
  rw [e1, e2]
  exact h1
end
theorem spotM_is {E : L.Env} {w : World} {B : Nat -> Prop} {p : L.Spot} {SA SB : Option Addr} {sc sd : Nat} (hSA : SliceAt symR w B SA sc (unitAt E p.1).2.1) (hSB : SliceAt secR w B SB sd (unitAt E p.1).2.2) (hs : (unitAt E p.1).1.size <= 9223372036854775807) (hx : p.2.size <= 9223372036854775807) :
 spotR.is w B (spotM E p) [.string (unitAt E p.1).1, .slice SA (unitAt E p.1).2.1.length sc, .slice SB (unitAt E p.1).2.2.length sd, .string p.2] :=
 ⟨[.string (unitAt E p.1).1, .slice SA (unitAt E p.1).2.1.length sc, .slice SB (unitAt E p.1).2.2.length sd], [.string p.2], rfl, ⟨[.string (unitAt E p.1).1], [.slice SA (unitAt E p.1).2.1.length sc, .slice SB (unitAt E p.1).2.2.length sd], rfl, ⟨rfl, hs⟩, [.slice SA (unitAt E p.1).2.1.length sc], [.slice SB (unitAt E p.1).2.2.length sd], rfl, ⟨SA, sc, rfl, hSA⟩, SB, sd, rfl, hSB⟩, rfl, hx⟩
attribute [local irreducible] wpLex wpT
set_option maxRecDepth 8000 in
set_option maxHeartbeats 4000000 in
theorem add_rf {g : Nat} {E : L.Env} {A M D : Option Addr} {a m d : Nat} {w : World} {v : Value} {st : L.St} (h : RlAt g E A M D a m d w v st) (hE : EnvOk E) (hl : L.ListOk E st.1) (p : L.Spot) (hp : p.1 < E.units.length) (hx : p.2.size <= 9223372036854775807) (SA SB : Option Addr) (sc sd : Nat)
 (hSA : SliceAt symR w (fun k => k < g) SA sc (unitAt E p.1).2.1) (hSB : SliceAt secR w (fun k => k < g) SB sd (unitAt E p.1).2.2) :
 Calls Tryz.prog 63 #[.pointer (some ⟨g, 0, none⟩), .agg (spotV (unitAt E p.1).1 SA (unitAt E p.1).2.1.length sc SB (unitAt E p.1).2.2.length sd p.2)] w (RetAd g E A M D a m d w v (L.addS st p)) := by
 have hnsz : (unitAt E p.1).1.size <= 9223372036854775807 := by rw [unitAt_is hp]; have := (hE.sizes _ (List.getElem_mem hp)).1; omega
 have HCMP : Hid (∀ k (hk : k < st.1.length), ((unitAt E st.1[k].1).1.toList == (unitAt E p.1).1.toList) = decide ((unitAt E st.1[k].1).1.data.toList = (unitAt E p.1).1.data.toList) /\ (st.1[k].2.toList == p.2.toList) = decide (st.1[k].2.data.toList = p.2.data.toList) /\
  (st.1[k] = p ↔ (unitAt E st.1[k].1).1.data.toList = (unitAt E p.1).1.data.toList /\ st.1[k].2.data.toList = p.2.data.toList)) := fun k hk => by
  refine ⟨beq_bytes, beq_bytes, ?_⟩
  rw [L.spot_eq hE.names (hl.2.2 _ (List.getElem_mem hk)).1 hp, unitAt_name, unitAt_name]
  exact and_congr Iff.rfl ⟨fun e => by rw [e], fun e => bytes_inj e⟩
 obtain ⟨R, hR⟩ : ∃ R, R = L.addS st p := ⟨_, rfl⟩
 rw [<- hR]
 have HR := Lib.hid hR
 have HMF := Lib.hid (spotM_is hSA hSB hnsz hx)
 obtain ⟨LA, lc, hv, hL⟩ := h.list.slice
 obtain ⟨n, hn⟩ : ∃ n, n = st.1.length := ⟨_, rfl⟩
 have hn8 : n <= 128 := by rw [hn]; exact hl.1
 obtain ⟨sn, hsn⟩ : ∃ q, q = (unitAt E p.1).2.1.length := ⟨_, rfl⟩
 obtain ⟨sm, hsm⟩ : ∃ q, q = (unitAt E p.1).2.2.length := ⟨_, rfl⟩
 obtain ⟨s, hs⟩ : ∃ q, q = (unitAt E p.1).1 := ⟨_, rfl⟩
 obtain ⟨x, hxe⟩ : ∃ q, q = p.2 := ⟨_, rfl⟩
 rw [<- hsn, <- hsm, <- hs, <- hxe] at HMF ⊢
 rw [<- hs, <- hxe] at HCMP
 rw [<- hn] at hv
 have HN := Lib.hid hn
 have HV := Lib.hid hv
 have HL := Lib.hid hL
 have HH := Lib.hid h
 obtain ⟨W1, hW1⟩ : ∃ W1, W1 = w.alloc (.cells #[.string s, .slice SA sn sc, .slice SB sm sd, .string x] 123) := ⟨_, rfl⟩
 obtain ⟨ab, hab⟩ : ∃ ab, ab = w.heap.size := ⟨_, rfl⟩
 have E1 : Ext w W1 := by rw [hW1]; exact (Ext.refl w).alloc _
 have hb1 : W1.heap[ab]? = some (.cells #[.string s, .slice SA sn sc, .slice SB sm sd, .string x] 123 (0, 0)) := by rw [hW1, hab]; exact heap_alloc_new w _
 have c3 : W1.cell? ⟨g, 3, none⟩ = _ := (h.ext E1).cell 3
 rw [show (#[.slice A E.objs.length a, .slice M E.mems.length m, .slice D E.libs.length d, v, .int .i64 (st.2.1 : Int), .int .i64 (st.2.2 : Int)] : Array Value)[3]? = some v from rfl, hv] at c3
 have HW1 := Lib.hid hW1
 have HAB := Lib.hid hab
 have HE1 := Lib.hid E1
 have HB1 := Lib.hid hb1
 clear h hE hl hp hx hSA hSB hnsz hR hv hL hn hsn hsm hs hxe hW1 hab E1 hb1
 go_enter Tryz.func63, Tryz.ntmps63
 go_upto_region 1 with (fail)
 rw [<- HW1.out, <- HAB.out]
 go_wp2_with fail
 clear c3
 go_loopw [12] (fun i wr => ∃ k : Nat, k <= n /\ i = .int .i64 (k : Int) /\ Hid ((∀ j (_ : j < st.1.length), j < k -> st.1[j] ≠ p) /\ Ext W1 wr)) (fun i _ => n - (intOf i).toNat)
 case atStart => exact ⟨0, Nat.zero_le _, rfl, fun j _ hj => absurd hj (Nat.not_lt_zero _), Ext.refl _⟩
 case round =>
  obtain ⟨k, hk, rfl, HK⟩ := hrel
  obtain ⟨W0, hW0⟩ : ∃ W0, W0 = wr := ⟨_, rfl⟩
  subst hW0
  by_cases hlt : k < n
  ·have hks : k < st.1.length := by rw [<- HN.out]; exact hlt
   have hkl : k < (spots E st.1).length := by rw [spots_len]; exact hks
   obtain ⟨lb, lo, TA, tc, TB, td, rfl, hbo, hs1, hs2, hTA, hTB, m0, m1, m2, m3⟩ := spot_get HL.out hkl
   have hxe := HE1.out.trans HK.out.2
   replace m0 := hxe.keepc m0
   replace m1 := hxe.keepc m1
   replace m2 := hxe.keepc m2
   replace m3 := hxe.keepc m3
   obtain ⟨hc1, hc2, hc3⟩ := HCMP.out k hks
   have hge : (spots E st.1)[k] = (unitAt E st.1[k].1, st.1[k].2) := spots_get E hks
   rw [hge] at m0 m1 m2 m3 hs1 hs2
   simp only at m0 m1 m2 m3 hs1 hs2
   generalize (unitAt E st.1[k].1).2.1.length = tl at m1
   generalize (unitAt E st.1[k].1).2.2.length = ul at m2
   generalize (unitAt E st.1[k].1).1 = y0 at m0 hs1 hc1 hc3
   obtain ⟨y1, hy1⟩ : ∃ y1, y1 = st.1[k].2 := ⟨_, rfl⟩
   rw [<- hy1] at m3 hs2 hc2 hc3
   obtain ⟨W4, hW4⟩ : ∃ W4, W4 = W0.alloc (.cells #[.string y0, .slice TA tl tc, .slice TB ul td, .string y1] 123) := ⟨_, rfl⟩
   obtain ⟨eb, heb⟩ : ∃ eb, eb = W0.heap.size := ⟨_, rfl⟩
   have E4 : Ext W0 W4 := by rw [hW4]; exact (Ext.refl W0).alloc _
   have hb4 : W4.heap[eb]? = some (.cells #[.string y0, .slice TA tl tc, .slice TB ul td, .string y1] 123 (0, 0)) := by rw [hW4, heb]; exact heap_alloc_new W0 _
   have t0 : W4.cell? ⟨eb, 0, none⟩ = _ := cell_of_row W4 eb 0 _ _ _ hb4
   have t3 : W4.cell? ⟨eb, 3, none⟩ = _ := cell_of_row W4 eb 3 _ _ _ hb4
   have ha := ((HK.out.2.trans E4).block _ (hltA HB1.out)).trans HB1.out
   have a0 : W4.cell? ⟨ab, 0, none⟩ = _ := cell_of_row W4 ab 0 _ _ _ ha
   have a3 : W4.cell? ⟨ab, 3, none⟩ = _ := cell_of_row W4 ab 3 _ _ _ ha
   have HEB := Lib.hid heb
   have HX4 := Lib.hid (HK.out.2.trans E4)
   have HNO := Lib.hid HK.out.1
   have HC3 := Lib.hid hc3
   clear hbo hs1 hs2 hTA hTB hge hkl hxe hc3 hy1 heb hb4 E4 ha HK
   go_upto_region 4 with (fail)
   rw [<- hW4, <- HEB.out]
   clear hW4 m0 m1 m2 m3
   have HSTEP : Hid (st.1[k] ≠ p -> ∀ j (_ : j < st.1.length), j < k + 1 -> st.1[j] ≠ p) := fun hne j hj hjk => by
    by_cases e : j = k
    ·subst e; exact hne
    ·exact HNO.out j hj (by omega)
   by_cases hq1 : y0.data.toList = s.data.toList
   ·rw [decide_eq_true hq1] at hc1
    by_cases hq2 : y1.data.toList = x.data.toList
    ·rw [decide_eq_true hq2] at hc2
     have hpe := HC3.out.2 ⟨hq1, hq2⟩
     have hres : R = .ok st := by
      rw [HR.out]
      unfold L.addS
      rw [if_pos (L.has_iff.2 (hpe ▸ List.getElem_mem hks))]
     have HRES := Lib.hid hres
     clear hq1 hq2 hpe hres
     go_wp2_with fail
     go_ret
     rw [HRES.out]
     have hX := HE1.out.trans HX4.out
     exact ⟨hX.tch _, rfl, v, HH.out.ext hX, .inl rfl, KeptV.ext hX⟩
    ·rw [decide_eq_false hq2] at hc2
     have HNX := Lib.hid (HSTEP.out fun e => hq2 (HC3.out.1 e).2)
     clear hq1 hq2
     go_wp2_with fail
     go_roundw
     case rel => exact ⟨k + 1, by omega, by go_num, HNX.out, HX4.out⟩
     case measure => simp [intOf]; omega
   ·rw [decide_eq_false hq1] at hc1
    have HNX := Lib.hid (HSTEP.out fun e => hq1 (HC3.out.1 e).1)
    clear hq1 hc2
    go_wp2_with fail
    go_roundw
    case rel => exact ⟨k + 1, by omega, by go_num, HNX.out, HX4.out⟩
    case measure => simp [intOf]; omega
  ·obtain rfl : k = n := by omega
   have hno : L.has st.1 p = false := by
    rw [Bool.eq_false_iff]
    intro e
    obtain ⟨j, hj, e2⟩ := List.getElem_of_mem (L.has_iff.1 e)
    exact HK.out.1 j hj (by rw [HN.out]; exact hj) e2
   have HX0 := Lib.hid HK.out.2
   have hH0 := HH.out.ext (HE1.out.trans HK.out.2)
   have HH0 := Lib.hid hH0
   have c3 : W0.cell? ⟨g, 3, none⟩ = _ := hH0.cell 3
   rw [show (#[.slice A E.objs.length a, .slice M E.mems.length m, .slice D E.libs.length d, v, .int .i64 (st.2.1 : Int), .int .i64 (st.2.2 : Int)] : Array Value)[3]? = some v from rfl, HV.out] at c3
   have HNO := Lib.hid hno
   clear hno hH0 HK hlt hk
   by_cases hbig : 128 <= k
   ·have hres : R = .error 10 := by
     rw [HR.out]
     unfold L.addS
     rw [HNO.out, if_neg Bool.false_ne_true, if_pos (by rw [<- HN.out]; exact hbig)]
    have HRES := Lib.hid hres
    have hdb : decide ((128 : Int) <= (k : Int)) = true := decide_eq_true (by omega)
    clear hres
    go_wp2_with fail
    go_ret
    rw [HRES.out]
    exact ⟨(HE1.out.trans HX0.out).tch _, rfl⟩
   ·have hres : R = .ok (st.1 ++ [p], st.2) := by
     rw [HR.out]
     unfold L.addS
     rw [HNO.out, if_neg Bool.false_ne_true, if_neg (by rw [<- HN.out]; exact hbig)]
    have HRES := Lib.hid hres
    have hdb : decide ((128 : Int) <= (k : Int)) = false := decide_eq_false (by omega)
    have hk8 : k < 128 := by omega
    have ha := (HX0.out.block _ (hltA HB1.out)).trans HB1.out
    have a0 : W0.cell? ⟨ab, 0, none⟩ = _ := cell_of_row W0 ab 0 _ _ _ ha
    have a1 : W0.cell? ⟨ab, 1, none⟩ = _ := cell_of_row W0 ab 1 _ _ _ ha
    have a2 : W0.cell? ⟨ab, 2, none⟩ = _ := cell_of_row W0 ab 2 _ _ _ ha
    have a3 : W0.cell? ⟨ab, 3, none⟩ = _ := cell_of_row W0 ab 3 _ _ _ ha
    have n1 : ¬ v.ownBlock = some g := fun e => by have := (HH.out.own e).1; omega
    have n2 : ¬ v.ownBlock = some ab := fun e => by have := (HH.out.own e).2; have := HAB.out; omega
    obtain ⟨Φ, hΦ⟩ : ∃ Φ : World -> Prop, ∀ W, Φ W ↔ Tch (fun i => v.ownBlock = some i) W0 W := ⟨_, fun _ => Iff.rfl⟩
    have h0 : Φ W0.drew := (hΦ _).2 (((Ext.refl W0).drew).tch _)
    have fx0 : ∀ z : Lat Φ, z.w'.cell? ⟨g, 3, none⟩ = _ := fun z => ((hΦ _).1 z.h).keepc c3 n1
    have fx1 : ∀ z : Lat Φ, z.w'.cell? ⟨ab, 0, none⟩ = _ := fun z => ((hΦ _).1 z.h).keepc a0 n2
    have fx2 : ∀ z : Lat Φ, z.w'.cell? ⟨ab, 1, none⟩ = _ := fun z => ((hΦ _).1 z.h).keepc a1 n2
    have fx3 : ∀ z : Lat Φ, z.w'.cell? ⟨ab, 2, none⟩ = _ := fun z => ((hΦ _).1 z.h).keepc a2 n2
    have fx4 : ∀ z : Lat Φ, z.w'.cell? ⟨ab, 3, none⟩ = _ := fun z => ((hΦ _).1 z.h).keepc a3 n2
    have hne := Lat.some h0
    clear hres hbig ha
    go_upto_region 9 with (fail)
    refine wp_region_tail 10 [6, 7] Φ h0 (by kernel_rfl) (by kernel_rfl) (by kernel_rfl) ?_
    simp only [List.take_succ_cons, List.take_zero, List.drop_succ_cons, List.drop_zero]
    iterate 6 (refine lex_pure rfl rfl rfl ?_; intro K hK; go_big_quiet_op; go_big_quiet_on)
    refine lex_eff rfl ?_
    go_wp2_with fail
    obtain ⟨W5, hW5⟩ : ∃ W5, W5 = (W0.alloc (.cells #[.string s, .slice SA sn sc, .slice SB sm sd, .string x] 123)).drew := ⟨_, rfl⟩
    have E5 : Ext W0 W5 := by rw [hW5]; exact ((Ext.refl W0).alloc _).drew
    have hs5 : ∀ j u, ([.string s, .slice SA sn sc, .slice SB sm sd, .string x] : List Value)[j]? = some u -> W5.cell? ((⟨W0.heap.size, 0, none⟩ : Addr).add j) = some u := by
     rw [hW5]
     intro j u hj
     rw [Addr.add_lit, Nat.zero_add]
     exact new_cells W0 [.string s, .slice SA sn sc, .slice SB sm sd, .string x] 123 _ rfl j u hj
    rw [<- hW5]
    have hP5 : Φ W5 := (hΦ _).2 (E5.tch _)
    have HH5 := Lib.hid (HH0.out.ext E5)
    have hlt5 := HH5.out.lt
    have hS5 : ∀ b, b < g -> b < W5.heap.size /\ v.ownBlock ≠ some b := fun b hb => ⟨by omega, fun e => by have := (HH.out.own e).1; omega⟩
    have hE5 : Ext w W5 := (HE1.out.trans HX0.out).trans E5
    have hgw := HH.out.lt
    have hF5 : Flat spotR W5 (fun k => k < g) [spotM E p] [.string s, .slice SA sn sc, .slice SB sm sd, .string x] := Flat.one (spotR.keep HMF.out (fun _ h => h) fun b hb => hE5.block b (Nat.lt_trans hb hgw))
    have hlist := HH5.out.list
    rw [<- HN.out] at hlist
    have hve : Value.slice LA k lc = v := HV.out.symm
    obtain ⟨i9, hi9, hz9, hz91, hz92⟩ := info_parts info123
    clear hW5
    refine ⟨⟨⟨W5, hP5⟩, rfl⟩, ?_⟩
    refine lex_eff rfl ?_
    go_wp2_with (at_builtin; refine wpList_append_cells2 rfl (.tmp 41) (.tmp 43) 113 rfl Tryz.underlying113 hi9 hz9 hz91 hz92 rfl (by decide) spot_one hve hlist [spotM E p] ⟨W0.heap.size, 0, none⟩ 1 1 rfl rfl (by decide) hF5 hs5 (by unfold maxLen; omega) (by omega) hlt5 hS5 ?_; intro v5 w5 hown5 hg5 hv5 hk5)
    obtain ⟨A5, c5, rfl, _⟩ := hown5.form
    have HK6 : Hid (KeptV spotR.size w (w5.setCell ⟨g, 3, none⟩ (.slice A5 (k + 1) c5)) v (.slice A5 (k + 1) c5)) := by
     have hTk : Tch (fun i => v.ownBlock = some i) W5 w5 := ⟨hg5.os, hg5.tape, hg5.output, hg5.size, fun i hi hx => hg5.block i hi fun e => hx e.symm⟩
     have k1 := (KeptV.ext (size := spotR.size) (v := v) hE5).trans hk5 hTk (fun _ _ h => h) (fun b hb => by have := (HH.out.own hb).2; have := hE5.size; omega) fun b hb => by
      rcases hv5 with h | ⟨i, h1, h2, _⟩
      ·exact .inl (h.symm.trans hb)
      ·rw [h1] at hb; cases hb; exact .inr h2
     have hS : Tch (fun i => i = g) w5 (w5.setCell ⟨g, 3, none⟩ (.slice A5 (k + 1) c5)) := grown_tch (grownBy_setCell w5 ⟨g, 3, none⟩ _)
     exact k1.trans (KeptV.tch hS fun b hb e => by have := (hown5.lt hb).1; omega) hS (fun b hb e => by have := (HH.out.own hb).1; omega) (fun b hb => by have := (HH.out.own hb).2; have := hE5.size; have := hTk.size; omega) fun b hb => .inl hb
    have hT5 : Tch (fun i => v.ownBlock = some i) W0 w5 := (E5.tch _).trans ⟨hg5.os, hg5.tape, hg5.output, hg5.size, fun i hi hx => hg5.block i hi fun e => hx e.symm⟩
    refine ⟨⟨⟨w5, (hΦ _).2 hT5⟩, rfl⟩, ?_⟩
    iterate 2 (refine lex_pure rfl rfl rfl ?_; intro K hK; go_big_quiet_op; go_big_quiet_on)
    refine lex_nil ?_
    show wpList _ _ _ (_ :: []) _ _
    rw [HN.out] at hown5
    obtain ⟨hR6, hT6, x6, xf⟩ := HH5.out.pushed hown5 hg5
    rw [HV.out] at x6
    rw [<- HN.out] at hR6 hT6
    have HR6 := Lib.hid hR6
    have HT6 := Lib.hid hT6
    have HV5 := Lib.hid hv5
    have HE5 := Lib.hid hE5
    have HG5 := Lib.hid hg5
    clear fx0 fx1 fx2 fx3 fx4 hne h0 hT5 hR6 hT6 hk5 hv5 hg5 hown5 hs5 hF5 hS5 E5 n1 n2 c3 a0 a1 a2 a3 hP5 hE5 hlist hve hi9 hz9 hz91 hz92 hlt5 hgw
    go_wp2_with fail
    go_ret
    rw [HRES.out]
    refine ⟨(HE5.out.tch _).trans HT6.out, rfl, _, HR6.out, ?_, HK6.out⟩
    rcases HV5.out with h | ⟨i, h1, h2, h3⟩
    ·exact .inl h
    ·exact .inr ⟨i, h1, Nat.le_trans HE5.out.size h2, Nat.lt_of_lt_of_le h3 (grownBy_setCell w5 ⟨g, 3, none⟩ _).size⟩
end Go.Proofs.YtfbhchpbflaphaaGreatDoor

namespace Go.Proofs.YtfbhchpbflaphaaGreatDoor
open Go.RowKit Go.Maps Go.ChangeMaps
def Le2 (a b : Nat × Nat) : Prop := a.1 <= b.1 /\ a.2 <= b.2
theorem Le2.trans {a b c : Nat × Nat} (h : Le2 a b) (k : Le2 b c) : Le2 a c := ⟨Nat.le_trans h.1 k.1, Nat.le_trans h.2 k.2⟩
theorem note_le (st : L.St) (m : Nat × Nat) : Le2 st.2 (L.note st m).2 /\ Le2 m (L.note st m).2 := ⟨⟨Nat.le_max_left _ _, Nat.le_max_left _ _⟩, Nat.le_max_right _ _, Nat.le_max_right _ _⟩
theorem note_same {st : L.St} {m : Nat × Nat} (h : Le2 m st.2) : L.note st m = st := by unfold L.note; rw [Nat.max_eq_left h.1, Nat.max_eq_left h.2]
theorem addS_two {st st' : L.St} {p : L.Spot} (h : L.addS st p = .ok st') : st'.2 = st.2 := by
 unfold L.addS at h
 split at h
 ·cases h; rfl
 ·split at h
  ·cases h
  ·cases h; rfl
theorem stepR_le {E : L.Env} {u : Nat} {st st' : L.St} {x : ByteArray} (h : L.stepR E u st x = .ok st') : Le2 st.2 st'.2 /\ Le2 (L.aimN E u x) st'.2 := by
 unfold L.stepR at h
 split at h
 ·cases h
 ·rw [addS_two h]; exact note_le _ _
 ·cases h; exact note_le _ _
theorem relsF_le {E : L.Env} {u : Nat} : ∀ {l : List C.Rel} {st st' : L.St}, L.relsF E u l st = .ok st' -> Le2 st.2 st'.2 /\ ∀ r ∈ l, Le2 (L.aimN E u r.2) st'.2
 | [], st, st', h => by cases h; exact ⟨⟨Nat.le_refl _, Nat.le_refl _⟩, fun r hr => absurd hr (List.not_mem_nil)⟩
 | r :: l, st, st', h => by
  rw [L.relsF] at h
  cases hs : L.stepR E u st r.2 with
  | error e => rw [hs] at h; cases h
  | ok s1 =>
   rw [hs] at h
   obtain ⟨a1, a2⟩ := stepR_le hs
   obtain ⟨b1, b2⟩ := relsF_le h
   refine ⟨a1.trans b1, fun q hq => ?_⟩
   rcases List.mem_cons.1 hq with rfl | hq
   ·exact a2.trans b1
   ·exact b2 q hq
def NotedTo (E : L.Env) (l : List L.Spot) (n : Nat × Nat) (k : Nat) : Prop := ∀ i (_ : i < l.length), i < k -> ∀ r ∈ E.rels l[i], Le2 (L.aimN E l[i].1 r.2) n
theorem NotedTo.mono {E : L.Env} {l m : List L.Spot} {n n' : Nat × Nat} {k : Nat} (h : NotedTo E l n k) (hp : l <+: m) (hk : k <= l.length) (hn : Le2 n n') : NotedTo E m n' k := by
 obtain ⟨t, rfl⟩ := hp
 intro i hi hik r hr
 have e : (l ++ t)[i] = l[i]'(by omega) := List.getElem_append_left (by omega)
 rw [e] at hr ⊢
 exact (h i (by omega) hik r hr).trans hn
theorem selF_noted {E : L.Env} (hU : L.UnitsOk okN E) : ∀ {f k : Nat} {st st' : L.St}, L.selF E f k st = .ok st' -> 128 < f + k -> k <= st.1.length -> L.ListOk E st.1 -> NotedTo E st.1 st.2 k -> NotedTo E st'.1 st'.2 st'.1.length
 | 0, k, st, st', h, hf, hk, hL, hC => by have := hL.1; omega
 | f + 1, k, st, st', h, hf, hk, hL, hC => by
  by_cases hlt : k < st.1.length
  ·rw [selF_step hlt] at h
   cases hs : L.relsF E st.1[k].1 (E.rels st.1[k]) st with
   | error e => rw [hs] at h; cases h
   | ok s1 =>
    rw [hs] at h
    have h : L.selF E f (k + 1) s1 = .ok st' := h
    have hu := (hL.2.2 _ (List.getElem_mem hlt)).1
    obtain ⟨a1, a2, _⟩ := L.relsF_ok hU hu hs hL
    obtain ⟨c1, c2⟩ := relsF_le hs
    have hle := a2.length_le
    refine selF_noted hU h (by omega) (by omega) a1 fun i hi hik r hr => ?_
    by_cases e : i = k
    ·subst e
     have e2 : s1.1[i] = st.1[i] := by
      obtain ⟨t, ht⟩ := a2
      simp only [<- ht]
      exact List.getElem_append_left hlt
     rw [e2] at hr ⊢
     exact c2 r hr
    ·exact hC.mono a2 hk c1 i hi (by omega) r hr
  ·rw [selF_end hlt] at h
   cases h
   have e : k = st.1.length := by omega
   exact e ▸ hC
def MtG (g : Nat) (E : L.Env) (A M D : Option Addr) (a m d : Nat) (w : World) (v : Value) (st' : L.St) (q : L.Aim) (s : ByteArray) (TA : Option Addr) (tn tc : Nat) (TB : Option Addr) (un td : Nat) (y : ByteArray) (li er : Int) : Prop := match q with
 | .bad n => er = n
 | .lib j => er = 0 /\ li = (j : Int) /\ RlAt g E A M D a m d w v st'
 | .spot p => er = 0 /\ li = -1 /\ RlAt g E A M D a m d w v st' /\ s = (unitAt E p.1).1 /\ tn = (unitAt E p.1).2.1.length /\ un = (unitAt E p.1).2.2.length /\ y = p.2 /\ SliceAt symR w (fun k => k < g) TA tc (unitAt E p.1).2.1 /\ SliceAt secR w (fun k => k < g) TB td (unitAt E p.1).2.2
section
variable {g : Nat} {E : L.Env} {A M D : Option Addr} {a m d : Nat} {w w' : World} {v : Value} {st' : L.St} {q : L.Aim}
theorem mt_form {e : Ending} (h : RetMt g E A M D a m d w v st' q e w') : Tch (fun k => k = g) w w' /\ w'.cell? ⟨g, 3, none⟩ = some v /\ ∃ s TA tn tc TB un td y li er, e = .returned (.tuple #[.agg (spotV s TA tn tc TB un td y), .int .i64 li, .int .i64 er]) /\ MtG g E A M D a m d w' v st' q s TA tn tc TB un td y li er := by
 obtain ⟨h1, h2, h3⟩ := h
 refine ⟨h1, h2, ?_⟩
 cases q with
 | bad n => exact ⟨_, _, _, _, _, _, _, _, _, _, h3, rfl⟩
 | lib j => exact ⟨_, _, _, _, _, _, _, _, _, _, h3.1, rfl, rfl, h3.2⟩
 | spot p =>
  obtain ⟨⟨SA, sc, SB, sd, h4, h5, h6⟩, h7⟩ := h3
  exact ⟨_, _, _, _, _, _, _, _, _, _, h4, rfl, rfl, h7, rfl, rfl, rfl, rfl, h5, h6⟩
theorem MtG.tch {X : Nat -> Prop} {s : ByteArray} {TA : Option Addr} {tn tc : Nat} {TB : Option Addr} {un td : Nat} {y : ByteArray} {li er : Int} (h : MtG g E A M D a m d w v st' q s TA tn tc TB un td y li er) (hT : Tch X w w') (hX : ∀ k, X k -> g < k /\ v.ownBlock ≠ some k) (hg : g < w.heap.size) : MtG g E A M D a m d w' v st' q s TA tn tc TB un td y li er := by
 unfold MtG at h ⊢
 have h0 : ∀ k, v.ownBlock = some k -> ¬ X k := fun k hk hx => (hX k hx).2 hk
 cases q with
 | bad n => exact h
 | lib j => exact ⟨h.1, h.2.1, h.2.2.tch hT (fun k hk => (hX k hk).1) h0⟩
 | spot p =>
  obtain ⟨h1, h2, h3, h4, h5, h6, h7, h8, h9⟩ := h
  exact ⟨h1, h2, h3.tch hT (fun k hk => (hX k hk).1) h0, h4, h5, h6, h7, low_tch h8 hT hg fun k hk => Nat.le_of_lt (hX k hk).1, low_tch h9 hT hg fun k hk => Nat.le_of_lt (hX k hk).1⟩
end
theorem own_spot {S : Nat -> Prop} {w : World} {base : Nat} {v : Value} {n k : Nat} {l : List SpotM} (h : OwnP spotR S 123 w base v n l) (hk : k < l.length) :
 ∃ b off cap SA sc SB sd, v = .slice (some ⟨b, off, none⟩) n cap /\ base <= b /\ l[k].1.1.size <= 9223372036854775807 /\ l[k].2.size <= 9223372036854775807 /\ SliceAt symR w S SA sc l[k].1.2.1 /\ SliceAt secR w S SB sd l[k].1.2.2 /\
  (w.cell? ⟨b, off + k * 4, none⟩ = some (.string l[k].1.1) /\ w.cell? ⟨b, off + k * 4 + 1, none⟩ = some (.slice SA l[k].1.2.1.length sc) /\ w.cell? ⟨b, off + k * 4 + 1 + 1, none⟩ = some (.slice SB l[k].1.2.2.length sd) /\ w.cell? ⟨b, off + k * 4 + 3, none⟩ = some (.string l[k].2)) := by
 obtain ⟨hn, xs, ho, hf⟩ := h
 obtain ⟨b, off, cap, rfl, hb, _, _, _, hx⟩ := ho.cells (by omega)
 obtain ⟨us, ⟨x, y, rfl, ⟨x1, y1, rfl, ⟨rfl, hs⟩, x2, y2, rfl, ⟨SA, sc, rfl, hSA⟩, SB, sd, rfl, hSB⟩, rfl, hy⟩, hc⟩ := hf.row hx k hk
 exact ⟨b, off, cap, SA, sc, SB, sd, rfl, hb, hs, hy, hSA, hSB, hc 0 _ rfl, hc 1 _ rfl, hc 2 _ rfl, hc 3 _ rfl⟩
end Go.Proofs.YtfbhchpbflaphaaGreatDoor
