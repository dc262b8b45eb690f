/- The texts Sb Da Db Dc of the seat, joined. -/
import Derived.Test.YtjimgkefacnamaaGreatDoorG11
/- object's source: head. -/
namespace Go.Proofs.YtjimgkefacnamaaGreatDoor
open Go.RowKit Go.Maps Go.ChangeMaps

/-- Whether the word stands there; what is left. -/
theorem beq_mkB (l m : C.Bs) : ((mkB l).toList == (mkB m).toList) = decide (l = m) := by
  rw [ByteArray.toList_eq, ByteArray.toList_eq, mkB_data, mkB_data]
  by_cases h : l = m <;> simp [h]
set_option maxHeartbeats 1000000 in
theorem head_rd (word : C.Bs) (hw : word.length ≤ 100) (st : Option C.Bs) (rb : Nat) (w : World) (h : RdT 152 w rb st) :
    Calls Tryz.prog 56 #[.agg #[.pointer (some ⟨rb, 0, none⟩)], .string (mkB word)] w fun e w' => e = .returned (.bool (decide ((nT word.length st).1 = word))) ∧ RdT 152 w' rb (nT word.length st).2 ∧ w.grownBy w' (some rb) := by
  have E1 : Ext w (w.alloc (.cells #[.pointer (some ⟨rb, 0, none⟩)] 117)) := (Ext.refl w).alloc _
  have HT := Lib.hid (Text_rd word.length (by omega) st rb _ (h.ext E1))
  have hz : (mkB word).size = word.length := mkB_size word
  have HB := Lib.hid (beq_mkB (nT word.length st).1 word)
  have HG := Lib.hid (grownBy_ext E1 (some rb))
  obtain ⟨s, hs⟩ : ∃ s, s = (nT word.length st).1 := ⟨_, rfl⟩
  have HT2 := HT.out
  unfold RetT at HT2
  rw [← hs] at HT2 HB ⊢
  have HTT := Lib.hid HT2
  obtain ⟨bb, hbb⟩ : ∃ bb, bb = decide (s = word) := ⟨_, rfl⟩
  rw [← hbb] at HB ⊢
  obtain ⟨x, hx⟩ : ∃ x, x = mkB s := ⟨_, rfl⟩
  obtain ⟨y, hy⟩ : ∃ y, y = mkB word := ⟨_, rfl⟩
  rw [← hx] at HTT HB
  rw [← hy] at hz HB ⊢
  clear HT HT2 hs hbb hx hy
  go_enter Tryz.func56, Tryz.ntmps56
  go_wp2_with fail
  refine HTT.out.mono ?_
  rintro e w1 ⟨rfl, h1, g1⟩
  have H1 := Lib.hid h1
  have G1 := Lib.hid g1
  clear h1 g1
  go_wp2_with fail
  go_ret
  exact ⟨by rw [← HB.out]; rfl, H1.out, grownBy_trans HG.out G1.out⟩


end Go.Proofs.YtjimgkefacnamaaGreatDoor

/- Decode: what stands while it reads. -/
namespace Go.Proofs.YtjimgkefacnamaaGreatDoor
open Go.RowKit Go.Maps Go.ChangeMaps

theorem heap2_set0 {w : World} {b : Nat} {x y : Value} {T : TypeId} (h : w.heap[b]? = some (.cells #[x, y] T (0, 0))) (u : Value) : (w.setCell ⟨b, 0, none⟩ u).heap[b]? = some (.cells #[u, y] T (0, 0)) := heap_set0 h u
/-- The blocks of Decode: its result, its reader, what points to it, the object. -/
def Dfx (w : World) (rb sb ob base : Nat) (v v2 : Value) (st : Option C.Bs) (wr : World) : Prop :=
  RdT 152 wr rb st ∧ (∃ x y, wr.heap[w.heap.size]? = some (.cells #[x, y] 25 (0, 0))) ∧ wr.heap[sb]? = some (.cells #[.pointer (some ⟨rb, 0, none⟩)] 117 (0, 0)) ∧ wr.heap[ob]? = some (.cells #[v, v2] 25 (0, 0)) ∧ Ext w wr ∧ (w.heap.size < rb ∧ rb < sb ∧ sb < ob ∧ ob < base) ∧ base ≤ wr.heap.size
section
variable {w : World} {rb sb ob base : Nat} {v v2 : Value} {st : Option C.Bs} {wr : World}
theorem Dfx.ptr (h : Dfx w rb sb ob base v v2 st wr) : wr.cell? ⟨sb, 0, none⟩ = some (.pointer (some ⟨rb, 0, none⟩)) := cell_of_row wr _ 0 _ _ _ h.2.2.1
theorem Dfx.fld0 (h : Dfx w rb sb ob base v v2 st wr) : wr.cell? ⟨ob, 0, none⟩ = some v ∧ wr.frozen? ⟨ob, 0, none⟩ = false := ⟨cell_of_row wr _ 0 _ _ _ h.2.2.2.1, Lib.frozen_of_heap h.2.2.2.1 0⟩
theorem Dfx.fld1 (h : Dfx w rb sb ob base v v2 st wr) : wr.cell? ⟨ob, 1, none⟩ = some v2 ∧ wr.frozen? ⟨ob, 1, none⟩ = false := ⟨cell_of_row wr _ 1 _ _ _ h.2.2.2.1, Lib.frozen_of_heap h.2.2.2.1 1⟩
theorem Dfx.res (h : Dfx w rb sb ob base v v2 st wr) : ∃ x y, (wr.cell? ⟨w.heap.size, 0, none⟩ = some x ∧ wr.frozen? ⟨w.heap.size, 0, none⟩ = false) ∧ (wr.cell? ⟨w.heap.size, 1, none⟩ = some y ∧ wr.frozen? ⟨w.heap.size, 1, none⟩ = false) := by
  obtain ⟨x, y, hb⟩ := h.2.1
  exact ⟨x, y, ⟨cell_of_row wr _ 0 _ _ _ hb, Lib.frozen_of_heap hb 0⟩, cell_of_row wr _ 1 _ _ _ hb, Lib.frozen_of_heap hb 1⟩
theorem Dfx.lt (h : Dfx w rb sb ob base v v2 st wr) : ob < wr.heap.size := (Array.getElem?_eq_some_iff.1 h.2.2.2.1).1
/-- A step that writes the reader, or a row. -/
theorem Dfx.keepBut (h : Dfx w rb sb ob base v v2 st wr) {w' : World} {row : Option Nat} (g : wr.grownBy w' row) (hr : ∀ k, row = some k → base ≤ k) : Dfx w rb sb ob base v v2 st w' := by
  have hl := h.lt
  obtain ⟨h1, ⟨x, y, h2⟩, h3, h4, h5, ⟨b1, b2, b3, b4⟩, h7⟩ := h
  exact ⟨h1.keep (g.block rb h1.lt fun e => by have := hr _ e.symm; omega), ⟨x, y, (g.block _ (by omega) fun e => by have := hr _ e.symm; omega).trans h2⟩, (g.block sb (by omega) fun e => by have := hr _ e.symm; omega).trans h3,
    (g.block ob hl fun e => by have := hr _ e.symm; omega).trans h4, Below.grown h5 g h5.size fun k hk => by have := hr k hk; omega, ⟨b1, b2, b3, b4⟩, Nat.le_trans h7 g.size⟩
theorem Dfx.ext (h : Dfx w rb sb ob base v v2 st wr) {w' : World} (d : Ext wr w') : Dfx w rb sb ob base v v2 st w' := h.keepBut (row := none) ⟨d.os, d.tape, d.output, d.size, fun k hk _ => d.block k hk⟩ fun _ e => by cases e
theorem Dfx.reader (h : Dfx w rb sb ob base v v2 st wr) {w' : World} {st' : Option C.Bs} (hr : RdT 152 w' rb st') (g : wr.grownBy w' (some rb)) : Dfx w rb sb ob base v v2 st' w' := by
  have hl := h.lt
  obtain ⟨h1, ⟨x, y, h2⟩, h3, h4, h5, ⟨b1, b2, b3, b4⟩, h7⟩ := h
  have hne : ∀ k, k ≠ rb → (some k : Option Nat) ≠ some rb := fun k hk e => hk (Option.some.inj e)
  exact ⟨hr, ⟨x, y, (g.block _ (by omega) (hne _ (by omega))).trans h2⟩, (g.block sb (by omega) (hne _ (by omega))).trans h3, (g.block ob hl (hne _ (by omega))).trans h4, h5.own (by omega) g, ⟨b1, b2, b3, b4⟩, Nat.le_trans h7 g.size⟩
theorem Dfx.set0 (h : Dfx w rb sb ob base v v2 st wr) (u : Value) : Dfx w rb sb ob base u v2 st (wr.setCell ⟨ob, 0, none⟩ u) := by
  have hl := h.lt
  obtain ⟨h1, ⟨x, y, h2⟩, h3, h4, h5, ⟨b1, b2, b3, b4⟩, h7⟩ := h
  have g := grown_set wr ob 0 u
  have hne : ∀ k, k ≠ ob → (some k : Option Nat) ≠ some ob := fun k hk e => hk (Option.some.inj e)
  exact ⟨h1.keep (g.block rb h1.lt (hne _ (by omega))), ⟨x, y, (g.block _ (by omega) (hne _ (by omega))).trans h2⟩, (g.block sb (by omega) (hne _ (by omega))).trans h3, heap_set0 h4 u, h5.own (by omega) g, ⟨b1, b2, b3, b4⟩, Nat.le_trans h7 g.size⟩
theorem Dfx.set1 (h : Dfx w rb sb ob base v v2 st wr) (u : Value) : Dfx w rb sb ob base v u st (wr.setCell ⟨ob, 1, none⟩ u) := by
  have hl := h.lt
  obtain ⟨h1, ⟨x, y, h2⟩, h3, h4, h5, ⟨b1, b2, b3, b4⟩, h7⟩ := h
  have g := grown_set wr ob 1 u
  have hne : ∀ k, k ≠ ob → (some k : Option Nat) ≠ some ob := fun k hk e => hk (Option.some.inj e)
  exact ⟨h1.keep (g.block rb h1.lt (hne _ (by omega))), ⟨x, y, (g.block _ (by omega) (hne _ (by omega))).trans h2⟩, (g.block sb (by omega) (hne _ (by omega))).trans h3, heap_set1 h4 u, h5.own (by omega) g, ⟨b1, b2, b3, b4⟩, Nat.le_trans h7 g.size⟩
end
theorem dfx_push {α : Type} {r : Rep α} {e : TypeId} {w : World} {rb sb ob base base' n : Nat} {v v2 vv v' : Value} {st : Option C.Bs} {W W1 w5 : World} {l : List α} {xs us : List Value} {a : α} (h : Dfx w rb sb ob base v v2 st W) (hn : n = l.length)
    (hoa : OwnAt W base' e r.size vv n xs) (hfl : Flat r W (Bl W base' vv) l xs) (hbb : base ≤ base') (he : Ext W W1) (ha : r.is W1 (Bl W1 base' vv) a us)
    (ho : OwnAt w5 base' e r.size v' (n + 1) (xs ++ us)) (hg : W1.grownBy w5 vv.ownBlock) (hv : v'.ownBlock = vv.ownBlock ∨ ∃ g, v'.ownBlock = some g ∧ W1.heap.size ≤ g ∧ g < w5.heap.size) :
    Dfx w rb sb ob base v v2 st w5 ∧ OwnF r w5 base' e v' (n + 1) (l ++ [a]) := by
  have hlow := own_low hoa
  refine ⟨(h.ext he).keepBut hg fun k hk => Nat.le_trans hbb (hlow k hk), ?_⟩
  exact OwnF.push hn (hfl.keep (fun k hk => ⟨hk.1, Nat.lt_of_lt_of_le hk.2.1 he.size, hk.2.2⟩) fun k hk => he.block k hk.2.1) ha ho hg hv
theorem SliceAt.range {α : Type} {r : Rep α} {w w' : World} {lo hi c : Nat} {A : Option Addr} {l : List α} {row : Option Nat} (h : SliceAt r w (fun k => lo ≤ k ∧ k < hi) A c l) (hg : w.grownBy w' row) (hr : ∀ k, row = some k → k < lo ∨ hi ≤ k) (hhi : hi ≤ w.heap.size) : SliceAt r w' (fun k => lo ≤ k ∧ k < hi) A c l :=
  h.keep (fun _ hk => hk) fun k hk => hg.block k (by omega) fun e => by have := hr k e.symm; omega
theorem SliceAt.rangeExt {α : Type} {r : Rep α} {w w' : World} {lo hi c : Nat} {A : Option Addr} {l : List α} (h : SliceAt r w (fun k => lo ≤ k ∧ k < hi) A c l) (he : Ext w w') (hhi : hi ≤ w.heap.size) : SliceAt r w' (fun k => lo ≤ k ∧ k < hi) A c l :=
  h.keep (fun _ hk => hk) fun k hk => he.block k (by omega)
theorem secR_is {W : World} {S : Nat → Prop} {kd : Int} {d : ByteArray} {rs : List C.Rel} {A : Option Addr} {c nr : Nat} (hn : nr = rs.length) (hk : (Lit.int .i64 kd).wf = true) (hd : d.size ≤ 9223372036854775807) (h : SliceAt relR W S A c rs) : secR.is W S (kd, d, rs) [.int .i64 kd, .string d, .slice A nr c] := by
  subst hn
  exact ⟨[.int .i64 kd], [.string d, .slice A rs.length c], rfl, ⟨rfl, hk⟩, [.string d], [.slice A rs.length c], rfl, ⟨rfl, hd⟩, A, c, rfl, h⟩
/-- What Decode gives. -/
def RetObj (w : World) (r : Option C.Obj) (e : Ending) (w' : World) : Prop := Ext w w' ∧ match r with
  | some o => ∃ A n c B m d, e = .returned (.tuple #[.agg #[.slice A n c, .slice B m d], .int .i64 0]) ∧ n = o.1.length ∧ m = o.2.length ∧ SliceAt symR w' (New w w') A c o.1 ∧ SliceAt secR w' (New w w') B d o.2
  | none => e = .returned (.tuple #[.agg #[.slice none 0 0, .slice none 0 0], .int .i64 17])
theorem retObj_none {w w' : World} {r : Option C.Obj} (hr : r = none) (he : Ext w w') : RetObj w r (.returned (.tuple #[.agg #[.slice none 0 0, .slice none 0 0], .int .i64 17])) w' := by
  subst hr; exact ⟨he, rfl⟩
theorem retObj_some {w W : World} {o : C.Obj} {A B : Option Addr} {c d n m : Nat} {r : Option C.Obj} (hr : r = some o) (he : Ext w W) (hn : n = o.1.length) (hm : m = o.2.length) (h1 : SliceAt symR W (fun k => w.heap.size < k ∧ k < W.heap.size) A c o.1) (h2 : SliceAt secR W (fun k => w.heap.size < k ∧ k < W.heap.size) B d o.2) (u v : Value) :
    RetObj w r (.returned (.tuple #[.agg #[.slice A n c, .slice B m d], .int .i64 0])) ((W.setCell ⟨w.heap.size, 0, none⟩ u).setCell ⟨w.heap.size, 1, none⟩ v) := by
  subst hr
  have g : W.grownBy ((W.setCell ⟨w.heap.size, 0, none⟩ u).setCell ⟨w.heap.size, 1, none⟩ v) (some w.heap.size) := grownBy_trans (grown_set _ _ _ _) (grown_set _ _ _ _)
  refine ⟨he.own (Nat.le_refl _) g, A, n, c, B, m, d, rfl, hn, hm, ?_, ?_⟩
  · exact h1.keep (fun k hk => ⟨by omega, Nat.lt_of_lt_of_le hk.2 g.size⟩) fun k hk => g.block k hk.2 fun e => by have := Option.some.inj e; omega
  · exact h2.keep (fun k hk => ⟨by omega, Nat.lt_of_lt_of_le hk.2 g.size⟩) fun k hk => g.block k hk.2 fun e => by have := Option.some.inj e; omega
/-- The symbols so far; their names are short. -/
def Shorts (syms : List C.Sym) : Prop := ∀ s ∈ syms, s.1.size ≤ 32
theorem Shorts.push {syms : List C.Sym} (h : Shorts syms) {s : ByteArray} {m q : Int} (hs : s.size ≤ 32) : Shorts (syms ++ [(s, m, q)]) := by
  intro x hx
  rcases List.mem_append.1 hx with h1 | h1
  · exact h x h1
  · simp at h1; subst h1; exact hs
theorem sym_info : (Tryz.prog.info? 29).map (fun i => (i.zero, i.size, i.bytes)) = some (some (.agg #[.string ⟨#[]⟩, .int .i64 0, .int .i64 0]), 3, 32) := by kernel_rfl
theorem sec_info : (Tryz.prog.info? 85).map (fun i => (i.zero, i.size, i.bytes)) = some (some (.agg #[.int .i64 0, .string ⟨#[]⟩, .slice none 0 0]), 3, 48) := by kernel_rfl
theorem wf_small {n : Int} (h : -9000000000000000000 ≤ n ∧ n ≤ 9000000000000000000) : (Lit.int .i64 n).wf = true := by simp [Lit.wf, IntKind.min, IntKind.max, IntKind.bits, IntKind.signed]; omega
theorem encV_form (o : C.Obj) : ∃ s e, encV o = .tuple #[.string s, .int .i64 e] := by
  unfold encV
  split
  · split
    · exact ⟨_, _, rfl⟩
    · exact ⟨_, _, rfl⟩
  · exact ⟨_, _, rfl⟩

end Go.Proofs.YtjimgkefacnamaaGreatDoor

/- object.Decode. -/
namespace Go.Proofs.YtjimgkefacnamaaGreatDoor
open Go.RowKit Go.Maps Go.ChangeMaps
set_option linter.unusedVariables false

set_option maxRecDepth 100000 in
set_option maxHeartbeats 8000000 in
theorem Decode_any (data : ByteArray) (w : World) (hds : data.size ≤ 9000000000000000000) (hg : Gl w) :
    Calls Tryz.prog 23 #[.string data] w (RetObj w (C.decB okN data.data.toList)) := by
  have hdl : data.data.toList.length = data.size := by simp
  obtain ⟨R, hR⟩ : ∃ R, R = C.decB okN data.data.toList := ⟨_, rfl⟩
  rw [← hR]
  have HDL := Lib.hid hdl
  have HG := Lib.hid hg
  have FLong := Lib.hid (fun h => hR.trans (dec_long h))
  have FHead := Lib.hid (fun h => hR.trans (dec_head h))
  have FBad := Lib.hid (fun st o h he => hR.trans (dec_bad (st := st) (o := o) h he))
  have FGood := Lib.hid (fun st o hl h he hc => show R = some o ∧ C.encObj o = data.data.toList from ⟨hR.trans (dec_good (st := st) (o := o) hl h he hc).1, (dec_good (st := st) (o := o) hl h he hc).2⟩)
  have HSTEPS := Lib.hid (fun st2 st4 syms secs => obj_steps data.data.toList st2 st4 syms secs)
  obtain ⟨W0, hW0⟩ : ∃ W0, W0 = w.alloc (.cells #[.slice none 0 0, .slice none 0 0] 25) := ⟨_, rfl⟩
  have E0 : Ext w W0 := by rw [hW0]; exact (Ext.refl w).alloc _
  have B0 : Hid (W0.heap[w.heap.size]? = some (.cells #[.slice none 0 0, .slice none 0 0] 25 (0, 0))) := by unfold Hid; rw [hW0]; exact heap_alloc_new w _
  have HNR := Lib.hid (NewReader_any data W0 hds)
  have HE0 := Lib.hid E0
  have hz0 : w.heap.size < W0.heap.size := by rw [hW0]; simp
  clear hdl hg hR E0
  go_enter Tryz.func23, Tryz.ntmps23
  go_wp2_with fail
  rw [← hW0]
  clear hW0
  refine HNR.out.mono ?_
  rintro e w1 ⟨rfl, h1, d1⟩
  obtain ⟨rb, hrb⟩ : ∃ rb, rb = W0.heap.size := ⟨_, rfl⟩
  rw [← hrb] at h1 hz0 ⊢
  have hlt1 := h1.lt
  have H1 := Lib.hid h1
  have HB1 := Lib.hid (d1.heap B0.out)
  have HX1 := Lib.hid (HE0.out.trans d1)
  clear h1 d1 hrb HNR
  rcases Nat.lt_or_ge 65536 data.size with hbig | hbig
  · have HR := Lib.hid (FLong.out (by have := HDL.out; omega))
    have hb2 := (Ext.refl w1).alloc (.cells #[.pointer (some ⟨rb, 0, none⟩)] 117) |>.heap HB1.out
    have q0 : (w1.alloc (.cells #[.pointer (some ⟨rb, 0, none⟩)] 117)).cell? ⟨w.heap.size, 0, none⟩ = some (.slice none 0 0) := cell_of_row _ _ 0 _ _ _ hb2
    have q1 : (w1.alloc (.cells #[.pointer (some ⟨rb, 0, none⟩)] 117)).cell? ⟨w.heap.size, 1, none⟩ = some (.slice none 0 0) := cell_of_row _ _ 1 _ _ _ hb2
    have f0 : (w1.alloc (.cells #[.pointer (some ⟨rb, 0, none⟩)] 117)).frozen? ⟨w.heap.size, 0, none⟩ = false := Lib.frozen_of_heap hb2 0
    have f1 : (w1.alloc (.cells #[.pointer (some ⟨rb, 0, none⟩)] 117)).frozen? ⟨w.heap.size, 1, none⟩ = false := Lib.frozen_of_heap hb2 1
    clear hb2
    go_wp2_with fail
    exact bodyPost_ret (v := .tuple #[.agg #[.slice none 0 0, .slice none 0 0], .int .i64 17]) (by simp [results, Tryz.results23, go_sem, q0, q1]) rfl (retObj_none HR.out (((HX1.out.alloc _).setCell (p := ⟨w.heap.size, 0, none⟩) (Nat.le_refl _) _).setCell (p := ⟨w.heap.size, 1, none⟩) (Nat.le_refl _) _))
  obtain ⟨sb, hsb⟩ : ∃ sb, sb = w1.heap.size := ⟨_, rfl⟩
  obtain ⟨w2, hw2⟩ : ∃ w2, w2 = w1.alloc (.cells #[.pointer (some ⟨rb, 0, none⟩)] 117) := ⟨_, rfl⟩
  have E2 : Ext w1 w2 := by rw [hw2]; exact (Ext.refl w1).alloc _
  have s2 : w2.heap[sb]? = some (.cells #[.pointer (some ⟨rb, 0, none⟩)] 117 (0, 0)) := by rw [hw2, hsb]; exact heap_alloc_new w1 _
  have HS2 := Lib.hid s2
  have H2 := Lib.hid (H1.out.ext E2)
  have HB2 := Lib.hid (E2.heap HB1.out)
  have HX2 := Lib.hid (HX1.out.trans E2)
  have hrs : rb < sb := by rw [hsb]; exact hlt1
  have HHD : Hid (Calls Tryz.prog 56 #[.agg #[.pointer (some ⟨rb, 0, none⟩)], .string ⟨#[111, 98, 106, 101, 99, 116]⟩] w2 fun e w' => e = .returned (.bool (decide ((nT 6 (some data.data.toList)).1 = C.wObject))) ∧ RdT 152 w' rb (nT 6 (some data.data.toList)).2 ∧ w2.grownBy w' (some rb)) :=
    head_rd C.wObject (by decide) (some data.data.toList) rb w2 H2.out
  have HSB := Lib.hid hsb
  have HW2 := Lib.hid hw2
  clear E2 s2 hlt1 hsb hw2
  go_wp2_with fail
  rw [← HW2.out, ← HSB.out]
  refine HHD.out.mono ?_
  rintro e w3 ⟨rfl, h3, g3⟩
  have hne3 : ∀ k, k ≠ rb → (some k : Option Nat) ≠ some rb := fun k hk e => hk (Option.some.inj e)
  have HS3 := Lib.hid ((g3.block sb (Array.getElem?_eq_some_iff.1 HS2.out).1 (hne3 _ (by omega))).trans HS2.out)
  have HB3 := Lib.hid ((g3.block _ (Array.getElem?_eq_some_iff.1 HB2.out).1 (hne3 _ (by omega))).trans HB2.out)
  have HX3 := Lib.hid (HX2.out.own (by omega) g3)
  have H3 := Lib.hid h3
  clear h3 g3 hne3
  by_cases hw : ¬ (nT 6 (some data.data.toList)).1 = C.wObject
  · have HR := Lib.hid (FHead.out hw)
    rw [decide_eq_false hw]
    have q0 : w3.cell? ⟨w.heap.size, 0, none⟩ = some (.slice none 0 0) := cell_of_row _ _ 0 _ _ _ HB3.out
    have q1 : w3.cell? ⟨w.heap.size, 1, none⟩ = some (.slice none 0 0) := cell_of_row _ _ 1 _ _ _ HB3.out
    have f0 : w3.frozen? ⟨w.heap.size, 0, none⟩ = false := Lib.frozen_of_heap HB3.out 0
    have f1 : w3.frozen? ⟨w.heap.size, 1, none⟩ = false := Lib.frozen_of_heap HB3.out 1
    clear hw
    go_wp2_with fail
    exact bodyPost_ret (v := .tuple #[.agg #[.slice none 0 0, .slice none 0 0], .int .i64 17]) (by simp [results, Tryz.results23, go_sem, q0, q1]) rfl (retObj_none HR.out ((HX3.out.setCell (p := ⟨w.heap.size, 0, none⟩) (Nat.le_refl _) _).setCell (p := ⟨w.heap.size, 1, none⟩) (Nat.le_refl _) _))
  have hw' := Classical.not_not.1 hw
  rw [decide_eq_true hw']
  obtain ⟨ob, hob⟩ : ∃ ob, ob = w3.heap.size := ⟨_, rfl⟩
  obtain ⟨w4, hw4⟩ : ∃ w4, w4 = w3.alloc (.cells #[.slice none 0 0, .slice none 0 0] 25) := ⟨_, rfl⟩
  have E4 : Ext w3 w4 := by rw [hw4]; exact (Ext.refl w3).alloc _
  have hos : sb < ob := by rw [hob]; exact (Array.getElem?_eq_some_iff.1 HS3.out).1
  have hd4 : Dfx w rb sb ob (ob + 1) (.slice none 0 0) (.slice none 0 0) (nT 6 (some data.data.toList)).2 w4 :=
    ⟨H3.out.ext E4, ⟨_, _, E4.heap HB3.out⟩, E4.heap HS3.out, by rw [hw4, hob]; exact heap_alloc_new w3 _, HX3.out.trans E4, ⟨hz0, hrs, hos, Nat.lt_succ_self _⟩, by rw [hw4, hob]; simp⟩
  have HD4 := Lib.hid hd4
  have HW := Lib.hid hw'
  have hp4 := hd4.ptr
  have HOB := Lib.hid hob
  have HW4 := Lib.hid hw4
  have hp3 : w3.cell? ⟨sb, 0, none⟩ = some (.pointer (some ⟨rb, 0, none⟩)) := cell_of_row _ _ 0 _ _ _ HS3.out
  have hp3a := alloc_keepc (.cells #[.slice none 0 0, .slice none 0 0] 25) hp3
  clear hw hw' hob hw4 E4 hd4
  go_wp2_with fail
  rw [← HW4.out, ← HOB.out]
  clear hp3 hp3a hp4
  obtain ⟨st0, hst0⟩ : ∃ x, x = (nT 6 (some data.data.toList)).2 := ⟨_, rfl⟩
  rw [← hst0] at HD4 HSTEPS
  refine (Number_rd 0 128 st0 rb w4 HD4.out.1).mono ?_
  rintro e w5 ⟨rfl, h5, g5⟩
  have hn0 := nN_range 0 128 (by decide) (by decide) st0
  obtain ⟨N0, hN0⟩ : ∃ N0 : Nat, (nN 0 128 st0).1 = (N0 : Int) := ⟨(nN 0 128 st0).1.toNat, by omega⟩
  have hd5 := HD4.out.reader h5 g5
  rw [hN0] at hn0 HSTEPS ⊢
  rw [Int.toNat_natCast] at HSTEPS
  obtain ⟨st1, hst1⟩ : ∃ x, x = (nN 0 128 st0).2 := ⟨_, rfl⟩
  rw [← hst1] at hd5 HSTEPS
  obtain ⟨X, hX⟩ : ∃ X, X = pMore C.pSym N0 st1 [] := ⟨_, rfl⟩
  rw [← hX] at HSTEPS
  have hN8 : N0 ≤ 128 := by omega
  have HST := Lib.hid (show Dfx w rb sb ob (ob + 1) (.slice none 0 0) (.slice none 0 0) st1 w5 ∧ OwnF symR w5 (ob + 1) 29 (.slice none 0 0) 0 [] ∧ pMore C.pSym N0 st1 [] = X ∧ Shorts [] from ⟨hd5, OwnF.nil _ _ _ _, hX.symm, fun _ h => by cases h⟩)
  clear h5 g5 hd5 hX hN0 hn0 hst0 hst1 H1 H2 H3 HB1 HB2 HB3 HX1 HX2 HX3 HS2 HS3 HHD HD4 B0 HE0
  go_upto_block 0 with fail
  go_cut [6] (fun _ wx => ∃ (n : Nat) (A : Option Addr) (c : Nat) (st : Option C.Bs) (syms : List C.Sym), n ≤ 128 ∧ Hid (Dfx w rb sb ob (ob + 1) (.slice A n c) (.slice none 0 0) st wx ∧ OwnF symR wx (ob + 1) 29 (.slice A n c) n syms ∧ st.map (fun q => (syms, q)) = X ∧ Shorts syms))
  case first =>
    go_wp2_with fail
    go_loopw [6] (fun nv wr => ∃ (k n : Nat) (A : Option Addr) (c : Nat) (st : Option C.Bs) (syms : List C.Sym), nv = .int .i64 k ∧ n + k ≤ 128 ∧ Hid (Dfx w rb sb ob (ob + 1) (.slice A n c) (.slice none 0 0) st wr ∧ OwnF symR wr (ob + 1) 29 (.slice A n c) n syms ∧ pMore C.pSym k st syms = X ∧ Shorts syms)) (fun nv _ => (intOf nv).toNat)
    case atStart => exact ⟨N0, 0, none, 0, st1, [], rfl, by omega, HST⟩
    case round =>
      clear HST hN8
      obtain ⟨k, n, A, c, st, syms, rfl, hnk, HK⟩ := hrel
      have hp := HK.out.1.ptr
      by_cases hk0 : k = 0
      · subst hk0
        go_wp2_with fail
        go_meet
        exact ⟨n, A, c, st, syms, by omega, HK.out.1, HK.out.2.1, by rw [← HK.out.2.2.1]; exact (pMore_end (.inl rfl)).symm, HK.out.2.2.2⟩
      · obtain ⟨j, rfl⟩ : ∃ j, k = j + 1 := ⟨k - 1, by omega⟩
        clear hk0
        go_wp2_with fail
        refine (Err_rd st rb wr HK.out.1.1).mono ?_
        rintro e w6 ⟨⟨er, rfl, her⟩, rfl⟩
        cases st with
        | none =>
          have hne : (er == 0) = false := by
            rcases her with ⟨_, h⟩ | ⟨h, _⟩
            · cases h
            · simpa using h
          clear her
          go_wp2_with fail
          go_meet
          exact ⟨n, A, c, none, syms, by omega, HK.out.1, HK.out.2.1, by rw [← HK.out.2.2.1]; rfl, HK.out.2.2.2⟩
        | some l =>
          have he0 : er = 0 := by
            rcases her with ⟨h, _⟩ | ⟨_, h⟩
            · exact h
            · cases h
          subst he0
          clear her
          go_wp2_with fail
          have HF0 := Lib.hid (HK.out.2.1.ext (Ext.refl wr).drew)
          have hro : rb < ob + 1 := by omega
          obtain ⟨i1, hi1, hz10, hz11, hz12⟩ := info_parts sym_info
          obtain ⟨Φ, hΦ⟩ : ∃ Φ : World → Prop, ∀ x, Φ x ↔ x.cell? ⟨ob, 0, none⟩ = some (.slice A n c) ∧ x.cell? ⟨sb, 0, none⟩ = some (.pointer (some ⟨rb, 0, none⟩)) := ⟨_, fun _ => Iff.rfl⟩
          have h0 : Φ wr.drew := (hΦ _).2 ⟨HK.out.1.fld0.1, hp⟩
          have fx0 : ∀ x : Lat Φ, x.w'.cell? ⟨ob, 0, none⟩ = some (.slice A n c) := fun x => ((hΦ _).1 x.h).1
          have fx1 : ∀ x : Lat Φ, x.w'.cell? ⟨sb, 0, none⟩ = some (.pointer (some ⟨rb, 0, none⟩)) := fun x => ((hΦ _).1 x.h).2
          have hne := Lat.some h0
          have HΦ := Lib.hid hΦ
          have HD0 := Lib.hid (HK.out.1.ext (Ext.refl wr).drew)
          have HP := Lib.hid HK.out.2.2.1
          have HSH := Lib.hid HK.out.2.2.2
          have HSY := Lib.hid (sym_steps (some l))
          have N1 := Lib.hid (fun W h => Text_at 32 32 rfl (by decide) (some l) rb W h)
          have hl1 := nT_len 32 (some l)
          have hs32 : (mkB (nT 32 (some l)).1).size ≤ 32 := by rw [mkB_size]; exact hl1
          unfold RetT at N1
          obtain ⟨sy, hsy⟩ : ∃ x, x = mkB (nT 32 (some l)).1 := ⟨_, rfl⟩
          obtain ⟨s1, hs1⟩ : ∃ x, x = (nT 32 (some l)).2 := ⟨_, rfl⟩
          rw [← hsy] at N1 hs32 HSY
          rw [← hs1] at N1 HSY
          have N2 := Lib.hid (fun W h => Number_rd 0 3 s1 rb W h)
          have hr2 := nN_range 0 3 (by decide) (by decide) s1
          unfold RetN at N2
          obtain ⟨md, hmd⟩ : ∃ x, x = (nN 0 3 s1).1 := ⟨_, rfl⟩
          obtain ⟨s2, hs2⟩ : ∃ x, x = (nN 0 3 s1).2 := ⟨_, rfl⟩
          rw [← hmd] at N2 HSY hr2
          rw [← hs2] at N2 HSY
          have N3 := Lib.hid (fun W h => Number_rd 0 128 s2 rb W h)
          have hr3 := nN_range 0 128 (by decide) (by decide) s2
          unfold RetN at N3
          obtain ⟨q, hq⟩ : ∃ x, x = (nN 0 128 s2).1 := ⟨_, rfl⟩
          obtain ⟨s3, hs3⟩ : ∃ x, x = (nN 0 128 s2).2 := ⟨_, rfl⟩
          rw [← hq] at N3 HSY hr3
          rw [← hs3] at N3 HSY
          have hwrap : IntKind.i64.wrap (q - 1) = q - 1 := IntWalk.i64_in _ (by omega)
          have HNX := Lib.hid ((pMore_step C.pSym j (some l) s3 syms _ HSY.out).trans HP.out)
          clear hΦ HK hl1 hsy hs1 hmd hs2 hq hs3 hp
          refine wp_region_tail 16 [4, 7, 10, 13, 14] Φ h0 (by kernel_rfl) (by kernel_rfl) (by kernel_rfl) ?_
          simp only [List.take_succ_cons, List.take_zero, List.drop_succ_cons, List.drop_zero]
          iterate 4 (refine lex_pure rfl rfl rfl ?_; intro K hK; go_big_quiet_op; go_big_quiet_on)
          refine lex_eff rfl ?_
          go_wp2_with fail
          refine (N1.out _ HD0.out.1).mono ?_
          rintro e w7 ⟨rfl, h7, g7⟩
          have HD7 := Lib.hid (HD0.out.reader h7 g7)
          have HF7 := Lib.hid (HF0.out.grownLow g7 hro)
          clear h7 g7
          go_wp2_with fail
          refine ⟨⟨⟨w7, (HΦ.out _).2 ⟨HD7.out.fld0.1, HD7.out.ptr⟩⟩, rfl⟩, ?_⟩
          iterate 2 (refine lex_pure rfl rfl rfl ?_; intro K hK; go_big_quiet_op; go_big_quiet_on)
          refine lex_eff rfl ?_
          go_wp2_with fail
          refine (N2.out _ HD7.out.1).mono ?_
          rintro e w8 ⟨rfl, h8, g8⟩
          have HD8 := Lib.hid (HD7.out.reader h8 g8)
          have HF8 := Lib.hid (HF7.out.grownLow g8 hro)
          clear h8 g8
          go_wp2_with fail
          refine ⟨⟨⟨w8, (HΦ.out _).2 ⟨HD8.out.fld0.1, HD8.out.ptr⟩⟩, rfl⟩, ?_⟩
          iterate 2 (refine lex_pure rfl rfl rfl ?_; intro K hK; go_big_quiet_op; go_big_quiet_on)
          refine lex_eff rfl ?_
          go_wp2_with fail
          refine (N3.out _ HD8.out.1).mono ?_
          rintro e w9 ⟨rfl, h9, g9⟩
          have HD9 := Lib.hid (HD8.out.reader h9 g9)
          have HF9 := Lib.hid (HF8.out.grownLow g9 hro)
          clear h9 g9
          go_wp2_with fail
          refine ⟨⟨⟨w9, (HΦ.out _).2 ⟨HD9.out.fld0.1, HD9.out.ptr⟩⟩, rfl⟩, ?_⟩
          iterate 2 (refine lex_pure rfl rfl rfl ?_; intro K hK; go_big_quiet_op; go_big_quiet_on)
          refine lex_eff rfl ?_
          go_wp2_with fail
          have HE9 : Ext w9 (w9.alloc (.cells #[.string sy, .int .i64 md, .int .i64 (q - 1)] 29)) := (Ext.refl w9).alloc _
          have HD10 := Lib.hid (HD9.out.ext HE9)
          obtain ⟨hnn, xs, hoa, hfl⟩ := HF9.out
          have HNN := Lib.hid hnn
          have HFL := Lib.hid hfl
          have HOA := Lib.hid hoa
          have hwm : (Lit.int .i64 md).wf = true := wf_small (by omega)
          have hwq : (Lit.int .i64 (q - 1)).wf = true := wf_small (by omega)
          refine ⟨⟨⟨_, (HΦ.out _).2 ⟨HD10.out.fld0.1, HD10.out.ptr⟩⟩, rfl⟩, ?_⟩
          refine lex_eff rfl ?_
          refine wpList_append_ownAt _ rfl (.tmp 37) (.tmp 49) 22 rfl (ob + 1) 29 i1 (.agg #[.string ⟨#[]⟩, .int .i64 0, .int .i64 0]) 3 32 Tryz.underlying22 hi1 hz10 hz11 hz12 rfl (by decide) _ _ _ rfl (hoa.ext HE9) ⟨w9.heap.size, 0, none⟩ 1 1 [.string sy, .int .i64 md, .int .i64 (q - 1)] rfl rfl (cells_new_list w9 [.string sy, .int .i64 md, .int .i64 (q - 1)] 29 _ rfl) (by intro u hu; simp at hu; rcases hu with rfl | rfl | rfl <;> rfl) (by unfold maxLen; omega) (by omega) (by have := HE9.size; have := HD9.out.2.2.2.2.2.2; omega) (by decide) ?_
          intro v' w10 hown' hgrow _ hloc
          have hpu := dfx_push (r := symR) (a := ((sy, md, q - 1) : C.Sym)) HD9.out HNN.out HOA.out HFL.out (Nat.le_refl _) HE9 ⟨[.string sy], [.int .i64 md, .int .i64 (q - 1)], rfl, ⟨rfl, by show sy.size ≤ _; omega⟩, [.int .i64 md], [.int .i64 (q - 1)], rfl, ⟨rfl, hwm⟩, rfl, hwq⟩ hown' hgrow hloc
          obtain ⟨A3, c3, rfl⟩ := own_form2 hown'
          have HPD := Lib.hid hpu.1
          have HPF := Lib.hid hpu.2
          have f10 := hpu.1.fld0
          clear hown' hgrow hloc hpu hoa hfl hnn
          go_wp2_with fail
          refine ⟨⟨⟨_, (HΦ.out _).2 ⟨HPD.out.fld0.1, HPD.out.ptr⟩⟩, rfl⟩, ?_⟩
          refine lex_pure rfl rfl rfl ?_
          intro K hK
          go_big_quiet_op
          go_big_quiet_on
          refine lex_nil ?_
          clear fx0 fx1 hne h0
          obtain ⟨f10, f11⟩ := f10
          go_wp2_with fail
          exact ⟨⟨j, n + 1, A3, c3, s3, syms ++ [(sy, md, q - 1)], rfl, by omega, HPD.out.set0 _, HPF.out.grownLow (grown_set _ _ _ _) (by omega), HNX.out, HSH.out.push hs32⟩, by simp [intOf]⟩
  case rest =>
    clear HST hN8
    obtain ⟨n, A, c, st, syms, hn, hcut⟩ := hcut
    have hp := hcut.out.1.ptr
    have HD := Lib.hid hcut.out.1
    have HF := Lib.hid hcut.out.2.1
    have HXE := Lib.hid hcut.out.2.2.1
    have HSH := Lib.hid hcut.out.2.2.2
    clear hcut
    go_wp2_with fail
    refine (Number_rd 0 128 st rb _ HD.out.1).mono ?_
    rintro e w6 ⟨rfl, h6, g6⟩
    have HD6 := Lib.hid (HD.out.reader h6 g6)
    have HF6 := Lib.hid (HF.out.grownLow g6 (by omega))
    have hn0 := nN_range 0 128 (by decide) (by decide) st
    have hsteps := fun st4 secs => HSTEPS.out st st4 syms secs HW.out HXE.out
    obtain ⟨N1, hN1⟩ : ∃ N1 : Nat, (nN 0 128 st).1 = (N1 : Int) := ⟨(nN 0 128 st).1.toNat, by omega⟩
    rw [hN1] at hn0 hsteps ⊢
    rw [Int.toNat_natCast] at hsteps
    obtain ⟨st2, hst2⟩ : ∃ x, x = (nN 0 128 st).2 := ⟨_, rfl⟩
    rw [← hst2] at HD6 hsteps
    obtain ⟨Y, hY⟩ : ∃ Y, Y = pMore (C.pSec syms) N1 st2 [] := ⟨_, rfl⟩
    rw [← hY] at hsteps
    have HSTP := Lib.hid hsteps
    have hN8 : N1 ≤ 128 := by omega
    obtain ⟨base, hbase⟩ : ∃ base, base = w6.heap.size := ⟨_, rfl⟩
    have hob6 : ob + 1 ≤ base := by rw [hbase]; exact HD6.out.2.2.2.2.2.2
    have hsl : SliceAt symR w6 (fun k => ob + 1 ≤ k ∧ k < base) A c syms := by
      obtain ⟨A', c', h1, h2⟩ := HF6.out.slice
      cases h1
      rw [hbase]
      exact h2
    have HNS := Lib.hid HF6.out.1
    have HST := Lib.hid (show Dfx w rb sb ob (ob + 1) (.slice A n c) (.slice none 0 0) st2 w6 ∧ SliceAt symR w6 (fun k => ob + 1 ≤ k ∧ k < base) A c syms ∧ OwnF secR w6 base 85 (.slice none 0 0) 0 [] ∧ pMore (C.pSec syms) N1 st2 [] = Y ∧ base ≤ w6.heap.size
      from ⟨HD6.out, hsl, OwnF.nil _ _ _ _, hY.symm, by rw [hbase]; exact Nat.le_refl _⟩)
    clear hsl
    clear h6 g6 hY hN1 hn0 hst2 hsteps hbase HD HF HD6 HF6 hp
    go_upto_block 2 with fail
    go_cut [7] (fun _ wx => ∃ (m : Nat) (B : Option Addr) (d : Nat) (st4 : Option C.Bs) (secs : List C.Sec), m ≤ 128 ∧ Hid (Dfx w rb sb ob (ob + 1) (.slice A n c) (.slice B m d) st4 wx ∧ SliceAt symR wx (fun k => ob + 1 ≤ k ∧ k < base) A c syms ∧ OwnF secR wx base 85 (.slice B m d) m secs ∧ st4.map (fun q => (secs, q)) = Y ∧ base ≤ wx.heap.size))
    case first =>
      go_wp2_with fail
      go_loopw [7] (fun nv wr => ∃ (k m : Nat) (B : Option Addr) (d : Nat) (st : Option C.Bs) (secs : List C.Sec), nv = .int .i64 k ∧ m + k ≤ 128 ∧ Hid (Dfx w rb sb ob (ob + 1) (.slice A n c) (.slice B m d) st wr ∧ SliceAt symR wr (fun k => ob + 1 ≤ k ∧ k < base) A c syms ∧ OwnF secR wr base 85 (.slice B m d) m secs ∧ pMore (C.pSec syms) k st secs = Y ∧ base ≤ wr.heap.size)) (fun nv _ => (intOf nv).toNat)
      case atStart => exact ⟨N1, 0, none, 0, st2, [], rfl, by omega, HST⟩
      case round =>
        clear HST hN8
        obtain ⟨k, m, B, d, st, secs, rfl, hmk, HK⟩ := hrel
        have hp := HK.out.1.ptr
        by_cases hk0 : k = 0
        · subst hk0
          go_wp2_with fail
          go_meet
          exact ⟨m, B, d, st, secs, by omega, HK.out.1, HK.out.2.1, HK.out.2.2.1, by rw [← HK.out.2.2.2.1]; exact (pMore_end (.inl rfl)).symm, HK.out.2.2.2.2⟩
        · obtain ⟨j, rfl⟩ : ∃ j, k = j + 1 := ⟨k - 1, by omega⟩
          clear hk0
          go_wp2_with fail
          refine (Err_rd st rb wr HK.out.1.1).mono ?_
          rintro e w7 ⟨⟨er, rfl, her⟩, rfl⟩
          cases st with
          | none =>
            have hne : (er == 0) = false := by
              rcases her with ⟨_, h⟩ | ⟨h, _⟩
              · cases h
              · simpa using h
            clear her
            go_wp2_with fail
            go_meet
            exact ⟨m, B, d, none, secs, by omega, HK.out.1, HK.out.2.1, HK.out.2.2.1, by rw [← HK.out.2.2.2.1]; rfl, HK.out.2.2.2.2⟩
          | some l =>
            have he0 : er = 0 := by
              rcases her with ⟨h, _⟩ | ⟨_, h⟩
              · exact h
              · cases h
            subst he0
            clear her
            have hf0 := HK.out.1.fld0.1
            have HSR := Lib.hid (section_rd syms A c n (some l) rb wr HK.out.1.1 HNS.out (HK.out.2.1.sub fun k hk => ⟨by have := HK.out.2.2.2.2; omega, by omega⟩) (by omega))
            go_wp2_with fail
            refine HSR.out.mono ?_
            rintro e w8 ⟨g8, kd, dd, rs, A2, nr, c2, st', rfl, hnr, hnr8, hkd, hdd, hsl, h8, hmap⟩
            have HD8 := Lib.hid (HK.out.1.reader h8 g8)
            have HSY8 := Lib.hid (HK.out.2.1.range g8 (fun k e => by have := Option.some.inj e; omega) HK.out.2.2.2.2)
            have HF8 := Lib.hid (HK.out.2.2.1.grownLow g8 (by omega))
            have HB8 := Lib.hid (show base ≤ w8.heap.size from Nat.le_trans HK.out.2.2.2.2 g8.size)
            have HSL := Lib.hid hsl
            have HNX := Lib.hid ((pMore_step (C.pSec syms) j (some l) st' secs _ hmap).trans HK.out.2.2.2.1)
            have HNR := Lib.hid hnr
            have HMAP := Lib.hid hmap
            have hwk : (Lit.int .i64 kd).wf = true := wf_small (by omega)
            have E8 : Ext w8 (w8.alloc (.cells #[.int .i64 kd, .string dd, .slice A2 nr c2] 85)) := (Ext.refl w8).alloc _
            have HD9 := Lib.hid (HD8.out.ext E8)
            have hp9 := HD9.out.ptr
            clear g8 h8 hsl hmap hnr hp hf0
            go_wp2_with fail
            refine (Err_rd st' rb _ HD9.out.1).mono ?_
            rintro e w9 ⟨⟨er, rfl, her⟩, rfl⟩
            cases st' with
            | none =>
              have hne : (er == 0) = false := by
                rcases her with ⟨_, h⟩ | ⟨h, _⟩
                · cases h
                · simpa using h
              clear her
              go_wp2_with fail
              exact ⟨⟨j, m, B, d, none, secs, rfl, by omega, HD9.out, HSY8.out.rangeExt E8 HB8.out, HF8.out.ext E8, by rw [← HNX.out]; rfl, Nat.le_trans HB8.out E8.size⟩, by simp [intOf]⟩
            | some l' =>
              have he0 : er = 0 := by
                rcases her with ⟨h, _⟩ | ⟨_, h⟩
                · exact h
                · cases h
              subst he0
              clear her
              obtain ⟨i1, hi1, hz10, hz11, hz12⟩ := info_parts sec_info
              obtain ⟨hmm, xs, hoa, hfl⟩ := HF8.out
              have HMM := Lib.hid hmm
              have HOA := Lib.hid hoa
              have HFL := Lib.hid hfl
              have E9 : Ext w8 ((w8.alloc (.cells #[.int .i64 kd, .string dd, .slice A2 nr c2] 85)).alloc (.cells #[.int .i64 kd, .string dd, .slice A2 nr c2] 85)) := E8.alloc _
              have HE9 := Lib.hid E9
              obtain ⟨p0, p1⟩ := HD9.out.fld1
              have x0 := cell_new w8 #[.int .i64 kd, .string dd, .slice A2 nr c2] 85 0
              have x1 := cell_new w8 #[.int .i64 kd, .string dd, .slice A2 nr c2] 85 1
              have x2 := cell_new w8 #[.int .i64 kd, .string dd, .slice A2 nr c2] 85 2
              have hbz := HB8.out
              have hlow := own_low hoa
              have hown8 : ∀ g, (Value.slice B m d).ownBlock = some g → g < w8.heap.size := by
                intro g hg
                obtain ⟨_, ⟨h, _⟩ | ⟨g', off, cap, cur, h, _, hh, _⟩⟩ := hoa
                · rw [h] at hg; simp [Value.ownBlock] at hg
                · rw [h] at hg
                  simp [Value.ownBlock] at hg
                  subst hg
                  exact (Array.getElem?_eq_some_iff.1 hh).1
              have hels := secR_is HNR.out hwk (show dd.size ≤ 9223372036854775807 by omega) ((HSL.out.sub (B' := Bl w8 base (.slice B m d)) fun k hk => ⟨Nat.le_trans HK.out.2.2.2.2 hk.1, hk.2, by
                intro e
                have h1 := HK.out.2.2.1
                obtain ⟨_, xs2, ho2, _⟩ := h1
                obtain ⟨_, ⟨h, _⟩ | ⟨g', off, cap, cur, h, _, hh, _⟩⟩ := ho2
                · rw [h] at e; simp [Value.ownBlock] at e
                · rw [h] at e
                  simp [Value.ownBlock] at e
                  subst e
                  have := (Array.getElem?_eq_some_iff.1 hh).1
                  have := hk.1
                  omega⟩))
              have HEL := Lib.hid (secR.keep hels (fun k (hk : Bl w8 base (.slice B m d) k) => show Bl ((w8.alloc (.cells #[.int .i64 kd, .string dd, .slice A2 nr c2] 85)).alloc (.cells #[.int .i64 kd, .string dd, .slice A2 nr c2] 85)) base (.slice B m d) k from ⟨hk.1, Nat.lt_of_lt_of_le hk.2.1 HE9.out.size, hk.2.2⟩) fun k hk => HE9.out.block k hk.2.1)
              have HLOW := Lib.hid hlow
              clear hmm hfl E9 hels hlow hown8
              go_wp2_with (at_builtin; (refine wpList_append_ownAt _ rfl (.tmp 74) (.tmp 76) 23 rfl base 85 i1 (.agg #[.int .i64 0, .string ⟨#[]⟩, .slice none 0 0]) 3 48 Tryz.underlying23 hi1 hz10 hz11 hz12 rfl (by decide) _ _ _ rfl (HOA.out.ext HE9.out) ⟨w8.heap.size + 1, 0, none⟩ 1 1 [.int .i64 kd, .string dd, .slice A2 nr c2] rfl rfl (cells_new_list (w8.alloc (.cells #[.int .i64 kd, .string dd, .slice A2 nr c2] 85)) [.int .i64 kd, .string dd, .slice A2 nr c2] 85 _ (by simp)) (by intro u hu; simp at hu; rcases hu with rfl | rfl | rfl <;> rfl) (by unfold maxLen; omega) (by omega) (by simp; omega) (by decide) ?_); intro v' w10 hown' hgrow _ hloc; have hpu := dfx_push (r := secR) (a := ((kd, dd, rs) : C.Sec)) HD8.out HMM.out HOA.out HFL.out hob6 HE9.out HEL.out hown' hgrow hloc; obtain ⟨A3, c3, rfl⟩ := own_form2 hown'; have HPD := Lib.hid hpu.1; have HPF := Lib.hid hpu.2; have HGR := Lib.hid hgrow; obtain ⟨f10, f11⟩ := hpu.1.fld1; clear hown' hgrow hloc hpu)
              exact ⟨⟨j, m + 1, A3, c3, some l', secs ++ [(kd, dd, rs)], rfl, by omega, HPD.out.set1 _, ((HSY8.out.rangeExt HE9.out HB8.out).range HGR.out (fun k e => .inr (HLOW.out k e)) (Nat.le_trans HB8.out HE9.out.size)).range (grown_set _ _ _ _) (fun k e => by have := Option.some.inj e; omega) (Nat.le_trans HB8.out (Nat.le_trans HE9.out.size HGR.out.size)), HPF.out.grownLow (grown_set _ _ _ _) (by omega), HNX.out, Nat.le_trans HB8.out (Nat.le_trans HE9.out.size (Nat.le_trans HGR.out.size (grown_set _ _ _ _).size))⟩, by simp [intOf]⟩
    case rest =>
      clear HST hN8
      obtain ⟨m, B, d, st4, secs, hm, hcut⟩ := hcut
      have HD := Lib.hid hcut.out.1
      have HSS := Lib.hid hcut.out.2.1
      have HFS := Lib.hid hcut.out.2.2.1
      have HP := Lib.hid (HSTP.out st4 secs hcut.out.2.2.2.1)
      have HBZ := Lib.hid hcut.out.2.2.2.2
      obtain ⟨c0, _⟩ := hcut.out.1.fld0
      obtain ⟨c1, _⟩ := hcut.out.1.fld1
      obtain ⟨B', d', hv, hsec⟩ := hcut.out.2.2.1.slice
      cases hv
      have HSEC := Lib.hid hsec
      have HENC := Lib.hid (Encode_any (syms, secs) A B c d n m wc HNS.out (hcut.out.2.1.sub fun k hk => by have := hcut.out.2.2.2.2; show k < _; omega) hcut.out.2.2.1.1 (hsec.sub fun k hk => hk.2) (fun s hs => by have := HSH.out s hs; omega) (HG.out.ext hcut.out.1.2.2.2.2.1))
      clear hcut hsec
      by_cases hend : rdEnd st4 = true
      · by_cases hck : C.checkB okN (syms, secs) = true
        · obtain ⟨hr, hed⟩ := FGood.out st4 (syms, secs) (by have := HDL.out; omega) HP.out hend hck
          have HR := Lib.hid hr
          rw [encV_good hck (by rw [hed]; have := HDL.out; omega), hed, mkB_self] at HENC
          clear hr hed hck
          go_wp2_with fail
          refine HENC.out.mono ?_
          rintro e w7 ⟨rfl, d7⟩
          have HD7 := Lib.hid (HD.out.ext d7)
          have hp7 := HD7.out.ptr
          obtain ⟨c70, _⟩ := HD7.out.fld0
          obtain ⟨c71, _⟩ := HD7.out.fld1
          obtain ⟨x, y, ⟨t0, q0⟩, t1, q1⟩ := HD7.out.res
          have HX8 := Lib.hid HD7.out.2.2.2.2.1
          have HE7 := Lib.hid d7
          clear d7 c0 c1
          go_wp2_with fail
          refine (Close_rd st4 rb w7 HD7.out.1).mono ?_
          rintro e w8 ⟨⟨er, rfl, her⟩, rfl⟩
          have he0 : er = 0 := by
            rcases her with ⟨h, _⟩ | ⟨_, h⟩
            · exact h
            · rw [hend] at h; cases h
          subst he0
          clear her
          go_wp2_with fail
          have hss := HSS.out.rangeExt HE7.out HBZ.out
          have hsec7 := HSEC.out.rangeExt HE7.out (Nat.le_refl _)
          have hz7 := HE7.out.size
          have hbz := HBZ.out
          exact bodyPost_ret (v := .tuple #[.agg #[.slice A n c, .slice B m d], .int .i64 0]) (by simp [results, Tryz.results23, go_sem, t0, t1]) rfl (retObj_some (o := (syms, secs)) HR.out HX8.out HNS.out HFS.out.1 (hss.sub fun k hk => ⟨by omega, by omega⟩) (hsec7.sub fun k hk => ⟨by omega, by omega⟩) _ _)
        · have HR := Lib.hid (FBad.out st4 (syms, secs) HP.out (.inr (by simpa using hck)))
          rw [encV_bad (by simpa using hck)] at HENC
          clear hck
          go_wp2_with fail
          refine HENC.out.mono ?_
          rintro e w7 ⟨rfl, d7⟩
          have HD7 := Lib.hid (HD.out.ext d7)
          have hp7 := HD7.out.ptr
          obtain ⟨x, y, ⟨t0, q0⟩, t1, q1⟩ := HD7.out.res
          have HX8 := Lib.hid HD7.out.2.2.2.2.1
          clear d7 c0 c1
          go_wp2_with fail
          refine (Close_rd st4 rb w7 HD7.out.1).mono ?_
          rintro e w8 ⟨⟨er, rfl, her⟩, rfl⟩
          have he0 : er = 0 := by
            rcases her with ⟨h, _⟩ | ⟨_, h⟩
            · exact h
            · rw [hend] at h; cases h
          subst he0
          clear her
          go_wp2_with fail
          exact bodyPost_ret (v := .tuple #[.agg #[.slice none 0 0, .slice none 0 0], .int .i64 17]) (by simp [results, Tryz.results23, go_sem, t0, t1]) rfl (retObj_none HR.out ((HX8.out.setCell (p := ⟨w.heap.size, 0, none⟩) (Nat.le_refl _) _).setCell (p := ⟨w.heap.size, 1, none⟩) (Nat.le_refl _) _))
      · have hend' : rdEnd st4 = false := by simpa using hend
        have HR := Lib.hid (FBad.out st4 (syms, secs) HP.out (.inl hend'))
        obtain ⟨s0, e0, he0⟩ := encV_form (syms, secs)
        rw [he0] at HENC
        clear he0 hend
        go_wp2_with fail
        refine HENC.out.mono ?_
        rintro e w7 ⟨rfl, d7⟩
        have HD7 := Lib.hid (HD.out.ext d7)
        have hp7 := HD7.out.ptr
        obtain ⟨x, y, ⟨t0, q0⟩, t1, q1⟩ := HD7.out.res
        have HX8 := Lib.hid HD7.out.2.2.2.2.1
        clear d7 c0 c1
        go_wp2_with fail
        refine (Close_rd st4 rb w7 HD7.out.1).mono ?_
        rintro e w8 ⟨⟨er, rfl, her⟩, rfl⟩
        have he1 : (er != 0) = true := by
          rcases her with ⟨_, h⟩ | ⟨h, _⟩
          · rw [hend'] at h; cases h
          · simpa using h
        clear her hend'
        go_wp2_with fail
        exact bodyPost_ret (v := .tuple #[.agg #[.slice none 0 0, .slice none 0 0], .int .i64 17]) (by simp [results, Tryz.results23, go_sem, t0, t1]) rfl (retObj_none HR.out ((HX8.out.setCell (p := ⟨w.heap.size, 0, none⟩) (Nat.le_refl _) _).setCell (p := ⟨w.heap.size, 1, none⟩) (Nat.le_refl _) _))

end Go.Proofs.YtjimgkefacnamaaGreatDoor

/- The reference's Decode: what stands while it reads. -/
namespace Go.Proofs.YtjimgkefacnamaaGreatDoor
open Go.RowKit Go.Maps Go.ChangeMaps

theorem RdT.err {T : TypeId} {w : World} {b : Nat} {st : Option C.Bs} (h : RdT T w b st) : ∃ er : Int, w.cell? ⟨b, 1, none⟩ = some (.int .i64 er) ∧ ((st ≠ none ∧ er = 0) ∨ (st = none ∧ (er == 0) = false)) := by
  obtain ⟨r, er, hb, hr, hE⟩ := h
  refine ⟨er, cell_of_row w b 1 _ _ _ hb, ?_⟩
  cases st with
  | none => exact .inr ⟨rfl, by simpa using hE⟩
  | some l => exact .inl ⟨by simp, hE.1⟩
theorem heap3_set0 {w : World} {b : Nat} {x y z : Value} {T : TypeId} (h : w.heap[b]? = some (.cells #[x, y, z] T (0, 0))) (t : Value) : (w.setCell ⟨b, 0, none⟩ t).heap[b]? = some (.cells #[t, y, z] T (0, 0)) := by
  simp [World.setCell, Array.getElem?_modify, h]
theorem heap3_set1 {w : World} {b : Nat} {x y z : Value} {T : TypeId} (h : w.heap[b]? = some (.cells #[x, y, z] T (0, 0))) (t : Value) : (w.setCell ⟨b, 1, none⟩ t).heap[b]? = some (.cells #[x, t, z] T (0, 0)) := by
  simp [World.setCell, Array.getElem?_modify, h]
/-- The blocks: the result, the empty object, the reader, the object. -/
def Rfx (w : World) (base : Nat) (v v2 : Value) (st : Option C.Bs) (wr : World) : Prop :=
  RdT 122 wr (w.heap.size + 1 + 1) st ∧ (∃ x y, wr.heap[w.heap.size]? = some (.cells #[x, y] 25 (0, 0))) ∧ wr.heap[w.heap.size + 1]? = some (.cells #[.slice none 0 0, .slice none 0 0] 25 (0, 0)) ∧ wr.heap[w.heap.size + 1 + 1 + 1]? = some (.cells #[v, v2] 25 (0, 0)) ∧ Ext w wr ∧ w.heap.size + 1 + 1 + 1 < base ∧ base ≤ wr.heap.size
section
variable {w : World} {base : Nat} {v v2 : Value} {st : Option C.Bs} {wr : World}
theorem Rfx.fld0 (h : Rfx w base v v2 st wr) : wr.cell? ⟨w.heap.size + 1 + 1 + 1, 0, none⟩ = some v ∧ wr.frozen? ⟨w.heap.size + 1 + 1 + 1, 0, none⟩ = false := ⟨cell_of_row wr _ 0 _ _ _ h.2.2.2.1, Lib.frozen_of_heap h.2.2.2.1 0⟩
theorem Rfx.fld1 (h : Rfx w base v v2 st wr) : wr.cell? ⟨w.heap.size + 1 + 1 + 1, 1, none⟩ = some v2 ∧ wr.frozen? ⟨w.heap.size + 1 + 1 + 1, 1, none⟩ = false := ⟨cell_of_row wr _ 1 _ _ _ h.2.2.2.1, Lib.frozen_of_heap h.2.2.2.1 1⟩
theorem Rfx.res (h : Rfx w base v v2 st wr) : ∃ x y, (wr.cell? ⟨w.heap.size, 0, none⟩ = some x ∧ wr.frozen? ⟨w.heap.size, 0, none⟩ = false) ∧ (wr.cell? ⟨w.heap.size, 1, none⟩ = some y ∧ wr.frozen? ⟨w.heap.size, 1, none⟩ = false) := by
  obtain ⟨x, y, hb⟩ := h.2.1
  exact ⟨x, y, ⟨cell_of_row wr _ 0 _ _ _ hb, Lib.frozen_of_heap hb 0⟩, cell_of_row wr _ 1 _ _ _ hb, Lib.frozen_of_heap hb 1⟩
theorem Rfx.non (h : Rfx w base v v2 st wr) : wr.cell? ⟨w.heap.size + 1, 0, none⟩ = some (.slice none 0 0) ∧ wr.cell? ⟨w.heap.size + 1, 1, none⟩ = some (.slice none 0 0) := ⟨cell_of_row wr _ 0 _ _ _ h.2.2.1, cell_of_row wr _ 1 _ _ _ h.2.2.1⟩
theorem Rfx.keepBut (h : Rfx w base v v2 st wr) {w' : World} {row : Option Nat} (g : wr.grownBy w' row) (hr : ∀ k, row = some k → base ≤ k) : Rfx w base v v2 st w' := by
  obtain ⟨h1, ⟨x, y, h2⟩, h3, h4, h5, h6, h7⟩ := h
  exact ⟨h1.keep (g.block _ h1.lt fun e => by have := hr _ e.symm; omega), ⟨x, y, (g.block _ (by omega) fun e => by have := hr _ e.symm; omega).trans h2⟩, (g.block _ (by omega) fun e => by have := hr _ e.symm; omega).trans h3,
    (g.block _ (by omega) fun e => by have := hr _ e.symm; omega).trans h4, Below.grown h5 g h5.size fun k hk => by have := hr k hk; omega, h6, Nat.le_trans h7 g.size⟩
theorem Rfx.ext (h : Rfx w base v v2 st wr) {w' : World} (d : Ext wr w') : Rfx w base v v2 st w' := h.keepBut (row := none) ⟨d.os, d.tape, d.output, d.size, fun k hk _ => d.block k hk⟩ fun _ e => by cases e
theorem Rfx.set (h : Rfx w base v v2 st wr) (b o : Nat) (u : Value) (hb : base ≤ b) : Rfx w base v v2 st (wr.setCell ⟨b, o, none⟩ u) := h.keepBut (grown_set wr b o u) fun k e => by cases e; exact hb
theorem Rfx.reader (h : Rfx w base v v2 st wr) {w' : World} {st' : Option C.Bs} (hr : RdT 122 w' (w.heap.size + 1 + 1) st') (g : wr.grownBy w' (some (w.heap.size + 1 + 1))) : Rfx w base v v2 st' w' := by
  obtain ⟨h1, ⟨x, y, h2⟩, h3, h4, h5, h6, h7⟩ := h
  have hne : ∀ k, k ≠ w.heap.size + 1 + 1 → (some k : Option Nat) ≠ some (w.heap.size + 1 + 1) := fun k hk e => hk (Option.some.inj e)
  exact ⟨hr, ⟨x, y, (g.block _ (by omega) (hne _ (by omega))).trans h2⟩, (g.block _ (by omega) (hne _ (by omega))).trans h3, (g.block _ (by omega) (hne _ (by omega))).trans h4, h5.own (by omega) g, h6, Nat.le_trans h7 g.size⟩
theorem Rfx.set0 (h : Rfx w base v v2 st wr) (u : Value) : Rfx w base u v2 st (wr.setCell ⟨w.heap.size + 1 + 1 + 1, 0, none⟩ u) := by
  obtain ⟨h1, ⟨x, y, h2⟩, h3, h4, h5, h6, h7⟩ := h
  have g := grown_set wr (w.heap.size + 1 + 1 + 1) 0 u
  have hne : ∀ k, k ≠ w.heap.size + 1 + 1 + 1 → (some k : Option Nat) ≠ some (w.heap.size + 1 + 1 + 1) := fun k hk e => hk (Option.some.inj e)
  exact ⟨h1.keep (g.block _ h1.lt (hne _ (by omega))), ⟨x, y, (g.block _ (by omega) (hne _ (by omega))).trans h2⟩, (g.block _ (by omega) (hne _ (by omega))).trans h3, heap_set0 h4 u, h5.own (by omega) g, h6, Nat.le_trans h7 g.size⟩
theorem Rfx.set1 (h : Rfx w base v v2 st wr) (u : Value) : Rfx w base v u st (wr.setCell ⟨w.heap.size + 1 + 1 + 1, 1, none⟩ u) := by
  obtain ⟨h1, ⟨x, y, h2⟩, h3, h4, h5, h6, h7⟩ := h
  have g := grown_set wr (w.heap.size + 1 + 1 + 1) 1 u
  have hne : ∀ k, k ≠ w.heap.size + 1 + 1 + 1 → (some k : Option Nat) ≠ some (w.heap.size + 1 + 1 + 1) := fun k hk e => hk (Option.some.inj e)
  exact ⟨h1.keep (g.block _ h1.lt (hne _ (by omega))), ⟨x, y, (g.block _ (by omega) (hne _ (by omega))).trans h2⟩, (g.block _ (by omega) (hne _ (by omega))).trans h3, heap_set1 h4 u, h5.own (by omega) g, h6, Nat.le_trans h7 g.size⟩
end
theorem rfx_push {α : Type} {r : Rep α} {e : TypeId} {w : World} {base base' n : Nat} {v v2 vv v' : Value} {st : Option C.Bs} {W W1 w5 : World} {l : List α} {xs us : List Value} {a : α} (h : Rfx w base v v2 st W) (hn : n = l.length)
    (hoa : OwnAt W base' e r.size vv n xs) (hfl : Flat r W (Bl W base' vv) l xs) (hbb : base ≤ base') (he : Ext W W1) (ha : r.is W1 (Bl W1 base' vv) a us)
    (ho : OwnAt w5 base' e r.size v' (n + 1) (xs ++ us)) (hg : W1.grownBy w5 vv.ownBlock) (hv : v'.ownBlock = vv.ownBlock ∨ ∃ g, v'.ownBlock = some g ∧ W1.heap.size ≤ g ∧ g < w5.heap.size) :
    Rfx w base v v2 st w5 ∧ OwnF r w5 base' e v' (n + 1) (l ++ [a]) := by
  have hlow := own_low hoa
  refine ⟨(h.ext he).keepBut hg fun k hk => Nat.le_trans hbb (hlow k hk), ?_⟩
  exact OwnF.push hn (hfl.keep (fun k hk => ⟨hk.1, Nat.lt_of_lt_of_le hk.2.1 he.size, hk.2.2⟩) fun k hk => he.block k hk.2.1) ha ho hg hv
theorem Text_ar (m : Int) (most : Nat) (hm : m = (most : Int)) (hmost : most ≤ 9000000000000000000) (st : Option C.Bs) (b : Nat) (w : World) (h : RdT 122 w b st) :
    Calls Tryz.prog 62 #[.pointer (some ⟨b, 0, none⟩), .int .i64 m] w (RetT 122 w b (nT most st)) := by subst hm; exact Text_rr most hmost st b w h
theorem pMore_or {α : Type} {p : C.Bs → Option (α × C.Bs)} {n : Nat} {st : Option C.Bs} {acc : List α} {X : Option (List α × C.Bs)} (h : pMore p n st acc = X) (hh : n = 0 ∨ st = none) : st.map (fun q => (acc, q)) = X := by rw [← h]; exact (pMore_end hh).symm

/-- The blocks from base on that were there are as they were. -/
def KB (base : Nat) (wr w' : World) : Prop := wr.heap.size ≤ w'.heap.size ∧ ∀ k, base ≤ k → k < wr.heap.size → w'.heap[k]? = wr.heap[k]?
theorem KB.refl (base : Nat) (w : World) : KB base w w := ⟨Nat.le_refl _, fun _ _ _ => rfl⟩
theorem KB.step {base : Nat} {wr W W' : World} (h : KB base wr W) {row : Option Nat} (g : W.grownBy W' row) (hr : ∀ k, row = some k → k < base ∨ wr.heap.size ≤ k) : KB base wr W' :=
  ⟨Nat.le_trans h.1 g.size, fun k h1 h2 => (g.block k (Nat.lt_of_lt_of_le h2 h.1) fun e => by have := hr k e.symm; omega).trans (h.2 k h1 h2)⟩
theorem KB.ext {base : Nat} {wr W W' : World} (h : KB base wr W) (d : Ext W W') : KB base wr W' := h.step (row := none) ⟨d.os, d.tape, d.output, d.size, fun k hk _ => d.block k hk⟩ fun _ e => by cases e
theorem KB.low {base : Nat} {wr W W' : World} (h : KB base wr W) {b : Nat} (g : W.grownBy W' (some b)) (hb : b < base) : KB base wr W' := h.step g fun k e => by have := Option.some.inj e; omega
theorem KB.high {base : Nat} {wr W : World} (h : KB base wr W) (b o : Nat) (u : Value) (hb : wr.heap.size ≤ b) : KB base wr (W.setCell ⟨b, o, none⟩ u) := h.step (grown_set W b o u) fun k e => by have := Option.some.inj e; omega

theorem KB.trans {base : Nat} {a b c : World} (h : KB base a b) (k : KB base b c) : KB base a c :=
  ⟨Nat.le_trans h.1 k.1, fun j h1 h2 => (k.2 j h1 (Nat.lt_of_lt_of_le h2 h.1)).trans (h.2 j h1 h2)⟩
theorem KB.heap {base : Nat} {a b : World} (h : KB base a b) {k : Nat} {ob : Go.Obj} (hk : base ≤ k) (ho : a.heap[k]? = some ob) : b.heap[k]? = some ob := (h.2 k hk (Array.getElem?_eq_some_iff.1 ho).1).trans ho
theorem KB.own {α : Type} {r : Rep α} {e : TypeId} {base base' n : Nat} {a b : World} {v : Value} {l : List α} (h : KB base a b) (hb : base ≤ base') (ho : OwnF r a base' e v n l) : OwnF r b base' e v n l := ho.below h.1 fun k h1 h2 => h.2 k (Nat.le_trans hb h1) h2
theorem KB.range {α : Type} {r : Rep α} {base lo hi c : Nat} {a b : World} {A : Option Addr} {l : List α} (h : KB base a b) (hb : base ≤ lo) (hh : hi ≤ a.heap.size) (ho : SliceAt r a (fun k => lo ≤ k ∧ k < hi) A c l) : SliceAt r b (fun k => lo ≤ k ∧ k < hi) A c l :=
  ho.keep (fun _ hk => hk) fun k hk => h.2 k (by omega) (by omega)
theorem at2 {W : World} {b : Nat} {x y : Value} {T : TypeId} (h : W.heap[b]? = some (.cells #[x, y] T (0, 0))) :
    (W.cell? ⟨b, 0, none⟩ = some x ∧ W.cell? ⟨b, 1, none⟩ = some y) ∧ (W.frozen? ⟨b, 0, none⟩ = false ∧ W.frozen? ⟨b, 1, none⟩ = false) :=
  ⟨⟨cell_of_row W b 0 _ _ _ h, cell_of_row W b 1 _ _ _ h⟩, Lib.frozen_of_heap h 0, Lib.frozen_of_heap h 1⟩
theorem own_old {w : World} {base : Nat} {e : TypeId} {size : Nat} {v : Value} {n : Nat} {xs : List Value} (h : OwnAt w base e size v n xs) : ∀ g, v.ownBlock = some g → g < w.heap.size := by
  intro g hg
  obtain ⟨_, ⟨rfl, _⟩ | ⟨g', off, cap, cur, rfl, hb, hh, _⟩⟩ := h
  · simp [Value.ownBlock] at hg
  · simp [Value.ownBlock] at hg
    subst hg
    exact (Array.getElem?_eq_some_iff.1 hh).1
/-- What stands while a section is read. -/
def SecR (w wr : World) (base3 : Nat) (v v2 : Value) (st : Option C.Bs) (kd : Int) (d : ByteArray) (A2 : Option Addr) (nr c2 : Nat) (rs : List C.Rel) (V : World) : Prop :=
  Rfx w (w.heap.size + 4) v v2 st V ∧ KB (w.heap.size + 4) wr V ∧ V.heap[wr.heap.size]? = some (.cells #[.int .i64 kd, .string d, .slice A2 nr c2] 85 (0, 0)) ∧ OwnF relR V base3 87 (.slice A2 nr c2) nr rs ∧ wr.heap.size < base3 ∧ base3 ≤ V.heap.size

end Go.Proofs.YtjimgkefacnamaaGreatDoor
