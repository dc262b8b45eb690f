/- The texts Sa of the seat, joined. -/
import Derived.Test.YtjimgkefacnamaaGreatDoorG10
import Derived.RegionTactic
import Derived.BigRegion
import Derived.Deep.RegionWith
import Derived.Deep.DeepCutAuto
/- object's source: head, section. -/
namespace Go.Proofs.YtjimgkefacnamaaGreatDoor
open Go.RowKit Go.Maps Go.ChangeMaps

theorem Text_at (m : Int) (most : Nat) (hm : m = (most : Int)) (hmost : most ≤ 9000000000000000000) (st : Option C.Bs) (b : Nat) (w : World) (h : RdT 152 w b st) :
    Calls Tryz.prog 59 #[.pointer (some ⟨b, 0, none⟩), .int .i64 m] w (RetT 152 w b (nT most st)) := by subst hm; exact Text_rd most hmost st b w h
theorem heap_set3 {w : World} {b : Nat} {x y z : Value} {T : TypeId} (h : w.heap[b]? = some (.cells #[x, y, z] T (0, 0))) (u v t : Value) : (((w.setCell ⟨b, 0, none⟩ u).setCell ⟨b, 1, none⟩ v).setCell ⟨b, 2, none⟩ t).heap[b]? = some (.cells #[u, v, t] T (0, 0)) := by
  simp [World.setCell, Array.getElem?_modify, h]
/-- A block of three cells, over a step that writes another block. -/
theorem keep3 {W w' : World} {rb b : Nat} {x y z : Value} {T : TypeId} (g : W.grownBy w' (some rb)) (hne : b ≠ rb) (h : W.heap[b]? = some (.cells #[x, y, z] T (0, 0))) :
    w'.heap[b]? = some (.cells #[x, y, z] T (0, 0)) ∧ (w'.cell? ⟨b, 0, none⟩ = some x ∧ w'.cell? ⟨b, 1, none⟩ = some y ∧ w'.cell? ⟨b, 2, none⟩ = some z) ∧ (w'.frozen? ⟨b, 0, none⟩ = false ∧ w'.frozen? ⟨b, 1, none⟩ = false ∧ w'.frozen? ⟨b, 2, none⟩ = false) := by
  have h' : w'.heap[b]? = some (.cells #[x, y, z] T (0, 0)) := (g.block b (Array.getElem?_eq_some_iff.1 h).1 fun e => hne (Option.some.inj e)).trans h
  exact ⟨h', ⟨cell_of_row w' b 0 _ _ _ h', cell_of_row w' b 1 _ _ _ h', cell_of_row w' b 2 _ _ _ h'⟩, Lib.frozen_of_heap h' 0, Lib.frozen_of_heap h' 1, Lib.frozen_of_heap h' 2⟩
theorem at3 {W : World} {b : Nat} {x y z : Value} {T : TypeId} (h : W.heap[b]? = some (.cells #[x, y, z] T (0, 0))) :
    (W.cell? ⟨b, 0, none⟩ = some x ∧ W.cell? ⟨b, 1, none⟩ = some y ∧ W.cell? ⟨b, 2, none⟩ = some z) ∧ (W.frozen? ⟨b, 0, none⟩ = false ∧ W.frozen? ⟨b, 1, none⟩ = false ∧ W.frozen? ⟨b, 2, none⟩ = false) :=
  ⟨⟨cell_of_row W b 0 _ _ _ h, cell_of_row W b 1 _ _ _ h, cell_of_row W b 2 _ _ _ h⟩, Lib.frozen_of_heap h 0, Lib.frozen_of_heap h 1, Lib.frozen_of_heap h 2⟩
/-- The call's own two blocks; apart from the reader nothing has changed. -/
def Ps (w : World) (rb : Nat) (W : World) : Prop := w.grownBy W (some rb) ∧ W.heap[w.heap.size]? = some (.cells #[.pointer (some ⟨rb, 0, none⟩)] 117 (0, 0)) ∧ (∃ x y z, W.heap[w.heap.size + 1]? = some (.cells #[x, y, z] 85 (0, 0))) ∧ rb < w.heap.size
theorem Ps.lt {w : World} {rb : Nat} {W : World} (h : Ps w rb W) : w.heap.size + 1 < W.heap.size := by
  obtain ⟨_, _, ⟨x, y, z, h⟩, _⟩ := h
  exact (Array.getElem?_eq_some_iff.1 h).1
theorem Ps.keepBut {w : World} {rb : Nat} {W W' : World} (h : Ps w rb W) {row : Option Nat} (g : W.grownBy W' row) (hr : ∀ k, row = some k → k = rb ∨ w.heap.size + 1 < k) : Ps w rb W' := by
  have hl := h.lt
  obtain ⟨h1, h2, ⟨x, y, z, h3⟩, h4⟩ := h
  refine ⟨⟨g.os.trans h1.os, g.tape.trans h1.tape, g.output.trans h1.output, Nat.le_trans h1.size g.size, fun k hk hne => ?_⟩, (g.block _ (by omega) fun e => ?_).trans h2, ⟨x, y, z, (g.block _ (by omega) fun e => ?_).trans h3⟩, h4⟩
  · refine (g.block k (by omega) fun e => ?_).trans (h1.block k hk hne)
    rcases hr k e.symm with rfl | h
    · exact hne rfl
    · omega
  · rcases hr _ e.symm with h | h <;> omega
  · rcases hr _ e.symm with h | h <;> omega
theorem Ps.step {w : World} {rb : Nat} {W W' : World} (h : Ps w rb W) (g : W.grownBy W' (some rb)) : Ps w rb W' := h.keepBut g fun _ e => .inl (Option.some.inj e).symm
theorem Ps.ext {w : World} {rb : Nat} {W W' : World} (h : Ps w rb W) (g : Ext W W') : Ps w rb W' := h.keepBut (row := none) ⟨g.os, g.tape, g.output, g.size, fun k hk _ => g.block k hk⟩ fun _ e => by cases e
theorem Ps.set {w : World} {rb : Nat} {W : World} (h : Ps w rb W) (b o : Nat) (u : Value) (hb : w.heap.size + 1 < b) : Ps w rb (W.setCell ⟨b, o, none⟩ u) := h.keepBut (grown_set W b o u) fun _ e => .inr (by cases e; exact hb)
theorem Ps.cell {w : World} {rb : Nat} {W : World} (h : Ps w rb W) : W.cell? ⟨w.heap.size, 0, none⟩ = some (.pointer (some ⟨rb, 0, none⟩)) := cell_of_row W _ 0 _ _ _ h.2.1
/-- What stands while a section's relocations are read. -/
def SecSt (w : World) (rb xb base : Nat) (kd : Int) (d : ByteArray) (st : Option C.Bs) (rs : List C.Rel) (v : Value) (nr : Nat) (wr : World) : Prop :=
  RdT 152 wr rb st ∧ Ps w rb wr ∧ wr.heap[xb]? = some (.cells #[.int .i64 kd, .string d, v] 85 (0, 0)) ∧ OwnF relR wr base 87 v nr rs ∧ w.heap.size + 1 < xb ∧ xb < base ∧ base ≤ wr.heap.size
theorem secSt_new {w : World} {rb : Nat} {kd : Int} {d : ByteArray} {st : Option C.Bs} {W : World} (h : RdT 152 W rb st) (p : Ps w rb W) :
    SecSt w rb W.heap.size (W.heap.size + 1) kd d st [] (.slice none 0 0) 0 (W.alloc (.cells #[.int .i64 kd, .string d, .slice none 0 0] 85)) :=
  ⟨h.ext ((Ext.refl _).alloc _), p.ext ((Ext.refl _).alloc _), heap_alloc_new W _, OwnF.nil _ _ _ _, p.lt, Nat.lt_succ_self _, by simp⟩
theorem secSt_set {w : World} {rb xb : Nat} {kd : Int} {d : ByteArray} {st : Option C.Bs} {W : World} {x y z : Value} (h : RdT 152 W rb st) (p : Ps w rb W) (hx : W.heap[xb]? = some (.cells #[x, y, z] 85 (0, 0))) (hxb : w.heap.size + 1 < xb) :
    SecSt w rb xb W.heap.size kd d st [] (.slice none 0 0) 0 (((W.setCell ⟨xb, 0, none⟩ (.int .i64 kd)).setCell ⟨xb, 1, none⟩ (.string d)).setCell ⟨xb, 2, none⟩ (.slice none 0 0)) := by
  have hrb := p.2.2.2
  have g : W.grownBy (((W.setCell ⟨xb, 0, none⟩ (.int .i64 kd)).setCell ⟨xb, 1, none⟩ (.string d)).setCell ⟨xb, 2, none⟩ (.slice none 0 0)) (some xb) := grownBy_trans (grown_set _ _ _ _) (grownBy_trans (grown_set _ _ _ _) (grown_set _ _ _ _))
  exact ⟨h.keep (g.block rb h.lt fun e => by have := Option.some.inj e; omega), ((p.set xb 0 _ hxb).set xb 1 _ hxb).set xb 2 _ hxb, heap_set3 hx _ _ _, OwnF.nil _ _ _ _, hxb, (Array.getElem?_eq_some_iff.1 hx).1, g.size⟩

theorem SecSt.reader {w : World} {rb xb base : Nat} {kd : Int} {d : ByteArray} {st st' : Option C.Bs} {rs : List C.Rel} {v : Value} {nr : Nat} {wr w' : World} (h : SecSt w rb xb base kd d st rs v nr wr) (hr : RdT 152 w' rb st') (g : wr.grownBy w' (some rb)) : SecSt w rb xb base kd d st' rs v nr w' := by
  obtain ⟨h1, h2, h3, h4, h5, h6, h7⟩ := h
  have hrb := h2.2.2.2
  exact ⟨hr, h2.step g, (g.block xb (by omega) fun e => by have := Option.some.inj e; omega).trans h3, h4.grownLow g (by omega), h5, h6, Nat.le_trans h7 g.size⟩
theorem own_low {w : World} {base : Nat} {e : TypeId} {size : Nat} {v : Value} {n : Nat} {xs : List Value} (h : OwnAt w base e size v n xs) : ∀ g, v.ownBlock = some g → base ≤ g := by
  intro g hg
  obtain ⟨_, ⟨rfl, _⟩ | ⟨g', off, cap, cur, rfl, hb, _⟩⟩ := h
  · simp [Value.ownBlock] at hg
  · simp [Value.ownBlock] at hg; omega
theorem own_form2 {w : World} {base : Nat} {e : TypeId} {size : Nat} {v : Value} {n : Nat} {xs : List Value} (h : OwnAt w base e size v n xs) : ∃ A c, v = .slice A n c := by
  obtain ⟨_, ⟨rfl, rfl⟩ | ⟨g', off, cap, cur, rfl, hb, _⟩⟩ := h
  · exact ⟨_, _, rfl⟩
  · exact ⟨_, _, rfl⟩
theorem heap_set2 {w : World} {b : Nat} {x y z : Value} {T : TypeId} (h : w.heap[b]? = some (.cells #[x, y, z] T (0, 0))) (t : Value) : (w.setCell ⟨b, 2, none⟩ t).heap[b]? = some (.cells #[x, y, t] T (0, 0)) := by
  simp [World.setCell, Array.getElem?_modify, h]
theorem cells_new_list (W : World) (us : List Value) (T : TypeId) (g : Nat) (hg : g = W.heap.size) : ∀ j u, us[j]? = some u → (W.alloc (.cells us.toArray T)).cell? ((⟨g, 0, none⟩ : Addr).add j) = some u := by
  subst hg
  intro j u hj
  rw [Addr.add_lit, Nat.zero_add, cell_new]
  simpa using hj
theorem secSt_push {w : World} {rb xb base : Nat} {kd : Int} {d : ByteArray} {st : Option C.Bs} {rs : List C.Rel} {v v' : Value} {nr : Nat} {W W1 w5 : World} {a : Int} {s : ByteArray} {xs : List Value} (h : SecSt w rb xb base kd d st rs v nr W)
    (hoa : OwnAt W base 87 2 v nr xs) (hfl : Flat relR W (Bl W base v) rs xs) (he : Ext W W1) (ha : (Lit.int .i64 a).wf = true) (hs : s.size ≤ 9223372036854775807)
    (ho : OwnAt w5 base 87 2 v' (nr + 1) (xs ++ [.int .i64 a, .string s])) (hg : W1.grownBy w5 v.ownBlock) (hv : v'.ownBlock = v.ownBlock ∨ ∃ g, v'.ownBlock = some g ∧ W1.heap.size ≤ g ∧ g < w5.heap.size) :
    SecSt w rb xb base kd d st (rs ++ [(a, s)]) v' (nr + 1) (w5.setCell ⟨xb, 2, none⟩ v') := by
  obtain ⟨h1, h2, h3, h4, h5, h6, h7⟩ := h
  have hlow := own_low hoa
  have hrb := h2.2.2.2
  have h1' := h1.ext he
  have h3' := he.heap h3
  have hx1 := (Array.getElem?_eq_some_iff.1 h3').1
  have h3'' : w5.heap[xb]? = some (.cells #[.int .i64 kd, .string d, v] 85 (0, 0)) := (hg.block xb hx1 fun e => by have := hlow _ e.symm; omega).trans h3'
  have h1'' : RdT 152 w5 rb st := h1'.keep (hg.block rb h1'.lt fun e => by have := hlow _ e.symm; omega)
  have hne : rb ≠ xb := by omega
  have hl1 : rb < w5.heap.size := h1''.lt
  refine ⟨h1''.keep ((grown_set w5 xb 2 v').block rb hl1 fun e => hne (Option.some.inj e)), ?_, heap_set2 h3'' v', ?_, h5, h6, ?_⟩
  · exact ((h2.ext he).keepBut hg fun k hk => .inr (by have := hlow k hk; omega)).set xb 2 v' h5
  · have hfl' : Flat relR W1 (Bl W1 base v) rs xs := hfl.keep (fun k hk => ⟨hk.1, Nat.lt_of_lt_of_le hk.2.1 he.size, hk.2.2⟩) fun k hk => he.block k hk.2.1
    have hp := OwnF.push (r := relR) (a := (a, s)) h4.1 hfl' ⟨[.int .i64 a], [.string s], rfl, ⟨rfl, ha⟩, rfl, hs⟩ ho hg hv
    exact hp.grownLow (grown_set w5 xb 2 v') (by omega)
  · have := hg.size
    have := he.size
    have := (grown_set w5 xb 2 v').size
    omega
theorem sym_getB {w : World} {B : Nat → Prop} {A : Option Addr} {c k : Nat} {l : List C.Sym} (h : SliceAt symR w B A c l) (hk : k < l.length) :
    ∃ b off s m q, A = some ⟨b, off, none⟩ ∧ B b ∧ l[k]? = some (s, m, q) ∧ s.size ≤ 9223372036854775807 ∧ w.cell? ⟨b, off + k * 3, none⟩ = some (.string s) := by
  obtain ⟨b, off, rfl, hb, hr⟩ := h.2.2 (by intro h; rw [h] at hk; simp at hk)
  obtain ⟨us, ⟨x, y, rfl, ⟨rfl, hs⟩, x2, y2, rfl, ⟨rfl, hm⟩, rfl, hq⟩, hc⟩ := hr k hk
  exact ⟨b, off, l[k].1, l[k].2.1, l[k].2.2, rfl, hb, by simp [List.getElem?_eq_getElem hk], hs, hc 0 _ rfl⟩
theorem rel_info : (Tryz.prog.info? 87).map (fun i => (i.zero, i.size, i.bytes)) = some (some (.agg #[.int .i64 0, .string ⟨#[]⟩]), 2, 24) := by kernel_rfl
/-- What section gives. -/
def RetSec (w : World) (rb : Nat) (syms : List C.Sym) (st : Option C.Bs) (e : Ending) (w' : World) : Prop :=
  w.grownBy w' (some rb) ∧ ∃ (kd : Int) (d : ByteArray) (rs : List C.Rel) (A : Option Addr) (nr c : Nat) (st' : Option C.Bs), e = .returned (.agg #[.int .i64 kd, .string d, .slice A nr c]) ∧ nr = rs.length ∧ nr ≤ 8192 ∧ (0 ≤ kd ∧ kd ≤ 2) ∧ d.size ≤ 8192 ∧ SliceAt relR w' (New w w') A c rs ∧ RdT 152 w' rb st' ∧ st'.map (fun q => (((kd, d, rs) : C.Sec), q)) = st.bind (C.pSec syms)
theorem retSec_of {w : World} {rb xb base : Nat} {kd : Int} {d : ByteArray} {st st' : Option C.Bs} {syms : List C.Sym} {rs : List C.Rel} {A : Option Addr} {c nr : Nat} {wr : World} (h : SecSt w rb xb base kd d st' rs (.slice A nr c) nr wr) (hn : nr ≤ 8192) (hk : 0 ≤ kd ∧ kd ≤ 2) (hd : d.size ≤ 8192)
    (hp : st'.map (fun q => (((kd, d, rs) : C.Sec), q)) = st.bind (C.pSec syms)) (u v t : Value) :
    RetSec w rb syms st (.returned (.agg #[.int .i64 kd, .string d, .slice A nr c])) (((wr.setCell ⟨w.heap.size + 1, 0, none⟩ u).setCell ⟨w.heap.size + 1, 1, none⟩ v).setCell ⟨w.heap.size + 1, 2, none⟩ t) := by
  obtain ⟨h1, h2, h3, h4, h5, h6, h7⟩ := h
  have hrb := h2.2.2.2
  have hlt := h2.lt
  have g : wr.grownBy (((wr.setCell ⟨w.heap.size + 1, 0, none⟩ u).setCell ⟨w.heap.size + 1, 1, none⟩ v).setCell ⟨w.heap.size + 1, 2, none⟩ t) (some (w.heap.size + 1)) := grownBy_trans (grown_set _ _ _ _) (grownBy_trans (grown_set _ _ _ _) (grown_set _ _ _ _))
  have hgg := h2.1
  refine ⟨⟨g.os.trans hgg.os, g.tape.trans hgg.tape, g.output.trans hgg.output, Nat.le_trans hgg.size g.size, fun k hk hne => (g.block k (by omega) fun e => by have := Option.some.inj e; omega).trans (hgg.block k hk hne)⟩, kd, d, rs, A, nr, c, st', rfl, h4.1, hn, hk, hd, ?_, h1.keep (g.block rb h1.lt fun e => by have := Option.some.inj e; omega), hp⟩
  obtain ⟨A', c', e1, hs⟩ := (h4.grownLow g (by omega)).slice
  cases e1
  exact hs.sub fun k hk => ⟨by omega, hk.2⟩

set_option maxRecDepth 8000 in
set_option maxHeartbeats 4000000 in
theorem section_rd (syms : List C.Sym) (A : Option Addr) (c n : Nat) (st : Option C.Bs) (rb : Nat) (w : World) (h : RdT 152 w rb st) (hn : n = syms.length) (hA : SliceAt symR w (fun k => k < w.heap.size ∧ k ≠ rb) A c syms) (_hn2 : n ≤ 100000) :
    Calls Tryz.prog 60 #[.agg #[.pointer (some ⟨rb, 0, none⟩)], .slice A n c] w (RetSec w rb syms st) := by
  have hrb := h.lt
  obtain ⟨W0, hW0⟩ : ∃ W0, W0 = (w.alloc (.cells #[.pointer (some ⟨rb, 0, none⟩)] 117)).alloc (.cells #[.int .i64 0, .string ⟨#[]⟩, .slice none 0 0] 85) := ⟨_, rfl⟩
  have hz0 : W0.heap.size = w.heap.size + 1 + 1 := by rw [hW0]; simp
  have x0 : W0.drew.cell? ⟨w.heap.size, 0, none⟩ = some (.pointer (some ⟨rb, 0, none⟩)) := by rw [hW0]; exact alloc_keepc _ (cell_new w _ 117 0)
  have x0a : (W0.alloc (.cells #[.int .i64 0, .string ⟨#[]⟩, .slice none 0 0] 85)).drew.cell? ⟨w.heap.size, 0, none⟩ = some (.pointer (some ⟨rb, 0, none⟩)) := alloc_keepc (a := W0) (.cells #[.int .i64 0, .string ⟨#[]⟩, .slice none 0 0] 85) x0
  have HB0 : Hid ((W0.alloc (.cells #[.int .i64 0, .string ⟨#[]⟩, .slice none 0 0] 85)).drew.heap[w.heap.size + 1 + 1]? = some (.cells #[.int .i64 0, .string ⟨#[]⟩, .slice none 0 0] 85 (0, 0))) := by unfold Hid; rw [← hz0]; exact heap_alloc_new W0 _
  have E0 : Ext w W0 := by rw [hW0]; exact ((Ext.refl w).alloc _).alloc _
  have HR0 := Lib.hid (h.ext E0.drew)
  have HR1 := Lib.hid (h.ext ((E0.alloc (.cells #[.int .i64 0, .string ⟨#[]⟩, .slice none 0 0] 85)).drew))
  have HE0 := Lib.hid E0
  have PW : Ps w rb W0 := by
    rw [hW0]
    refine ⟨grownBy_ext (((Ext.refl w).alloc _).alloc _) _, ?_, ⟨.int .i64 0, .string ⟨#[]⟩, .slice none 0 0, ?_⟩, hrb⟩
    · exact ((Ext.refl (w.alloc (.cells #[.pointer (some ⟨rb, 0, none⟩)] 117))).alloc _).heap (heap_alloc_new w _)
    · have := heap_alloc_new (w.alloc (.cells #[.pointer (some ⟨rb, 0, none⟩)] 117)) (.cells #[.int .i64 0, .string ⟨#[]⟩, .slice none 0 0] 85)
      rwa [show (w.alloc (.cells #[.pointer (some ⟨rb, 0, none⟩)] 117)).heap.size = w.heap.size + 1 by simp] at this
  have PW0 := Lib.hid (PW.ext ((Ext.refl W0).drew))
  have PW1 := Lib.hid (PW.ext (((Ext.refl W0).alloc (.cells #[.int .i64 0, .string ⟨#[]⟩, .slice none 0 0] 85)).drew))
  have HN := Lib.hid hn
  have HA := Lib.hid hA
  have HH := Lib.hid h
  clear E0 PW hn hA h
  go_enter Tryz.func60, Tryz.ntmps60
  go_upto_region 1 with fail
  rw [← hW0]
  clear hW0
  go_cut [5] (fun s5 wx => ∃ xb : Nat, s5 = .pointer (some ⟨xb, 0, none⟩) ∧ Hid (∃ base, SecSt w rb xb base (nN 0 2 st).1 (mkB (nT 8192 (nN 0 2 st).2).1) (nT 8192 (nN 0 2 st).2).2 [] (.slice none 0 0) 0 wx))
  case first =>
    generalize (nN 0 2 st).1 = kd
    go_region_with (first
      | (go_at_call 57; ((with_reducible refine (Number_rd 0 2 st rb _ (by first | exact HR0.out | exact HR1.out)).mono ?_); rintro e w1 ⟨rfl, h1, g1⟩; (first | have P1 := Lib.hid (PW0.out.step g1) | have P1 := Lib.hid (PW1.out.step g1)); (first | (have K1 := keep3 g1 (b := w.heap.size + 1 + 1) (by omega) HB0.out; have HK1 := Lib.hid K1.1; obtain ⟨_, ⟨k0, k1, k2⟩, f0, f1, f2⟩ := K1) | skip); have x1 := grown_keepc g1 (by first | exact x0 | exact x0a) (by intro h9; have h8 := Option.some.inj h9; simp only at h8; omega); have x1a := alloc_keepc (.cells #[.int .i64 0, .string ⟨#[]⟩, .slice none 0 0] 85) x1))
      | (go_at_call 59; ((with_reducible refine (Text_at 8192 8192 rfl (by decide) (nN 0 2 st).2 rb _ (by first | exact h1 | exact h1.ext ((Ext.refl _).alloc _))).mono ?_); rintro e w2 ⟨rfl, h2, g2⟩; (first | have P2 := Lib.hid (P1.out.step g2) | have P2 := Lib.hid ((P1.out.ext ((Ext.refl _).alloc (.cells #[.int .i64 0, .string ⟨#[]⟩, .slice none 0 0] 85))).step g2)); (first | (have K2 := keep3 g2 (b := w.heap.size + 1 + 1) (by omega) HK1.out; have HK2 := Lib.hid K2.1; obtain ⟨_, ⟨l0, l1, l2⟩, p0, p1, p2⟩ := K2) | (have K2 := keep3 g2 (b := w1.heap.size) (by have := h1.lt; omega) (heap_alloc_new w1 (.cells #[.int .i64 0, .string ⟨#[]⟩, .slice none 0 0] 85)); have HK2 := Lib.hid K2.1; obtain ⟨_, ⟨l0, l1, l2⟩, p0, p1, p2⟩ := K2) | skip))))
    all_goals
      go_wp2_with fail
      go_meet
      first
        | exact ⟨_, rfl, _, secSt_set h2 P2.out HK2.out (by have := P1.out.lt; omega)⟩
        | exact ⟨_, rfl, _, secSt_new h2 P2.out⟩
  case rest =>
    obtain ⟨xb, rfl, hcut⟩ := hcut
    obtain ⟨base, hS⟩ := hcut.out
    have HSTEPS := Lib.hid (fun o rs => sec_steps syms st o rs)
    have hkd := nN_range 0 2 (by decide) (by decide) st
    have hdl := nT_len 8192 (nN 0 2 st).2
    have hds : (mkB (nT 8192 (nN 0 2 st).2).1).size ≤ 8192 := by rw [mkB_size]; exact hdl
    clear hcut HR0 HR1 HB0 PW0 PW1 HE0 x0 x0a hdl hz0
    generalize mkB (nT 8192 (nN 0 2 st).2).1 = d at hS HSTEPS hds
    generalize (nT 8192 (nN 0 2 st).2).2 = st2 at hS HSTEPS
    generalize (nN 0 2 st).1 = kd at hS HSTEPS hkd
    have hx := hS.2.1.cell
    have HS2 := Lib.hid hS
    have HKD := Lib.hid (show 0 ≤ kd ∧ kd ≤ 2 from ⟨hkd.1, hkd.2.1⟩)
    have HDS := Lib.hid hds
    clear hS hkd hds
    go_wp2_with fail
    refine (Number_rd 0 8192 st2 rb _ HS2.out.1).mono ?_
    rintro e w1 ⟨rfl, h1, g1⟩
    have hS := HS2.out.reader h1 g1
    have hn0 := nN_range 0 8192 (by decide) (by decide) st2
    obtain ⟨N0, hN0⟩ : ∃ N0 : Nat, (nN 0 8192 st2).1 = (N0 : Int) := ⟨(nN 0 8192 st2).1.toNat, by omega⟩
    rw [hN0] at hn0 HSTEPS ⊢
    rw [Int.toNat_natCast] at HSTEPS
    generalize (nN 0 8192 st2).2 = st3 at hS HSTEPS
    obtain ⟨X, hX⟩ : ∃ X, X = pMore (C.pRel syms) N0 st3 [] := ⟨_, rfl⟩
    rw [← hX] at HSTEPS
    have HST := Lib.hid (show SecSt w rb xb base kd d st3 [] (.slice none 0 0) 0 w1 ∧ pMore (C.pRel syms) N0 st3 [] = X from ⟨hS, hX.symm⟩)
    have hN8 : N0 ≤ 8192 := by omega
    clear hS hX h1 g1 hn0 hN0 HS2 hx
    go_wp2_with fail
    go_loopw [6] (fun nv wr => ∃ (k nr : Nat) (st' : Option C.Bs) (rs : List C.Rel) (A2 : Option Addr) (c2 : Nat), nv = .int .i64 k ∧ nr + k ≤ 8192 ∧ Hid (SecSt w rb xb base kd d st' rs (.slice A2 nr c2) nr wr ∧ pMore (C.pRel syms) k st' rs = X)) (fun nv _ => (intOf nv).toNat)
    case atStart => exact ⟨N0, 0, st3, [], none, 0, rfl, by omega, HST⟩
    case round =>
      clear HST hN8
      obtain ⟨k, nr, st', rs, A2, c2, rfl, hnk, HK⟩ := hrel
      have hx := HK.out.1.2.1.cell
      by_cases hk0 : k = 0
      · subst hk0
        obtain ⟨⟨z0, z1, z2⟩, _⟩ := at3 HK.out.1.2.2.1
        obtain ⟨y0, y1, y2, hb3⟩ := HK.out.1.2.1.2.2.1
        obtain ⟨⟨t0, t1, t2⟩, q0, q1, q2⟩ := at3 hb3
        have HF := Lib.hid (HSTEPS.out _ rs (by rw [← HK.out.2]; exact (pMore_end (.inl rfl)).symm))
        clear hb3
        go_wp2_with fail
        exact bodyPost_ret (v := .agg #[.int .i64 kd, .string d, .slice A2 nr c2]) (by simp [results, Tryz.results60, go_sem, t0, t1, t2]) rfl (retSec_of HK.out.1 (by omega) HKD.out HDS.out HF.out _ _ _)
      · obtain ⟨j, rfl⟩ : ∃ j, k = j + 1 := ⟨k - 1, by omega⟩
        clear hk0
        go_wp2_with fail
        refine (Err_rd st' rb wr HK.out.1.1).mono ?_
        rintro e w2 ⟨⟨er, rfl, her⟩, rfl⟩
        cases st' with
        | none =>
          have hne : (er == 0) = false := by
            rcases her with ⟨_, h⟩ | ⟨h, _⟩
            · cases h
            · simpa using h
          clear her
          obtain ⟨⟨z0, z1, z2⟩, _⟩ := at3 HK.out.1.2.2.1
          obtain ⟨y0, y1, y2, hb3⟩ := HK.out.1.2.1.2.2.1
          obtain ⟨⟨t0, t1, t2⟩, q0, q1, q2⟩ := at3 hb3
          have HF := Lib.hid (HSTEPS.out none rs (by rw [← HK.out.2]; rfl))
          clear hb3
          go_wp2_with fail
          exact bodyPost_ret (v := .agg #[.int .i64 kd, .string d, .slice A2 nr c2]) (by simp [results, Tryz.results60, go_sem, t0, t1, t2]) rfl (retSec_of HK.out.1 (by omega) HKD.out HDS.out HF.out _ _ _)
        | some l =>
          have he0 : er = 0 := by
            rcases her with ⟨h, _⟩ | ⟨_, h⟩
            · exact h
            · cases h
          subst he0
          clear her
          go_wp2_with fail
          obtain ⟨Φ, hΦ⟩ : ∃ Φ : World → Prop, ∀ x, Φ x ↔ x.cell? ⟨w.heap.size, 0, none⟩ = some (.pointer (some ⟨rb, 0, none⟩)) := ⟨_, fun _ => Iff.rfl⟩
          have fx : ∀ x : Lat Φ, x.w'.cell? ⟨w.heap.size, 0, none⟩ = some (.pointer (some ⟨rb, 0, none⟩)) := fun x => (hΦ _).1 x.h
          have h0 : Φ wr.drew := (hΦ _).2 hx
          have hne := Lat.some h0
          have HΦ := Lib.hid hΦ
          have HS0 := Lib.hid (show SecSt w rb xb base kd d (some l) rs (.slice A2 nr c2) nr wr.drew from HK.out.1.reader (HK.out.1.1.ext (Ext.refl wr).drew) (grownBy_ext (Ext.refl wr).drew _))
          have HP := Lib.hid HK.out.2
          have H1r := nN_range 0 8192 (by decide) (by decide) (some l)
          have H2r := nN_range 0 128 (by decide) (by decide) (nN 0 8192 (some l)).2
          have HREL := Lib.hid (fun s hs => rel_steps syms (some l) (s := s) hs)
          have HNO := Lib.hid (fun hs => rel_steps_no syms (some l) hs)
          have N1 := Lib.hid (fun W h => Number_rd 0 8192 (some l) rb W h)
          obtain ⟨at1, hat1⟩ : ∃ a, a = (nN 0 8192 (some l)).1 := ⟨_, rfl⟩
          obtain ⟨s1, hs1⟩ : ∃ a, a = (nN 0 8192 (some l)).2 := ⟨_, rfl⟩
          rw [← hs1] at H2r HREL HNO
          rw [← hat1] at H1r HREL
          have N2 := Lib.hid (fun W h => Number_rd 0 128 s1 rb W h)
          obtain ⟨kk, hkk⟩ : ∃ a : Nat, (nN 0 128 s1).1 = (a : Int) := ⟨(nN 0 128 s1).1.toNat, by omega⟩
          obtain ⟨s2, hs2⟩ : ∃ a, a = (nN 0 128 s1).2 := ⟨_, rfl⟩
          rw [← hs2] at HREL
          rw [hkk] at H2r HREL HNO
          rw [Int.toNat_natCast] at HREL HNO
          have HAT := Lib.hid hat1
          have HS1 := Lib.hid hs1
          have HKK := Lib.hid hkk
          have HS2 := Lib.hid hs2
          clear hΦ HK hat1 hs1 hkk hs2
          refine wp_region_lat [2, 5] Φ h0 (by kernel_rfl) (by kernel_rfl) (by kernel_rfl) ?_
          repeat (refine lex_pure rfl rfl rfl ?_; intro K hK; go_big_quiet_op; go_big_quiet_on)
          refine lex_eff rfl ?_
          go_wp2_with fail
          refine (N1.out _ HS0.out.1).mono ?_
          rintro e w3 ⟨rfl, h3, g3⟩
          rw [← HS1.out] at h3
          rw [← HAT.out]
          have HS3 := Lib.hid (HS0.out.reader h3 g3)
          clear h3 g3
          go_wp2_with fail
          refine ⟨⟨⟨w3, (HΦ.out _).2 HS3.out.2.1.cell⟩, rfl⟩, ?_⟩
          repeat (refine lex_pure rfl rfl rfl ?_; intro K hK; go_big_quiet_op; go_big_quiet_on)
          refine lex_eff rfl ?_
          go_wp2_with fail
          refine (N2.out _ HS3.out.1).mono ?_
          rintro e w4 ⟨rfl, h4, g4⟩
          rw [← HS2.out] at h4
          rw [HKK.out]
          have HS4 := Lib.hid (HS3.out.reader h4 g4)
          clear h4 g4
          go_wp2_with fail
          refine ⟨⟨⟨w4, (HΦ.out _).2 HS4.out.2.1.cell⟩, rfl⟩, ?_⟩
          repeat (refine lex_pure rfl rfl rfl ?_; intro K hK; go_big_quiet_op; go_big_quiet_on)
          refine lex_nil ?_
          have hx4 := HS4.out.2.1.cell
          clear fx hne h0 HΦ hx
          by_cases hkn : kk < n
          · obtain ⟨b, off, s, m, q, rfl, hB, hgs, hss, hcs⟩ := sym_getB HA.out (k := kk) (by have := HN.out; omega)
            have HST := Lib.hid (pMore_step (C.pRel syms) j (some l) s2 rs _ (HREL.out _ hgs))
            have hcs4 := grown_keepc HS4.out.2.1.1 hcs (fun e => hB.2 (Option.some.inj e).symm)
            have ho := HS4.out.2.2.2.1
            obtain ⟨hnr, xs, hoa, hfl⟩ := ho
            have HOA := Lib.hid hoa
            have HFL := Lib.hid hfl
            obtain ⟨⟨_, _, z2⟩, _, _, p2⟩ := at3 HS4.out.2.2.1
            obtain ⟨i1, hi1, hz10, hz11, hz12⟩ := info_parts rel_info
            obtain ⟨Φ, hΦ⟩ : ∃ Φ : World → Prop, ∀ x, Φ x ↔ x.cell? ⟨xb, 2, none⟩ = some (.slice A2 nr c2) ∧ x.cell? ⟨b, off + kk * 3, none⟩ = some (.string s) := ⟨_, fun _ => Iff.rfl⟩
            have h0 : Φ w4.drew := (hΦ _).2 ⟨z2, hcs4⟩
            have fx0 : ∀ x : Lat Φ, x.w'.cell? ⟨xb, 2, none⟩ = some (.slice A2 nr c2) := fun x => ((hΦ _).1 x.h).1
            have fx1 : ∀ x : Lat Φ, x.w'.cell? ⟨b, off + kk * 3, none⟩ = some (.string s) := fun x => ((hΦ _).1 x.h).2
            have hne := Lat.some h0
            have HΦ := Lib.hid hΦ
            have HB := Lib.hid hB
            have HNR := Lib.hid hnr
            have hbz : base ≤ w4.heap.size := HS4.out.2.2.2.2.2.2
            clear hΦ hoa hfl hgs hcs hB hnr
            go_wp2_with fail
            refine wp_region_tail 12 [9, 10] Φ h0 (by kernel_rfl) (by kernel_rfl) (by kernel_rfl) ?_
            simp only [List.take_succ_cons, List.take_zero, List.drop_succ_cons, List.drop_zero]
            iterate 9 (refine lex_pure rfl rfl rfl ?_; intro K hK; go_big_quiet_op; go_big_quiet_on)
            refine lex_eff rfl ?_
            go_wp2_with fail
            have e1 : Ext w4 (w4.drew.alloc (.cells #[.int .i64 at1, .string s] 87)) := ((Ext.refl w4).drew).alloc _
            have hΦ2 := (HΦ.out (w4.drew.alloc (.cells #[.int .i64 at1, .string s] 87))).2 ⟨e1.keepc z2, e1.keepc hcs4⟩
            refine ⟨⟨⟨_, hΦ2⟩, rfl⟩, ?_⟩
            refine lex_eff rfl ?_
            have e2 : Ext w4 (w4.alloc (.cells #[.int .i64 at1, .string s] 87)).drew := ((Ext.refl w4).alloc _).drew
            have hwf : (Lit.int .i64 at1).wf = true := by simp [Lit.wf, IntKind.min, IntKind.max, IntKind.bits, IntKind.signed]; omega
            refine wpList_append_ownAt _ rfl (.tmp 43) (.tmp 51) 83 rfl base 87 i1 (.agg #[.int .i64 0, .string ⟨#[]⟩]) 2 24 Tryz.underlying83 hi1 hz10 hz11 hz12 rfl (by decide) _ _ _ rfl (HOA.out.ext e2) ⟨w4.heap.size, 0, none⟩ 1 1 [.int .i64 at1, .string s] rfl rfl (cells_new_list w4 [.int .i64 at1, .string s] 87 _ rfl) (by intro u hu; simp at hu; rcases hu with rfl | rfl <;> rfl) (by unfold maxLen; omega) (by omega) (by have := e2.size; omega) (by decide) ?_
            intro v' w5 hown' hgrow _ hloc
            have HPU := Lib.hid (secSt_push HS4.out HOA.out HFL.out e2 hwf hss hown' hgrow hloc)
            have hlow := own_low HOA.out
            have hz5 := grown_keepc hgrow (e2.keepc z2) (fun e => by have := hlow _ e; have := HS4.out.2.2.2.2.2.1; simp only at *; omega)
            have hc5 := grown_keepc hgrow (e2.keepc hcs4) (fun e => by have := hlow _ e; have := HB.out.1; have := HS4.out.2.2.2.2; simp only at *; omega)
            have hΦ3 := (HΦ.out w5).2 ⟨hz5, hc5⟩
            obtain ⟨A3, c3, rfl⟩ := own_form2 hown'
            have HLOC := Lib.hid hloc
            have HOWN := Lib.hid hown'
            have HGR := Lib.hid hgrow
            clear hown' hgrow hloc hlow hwf
            go_wp2_with fail
            refine ⟨⟨⟨_, hΦ3⟩, rfl⟩, ?_⟩
            refine lex_pure rfl rfl rfl ?_
            intro K hK
            go_big_quiet_op
            go_big_quiet_on
            refine lex_nil ?_
            have p5 : w5.frozen? ⟨xb, 2, none⟩ = false := by
              have hb5 := e2.heap HS4.out.2.2.1
              have hlow := own_low HOA.out
              have hxb := HS4.out.2.2.2.2.2.1
              exact Lib.frozen_of_heap ((HGR.out.block xb (Array.getElem?_eq_some_iff.1 hb5).1 fun e => by have := hlow _ e.symm; omega).trans hb5) 2
            clear fx0 fx1 hne h0 hΦ2 hΦ3
            go_wp2_with fail
            exact ⟨⟨j, nr + 1, s2, rs ++ [(at1, s)], A3, c3, rfl, by omega, HPU.out, HST.out.trans HP.out⟩, by simp [intOf]⟩
          · have HX := Lib.hid (show X = none by rw [← HP.out]; exact pMore_stop (HNO.out (List.getElem?_eq_none (by have := HN.out; omega))))
            have N3 := Lib.hid (fun W h => Number_rd 1 0 s2 rb W h)
            rw [nN_bad] at N3
            go_wp2_with fail
            refine (N3.out _ HS4.out.1).mono ?_
            rintro e w5 ⟨rfl, h5, g5⟩
            have HS5 := Lib.hid (HS4.out.reader h5 g5)
            clear h5 g5
            obtain ⟨⟨z0, z1, z2⟩, _⟩ := at3 HS5.out.2.2.1
            obtain ⟨y0, y1, y2, hb3⟩ := HS5.out.2.1.2.2.1
            obtain ⟨⟨t0, t1, t2⟩, q0, q1, q2⟩ := at3 hb3
            have HF := Lib.hid (HSTEPS.out none rs (by rw [HX.out]; rfl))
            clear hb3
            go_wp2_with fail
            exact bodyPost_ret (v := .agg #[.int .i64 kd, .string d, .slice A2 nr c2]) (by simp [results, Tryz.results60, go_sem, t0, t1, t2]) rfl (retSec_of HS5.out (by omega) HKD.out HDS.out HF.out _ _ _)

end Go.Proofs.YtjimgkefacnamaaGreatDoor
