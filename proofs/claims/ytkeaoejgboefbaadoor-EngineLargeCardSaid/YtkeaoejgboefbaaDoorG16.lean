/- The texts Kh Kl Fi Kj Kk Ki Xa Xb LexS of the seat, joined. -/
import Derived.Test.YtkeaoejgboefbaaDoorG15
import Derived.Deep.Upon
import Derived.Lib.SliceRun
import Derived.BigQuiet
/- An engine alone, from a world on: its calls. -/
namespace Go.Proofs.YtkeaoejgboefbaaDoor
open Go.RowKit Go.Maps

theorem Ext.wrote {a b c : World} {X : Nat → Prop} (h : Ext a b) (t : Tch X b c) (hX : ∀ k, X k → a.heap.size ≤ k) : Ext a c :=
  ((h.tch fun _ => False).trans' t fun i hi hx => by have := hX i hx; omega).ext fun _ _ h => h
/-- An engine that has come since w0, behind m acts. -/
def Eng1 (w0 w : World) (g : Nat) (cs : List E.Cell) (m : Nat) (e : E.En) : Prop := Gl w0 ∧ Ext w0 w ∧ Fit cs m e ∧ ∃ S bc bi br, EngAt w S g bc bi br e ∧ w0.heap.size ≤ g ∧ w0.heap.size ≤ bi ∧ w0.heap.size ≤ br
section
variable {w0 w w' : World} {g m : Nat} {cs : List E.Cell} {e : E.En}
theorem Eng1.ext (h : Eng1 w0 w g cs m e) (hx : Ext w w') : Eng1 w0 w' g cs m e := by
  obtain ⟨h1, h2, h3, S, bc, bi, br, h4, h5⟩ := h
  exact ⟨h1, h2.trans hx, h3, S, bc, bi, br, h4.ext hx, h5⟩
theorem Eng1.ahead (h : Eng1 w0 w g cs m e) : Ext w0 w := h.2.1
theorem Eng1.fit (h : Eng1 w0 w g cs m e) : Fit cs m e := h.2.2.1
theorem Eng1.made {w1 : World} {S : Nat → Prop} (hg : Gl w0) (hx : Ext w0 w1) (hn : E.newErr cs = 0) (h : Fresh w1 S cs w) : Eng1 w0 w (w1.heap.size + 3) cs 0 (E.fresh cs) := by
  have := hx.size
  exact ⟨hg, hx.trans h.ext, fit_fresh hn, S, _, _, _, h.engAt, by omega, by omega, by omega⟩
theorem Eng1.set (h : Eng1 w0 w g cs m e) (hm : m ≤ 1000000) {n s : ByteArray} (hn : n.size ≤ 9223372036854775807) (hs : s.size ≤ 9223372036854775807) :
    Calls Tryd.prog 26 #[.pointer (some ⟨g, 0, none⟩), .string n, .string s] w fun ed w' => ed = .returned (.int .i64 (E.setE e n s).1) ∧ Eng1 w0 w' g cs (m + 1) (E.setE e n s).2 := by
  obtain ⟨hg, hx, hf, S, bc, bi, br, he, l1, l2, l3⟩ := h
  refine (Set_any he hf.eok (by have := hf.rev; omega) hn hs).mono ?_
  rintro ed w' ⟨h1, h2, h3⟩
  exact ⟨h1, hg, hx.wrote h3 (by rintro k (rfl | rfl) <;> assumption), hf.set n s, S, bc, bi, br, h2, l1, l2, l3⟩
theorem Eng1.clear (h : Eng1 w0 w g cs m e) (hm : m ≤ 1000000) {n : ByteArray} (hn : n.size ≤ 9223372036854775807) :
    Calls Tryd.prog 30 #[.pointer (some ⟨g, 0, none⟩), .string n] w fun ed w' => ed = .returned (.int .i64 (E.clearE e n).1) ∧ Eng1 w0 w' g cs (m + 1) (E.clearE e n).2 := by
  obtain ⟨hg, hx, hf, S, bc, bi, br, he, l1, l2, l3⟩ := h
  refine (Clear_any he (by have := hf.rev; omega) hn).mono ?_
  rintro ed w' ⟨h1, h2, h3⟩
  exact ⟨h1, hg, hx.wrote h3 (by rintro k (rfl | rfl) <;> assumption), hf.clear n, S, bc, bi, br, h2, l1, l2, l3⟩
theorem Eng1.get (h : Eng1 w0 w g cs m e) (hm : m ≤ 1000000) {n : ByteArray} (hn : n.size ≤ 9223372036854775807) :
    Calls Tryd.prog 28 #[.pointer (some ⟨g, 0, none⟩), .string n] w fun ed w' => ed = .returned (.tuple #[.string ((E.getE e n).1.getD ⟨#[]⟩), .bool (E.getE e n).1.isSome, .int .i64 (E.getE e n).2.1]) ∧ ((E.getE e n).1.getD ⟨#[]⟩).size ≤ 65536 ∧ Eng1 w0 w' g cs (m + 1) (E.getE e n).2.2 := by
  obtain ⟨hg, hx, hf, S, bc, bi, br, he, l1, l2, l3⟩ := h
  have hfew := hf.few
  refine (Get_any he (hg.ext hx) ⟨hg.off l1, hg.off l3⟩ hf.ok hf.formed hf.vals (by have := hf.cnt; omega) (by rw [hf.cells]; omega) (by have := hf.rev; omega) hn).mono ?_
  rintro ed w' ⟨h1, hz, h2, S', br', h3, h4, h5⟩
  exact ⟨h1, hz, hg, hx.wrote h2 (by rintro k (rfl | rfl) <;> assumption), hf.get n, S', bc, bi, br', h3, l1, l2, by have := hx.size; omega⟩
theorem Eng1.computed (h : Eng1 w0 w g cs m e) : Calls Tryd.prog 12 #[.pointer (some ⟨g, 0, none⟩)] w fun ed w' => ed = .returned (.int .i64 e.st.cnt) ∧ w = w' := by
  obtain ⟨hg, hx, hf, S, bc, bi, br, he, _⟩ := h
  exact Computed_any he
end

/-! ### The example -/
def exC : List E.Cell := [(⟨#[116, 101, 120, 116]⟩, 1, [], ⟨#[]⟩), (⟨#[110]⟩, 3, [⟨#[116, 101, 120, 116]⟩], ⟨#[]⟩), (⟨#[98, 105, 103]⟩, 5, [⟨#[110]⟩, ⟨#[116, 101, 120, 116]⟩, ⟨#[116, 101, 120, 116]⟩], ⟨#[]⟩), (⟨#[109]⟩, 2, [⟨#[110]⟩], ⟨#[]⟩)]
def ex1 : E.En := (E.setE (E.fresh exC) ⟨#[116, 101, 120, 116]⟩ ⟨#[97, 10, 98]⟩).2
def ex2 : E.En := (E.getE ex1 ⟨#[98, 105, 103]⟩).2.2
def ex3 : E.En := (E.getE ex2 ⟨#[109]⟩).2.2
def ex4 : E.En := (E.setE ex3 ⟨#[116, 101, 120, 116]⟩ ⟨#[99, 10, 100]⟩).2
def ex5 : E.En := (E.getE ex4 ⟨#[109]⟩).2.2
def ex6 : E.En := (E.getE ex5 ⟨#[98, 105, 103]⟩).2.2
theorem ex_new : E.newErr exC = 0 := by decide +kernel
theorem ex_set1 : (E.setE (E.fresh exC) ⟨#[116, 101, 120, 116]⟩ ⟨#[97, 10, 98]⟩).1 = 0 := by decide +kernel
theorem ex_get2 : (E.getE ex1 ⟨#[98, 105, 103]⟩).1 = some ⟨#[97, 10, 98]⟩ ∧ (E.getE ex1 ⟨#[98, 105, 103]⟩).2.1 = 0 ∧ ex2.st.cnt = 2 := by decide +kernel
theorem ex_get3 : (E.getE ex2 ⟨#[109]⟩).1 = some ⟨#[50]⟩ ∧ (E.getE ex2 ⟨#[109]⟩).2.1 = 0 ∧ ex3.st.cnt = 3 := by decide +kernel
theorem ex_set4 : (E.setE ex3 ⟨#[116, 101, 120, 116]⟩ ⟨#[99, 10, 100]⟩).1 = 0 := by decide +kernel
theorem ex_get5 : (E.getE ex4 ⟨#[109]⟩).2.1 = 0 ∧ ex5.st.cnt = 4 := by decide +kernel
theorem ex_get6 : (E.getE ex5 ⟨#[98, 105, 103]⟩).1 = some ⟨#[99, 10, 100]⟩ ∧ ex6.st.cnt = 5 := by decide +kernel
theorem strs_new {w w' : World} {l : List ByteArray} {g : Nat} (hg : g = w.heap.size) (hz : ∀ s ∈ l, s.size ≤ 9223372036854775807) (hl : l.length ≤ 100) (hk : Ext (w.alloc (.cells (l.map Value.string).toArray 9)) w') : SliceAt strR w' (Old w') (some ⟨g, 0, none⟩) l.length l := by
  subst hg
  have hlt : w.heap.size < w'.heap.size := by have := hk.size; simp at this; omega
  refine ⟨Nat.le_refl _, by omega, fun _ => ⟨_, 0, rfl, hlt, fun i hi => ⟨[.string l[i]], ⟨rfl, hz _ (List.getElem_mem hi)⟩, fun j u hj => ?_⟩⟩⟩
  refine hk.keepc ?_
  rw [cell_new, List.getElem?_toArray, Nat.zero_add]
  match j with
  | 0 => simp at hj; subst hj; simp [strR, hi]
  | j + 1 => simp at hj
theorem ex_slice (w : World) : ∀ W1 W2 W3 W4, W1 = w.alloc (.cells #[.string ⟨#[116, 101, 120, 116]⟩] 9) → W2 = W1.alloc (.cells #[.string ⟨#[110]⟩, .string ⟨#[116, 101, 120, 116]⟩, .string ⟨#[116, 101, 120, 116]⟩] 9) → W3 = W2.alloc (.cells #[.string ⟨#[110]⟩] 9) →
    W4 = W3.alloc (.cells #[.string ⟨#[116, 101, 120, 116]⟩, .int .i64 1, .slice none 0 0, .string ⟨#[]⟩, .string ⟨#[110]⟩, .int .i64 3, .slice (some ⟨w.heap.size, 0, none⟩) 1 1, .string ⟨#[]⟩, .string ⟨#[98, 105, 103]⟩, .int .i64 5, .slice (some ⟨W1.heap.size, 0, none⟩) 3 3, .string ⟨#[]⟩, .string ⟨#[109]⟩, .int .i64 2, .slice (some ⟨W2.heap.size, 0, none⟩) 1 1, .string ⟨#[]⟩] 32) →
    SliceAt cellR W4 (Old W4) (some ⟨W3.heap.size, 0, none⟩) 4 exC := by
  intro W1 W2 W3 W4 e1 e2 e3 e4
  have x1 : Ext w W1 := by rw [e1]; exact (Ext.refl _).alloc _
  have x2 : Ext W1 W2 := by rw [e2]; exact (Ext.refl _).alloc _
  have x3 : Ext W2 W3 := by rw [e3]; exact (Ext.refl _).alloc _
  have x4 : Ext W3 W4 := by rw [e4]; exact (Ext.refl _).alloc _
  have s1 : SliceAt strR W4 (Old W4) (some ⟨w.heap.size, 0, none⟩) 1 [⟨#[116, 101, 120, 116]⟩] := strs_new (w := w) rfl (fun s hs => by rw [List.mem_singleton.1 hs]; decide) (by decide) (by rw [e1] at x2; exact (x2.trans x3).trans x4)
  have s2 : SliceAt strR W4 (Old W4) (some ⟨W1.heap.size, 0, none⟩) 3 [⟨#[110]⟩, ⟨#[116, 101, 120, 116]⟩, ⟨#[116, 101, 120, 116]⟩] := strs_new (w := W1) rfl (fun s hs => by simp only [List.mem_cons, List.not_mem_nil, or_false] at hs; rcases hs with rfl | rfl | rfl <;> decide) (by decide) (by rw [e2] at x3; exact x3.trans x4)
  have s3 : SliceAt strR W4 (Old W4) (some ⟨W2.heap.size, 0, none⟩) 1 [⟨#[110]⟩] := strs_new (w := W2) rfl (fun s hs => by rw [List.mem_singleton.1 hs]; decide) (by decide) (by rw [e3] at x4; exact x4)
  have hlt : W3.heap.size < W4.heap.size := by rw [e4]; simp
  have hf : Flat cellR W4 (Old W4) exC [.string ⟨#[116, 101, 120, 116]⟩, .int .i64 1, .slice none 0 0, .string ⟨#[]⟩, .string ⟨#[110]⟩, .int .i64 3, .slice (some ⟨w.heap.size, 0, none⟩) 1 1, .string ⟨#[]⟩, .string ⟨#[98, 105, 103]⟩, .int .i64 5, .slice (some ⟨W1.heap.size, 0, none⟩) 3 3, .string ⟨#[]⟩, .string ⟨#[109]⟩, .int .i64 2, .slice (some ⟨W2.heap.size, 0, none⟩) 1 1, .string ⟨#[]⟩] := by
    refine ⟨[_, _, _, _], _, rfl, ⟨[_], _, rfl, ⟨rfl, by decide⟩, [_], _, rfl, ⟨rfl, by decide⟩, [_], _, rfl, ⟨_, _, rfl, SliceAt.nil _ _ _ _ _ (by decide)⟩, ⟨rfl, by decide⟩⟩, [_, _, _, _], _, rfl, ⟨[_], _, rfl, ⟨rfl, by decide⟩, [_], _, rfl, ⟨rfl, by decide⟩, [_], _, rfl, ⟨_, _, rfl, s1⟩, ⟨rfl, by decide⟩⟩, [_, _, _, _], _, rfl, ⟨[_], _, rfl, ⟨rfl, by decide⟩, [_], _, rfl, ⟨rfl, by decide⟩, [_], _, rfl, ⟨_, _, rfl, s2⟩, ⟨rfl, by decide⟩⟩, [_, _, _, _], _, rfl, ⟨[_], _, rfl, ⟨rfl, by decide⟩, [_], _, rfl, ⟨rfl, by decide⟩, [_], _, rfl, ⟨_, _, rfl, s3⟩, ⟨rfl, by decide⟩⟩, rfl⟩
  refine ⟨by decide, by decide, fun _ => ⟨_, 0, rfl, hlt, hf.row fun j u hj => ?_⟩⟩
  rw [Nat.zero_add, e4, cell_new, ← hj]
  exact List.getElem?_toArray
end Go.Proofs.YtkeaoejgboefbaaDoor

/- An engine and its model, from a world on: their calls. -/
namespace Go.Proofs.YtkeaoejgboefbaaDoor
open Go.RowKit Go.Maps

/-- Both have come since w0 and lie in blocks D; behind m acts. -/
def Both1 (w0 w : World) (D : Nat → Prop) (g : Nat) (cs : List E.Cell) (m : Nat) (e : E.En) : Prop := Gl w0 ∧ Ext w0 w ∧ Fit cs m e ∧ BothAt w w0.heap.size D g e
section
variable {w0 w w' : World} {D : Nat → Prop} {g m : Nat} {cs : List E.Cell} {e : E.En}
theorem Both1.ext (h : Both1 w0 w D g cs m e) (hx : Ext w w') : Both1 w0 w' D g cs m e := ⟨h.1, h.2.1.trans hx, h.2.2.1, h.2.2.2.ext hx⟩
theorem Both1.ahead (h : Both1 w0 w D g cs m e) : Ext w0 w := h.2.1
theorem Both1.fit (h : Both1 w0 w D g cs m e) : Fit cs m e := h.2.2.1
theorem Both1.dom (h : Both1 w0 w D g cs m e) : ∀ k, D k → w0.heap.size ≤ k ∧ k < w.heap.size := h.2.2.2.dom
/-- What an act of both answers: the blocks that turn are theirs. -/
theorem Both1.act (h : Both1 w0 w D g cs m e) (hm : m ≤ 1000000) {a : ActE} (h1 : (Lit.int .u8 a.1).wf = true) (h2 : (Lit.int .u8 a.2.1).wf = true) (h3 : a.2.2.size ≤ 9223372036854775807) :
    Calls Tryd.prog 13 #[.pointer (some ⟨g, 0, none⟩), .agg #[.int .u8 a.1, .int .u8 a.2.1, .string a.2.2]] w fun ed w' => ed = .returned (.bool true) ∧ Tch D w w' ∧ ∃ D', Both1 w0 w' D' g cs (m + 1) (actE e a) ∧ ∀ k, D' k → D k ∨ w.heap.size ≤ k := by
  obtain ⟨hg, hx, hf, S, S2, ge, bc, bi, br, p, ft, hb⟩ := h
  obtain ⟨k, c, v⟩ := a
  have b1 : 0 ≤ k ∧ k ≤ 255 := bounds_u8 h1
  have b2 : 0 ≤ c ∧ c ≤ 255 := bounds_u8 h2
  clear h1 h2
  obtain ⟨c', rfl⟩ : ∃ c' : Nat, c = c' := ⟨c.toNat, by omega⟩
  refine (act_row hb (hg.ext hx) hx.size (fun k hk => hg.lt hk) hf hm (by omega) b1.1 h3).mono ?_
  rintro ed w' ⟨e1, e2, D', e3, e4⟩
  exact ⟨e1, e2, D', ⟨hg, hx.wrote e2 fun k hk => (hb.dom k hk).1, hf.act _, e3⟩, e4⟩
/-- Their parts. -/
theorem Both1.parts (h : Both1 w0 w D g cs m e) : ∃ ge, w.cell? ⟨g, 0, none⟩ = some (.pointer (some ⟨ge, 0, none⟩)) ∧ w.cell? ⟨g, 5, none⟩ = some (.int .i64 e.st.cnt) ∧ (Calls Tryd.prog 12 #[.pointer (some ⟨ge, 0, none⟩)] w fun ed w' => ed = .returned (.int .i64 e.st.cnt) ∧ w = w') ∧
    (∀ n : ByteArray, n.size ≤ 9223372036854775807 → Calls Tryd.prog 19 #[.pointer (some ⟨ge, 0, none⟩), .string n] w (RetReads w (readsE e n))) ∧ ∀ n : ByteArray, Calls Tryd.prog 20 #[.pointer (some ⟨g, 1, none⟩), .string n] w (RetReads w (readsE e n)) := by
  obtain ⟨hg, hx, hf, S, S2, ge, bc, bi, br, p, ft, hb⟩ := h
  have hfew := hf.few
  refine ⟨ge, hb.ptr, ?_, Computed_any hb.eng, fun n hn => Reads_any hb.eng hn, fun n => ?_⟩
  · have := hb.ref.row.cells.2.2.2.2.1
    rw [hb.at'.1, hb.at'.2.1] at this
    simpa using this
  · have := refReads_any hb.ref (by rw [hf.cells]; omega) (n := n)
    rw [hb.at'.1, hb.at'.2.1] at this
    exact this
/-- What start answers. -/
theorem Both1.start {A : Option Addr} {kc n : Nat} (hg : Gl w) (hA : SliceAt cellR w (Old w) A kc cs) (hn : n = cs.length) (harg : ∀ c ∈ cs, c.2.2.1.length ≤ 1000) (hl : n ≤ 1000000) :
    Calls Tryd.prog 11 #[.slice A n kc] w fun ed w' => Ext w w' ∧ ((E.newErr cs ≠ 0 ∧ ed = .returned (.tuple #[.pointer none, .bool true])) ∨ (E.newErr cs = 0 ∧ ∃ g D, ed = .returned (.tuple #[.pointer (some ⟨g, 0, none⟩), .bool true]) ∧ Both1 w w' D g cs 0 (E.fresh cs))) := by
  refine (start_any hA hn harg hl).mono ?_
  rintro ed w' ⟨hx, h⟩
  refine ⟨hx, h.imp_right fun ⟨h0, g, D, h1, h2⟩ => ⟨h0, g, D, h1, hg, hx, fit_fresh h0, h2⟩⟩
end
set_option maxRecDepth 100000 in
theorem EqS_same (l : List ByteArray) (A B : Option Addr) (c c' n m : Nat) (w : World) (hn : n = l.length) (hm : m = l.length) (hA : SliceAt strR w (Old w) A c l) (hB : SliceAt strR w (Old w) B c' l) :
    Calls Tryd.prog 21 #[.slice A n c, .slice B m c'] w (Al (.bool true) w) := by
  have hn63 : n ≤ 9223372036854775807 := by have := hA.1; have := hA.2.1; omega
  obtain rfl : n = m := hn.trans hm.symm
  have HN := Lib.hid hn
  have HA := Lib.hid hA
  have HB := Lib.hid hB
  clear hn hA hm hB
  go_enter Tryd.func21, Tryd.ntmps21
  go_wp2_with fail
  go_loopw [13] (fun i wr => ∃ k : Nat, k ≤ n ∧ i = .int .i64 k ∧ Hid (Ext w wr)) (fun i _ => n - (intOf i).toNat)
  case atStart => exact ⟨0, Nat.zero_le _, rfl, Ext.refl _⟩
  case round =>
    obtain ⟨k, hk, rfl, HX⟩ := hrel
    by_cases hlt : k < n
    · have hkl : k < l.length := by rw [← HN.out]; exact hlt
      obtain ⟨b, off, hAe, hb, ca0, za1⟩ := str_get (HA.out.ext HX.out) hkl
      obtain ⟨b2, off2, hBe, hb2, cb0, zb1⟩ := str_get (HB.out.ext HX.out) hkl
      subst hAe hBe
      generalize l[k] = x at *
      go_wp2_with fail
      go_quiet (fail)
      go_wp2_with fail
      go_roundw
      case rel => exact ⟨k + 1, by omega, by go_num, HX.out.drewN _⟩
      case measure => simp [intOf]; omega
    · go_wp2_with fail
      go_ret
      exact ⟨rfl, HX.out⟩
end Go.Proofs.YtkeaoejgboefbaaDoor

/- Lists of files. -/
namespace Go.Proofs.YtkeaoejgboefbaaDoor
open Go.RowKit


/-- A file: path, data. -/
def fileR : Rep T.File := prodR strR strR
theorem fileR_size : fileR.size = 2 := rfl
theorem fileR_is {w : World} {B : Nat → Prop} {f : T.File} {us : List Value} (h : fileR.is w B f us) : us = [.string f.1, .string f.2] ∧ f.1.size ≤ 9223372036854775807 ∧ f.2.size ≤ 9223372036854775807 := by
  obtain ⟨x, y, rfl, ⟨rfl, h1⟩, ⟨rfl, h2⟩⟩ := h
  exact ⟨rfl, h1, h2⟩
/-- File k's cells. -/
theorem file_get {w : World} {B : Nat → Prop} {A : Option Addr} {c : Nat} {t : T.Tr} (h : SliceAt fileR w B A c t) {k : Nat} (hk : k < t.length) :
    ∃ b off, A = some ⟨b, off, none⟩ ∧ B b ∧ w.cell? ⟨b, off + k * 2, none⟩ = some (.string t[k].1) ∧ w.cell? ⟨b, off + (k * 2 + 1), none⟩ = some (.string t[k].2) ∧ t[k].1.size ≤ 9223372036854775807 ∧ t[k].2.size ≤ 9223372036854775807 := by
  obtain ⟨_, _, h3⟩ := h
  obtain ⟨b, off, hA, hb, hr⟩ := h3 (by intro e; rw [e] at hk; exact absurd hk (Nat.not_lt_zero _))
  obtain ⟨us, hu, hc⟩ := hr k hk
  obtain ⟨rfl, h1, h2⟩ := fileR_is hu
  exact ⟨b, off, hA, hb, hc 0 _ rfl, hc 1 _ rfl, h1, h2⟩

def fcells (l : T.Tr) : List Value := l.flatMap fun p => [.string p.1, .string p.2]
theorem fcells_len : ∀ l : T.Tr, (fcells l).length = l.length * 2
  | [] => rfl
  | p :: l => by
    have := fcells_len l
    unfold fcells at *
    rw [List.flatMap_cons, List.length_append, this, List.length_cons]
    simp
    omega
theorem fcells_append (l m : T.Tr) : fcells (l ++ m) = fcells l ++ fcells m := by unfold fcells; exact List.flatMap_append
theorem fcells_one (l : T.Tr) : ∀ u ∈ fcells l, u.oneCell' = true := by
  intro u hu
  obtain ⟨p, _, hp⟩ := List.mem_flatMap.1 hu
  simp at hp
  rcases hp with rfl | rfl <;> rfl
theorem fcells_get : ∀ (l : T.Tr) (j : Nat) (h : j < l.length), (fcells l)[j * 2]? = some (.string l[j].1) ∧ (fcells l)[j * 2 + 1]? = some (.string l[j].2)
  | p :: l, 0, _ => by simp [fcells]
  | p :: l, j + 1, h => by
    have := fcells_get l j (by simpa using h)
    rw [show (p :: l)[j + 1] = l[j]'(by simpa using h) from rfl]
    have e : fcells (p :: l) = [.string p.1, .string p.2] ++ fcells l := rfl
    rw [e, List.getElem?_append_right (by simp; omega), List.getElem?_append_right (by simp; omega)]
    simp only [List.length_cons, List.length_nil]
    rw [show (j + 1) * 2 - (0 + 1 + 1) = j * 2 by omega, show (j + 1) * 2 + 1 - (0 + 1 + 1) = j * 2 + 1 by omega]
    exact this
def OwnFiles (w : World) (base : Nat) (v : Value) (l : T.Tr) : Prop := OwnAt w base 48 2 v l.length (fcells l)
theorem file_info : (Tryd.prog.info? 48).map (fun i => (i.zero, i.size, i.bytes)) = some (some (.agg #[.string ⟨#[]⟩, .string ⟨#[]⟩]), 2, 32) := by kernel_rfl
theorem cells_new_file (w : World) (x y : ByteArray) : ∀ j u, (fcells [(x, y)])[j]? = some u → (w.alloc (.cells #[.string x, .string y] 48)).cell? ((⟨w.heap.size, 0, none⟩ : Addr).add j) = some u := by
  intro j u hj
  rw [Addr.add_lit, Nat.zero_add, cell_new, ← hj]
  simp [fcells]
theorem cells_file_at (w : World) (g : Nat) (x y : ByteArray) (hg : g = w.heap.size) : ∀ j u, (fcells [(x, y)])[j]? = some u → (w.alloc (.cells #[.string x, .string y] 48)).cell? ((⟨g, 0, none⟩ : Addr).add j) = some u := by
  subst hg
  exact cells_new_file w x y
theorem own_files_nil (w : World) (b : Nat) : OwnFiles w b (.slice none 0 0) [] := OwnAt.nil _ _ _ _
theorem own_files_snoc {w : World} {base : Nat} {v : Value} {l : T.Tr} {x y : ByteArray} {n : Nat} (hn : n = l.length) (h : OwnAt w base 48 2 v (n + 1) (fcells l ++ fcells [(x, y)])) : OwnFiles w base v (l ++ [(x, y)]) := by
  subst hn
  unfold OwnFiles
  rw [List.length_append, fcells_append]
  exact h
/-- Strings that a machine can hold. -/
def SzF (l : T.Tr) : Prop := ∀ f ∈ l, f.1.size ≤ 9223372036854775807 ∧ f.2.size ≤ 9223372036854775807
theorem SzF.of_slice {w : World} {B : Nat → Prop} {A : Option Addr} {c : Nat} {t : T.Tr} (h : SliceAt fileR w B A c t) : SzF t := by
  intro f hf
  obtain ⟨k, hk, rfl⟩ := List.getElem_of_mem hf
  obtain ⟨_, _, _, _, _, _, h1, h2⟩ := file_get h hk
  exact ⟨h1, h2⟩
theorem own_files_form {w : World} {base n : Nat} {v : Value} {xs : List Value} (h : OwnAt w base 48 2 v n xs) : ∃ A c, v = .slice A n c ∧ n ≤ c ∧ c ≤ 9223372036854775807 := by
  obtain ⟨_, ⟨rfl, rfl⟩ | ⟨g, off, cap, cur, rfl, _, _, h1, h2, _⟩⟩ := h
  · exact ⟨none, 0, rfl, Nat.le_refl _, by decide⟩
  · exact ⟨_, cap, rfl, h1, h2⟩
theorem own_files_slice {w : World} {base : Nat} {v : Value} {l : T.Tr} (h : OwnFiles w base v l) (hz : SzF l) : ∃ A c, v = .slice A l.length c ∧ SliceAt fileR w (Old w) A c l := by
  rcases Nat.eq_zero_or_pos l.length with h0 | h0
  · have hl : l = [] := List.eq_nil_of_length_eq_zero h0
    subst hl
    obtain ⟨A, c, rfl, h1, h2⟩ := own_files_form h
    exact ⟨A, c, rfl, SliceAt.nil _ _ _ _ _ h2⟩
  · obtain ⟨g, off, cap, rfl, hb, hlt, hnc, hcap, hc⟩ := OwnAt.cells h h0
    refine ⟨_, cap, rfl, hnc, hcap, fun _ => ⟨g, off, rfl, hlt, fun i hi => ⟨[.string l[i].1, .string l[i].2], ⟨[.string l[i].1], [.string l[i].2], rfl, ⟨rfl, (hz _ (List.getElem_mem hi)).1⟩, ⟨rfl, (hz _ (List.getElem_mem hi)).2⟩⟩, fun j u hj => ?_⟩⟩⟩
    have hg := fcells_get l i hi
    match j with
    | 0 => simp at hj; subst hj; exact hc _ _ hg.1
    | 1 => simp at hj; subst hj; exact hc _ _ hg.2
    | j + 2 => simp at hj
theorem own_files_q {w : World} {base : Nat} {v : Value} {l : T.Tr} (h : OwnFiles w base v l) : ∃ q A c, q = l.length ∧ v = .slice A q c ∧ OwnAt w base 48 2 (.slice A q c) q (fcells l) := by
  obtain ⟨A, c, rfl, _, _⟩ := own_files_form h
  exact ⟨l.length, A, c, rfl, rfl, h⟩
/-- A tree and an error come back. -/
def RetTr (w : World) (r : T.Tr × Int) (e : Ending) (w' : World) : Prop := ∃ v, e = .returned (.tuple #[v, .int .i64 r.2]) ∧ OwnFiles w' w.heap.size v r.1 ∧ Ext w w'
/-- A tree comes back. -/
def RetT (w : World) (r : T.Tr) (e : Ending) (w' : World) : Prop := ∃ v, e = .returned v ∧ OwnFiles w' w.heap.size v r ∧ Ext w w'
theorem wpList_wanted {P : Program} {ops : Array Oper} {rest : List Oper} {o : Oper} {a : Act} {w : World} {Q : Exit → Act → World → Prop} (hw : Region.wanted o (yielded ops a.tmps) = true) (h : o.wp P a w (wpList P ops Q rest) Q) : wpList P ops Q (o :: rest) a w := by
  unfold wpList
  rw [if_pos hw]
  exact .inl h
theorem files_cells {w : World} {B : Nat → Prop} {A : Option Addr} {c : Nat} {y : T.Tr} (hy : SliceAt fileR w B A c y) (hn : y ≠ []) : ∃ b off, A = some ⟨b, off, none⟩ ∧ B b ∧ ∀ j u, (fcells y)[j]? = some u → w.cell? ((⟨b, off, none⟩ : Addr).add j) = some u := by
  obtain ⟨b, off, hA, hb, hr⟩ := hy.2.2 hn
  refine ⟨b, off, hA, hb, fun j u hj => ?_⟩
  rw [Addr.add_lit]
  have hjl : j < y.length * 2 := by
    rcases Nat.lt_or_ge j (fcells y).length with h | h
    · rwa [fcells_len] at h
    · rw [List.getElem?_eq_none h] at hj; cases hj
  obtain ⟨b', off', hA', _, h1, h2, _, _⟩ := file_get hy (k := j / 2) (by omega)
  have hA'' := hA.symm.trans hA'
  simp only [Option.some.injEq, Addr.mk.injEq] at hA''
  obtain ⟨rfl, rfl, _⟩ := hA''
  have h3 := fcells_get y (j / 2) (by omega)
  rcases Nat.mod_two_eq_zero_or_one j with e | e
  · have e2 : j / 2 * 2 = j := by omega
    rw [e2] at h1 h3
    rw [h3.1] at hj
    cases hj
    exact h1
  · have e2 : j / 2 * 2 + 1 = j := by omega
    rw [e2] at h2 h3
    rw [h3.2] at hj
    cases hj
    exact h2
/-- append(v, y...) of files, none too. -/
theorem wpList_append_files {ops : Array Oper} {rest : List Oper} {o : Oper} {a : Act} {w : World} {Q : Exit → Act → World → Prop} (hw : Region.wanted o (yielded ops a.tmps) = true) (s x : Operand)
    (ho : o.op = .call { callee := .builtin .append, args := #[s, x], argTypes := #[46, 46] })
    (base : Nat) (v : Value) (l y : T.Tr) (hs : a.eval s = v) (hown : OwnFiles w base v l) (A : Option Addr) (m c : Nat) (hx : a.eval x = .slice A m c) (hm1 : m = y.length) (B : Nat → Prop) (hy : SliceAt fileR w B A c y)
    (h63 : l.length + y.length ≤ 1000) (hbase : base ≤ w.heap.size)
    (h : ∀ v' w', OwnFiles w' base v' (l ++ y) → Below base w w' → wpList Tryd.prog ops Q rest (a.put o.dst v') w') : wpList Tryd.prog ops Q (o :: rest) a w := by
  obtain ⟨i0, hi, hz0, hz1, hz2⟩ := info_parts file_info
  refine wpList_wanted hw ?_
  by_cases hm : y = []
  · subst hm
    have hm0 : m = 0 := hm1
    subst hm0
    have hsrc : Src Tryd.prog i0.size 46 (.slice A 0 c) 0 [] w := by
      cases A with
      | none => exact Src.ofNil w Tryd.underlying46 c
      | some ad => exact Src.ofSlice w Tryd.underlying46 ad 0 c [] (by simp) (fun j u hj => by simp at hj) (fun u hu => by simp at hu)
    have hrun : ∃ (b : Option Addr) (n cp : Nat), v = .slice b n cp ∧ n ≤ cp := by
      obtain ⟨A', c', rfl, h1, _⟩ := own_files_form hown
      exact ⟨_, _, _, rfl, h1⟩
    obtain ⟨b, n, cp, rfl, hle⟩ := hrun
    have hr := run_append_nothing (P := Tryd.prog) w 46 46 o.type 48 i0 Tryd.underlying46 hi b n cp hle _ hsrc
    unfold Oper.wp execOp
    simp only [ho, resolve, invoke, builtin, Sem.run_bind, Sem.run_pure, Result.andThen_ok, List.map_toArray, List.map_cons, List.map_nil, hs, hx, hr]
    exact h _ _ (by rw [List.append_nil]; exact hown) (Below.refl _ _)
  · have hpos : 0 < y.length := List.length_pos_iff.2 hm
    obtain ⟨b, off, rfl, _, hcc⟩ := files_cells hy hm
    subst hm1
    refine wp_append_ownAt w s x 46 ho base 48 i0 (.agg #[.string ⟨#[]⟩, .string ⟨#[]⟩]) 2 32 Tryd.underlying46 hi hz0 hz1 hz2 rfl (by decide) v l.length (fcells l) hs hown ⟨b, off, none⟩ y.length c (fcells y) hx (fcells_len y) hcc (fcells_one y) (by unfold maxLen; omega) (by omega) hbase hpos ?_
    intro v' w' h2 h3 _ _
    refine h v' w' ?_ ?_
    · unfold OwnFiles
      rw [fcells_append, List.length_append]
      exact h2
    · refine Below.grown (Below.refl _ _) h3 hbase fun k hk => ?_
      exact own_apart hown hk
theorem own_files_empty (w : World) (g : Nat) (hg : g = w.heap.size) : OwnFiles (w.alloc (.cells #[] 48)) w.heap.size (.slice (some ⟨g, 0, none⟩) 0 0) [] := by
  subst hg
  exact ⟨by simp [fcells], .inr ⟨w.heap.size, 0, 0, #[], rfl, Nat.le_refl _, heap_alloc_new _ _, Nat.le_refl _, by omega, by simp, fun j hj => by simp at hj⟩⟩
set_option maxRecDepth 8000 in
theorem CloneF_any (t : T.Tr) (A : Option Addr) (c n : Nat) (w : World) (hn : n = t.length) (hA : SliceAt fileR w (Old w) A c t) (hl : n ≤ 1000) : Calls Tryd.prog 16 #[.slice A n c] w (RetT w t) := by
  have HN := Lib.hid hn
  have HA := Lib.hid hA
  have HL := Lib.hid hl
  clear hl
  cases A with
  | none =>
    have ht : t = [] := by
      by_cases h : t = []
      · exact h
      · obtain ⟨b, off, e, _⟩ := hA.2.2 h; cases e
    subst ht
    obtain rfl : n = 0 := hn
    clear hA
    have q23 : ∀ W : World, (binOp .eql 46 (.slice none 0 c) (.slice none 0 0)).run Tryd.prog W = .ok (.bool true) W := fun W => Lib.run_eql_slice_nil W _ _ none 0 c 0 0 Tryd.underlying46
    go_enter Tryd.func16, Tryd.ntmps16
    go_wp2_with fail
    go_ret
    exact ⟨_, rfl, own_files_nil _ _, Ext.refl _⟩
  | some ad =>
    obtain ⟨b, off, sp⟩ := ad
    clear hA hn
    have q23 : ∀ W : World, (binOp .eql 46 (.slice (some ⟨b, off, sp⟩) n c) (.slice none 0 0)).run Tryd.prog W = .ok (.bool false) W := fun W => Lib.run_eql_slice_nil W _ _ (some ⟨b, off, sp⟩) n c 0 0 Tryd.underlying46
    go_enter Tryd.func16, Tryd.ntmps16
    go_wp2_with (at_builtin; refine wpList_append_files rfl (.tmp 5) (.tmp 6) rfl w.heap.size _ [] t rfl (own_files_empty w _ rfl) _ n c rfl HN.out _ (HA.out.ext ((Ext.refl w).alloc _)) (by have := HL.out; have := HN.out; simp; omega) (by simp) ?_; intro v' w' hown hb)
    go_ret
    exact ⟨_, rfl, hown, Below.trans ((Ext.refl w).alloc (.cells #[] 48)) hb⟩

def idxI (o : Option Nat) : Int := match o with | some i => i | none => -1
def noQ (q : T.File → Bool) (t : T.Tr) (k : Nat) : Prop := ∀ i (h : i < t.length), i < k → q t[i] = false
theorem noQ_succ {q : T.File → Bool} {t : T.Tr} {k : Nat} (h : noQ q t k) (hk : k < t.length) (h1 : q t[k] = false) : noQ q t (k + 1) := by
  intro i hi hik
  by_cases e : i = k
  · subst e; exact h1
  · exact h i hi (by omega)
theorem noQ_at {q : T.File → Bool} {t : T.Tr} {k : Nat} (h : noQ q t k) (hk : k < t.length) (h1 : q t[k] = true) : t.findIdx? q = some k := by
  rw [List.findIdx?_eq_some_iff_getElem]
  exact ⟨hk, h1, fun j hj => by rw [h j (by omega) hj]; exact Bool.false_ne_true⟩
theorem noQ_end {q : T.File → Bool} {t : T.Tr} (h : noQ q t t.length) : t.findIdx? q = none := by
  rw [List.findIdx?_eq_none_iff]
  intro x hx
  obtain ⟨i, hi, rfl⟩ := List.getElem_of_mem hx
  exact h i hi hi
set_option maxRecDepth 8000 in
set_option maxHeartbeats 2000000 in
theorem IndexFunc_gen (q : T.File → Bool) (g bp : Nat) (eg : ∀ (args : Array Value) (w : World), (callFunc g args).run Tryd.prog w = .ok (.enter g args) w) (t : T.Tr) (A : Option Addr) (c n : Nat) (w : World) (hn : n = t.length) (hA : SliceAt fileR w (Old w) A c t)
    (hc : ∀ f ∈ t, ∀ W, Ext w W → Calls Tryd.prog g #[.agg #[.string f.1, .string f.2], .pointer (some ⟨bp, 0, none⟩)] W (Al (.bool (q f)) W)) :
    Calls Tryd.prog 53 #[.slice A n c, .func (.func g) #[] #[.pointer (some ⟨bp, 0, none⟩)]] w (Al (.int .i64 (idxI (t.findIdx? q))) w) := by
  have hn2 : n ≤ 9223372036854775807 := by have := hA.1; have := hA.2.1; omega
  have HN := Lib.hid hn
  have HA := Lib.hid hA
  obtain ⟨R, hR⟩ : ∃ R, R = idxI (t.findIdx? q) := ⟨_, rfl⟩
  rw [← hR]
  have HR := Lib.hid hR
  have HC1 := Lib.hid hc
  clear hn hA hc hR
  go_enter Tryd.func53, Tryd.ntmps53
  go_wp2_with fail
  go_loopw [5, 8] (fun _ i wr => ∃ k : Nat, k ≤ n ∧ i = .int .i64 k ∧ Hid (noQ q t k ∧ Ext w wr)) (fun _ i _ => n - (intOf i).toNat)
  case atStart => exact ⟨0, Nat.zero_le _, rfl, fun _ _ h => absurd h (Nat.not_lt_zero _), Ext.refl w⟩
  case round =>
    obtain ⟨k, hk, rfl, HK⟩ := hrel
    by_cases hlt : k < n
    · have hkl : k < t.length := by rw [← HN.out]; exact hlt
      obtain ⟨b, off, hAe, hb, c0, c1, h1, h2⟩ := file_get (HA.out.ext HK.out.2) hkl
      subst hAe
      rw [← Nat.add_assoc] at c1
      have HY : Hid (q t[k] = true → R = (k : Int)) := fun he => by rw [HR.out, noQ_at HK.out.1 hkl he]; rfl
      have HNO : Hid (q t[k] = false → noQ q t (k + 1)) := fun he => noQ_succ HK.out.1 hkl he
      have HX := Lib.hid HK.out.2
      have HCALL := Lib.hid (HC1.out t[k] (List.getElem_mem hkl) wr HK.out.2)
      clear HK
      generalize t[k] = f at *
      obtain ⟨fp, fd⟩ := f
      simp only at c0 c1 h1 h2
      generalize q (fp, fd) = bb at HY HNO HCALL
      cases bb
      · have HQ := Lib.hid (HNO.out rfl)
        have HC : Hid (Calls Tryd.prog g #[.agg #[.string fp, .string fd], .pointer (some ⟨bp, 0, none⟩)] wr (Al (.bool false) wr)) := HCALL
        clear HCALL HY HNO
        go_wp2_with (go_at_fn g; refine HC.out.mono ?_; rintro e w1 ⟨rfl, d1⟩)
        go_roundw
        case rel => exact ⟨k + 1, by omega, by go_num, HQ.out, HX.out.trans d1⟩
        case measure => simp [intOf]; omega
      · have HQ := Lib.hid (HY.out rfl)
        have HC : Hid (Calls Tryd.prog g #[.agg #[.string fp, .string fd], .pointer (some ⟨bp, 0, none⟩)] wr (Al (.bool true) wr)) := HCALL
        clear HCALL HY HNO
        go_wp2_with (go_at_fn g; refine HC.out.mono ?_; rintro e w1 ⟨rfl, d1⟩)
        go_ret
        exact ⟨by rw [HQ.out]; rfl, HX.out.trans d1⟩
    · have HQ : Hid (R = -1) := by
        unfold Hid
        have h1 : noQ q t t.length := by
          have := HK.out.1
          rwa [show k = t.length by have := HN.out; omega] at this
        rw [HR.out, noQ_end h1]
        rfl
      have HX := Lib.hid HK.out.2
      have hdk : decide (k < n) = false := decide_eq_false hlt
      clear HK hk
      go_wp2_with fail
      go_ret
      exact ⟨by rw [HQ.out]; rfl, HX.out⟩
theorem idxI_any (q : T.File → Bool) (t : T.Tr) : decide (0 ≤ idxI (t.findIdx? q)) = t.any q := by
  cases h : t.findIdx? q with
  | none =>
    rw [List.findIdx?_eq_none_iff] at h
    have : t.any q = false := by rw [List.any_eq_false]; intro x hx; rw [h x hx]; exact Bool.false_ne_true
    rw [this]
    rfl
  | some i =>
    rw [List.findIdx?_eq_some_iff_getElem] at h
    obtain ⟨hi, h1, _⟩ := h
    have : t.any q = true := by rw [List.any_eq_true]; exact ⟨_, List.getElem_mem hi, h1⟩
    rw [this]
    simp [idxI]
set_option maxRecDepth 8000 in
theorem ContainsFunc_gen (q : T.File → Bool) (g bp : Nat) (eg : ∀ (args : Array Value) (w : World), (callFunc g args).run Tryd.prog w = .ok (.enter g args) w) (t : T.Tr) (A : Option Addr) (c n : Nat) (w : World) (hn : n = t.length) (hA : SliceAt fileR w (Old w) A c t)
    (hc : ∀ f ∈ t, ∀ W, Ext w W → Calls Tryd.prog g #[.agg #[.string f.1, .string f.2], .pointer (some ⟨bp, 0, none⟩)] W (Al (.bool (q f)) W)) :
    Calls Tryd.prog 33 #[.slice A n c, .func (.func g) #[] #[.pointer (some ⟨bp, 0, none⟩)]] w (Al (.bool (t.any q)) w) := by
  have HI := Lib.hid (IndexFunc_gen q g bp eg t A c n w hn hA hc)
  have he := idxI_any q t
  generalize idxI (t.findIdx? q) = R at HI he
  generalize t.any q = bb at he
  clear hn hA hc eg
  go_enter Tryd.func33, Tryd.ntmps33
  go_wp2_with fail
  refine HI.out.mono ?_
  rintro e w1 ⟨rfl, d1⟩
  have X1 := Lib.hid d1
  clear d1
  go_wp2_with fail
  go_ret
  exact ⟨by simp, X1.out⟩
set_option maxRecDepth 8000 in
set_option maxHeartbeats 2000000 in
theorem IndexFunc_gen0 (q : T.File → Bool) (g : Nat) (eg : ∀ (args : Array Value) (w : World), (callFunc g args).run Tryd.prog w = .ok (.enter g args) w) (t : T.Tr) (A : Option Addr) (c n : Nat) (w : World) (hn : n = t.length) (hA : SliceAt fileR w (Old w) A c t)
    (hc : ∀ f ∈ t, ∀ W, Ext w W → Calls Tryd.prog g #[.agg #[.string f.1, .string f.2]] W (Al (.bool (q f)) W)) :
    Calls Tryd.prog 53 #[.slice A n c, .func (.func g) #[] #[]] w (Al (.int .i64 (idxI (t.findIdx? q))) w) := by
  have hn2 : n ≤ 9223372036854775807 := by have := hA.1; have := hA.2.1; omega
  have HN := Lib.hid hn
  have HA := Lib.hid hA
  obtain ⟨R, hR⟩ : ∃ R, R = idxI (t.findIdx? q) := ⟨_, rfl⟩
  rw [← hR]
  have HR := Lib.hid hR
  have HC1 := Lib.hid hc
  clear hn hA hc hR
  go_enter Tryd.func53, Tryd.ntmps53
  go_wp2_with fail
  go_loopw [5, 8] (fun _ i wr => ∃ k : Nat, k ≤ n ∧ i = .int .i64 k ∧ Hid (noQ q t k ∧ Ext w wr)) (fun _ i _ => n - (intOf i).toNat)
  case atStart => exact ⟨0, Nat.zero_le _, rfl, fun _ _ h => absurd h (Nat.not_lt_zero _), Ext.refl w⟩
  case round =>
    obtain ⟨k, hk, rfl, HK⟩ := hrel
    by_cases hlt : k < n
    · have hkl : k < t.length := by rw [← HN.out]; exact hlt
      obtain ⟨b, off, hAe, hb, c0, c1, h1, h2⟩ := file_get (HA.out.ext HK.out.2) hkl
      subst hAe
      rw [← Nat.add_assoc] at c1
      have HY : Hid (q t[k] = true → R = (k : Int)) := fun he => by rw [HR.out, noQ_at HK.out.1 hkl he]; rfl
      have HNO : Hid (q t[k] = false → noQ q t (k + 1)) := fun he => noQ_succ HK.out.1 hkl he
      have HX := Lib.hid HK.out.2
      have HCALL := Lib.hid (HC1.out t[k] (List.getElem_mem hkl) wr HK.out.2)
      clear HK
      generalize t[k] = f at *
      obtain ⟨fp, fd⟩ := f
      simp only at c0 c1 h1 h2
      generalize q (fp, fd) = bb at HY HNO HCALL
      cases bb
      · have HQ := Lib.hid (HNO.out rfl)
        have HC : Hid (Calls Tryd.prog g #[.agg #[.string fp, .string fd]] wr (Al (.bool false) wr)) := HCALL
        clear HCALL HY HNO
        go_wp2_with (go_at_fn g; refine HC.out.mono ?_; rintro e w1 ⟨rfl, d1⟩)
        go_roundw
        case rel => exact ⟨k + 1, by omega, by go_num, HQ.out, HX.out.trans d1⟩
        case measure => simp [intOf]; omega
      · have HQ := Lib.hid (HY.out rfl)
        have HC : Hid (Calls Tryd.prog g #[.agg #[.string fp, .string fd]] wr (Al (.bool true) wr)) := HCALL
        clear HCALL HY HNO
        go_wp2_with (go_at_fn g; refine HC.out.mono ?_; rintro e w1 ⟨rfl, d1⟩)
        go_ret
        exact ⟨by rw [HQ.out]; rfl, HX.out.trans d1⟩
    · have HQ : Hid (R = -1) := by
        unfold Hid
        have h1 : noQ q t t.length := by
          have := HK.out.1
          rwa [show k = t.length by have := HN.out; omega] at this
        rw [HR.out, noQ_end h1]
        rfl
      have HX := Lib.hid HK.out.2
      have hdk : decide (k < n) = false := decide_eq_false hlt
      clear HK hk
      go_wp2_with fail
      go_ret
      exact ⟨by rw [HQ.out]; rfl, HX.out⟩
set_option maxRecDepth 8000 in
theorem ContainsFunc_gen0 (q : T.File → Bool) (g : Nat) (eg : ∀ (args : Array Value) (w : World), (callFunc g args).run Tryd.prog w = .ok (.enter g args) w) (t : T.Tr) (A : Option Addr) (c n : Nat) (w : World) (hn : n = t.length) (hA : SliceAt fileR w (Old w) A c t)
    (hc : ∀ f ∈ t, ∀ W, Ext w W → Calls Tryd.prog g #[.agg #[.string f.1, .string f.2]] W (Al (.bool (q f)) W)) :
    Calls Tryd.prog 33 #[.slice A n c, .func (.func g) #[] #[]] w (Al (.bool (t.any q)) w) := by
  have HI := Lib.hid (IndexFunc_gen0 q g eg t A c n w hn hA hc)
  have he := idxI_any q t
  generalize idxI (t.findIdx? q) = R at HI he
  generalize t.any q = bb at he
  clear hn hA hc eg
  go_enter Tryd.func33, Tryd.ntmps33
  go_wp2_with fail
  refine HI.out.mono ?_
  rintro e w1 ⟨rfl, d1⟩
  have X1 := Lib.hid d1
  clear d1
  go_wp2_with fail
  go_ret
  exact ⟨by simp, X1.out⟩
end Go.Proofs.YtkeaoejgboefbaaDoor

/- engine.Value. -/
namespace Go.Proofs.YtkeaoejgboefbaaDoor
open Go.RowKit Go.Maps

theorem eg34 : ∀ (args : Array Value) (w : World), (callFunc 34 args).run Tryd.prog w = .ok (.enter 34 args) w := enters_of Tryd.func34 (by kernel_rfl) rfl
def bigF (f : T.File) : Bool := decide (65536 < f.2.size)
theorem big_any (s d : ByteArray) (w : World) (hd : d.size ≤ 9223372036854775807) : Calls Tryd.prog 34 #[.agg #[.string s, .string d]] w (Al (.bool (bigF (s, d))) w) := by
  obtain ⟨b, hb⟩ : ∃ b, b = bigF (s, d) := ⟨_, rfl⟩
  have hb2 : decide (65536 < d.size) = b := by rw [hb]; rfl
  rw [← hb]
  clear hb
  go_enter Tryd.func34, Tryd.ntmps34
  go_wp2_with fail
  go_ret
  exact ⟨by rw [← hb2]; simp; omega, (Ext.refl w).alloc _⟩
/-- What Value answers. -/
def RetVal (w : World) (r : E.V × Int) (ed : Ending) (w' : World) : Prop := ed = .returned (.tuple #[.string (r.1.getD ⟨#[]⟩), .bool r.1.isSome, .int .i64 r.2]) ∧ (r.1.getD ⟨#[]⟩).size ≤ 65536 ∧ Ext w w'
theorem setAll_succ (e : E.En) (l : T.Tr) {j : Nat} (hj : j < l.length) : E.setAll e (l.take (j + 1)) = (E.setE (E.setAll e (l.take j)) l[j].1 l[j].2).2 := by
  unfold E.setAll
  rw [List.take_succ_eq_append_getElem hj, List.foldl_append]
  rfl
set_option maxRecDepth 100000 in
set_option maxHeartbeats 4000000 in
theorem Value_any {w : World} {A B : Option Addr} {k n kb m : Nat} {cs : List E.Cell} {l : T.Tr} {nm : ByteArray} (hg : Gl w) (hA : SliceAt cellR w (Old w) A k cs) (hn : n = cs.length) (harg : ∀ c ∈ cs, c.2.2.1.length ≤ 1000) (hB : SliceAt fileR w (Old w) B kb l) (hm : m = l.length) (hml : m ≤ 100000) (hnm : nm.size ≤ 9223372036854775807) :
    Calls Tryd.prog 14 #[.slice A n k, .slice B m kb, .string nm] w (RetVal w (E.valueE cs l nm)) := by
  obtain ⟨R, hR⟩ : ∃ R, R = E.valueE cs l nm := ⟨_, rfl⟩
  rw [← hR]
  have HR : Hid (R = if E.newErr cs ≠ 0 then (none, E.newErr cs) else if l.any (fun x => decide (65536 < x.2.size)) then (none, 10) else ((E.getE (E.setAll (E.fresh cs) l) nm).1, (E.getE (E.setAll (E.fresh cs) l) nm).2.1)) := Lib.hid hR
  have HNW := Lib.hid (New_any hA hn harg)
  have HSZ := Lib.hid (SzF.of_slice hB)
  have HC := Lib.hid (fun W (hx : Ext w W) => ContainsFunc_gen0 bigF 34 eg34 l B kb m W hm (hB.ext hx) fun f hf W' _ => big_any f.1 f.2 W' (HSZ.out f hf).2)
  have HB := Lib.hid hB
  have HM := Lib.hid hm
  have HG := Lib.hid hg
  clear hR hg hA hn harg hB hm
  go_enter Tryd.func14, Tryd.ntmps14
  go_wp2_with fail
  refine HNW.out.mono ?_
  rintro ed w1 ⟨x1, hr⟩
  have HX1 := Lib.hid x1
  clear x1
  rcases hr with ⟨h0, rfl⟩ | ⟨h0, rfl, S, hf⟩
  · have HX : Hid (R = (none, E.newErr cs)) := Lib.hid (by rw [HR.out, if_pos h0])
    have hx1 : (E.newErr cs == 0) = false := by rw [beq_eq_false_iff_ne]; exact h0
    have hx2 : (E.newErr cs != 0) = true := by rw [bne, hx1]; rfl
    generalize E.newErr cs = x at *
    clear h0 HR
    go_wp2_with fail
    go_ret3
    exact ⟨by rw [HX.out]; rfl, by rw [HX.out]; exact Nat.zero_le _, HX1.out⟩
  · have HE1 := Lib.hid (Eng1.made HG.out (Ext.refl w) h0 hf)
    have HR2 : Hid (R = if l.any bigF then (none, 10) else ((E.getE (E.setAll (E.fresh cs) l) nm).1, (E.getE (E.setAll (E.fresh cs) l) nm).2.1)) := Lib.hid (by rw [HR.out, if_neg (by simpa using h0)]; rfl)
    have HC1 := Lib.hid (HC.out w1 HX1.out)
    obtain ⟨g, hg⟩ : ∃ g, g = w.heap.size + 3 := ⟨_, rfl⟩
    rw [← hg] at HE1 ⊢
    clear HR h0 hf HC hg
    go_wp2_with fail
    refine HC1.out.mono ?_
    rintro ed w2 ⟨rfl, x2⟩
    have HX2 := Lib.hid (HX1.out.trans x2)
    have HE2 := Lib.hid (HE1.out.ext x2)
    clear x2 HC1
    cases hany : l.any bigF with
    | true =>
      have HX : Hid (R = (none, 10)) := Lib.hid (by rw [HR2.out, if_pos hany])
      clear hany
      go_wp2_with fail
      go_ret3
      exact ⟨by rw [HX.out]; rfl, by rw [HX.out]; exact Nat.zero_le _, HX2.out⟩
    | false =>
      have HX : Hid (R = ((E.getE (E.setAll (E.fresh cs) l) nm).1, (E.getE (E.setAll (E.fresh cs) l) nm).2.1)) := Lib.hid (by rw [HR2.out, if_neg (by rw [hany]; decide)])
      clear hany HR2
      go_wp2_with fail
      go_loopw [12, 25] (fun _ i wr => ∃ (j : Nat), i = .int .i64 j ∧ j ≤ m ∧ Hid (Eng1 w wr g cs j (E.setAll (E.fresh cs) (l.take j)))) (fun _ i _ => m - (intOf i).toNat)
      case atStart => exact ⟨0, rfl, Nat.zero_le _, HE2⟩
      case round =>
        obtain ⟨j, rfl, hj, HE⟩ := hrel
        by_cases hlt : j < m
        · have hjl : j < l.length := by have := HM.out; omega
          obtain ⟨b, off, hAe, hbb, d0, d1, z0, z1⟩ := file_get (HB.out.ext HE.out.ahead) hjl
          subst hAe
          rw [← Nat.add_assoc] at d1
          have HS := Lib.hid (setAll_succ (E.fresh cs) l hjl)
          generalize l[j] = f at *
          obtain ⟨fp, fd⟩ := f
          simp only at d0 d1 z0 z1
          obtain ⟨W2, hW2⟩ : ∃ W2, W2 = wr.alloc (.cells #[.string fp, .string fd] 48) := ⟨_, rfl⟩
          have X2 : Ext wr W2 := by rw [hW2]; exact (Ext.refl wr).alloc _
          have p0 : W2.cell? ⟨wr.heap.size, 0, none⟩ = some (.string fp) := by rw [hW2]; exact cell_new wr #[.string fp, .string fd] 48 0
          have p1 : W2.cell? ⟨wr.heap.size, 1, none⟩ = some (.string fd) := by rw [hW2]; exact cell_new wr #[.string fp, .string fd] 48 1
          have HCS := Lib.hid ((HE.out.ext X2).set (by omega) z0 z1)
          clear X2
          go_upto_region 9 with (fail)
          rw [← hW2]
          clear hW2 d0 d1
          go_wp2_with fail
          refine HCS.out.mono ?_
          rintro ed w3 ⟨rfl, h3⟩
          have HE3 : Hid (Eng1 w w3 g cs (j + 1) (E.setAll (E.fresh cs) (l.take (j + 1)))) := Lib.hid (by rw [HS.out]; exact h3)
          clear h3 HCS
          generalize (E.setE (E.setAll (E.fresh cs) (l.take j)) fp fd).1 = y at *
          go_wp2_with fail
          go_roundw
          case rel => exact ⟨j + 1, by go_num, by omega, HE3⟩
          case measure => simp [intOf]; omega
        · have hjn : j = m := by omega
          have htk : l.take j = l := List.take_of_length_le (by have := HM.out; omega)
          rw [htk] at HE
          have HCG := Lib.hid (HE.out.get (by omega) hnm)
          generalize E.getE (E.setAll (E.fresh cs) l) nm = r at *
          obtain ⟨rv, re, en⟩ := r
          clear htk hjn
          go_wp2_with fail
          refine HCG.out.mono ?_
          rintro ed w3 ⟨rfl, hz, h3⟩
          have HX3 := Lib.hid h3.ahead
          have HZ := Lib.hid hz
          replace HX : Hid (R = (rv, re)) := HX
          clear h3 hz HCG
          simp only
          generalize hva : rv.getD ⟨#[]⟩ = va at *
          generalize hvb : rv.isSome = vb at *
          have HVA := Lib.hid hva
          have HVB := Lib.hid hvb
          clear hva hvb
          go_wp2_with fail
          go_ret3
          exact ⟨by rw [HX.out, ← HVA.out, ← HVB.out]; rfl, by rw [HX.out]; show (rv.getD ⟨#[]⟩).size ≤ 65536; rw [HVA.out]; exact HZ.out, HX3.out⟩
end Go.Proofs.YtkeaoejgboefbaaDoor

/- The reference's Value. -/
namespace Go.Proofs.YtkeaoejgboefbaaDoor
open Go.RowKit Go.Maps

/-- The reference's engine alone, from a world on. -/
def Ref1 (w0 w : World) (g : Nat) (cs : List E.Cell) (m : Nat) (e : E.En) : Prop := Ext w0 w ∧ Fit cs m e ∧ ∃ S p ft, p.g = g ∧ p.o = 0 ∧ RefAt w S p 0 ft [] e ∧ w0.heap.size ≤ g ∧ w0.heap.size ≤ p.bv ∧ w0.heap.size ≤ p.bm
section
variable {w0 w w' : World} {g m : Nat} {cs : List E.Cell} {e : E.En}
theorem Ref1.ext (h : Ref1 w0 w g cs m e) (hx : Ext w w') : Ref1 w0 w' g cs m e := by
  obtain ⟨h1, h2, S, p, ft, h3, h4, h5, h6⟩ := h
  exact ⟨h1.trans hx, h2, S, p, ft, h3, h4, h5.ext hx, h6⟩
theorem Ref1.ahead (h : Ref1 w0 w g cs m e) : Ext w0 w := h.1
theorem Ref1.fit (h : Ref1 w0 w g cs m e) : Fit cs m e := h.2.1
theorem Ref1.set (h : Ref1 w0 w g cs m e) (hm : m ≤ 1000000) {n s : ByteArray} (hs : s.size ≤ 9223372036854775807) :
    Calls Tryd.prog 29 #[.pointer (some ⟨g, 0, none⟩), .string n, .string s] w fun ed w' => ed = .returned (.int .i64 (E.setE e n s).1) ∧ Ref1 w0 w' g cs (m + 1) (E.setE e n s).2 := by
  obtain ⟨hx, hf, S, p, ft, rfl, h2, h3, l1, l2, l3⟩ := h
  have hfew := hf.few
  have := refSet_any h3 hf.once (by have := hf.rev; omega) (by rw [hf.cells]; omega) (n := n) hs
  rw [h2] at this
  refine this.mono ?_
  rintro ed w' ⟨h1, h4, h5⟩
  exact ⟨h1, hx.wrote h5 (by rintro k (rfl | rfl) <;> assumption), hf.set n s, S, p, ft, rfl, h2, h4, l1, l2, l3⟩
theorem Ref1.get (h : Ref1 w0 w g cs m e) (hm : m ≤ 1000000) {n : ByteArray} (hn : n.size ≤ 9223372036854775807) :
    Calls Tryd.prog 32 #[.pointer (some ⟨g, 0, none⟩), .string n] w fun ed w' => ed = .returned (.tuple #[.string ((E.getE e n).1.getD ⟨#[]⟩), .bool (E.getE e n).1.isSome, .int .i64 (E.getE e n).2.1]) ∧ ((E.getE e n).1.getD ⟨#[]⟩).size ≤ 65536 ∧ Ref1 w0 w' g cs (m + 1) (E.getE e n).2.2 := by
  obtain ⟨hx, hf, S, p, ft, rfl, h2, h3, l1, l2, l3⟩ := h
  have hfew := hf.few
  have := refGet_any h3 hf.once hf.ok hf.formed hf.vals (by have := hf.cnt; omega) (by rw [hf.cells]; omega) (by have := hf.rev; omega) hn
  rw [h2] at this
  refine this.mono ?_
  rintro ed w' ⟨h1, hz, h4, S', bm, om, cm, ft', h5, h6, h7⟩
  exact ⟨h1, hz, hx.wrote h4 (by rintro k (rfl | rfl) <;> assumption), hf.get n, S', { p with bm := bm, om := om, cm := cm }, ft', rfl, h2, h5, l1, l2, by have := hx.size; show _ ≤ bm; omega⟩
theorem Ref1.made {w1 W2 : World} {A : Option Addr} {n kc bv bm : Nat} (hA : SliceAt cellR w0 (Old w0) A kc cs) (hn : n = cs.length) (h0 : E.newErr cs = 0)
    (x1 : Ext w0 w1) (hv : VRow w1 bv 0 n fun _ => none) (hm : MRow w1 (Old w0) bm 0 n (fun _ => none) fun _ => false) (l1 : w0.heap.size ≤ bv) (l2 : w0.heap.size ≤ bm) (hne : bv ≠ bm)
    (x2 : Ext w1 W2) (hr : W2.heap[w1.heap.size]? = some (.cells #[.slice A n kc, .slice (some ⟨bv, 0, none⟩) n n, .slice (some ⟨bm, 0, none⟩) n n, .int .i64 0, .int .i64 0, .int .i64 0] 40 (0, 0))) : Ref1 w0 W2 w1.heap.size cs 0 (E.fresh cs) := by
  subst hn
  have s1 := x1.size
  have s2 := x2.size
  have lbv := hv.lt
  have lbm := hm.lt
  refine ⟨x1.trans x2, fit_fresh h0, Old w0, ⟨w1.heap.size, 0, fun _ => none, A, kc, bv, 0, cs.length, bm, 0, cs.length⟩, 0, rfl, rfl, ?_, s1, l1, l2⟩
  refine ⟨⟨_, 40, hr, rfl, rfl, rfl, rfl, rfl, rfl, fun i hi => absurd hi (Nat.not_lt_zero _)⟩, hA.keep (fun _ h => h) fun k hk => (x1.trans x2).block k hk, hv.tch (x2.tch fun _ => False) (fun h => h), hm.tch (x2.tch fun _ => False) (fun h => h) (fun k hk => ⟨Nat.lt_of_lt_of_le hk s1, fun h => h⟩) fun _ hk => hk, ⟨Nat.le_refl _, Nat.le_refl _⟩, ⟨by show w1.heap.size ≠ bv; omega, by show w1.heap.size ≠ bm; omega, hne⟩, ⟨fun h => by have h : w1.heap.size < w0.heap.size := h; omega, fun h => by have h : bv < w0.heap.size := h; omega, fun h => by have h : bm < w0.heap.size := h; omega⟩, fun k hk => Nat.lt_of_lt_of_le hk (x1.trans x2).size⟩
end
theorem noQ_any {q : T.File → Bool} {t : T.Tr} (h : noQ q t t.length) : t.any q = false := by
  rw [List.any_eq_false]
  intro x hx
  obtain ⟨i, hi, rfl⟩ := List.getElem_of_mem hx
  rw [h i hi hi]
  exact Bool.false_ne_true
theorem any_at {q : T.File → Bool} {t : T.Tr} {k : Nat} (hk : k < t.length) (h : q t[k] = true) : t.any q = true := List.any_eq_true.2 ⟨_, List.getElem_mem hk, h⟩
set_option maxRecDepth 100000 in
set_option maxHeartbeats 4000000 in
theorem refValue_any {w : World} {A B : Option Addr} {k n kb m : Nat} {cs : List E.Cell} {l : T.Tr} {nm : ByteArray} (hA : SliceAt cellR w (Old w) A k cs) (hn : n = cs.length) (harg : ∀ c ∈ cs, c.2.2.1.length ≤ 1000) (hB : SliceAt fileR w (Old w) B kb l) (hm : m = l.length) (hml : m ≤ 100000) (hnm : nm.size ≤ 9223372036854775807) :
    Calls Tryd.prog 17 #[.slice A n k, .slice B m kb, .string nm] w (RetVal w (E.valueE cs l nm)) := by
  obtain ⟨R, hR⟩ : ∃ R, R = E.valueE cs l nm := ⟨_, rfl⟩
  rw [← hR]
  have HR : Hid (R = if E.newErr cs ≠ 0 then (none, E.newErr cs) else if l.any (fun x => decide (65536 < x.2.size)) then (none, 10) else ((E.getE (E.setAll (E.fresh cs) l) nm).1, (E.getE (E.setAll (E.fresh cs) l) nm).2.1)) := Lib.hid hR
  have HNW := Lib.hid (refNew_any hA hn harg)
  have HB := Lib.hid hB
  have HM := Lib.hid hm
  have HA := Lib.hid hA
  have HN := Lib.hid hn
  clear hR hA hn harg hB hm
  go_enter Tryd.func17, Tryd.ntmps17
  go_wp2_with fail
  refine HNW.out.mono ?_
  rintro ed w1 ⟨x1, hr⟩
  have HX1 := Lib.hid x1
  clear x1
  rcases hr with ⟨h0, rfl⟩ | ⟨h0, bv, bm, rfl, l1, l2, hne, hv, hmm⟩
  · have HX : Hid (R = (none, E.newErr cs)) := Lib.hid (by rw [HR.out, if_pos h0])
    have hx1 : (E.newErr cs == 0) = false := by rw [beq_eq_false_iff_ne]; exact h0
    have hx2 : (E.newErr cs != 0) = true := by rw [bne, hx1]; rfl
    generalize E.newErr cs = x at *
    clear h0 HR
    go_wp2_with fail
    go_ret3
    exact ⟨by rw [HX.out]; rfl, by rw [HX.out]; exact Nat.zero_le _, HX1.out.alloc _⟩
  · have HR2 : Hid (R = if l.any bigF then (none, 10) else ((E.getE (E.setAll (E.fresh cs) l) nm).1, (E.getE (E.setAll (E.fresh cs) l) nm).2.1)) := Lib.hid (by rw [HR.out, if_neg (by simpa using h0)]; rfl)
    obtain ⟨W2, hW2⟩ : ∃ W2, W2 = w1.alloc (.cells #[.slice A n k, .slice (some ⟨bv, 0, none⟩) n n, .slice (some ⟨bm, 0, none⟩) n n, .int .i64 0, .int .i64 0, .int .i64 0] 40) := ⟨_, rfl⟩
    have HE1 : Hid (Ref1 w W2 w1.heap.size cs 0 (E.fresh cs)) := Lib.hid (Ref1.made HA.out HN.out h0 HX1.out hv hmm l1 l2 hne (by rw [hW2]; exact (Ext.refl _).alloc _) (by rw [hW2]; exact heap_alloc_new w1 _))
    obtain ⟨g, hg⟩ : ∃ g, g = w1.heap.size := ⟨_, rfl⟩
    rw [← hg] at HE1
    clear HR h0 l1 l2 hne hv hmm
    go_upto_region 2 with (fail)
    rw [← hW2]
    rw [← hg]
    clear hW2 hg
    go_wp2_with fail
    go_loopw [11] (fun i wr => ∃ (j : Nat), i = .int .i64 j ∧ j ≤ m ∧ Hid (noQ bigF l j) ∧ wr = W2) (fun i _ => m - (intOf i).toNat)
    case atStart => exact ⟨0, rfl, Nat.zero_le _, (fun _ _ h => absurd h (Nat.not_lt_zero _)), rfl⟩
    case round =>
      obtain ⟨j, rfl, hj, HQ, rfl⟩ := hrel
      by_cases hlt : j < m
      · have hjl : j < l.length := by have := HM.out; omega
        obtain ⟨b, off, hAe, hbb, d0, d1, z0, z1⟩ := file_get (HB.out.ext HE1.out.ahead) hjl
        subst hAe
        rw [← Nat.add_assoc] at d1
        by_cases hbig : 65536 < l[j].2.size
        · have hany := any_at (q := bigF) hjl (decide_eq_true hbig)
          have HX : Hid (R = (none, 10)) := Lib.hid (by rw [HR2.out, if_pos hany])
          generalize l[j].2 = fd at *
          clear hany d0
          go_wp2_with fail
          go_ret3
          exact ⟨by rw [HX.out]; rfl, by rw [HX.out]; exact Nat.zero_le _, HE1.out.ahead⟩
        · have HQ2 := Lib.hid (noQ_succ (q := bigF) HQ.out hjl (decide_eq_false hbig))
          generalize l[j].2 = fd at *
          clear d0
          go_wp2_with fail
          go_roundw
          case rel => exact ⟨j + 1, by go_num, by omega, HQ2, by trivial⟩
          case measure => simp [intOf]; omega
      · have hjn : j = m := by omega
        have hno : l.any bigF = false := noQ_any (by have := HQ.out; rwa [show j = l.length by have := HM.out; omega] at this)
        have HX : Hid (R = ((E.getE (E.setAll (E.fresh cs) l) nm).1, (E.getE (E.setAll (E.fresh cs) l) nm).2.1)) := Lib.hid (by rw [HR2.out, if_neg (by rw [hno]; decide)])
        clear hno HR2 hjn HQ
        go_wp2_with fail
        go_loopw [12] (fun i wr2 => ∃ (j : Nat), i = .int .i64 j ∧ j ≤ m ∧ Hid (Ref1 w wr2 g cs j (E.setAll (E.fresh cs) (l.take j)))) (fun i _ => m - (intOf i).toNat)
        case atStart => exact ⟨0, rfl, Nat.zero_le _, HE1⟩
        case round =>
          obtain ⟨j, rfl, hj, HE⟩ := hrel
          by_cases hlt : j < m
          · have hjl : j < l.length := by have := HM.out; omega
            obtain ⟨b, off, hAe, hbb, d0, d1, z0, z1⟩ := file_get HB.out hjl
            subst hAe
            rw [← Nat.add_assoc] at d1
            have HKC := Lib.hid (fun (W : World) (hx : Ext w W) => And.intro (hx.keepc d0) (hx.keepc d1))
            replace d0 := HE.out.ahead.keepc d0
            replace d1 := HE.out.ahead.keepc d1
            have HS := Lib.hid (setAll_succ (E.fresh cs) l hjl)
            generalize l[j] = f at *
            obtain ⟨fp, fd⟩ := f
            simp only at d0 d1 z0 z1 HKC
            have HCS := Lib.hid (fun W (hx : Ext wr W) => (HE.out.ext hx).set (by omega) (n := fp) z1)
            obtain ⟨Φ, hΦ⟩ : ∃ Φ : World → Prop, ∀ w', Φ w' ↔ (w'.cell? ⟨b, off + j * 2, none⟩ = some (.string fp) ∧ w'.cell? ⟨b, off + j * 2 + 1, none⟩ = some (.string fd)) := ⟨_, fun _ => Iff.rfl⟩
            have h0 : Φ wr.drew := (hΦ _).2 ⟨d0, d1⟩
            have fx0 : ∀ x : Lat Φ, x.w'.cell? ⟨b, off + j * 2, none⟩ = some (.string fp) := fun x => ((hΦ _).1 x.h).1
            have fx1 : ∀ x : Lat Φ, x.w'.cell? ⟨b, off + j * 2 + 1, none⟩ = some (.string fd) := fun x => ((hΦ _).1 x.h).2
            have hne1 := Lat.some h0
            have HΦ := Lib.hid hΦ
            clear hΦ
            go_upto_region 12 with (fail)
            refine wp_region_lat [10] Φ h0 (by kernel_rfl) (by kernel_rfl) (by kernel_rfl) ?_
            iterate 10 (refine lex_pure rfl rfl rfl ?_; intro K hK; go_big_quiet_op; go_big_quiet_on)
            refine lex_eff rfl ?_
            go_wp2_with fail
            refine (HCS.out _ (Ext.refl wr).drew).mono ?_
            rintro ed w3 ⟨rfl, h3⟩
            have HE3 : Hid (Ref1 w w3 g cs (j + 1) (E.setAll (E.fresh cs) (l.take (j + 1)))) := Lib.hid (by rw [HS.out]; exact h3)
            have HP3 := Lib.hid ((HΦ.out w3).2 (HKC.out w3 h3.ahead))
            clear h3 HCS
            generalize (E.setE (E.setAll (E.fresh cs) (l.take j)) fp fd).1 = y at *
            go_wp2_with fail
            refine ⟨⟨⟨w3, HP3.out⟩, rfl⟩, ?_⟩
            refine lex_nil ?_
            clear fx0 fx1 hne1 h0 HΦ d0 d1
            go_wp2_with fail
            go_roundw
            case rel => exact ⟨j + 1, by go_num, by omega, HE3⟩
            case measure => simp [intOf]; omega
          · have hjn : j = m := by omega
            have htk : l.take j = l := List.take_of_length_le (by have := HM.out; omega)
            rw [htk] at HE
            have HCG := Lib.hid (HE.out.get (by omega) hnm)
            generalize E.getE (E.setAll (E.fresh cs) l) nm = r at *
            obtain ⟨rv, re, en⟩ := r
            clear htk hjn
            go_wp2_with fail
            refine HCG.out.mono ?_
            rintro ed w3 ⟨rfl, hz, h3⟩
            have HX3 := Lib.hid h3.ahead
            have HZ := Lib.hid hz
            replace HX : Hid (R = (rv, re)) := HX
            clear h3 hz HCG
            simp only
            generalize hva : rv.getD ⟨#[]⟩ = va at *
            generalize hvb : rv.isSome = vb at *
            have HVA := Lib.hid hva
            have HVB := Lib.hid hvb
            clear hva hvb
            go_wp2_with fail
            go_ret3
            exact ⟨by rw [HX.out, ← HVA.out, ← HVB.out]; rfl, by rw [HX.out]; show (rv.getD ⟨#[]⟩).size ≤ 65536; rw [HVA.out]; exact HZ.out, HX3.out⟩
end Go.Proofs.YtkeaoejgboefbaaDoor

/- awake of chapter 56: it returns true. -/
namespace Go.Proofs.YtkeaoejgboefbaaDoor
open Go.RowKit Go.Maps

theorem ex_slice2 (w : World) {W4 : World} (h : W4 = (((w.alloc (.cells #[.string ⟨#[116, 101, 120, 116]⟩] 9)).alloc (.cells #[.string ⟨#[110]⟩, .string ⟨#[116, 101, 120, 116]⟩, .string ⟨#[116, 101, 120, 116]⟩] 9)).alloc (.cells #[.string ⟨#[110]⟩] 9)).alloc (.cells #[.string ⟨#[116, 101, 120, 116]⟩, .int .i64 1, .slice none 0 0, .string ⟨#[]⟩, .string ⟨#[110]⟩, .int .i64 3, .slice (some ⟨w.heap.size, 0, none⟩) 1 1, .string ⟨#[]⟩, .string ⟨#[98, 105, 103]⟩, .int .i64 5, .slice (some ⟨w.heap.size + 1, 0, none⟩) 3 3, .string ⟨#[]⟩, .string ⟨#[109]⟩, .int .i64 2, .slice (some ⟨w.heap.size + 1 + 1, 0, none⟩) 1 1, .string ⟨#[]⟩] 32)) :
    Ext w W4 ∧ SliceAt cellR W4 (Old W4) (some ⟨w.heap.size + 1 + 1 + 1, 0, none⟩) 4 exC := by
  subst h
  refine ⟨((((Ext.refl w).alloc _).alloc _).alloc _).alloc _, ?_⟩
  have := ex_slice w _ _ _ _ rfl rfl rfl rfl
  simp only [size_alloc'] at this
  exact this
set_option maxRecDepth 100000 in
set_option maxHeartbeats 8000000 in
theorem awake_any (w : World) (hg : Gl w) : Calls Tryd.prog 8 #[] w (Al (.bool true) w) := by
  obtain ⟨W4, hW4⟩ : ∃ W4, W4 = (((w.alloc (.cells #[.string ⟨#[116, 101, 120, 116]⟩] 9)).alloc (.cells #[.string ⟨#[110]⟩, .string ⟨#[116, 101, 120, 116]⟩, .string ⟨#[116, 101, 120, 116]⟩] 9)).alloc (.cells #[.string ⟨#[110]⟩] 9)).alloc (.cells #[.string ⟨#[116, 101, 120, 116]⟩, .int .i64 1, .slice none 0 0, .string ⟨#[]⟩, .string ⟨#[110]⟩, .int .i64 3, .slice (some ⟨w.heap.size, 0, none⟩) 1 1, .string ⟨#[]⟩, .string ⟨#[98, 105, 103]⟩, .int .i64 5, .slice (some ⟨w.heap.size + 1, 0, none⟩) 3 3, .string ⟨#[]⟩, .string ⟨#[109]⟩, .int .i64 2, .slice (some ⟨w.heap.size + 1 + 1, 0, none⟩) 1 1, .string ⟨#[]⟩] 32) := ⟨_, rfl⟩
  obtain ⟨x4, hs⟩ := ex_slice2 w hW4
  have HX4 := Lib.hid x4
  have HNW : Hid (Calls Tryd.prog 23 #[.slice (some ⟨w.heap.size + 1 + 1 + 1, 0, none⟩) 4 4] W4 (RetNew W4 exC)) := Lib.hid (New_any hs rfl (by decide))
  have HG := Lib.hid hg
  clear hg hs x4
  go_enter Tryd.func8, Tryd.ntmps8
  go_wp2_with fail
  rw [← hW4]
  clear hW4
  refine HNW.out.mono ?_
  rintro ed w5 ⟨_, hr⟩
  rcases hr with ⟨h0, _⟩ | ⟨_, rfl, S, hf⟩
  · exact absurd ex_new h0
  have HE5 := Lib.hid (Eng1.made HG.out HX4.out ex_new hf)
  generalize W4.heap.size + 3 = g at *
  clear hf HNW HX4
  go_wp2_with fail
  refine (HE5.out.set (by decide) (by decide) (by decide)).mono ?_
  rw [ex_set1]
  rintro ed w6 ⟨rfl, h6⟩
  have HE6 : Hid (Eng1 w w6 g exC 1 ex1) := Lib.hid h6
  clear h6 HE5
  go_wp2_with fail
  refine (HE6.out.get (by decide) (by decide)).mono ?_
  rw [ex_get2.1, ex_get2.2.1]
  rintro ed w7 ⟨rfl, _, h7⟩
  have HE7 : Hid (Eng1 w w7 g exC 2 ex2) := Lib.hid h7
  clear h7 HE6
  simp only [Option.getD_some, Option.isSome_some]
  go_wp2_with fail
  refine (HE7.out.computed).mono ?_
  rw [ex_get2.2.2]
  rintro ed w8 ⟨rfl, rfl⟩
  go_wp2_with fail
  refine (HE7.out.get (by decide) (by decide)).mono ?_
  rw [ex_get3.1, ex_get3.2.1]
  rintro ed w8 ⟨rfl, _, h8⟩
  have HE8 : Hid (Eng1 w w8 g exC 3 ex3) := Lib.hid h8
  clear h8 HE7
  simp only [Option.getD_some, Option.isSome_some]
  go_wp2_with fail
  refine (HE8.out.computed).mono ?_
  rw [ex_get3.2.2]
  rintro ed w9 ⟨rfl, rfl⟩
  go_wp2_with fail
  refine (HE8.out.set (by decide) (by decide) (by decide)).mono ?_
  rw [ex_set4]
  rintro ed w9 ⟨rfl, h9⟩
  have HE9 : Hid (Eng1 w w9 g exC 4 ex4) := Lib.hid h9
  clear h9 HE8
  go_wp2_with fail
  refine (HE9.out.get (by decide) (by decide)).mono ?_
  rw [ex_get5.1]
  rintro ed w10 ⟨rfl, _, h10⟩
  have HE10 : Hid (Eng1 w w10 g exC 5 ex5) := Lib.hid h10
  clear h10 HE9
  generalize ((E.getE ex4 ⟨#[109]⟩).1.getD ⟨#[]⟩) = z1
  generalize (E.getE ex4 ⟨#[109]⟩).1.isSome = z2
  go_wp2_with fail
  refine (HE10.out.computed).mono ?_
  rw [ex_get5.2]
  rintro ed w11 ⟨rfl, rfl⟩
  go_wp2_with fail
  refine (HE10.out.get (by decide) (by decide)).mono ?_
  rw [ex_get6.1]
  rintro ed w11 ⟨rfl, _, h11⟩
  have HE11 : Hid (Eng1 w w11 g exC 6 ex6) := Lib.hid h11
  clear h11 HE10
  generalize (E.getE ex5 ⟨#[98, 105, 103]⟩).2.1 = z3
  simp only [Option.getD_some, Option.isSome_some]
  go_wp2_with fail
  refine (HE11.out.computed).mono ?_
  rw [ex_get6.2]
  rintro ed w12 ⟨rfl, rfl⟩
  go_wp2_with fail
  go_ret
  exact ⟨rfl, HE11.out.ahead⟩
end Go.Proofs.YtkeaoejgboefbaaDoor

/- The walk of EngineFresh. -/
namespace Go.Proofs.YtkeaoejgboefbaaDoor
open Go.RowKit Go.Maps

theorem FewC.args {l : List E.Cell} {m : Int} (h : FewC l m) : ∀ c ∈ l, c.2.2.1.length ≤ 1000 := fun c hc => by have := (h.2 c hc).2.1; omega
set_option maxRecDepth 100000 in
set_option maxHeartbeats 4000000 in
theorem engineFresh_walk (v0 v1 v2 : Value) (cs : List E.Cell) (l : T.Tr) (x : ByteArray) (w : World) (hg : Gl w) (r0 : (sliceR cellR).val w cs v0) (r1 : (sliceR fileR).val w l v1) (r2 : strR.val w x v2) :
    Calls Tryd.prog 4 #[v0, v1, v2] w (Al (.bool true) w) := by
  obtain ⟨A, k, rfl, hA⟩ := val_slice r0
  obtain ⟨B, kb, rfl, hB⟩ := val_slice r1
  obtain ⟨rfl, hx⟩ := val_str r2
  obtain ⟨n, hn⟩ : ∃ n, n = cs.length := ⟨_, rfl⟩
  obtain ⟨m, hm⟩ : ∃ m, m = l.length := ⟨_, rfl⟩
  rw [← hn, ← hm]
  have HAW := Lib.hid (fun W (h : Ext w W) => awake_any W (hg.ext h))
  have HFW := Lib.hid (fun W (h : Ext w W) => refFew_any cs A k n 12 W hn (hA.ext h))
  have HCP := Lib.hid (fun (hf : FewC cs 12) W (h : Ext w W) => cp_any (hA.ext h) hn hf.args (by have := hf.1; omega))
  have HCF := Lib.hid (fun (hml : m ≤ 12) W (h : Ext w W) => CloneF_any l B kb m W hm (hB.ext h) (by omega))
  have HSZ := Lib.hid (SzF.of_slice hB)
  have HV1 := Lib.hid (fun (hf : FewC cs 12) (hml : m ≤ 12) W (h : Ext w W) (A' B' : Option Addr) (k' n' kb' m' : Nat) (h1 : SliceAt cellR W (Old W) A' k' cs) (h2 : n' = cs.length) (h3 : SliceAt fileR W (Old W) B' kb' l) (h4 : m' = l.length) => Value_any (nm := x) (hg.ext h) h1 h2 hf.args h3 h4 (by omega) hx)
  have HV2 := Lib.hid (fun (hf : FewC cs 12) (hml : m ≤ 12) W (h : Ext w W) => refValue_any (nm := x) (hA.ext h) hn hf.args (hB.ext h) hm (by omega) hx)
  generalize E.valueE cs l x = r at HV1 HV2
  obtain ⟨rv, re⟩ := r
  have HB := Lib.hid hB
  have HM := Lib.hid hm
  have hm63 : m ≤ 9223372036854775807 := by have := hB.1; have := hB.2.1; omega
  clear hA hB hn hm hg r0 r1 r2
  go_enter Tryd.func4, Tryd.ntmps4
  go_wp2_with fail
  refine (HAW.out _ (Ext.refl w)).mono ?_
  rintro e2 w2 ⟨rfl, d2⟩
  have HD2 := Lib.hid d2
  clear d2
  go_wp2_with fail
  refine (HFW.out _ HD2.out).mono ?_
  rintro e3 w3 ⟨d3, b, rfl, hb⟩
  have HD3 := Lib.hid (HD2.out.trans d3)
  clear d3 HD2
  cases b with
  | false =>
    clear hb
    go_wp2_with fail
    refine (HAW.out _ HD3.out).mono ?_
    rintro e4 w4 ⟨rfl, d4⟩
    have HD4 := Lib.hid (HD3.out.trans d4)
    clear d4
    go_wp2_with fail
    go_ret
    exact ⟨rfl, HD4.out⟩
  | true =>
    have HFO := Lib.hid (hb rfl)
    clear hb
    by_cases hm12 : 12 < m
    · go_wp2_with fail
      refine (HAW.out _ HD3.out).mono ?_
      rintro e4 w4 ⟨rfl, d4⟩
      have HD4 := Lib.hid (HD3.out.trans d4)
      clear d4
      go_wp2_with fail
      go_ret
      exact ⟨rfl, HD4.out⟩
    have hml : m ≤ 12 := by omega
    by_cases hx200 : 200 < x.size
    · go_wp2_with fail
      refine (HAW.out _ HD3.out).mono ?_
      rintro e4 w4 ⟨rfl, d4⟩
      have HD4 := Lib.hid (HD3.out.trans d4)
      clear d4
      go_wp2_with fail
      go_ret
      exact ⟨rfl, HD4.out⟩
    go_wp2_with fail
    go_loopw [8, 35] (fun _ i wr => ∃ (j : Nat), i = .int .i64 j ∧ j ≤ m ∧ Hid (Ext w wr)) (fun _ i _ => m - (intOf i).toNat)
    case atStart => exact ⟨0, rfl, Nat.zero_le _, HD3.out⟩
    case round =>
      obtain ⟨j, rfl, hj, HX⟩ := hrel
      by_cases hlt : j < m
      · have hjl : j < l.length := by have := HM.out; omega
        obtain ⟨b, off, hAe, hbb, d0, d1, z0, z1⟩ := file_get (HB.out.ext HX.out) hjl
        subst hAe
        rw [← Nat.add_assoc] at d1
        generalize l[j] = f at *
        obtain ⟨fp, fd⟩ := f
        simp only at d0 d1 z0 z1
        obtain ⟨W2, hW2⟩ : ∃ W2, W2 = wr.alloc (.cells #[.string fp, .string fd] 48) := ⟨_, rfl⟩
        have X2 : Ext wr W2 := by rw [hW2]; exact (Ext.refl wr).alloc _
        have p0 : W2.cell? ⟨wr.heap.size, 0, none⟩ = some (.string fp) := by rw [hW2]; exact cell_new wr #[.string fp, .string fd] 48 0
        have p1 : W2.cell? ⟨wr.heap.size, 1, none⟩ = some (.string fd) := by rw [hW2]; exact cell_new wr #[.string fp, .string fd] 48 1
        have HX2 := Lib.hid (HX.out.trans X2)
        clear X2
        go_upto_region 6 with (fail)
        rw [← hW2]
        clear hW2 d0 d1
        by_cases hbig : 300 < fd.size
        · go_wp2_with fail
          go_ret
          exact ⟨rfl, HX2.out⟩
        by_cases hbig2 : 200 < fp.size
        · go_wp2_with fail
          go_ret
          exact ⟨rfl, HX2.out⟩
        go_wp2_with fail
        go_roundw
        case rel => exact ⟨j + 1, by go_num, by omega, HX2⟩
        case measure => simp [intOf]; omega
      · go_wp2_with fail
        refine (HCP.out HFO.out _ HX.out).mono ?_
        rintro e4 w4 ⟨A4, k4, n4, hn4, rfl, hs4, d4⟩
        have HD4 := Lib.hid (HX.out.trans d4)
        have HS4 := Lib.hid hs4
        have HN4 := Lib.hid hn4
        clear d4 hs4 hn4
        go_wp2_with fail
        refine (HCF.out hml _ HD4.out).mono ?_
        rintro e5 w5 ⟨v5, rfl, ho5, d5⟩
        obtain ⟨B5, kb5, rfl, hs5⟩ := own_files_slice ho5 HSZ.out
        have HD5 := Lib.hid (HD4.out.trans d5)
        have HV := Lib.hid (HV1.out HFO.out hml _ HD5.out A4 B5 k4 n4 kb5 _ (HS4.out.ext d5) HN4.out hs5 rfl)
        rw [← HM.out] at HV ⊢
        clear ho5 d5 hs5
        go_wp2_with fail
        refine HV.out.mono ?_
        rintro e6 w6 ⟨rfl, _, d6⟩
        have HD6 := Lib.hid (HD5.out.trans d6)
        clear d6
        simp only
        generalize hva : rv.getD ⟨#[]⟩ = va at *
        generalize hvb : rv.isSome = vb at *
        have hs1 : (va.toList == va.toList) = true := by simp
        have hs2 : (vb == vb) = true := by simp
        have hs3 : (re == re) = true := by simp
        go_wp2_with fail
        refine (HV2.out HFO.out hml _ HD6.out).mono ?_
        rintro e7 w7 ⟨rfl, _, d7⟩
        have HD7 := Lib.hid (HD6.out.trans d7)
        clear d7
        simp only
        rw [hva, hvb]
        clear hva hvb
        go_wp2_with fail
        go_ret
        exact ⟨rfl, HD7.out⟩
end Go.Proofs.YtkeaoejgboefbaaDoor

/- The walk of EngineOnce. -/
namespace Go.Proofs.YtkeaoejgboefbaaDoor
open Go.RowKit Go.Maps

/-- How many of the first k cells are formulas. -/
def numF (cs : List E.Cell) (k : Nat) : Nat := ((cs.take k).filter fun c => !E.isIn c).length
theorem numF_succ {cs : List E.Cell} {k : Nat} (hk : k < cs.length) : numF cs (k + 1) = if cs[k].2.1 = 1 then numF cs k else numF cs k + 1 := by
  unfold numF
  rw [List.take_succ_eq_append_getElem hk, List.filter_append]
  by_cases h : cs[k].2.1 = 1
  · rw [if_pos h]
    have : E.isIn cs[k] = true := by unfold E.isIn; rw [h]; rfl
    simp [this]
  · rw [if_neg h]
    have : E.isIn cs[k] = false := by unfold E.isIn; rw [beq_eq_false_iff_ne]; exact h
    simp [this]
theorem numF_le (cs : List E.Cell) (k : Nat) : numF cs k ≤ k := by
  unfold numF
  exact Nat.le_trans (List.length_filter_le _ _) (by rw [List.length_take]; omega)
theorem numF_all {e : E.En} {cs : List E.Cell} (h : e.cells = cs) {k : Nat} (hk : k = cs.length) : (E.names e).length = numF cs k := by
  unfold E.names numF
  rw [List.length_map, h, hk, List.take_length]
set_option maxRecDepth 100000 in
set_option maxHeartbeats 8000000 in
theorem engineOnce_walk (v0 v1 : Value) (cs : List E.Cell) (acts : List ActE) (w : World) (hg : Gl w) (r0 : (sliceR cellR).val w cs v0) (r1 : (sliceR actR).val w acts v1) :
    Calls Tryd.prog 3 #[v0, v1] w (Al (.bool true) w) := by
  obtain ⟨A, k, rfl, hA⟩ := val_slice r0
  obtain ⟨B, kb, rfl, hB⟩ := val_slice r1
  obtain ⟨n, hn⟩ : ∃ n, n = cs.length := ⟨_, rfl⟩
  obtain ⟨m, hm⟩ : ∃ m, m = acts.length := ⟨_, rfl⟩
  rw [← hn, ← hm]
  have HAW := Lib.hid (fun W (h : Ext w W) => awake_any W (hg.ext h))
  have HFW := Lib.hid (fun W (h : Ext w W) => refFew_any cs A k n 12 W hn (hA.ext h))
  have HSW := Lib.hid (fun W (h : Ext w W) => refShort_any acts B kb m 30 W hm (hB.ext h))
  have HST := Lib.hid (fun (hf : FewC cs 12) W (h : Ext w W) => Both1.start (hg.ext h) (hA.ext h) hn hf.args (by have := hf.1; omega))
  have HA := Lib.hid hA
  have HB := Lib.hid hB
  have HN := Lib.hid hn
  have HM := Lib.hid hm
  have hm63 : m ≤ 9223372036854775807 := by have := hB.1; have := hB.2.1; omega
  clear hA hB hn hm hg r0 r1
  go_enter Tryd.func3, Tryd.ntmps3
  go_wp2_with fail
  refine (HAW.out _ (Ext.refl w)).mono ?_
  rintro e2 w2 ⟨rfl, d2⟩
  have HD2 := Lib.hid d2
  clear d2
  go_wp2_with fail
  refine (HFW.out _ HD2.out).mono ?_
  rintro e3 w3 ⟨d3, b, rfl, hb⟩
  have HD3 := Lib.hid (HD2.out.trans d3)
  clear d3 HD2
  cases b with
  | false =>
    clear hb
    go_wp2_with fail
    refine (HAW.out _ HD3.out).mono ?_
    rintro e4 w4 ⟨rfl, d4⟩
    have HD4 := Lib.hid (HD3.out.trans d4)
    clear d4
    go_wp2_with fail
    go_ret
    exact ⟨rfl, HD4.out⟩
  | true =>
    have HFO := Lib.hid (hb rfl)
    clear hb
    go_wp2_with fail
    refine (HSW.out _ HD3.out).mono ?_
    rintro e4 w4 ⟨d4, b, rfl, hb⟩
    have HD4 := Lib.hid (HD3.out.trans d4)
    clear d4 HD3
    cases b with
    | false =>
      clear hb
      go_wp2_with fail
      refine (HAW.out _ HD4.out).mono ?_
      rintro e5 w5 ⟨rfl, d5⟩
      have HD5 := Lib.hid (HD4.out.trans d5)
      clear d5
      go_wp2_with fail
      go_ret
      exact ⟨rfl, HD5.out⟩
    | true =>
      have HSO := Lib.hid (hb rfl)
      clear hb
      go_wp2_with fail
      refine (HST.out HFO.out _ HD4.out).mono ?_
      rintro e5 w5 ⟨d5, hr⟩
      have HD5 := Lib.hid (HD4.out.trans d5)
      clear d5
      rcases hr with ⟨_, rfl⟩ | ⟨_, g, D, rfl, hb⟩
      · go_wp2_with fail
        go_ret
        exact ⟨rfl, HD5.out⟩
      · have HBO := Lib.hid hb
        have hn12 : n ≤ 12 := by have := HFO.out.1; have := HN.out; omega
        have hm30 : m ≤ 30 := by have := HSO.out.1; have := HM.out; omega
        clear hb
        go_wp2_with fail
        go_loopw [7, 9, 41] (fun v _ i wr => ∃ (j : Nat), i = .int .i64 j ∧ j ≤ n ∧ v = .int .i64 (numF cs j) ∧ Hid (Both1 w4 wr D g cs 0 (E.fresh cs))) (fun _ _ i _ => n - (intOf i).toNat)
        case atStart => exact ⟨0, rfl, Nat.zero_le _, rfl, HBO⟩
        case round =>
          obtain ⟨j, rfl, hj, rfl, HB1⟩ := hrel
          by_cases hlt : j < n
          · have hjl : j < cs.length := by have := HN.out; omega
            obtain ⟨b, off, A2, k2, hAe, hbb, d0, d1, d2, d3, z1, z2, z3, z4⟩ := cell_get (HA.out.ext (HD4.out.trans HB1.out.ahead)) hjl
            subst hAe
            have hnf := numF_succ hjl
            have hnl := numF_le cs j
            generalize cs[j] = c at *
            obtain ⟨nm, op, ar, tx⟩ := c
            simp only at d0 d1 d2 d3 z1 z2 z3 z4 hnf
            obtain ⟨W2, hW2⟩ : ∃ W2, W2 = wr.alloc (.cells #[.string nm, .int .i64 op, .slice A2 ar.length k2, .string tx] 32) := ⟨_, rfl⟩
            have p1 : W2.cell? ⟨wr.heap.size, 1, none⟩ = some (.int .i64 op) := by rw [hW2]; exact cell_new wr #[.string nm, .int .i64 op, .slice A2 ar.length k2, .string tx] 32 1
            have HB2 := Lib.hid (HB1.out.ext (show Ext wr W2 by rw [hW2]; exact (Ext.refl wr).alloc _))
            have HNF := Lib.hid hnf
            generalize numF cs j = q at *
            clear hnf z3
            go_upto_region 10 with (fail)
            rw [← hW2]
            clear hW2 d0 d1 d2 d3
            by_cases ho : op = 1
            · have hq : Hid (numF cs (j + 1) = q) := Lib.hid (by rw [HNF.out, if_pos ho])
              subst ho
              go_wp2_with fail
              go_roundw
              case rel => exact ⟨j + 1, by go_num, by omega, by rw [hq.out], HB2⟩
              case measure => simp [intOf]; omega
            · have hq : Hid (numF cs (j + 1) = q + 1) := Lib.hid (by rw [HNF.out, if_neg ho])
              have ho1 : (op == 1) = false := by rw [beq_eq_false_iff_ne]; exact ho
              have ho2 : (op != 1) = true := by rw [bne, ho1]; rfl
              go_wp2_with fail
              go_roundw
              case rel => exact ⟨j + 1, by go_num, by omega, by rw [hq.out]; go_num, HB2⟩
              case measure => simp [intOf]; omega
          · have hjn : j = n := by omega
            have HF : Hid (∀ e : E.En, e.cells = cs → (E.names e).length = numF cs j) := Lib.hid fun e he => numF_all he (by have := HN.out; omega)
            have hnl := numF_le cs j
            generalize numF cs j = F at *
            clear hjn
            go_wp2_with fail
            go_loopw [11, 12, 13, 53] (fun _ _ _ i wr2 => ∃ (t : Nat) (e : E.En) (D' : Nat → Prop), i = .int .i64 t ∧ t ≤ m ∧ Hid (Both1 w4 wr2 D' g cs t e)) (fun _ _ _ i _ => m - (intOf i).toNat)
            case atStart => exact ⟨0, _, _, rfl, Nat.zero_le _, HB1⟩
            case round =>
              obtain ⟨t, e, D', rfl, ht, HB2⟩ := hrel
              by_cases htm : t < m
              · have htl : t < acts.length := by have := HM.out; omega
                obtain ⟨b, off, hBe, hbb, d0, d1, d2, z1, z2, z3⟩ := act_get (HB.out.ext (HD4.out.trans HB2.out.ahead)) htl
                subst hBe
                have hcnt := act_cnt HB2.out.fit acts[t]
                have hF := HF.out e HB2.out.fit.cells
                have hcz := HB2.out.fit.cnt
                have HACT := Lib.hid (fun W (hx : Ext wr W) => (HB2.out.ext hx).act (by omega) z1 z2 z3)
                generalize acts[t] = ac at *
                obtain ⟨kk, cc, vv⟩ := ac
                simp only at d0 d1 d2 z1 z2 z3 HACT
                obtain ⟨W2, hW2⟩ : ∃ W2, W2 = wr.alloc (.cells #[.int .u8 kk, .int .u8 cc, .string vv] 34) := ⟨_, rfl⟩
                have X2 : Ext wr W2 := by rw [hW2]; exact (Ext.refl wr).alloc _
                have p0 : W2.cell? ⟨wr.heap.size, 0, none⟩ = some (.int .u8 kk) := by rw [hW2]; exact cell_new wr #[.int .u8 kk, .int .u8 cc, .string vv] 34 0
                have p1 : W2.cell? ⟨wr.heap.size, 1, none⟩ = some (.int .u8 cc) := by rw [hW2]; exact cell_new wr #[.int .u8 kk, .int .u8 cc, .string vv] 34 1
                have p2 : W2.cell? ⟨wr.heap.size, 2, none⟩ = some (.string vv) := by rw [hW2]; exact cell_new wr #[.int .u8 kk, .int .u8 cc, .string vv] 34 2
                obtain ⟨ge, q0, _, hcm, _⟩ := (HB2.out.ext X2).parts
                have HCM := Lib.hid hcm
                have HAC := Lib.hid (HACT.out W2 X2)
                rw [hF] at hcnt
                generalize e.st.cnt = ca at *
                generalize hea : actE e (kk, cc, vv) = e' at *
                go_upto_region 16 with (fail)
                rw [← hW2]
                clear hW2 d0 d1 d2 z1 z2 z3 hcm X2 HACT hF hea
                go_wp2_with fail
                refine HCM.out.mono ?_
                rintro ed w6 ⟨rfl, rfl⟩
                clear HCM
                go_wp2_with fail
                refine HAC.out.mono ?_
                rintro ed w7 ⟨rfl, _, D2, hb7, _⟩
                have HB7 := Lib.hid hb7
                obtain ⟨ge2, q1, _, hcm2, _⟩ := hb7.parts
                have HCM2 := Lib.hid hcm2
                clear hb7 hcm2 q0 p0 p1 p2 HAC
                generalize e'.st.cnt = cb at *
                go_wp2_with fail
                refine HCM2.out.mono ?_
                rintro ed w8 ⟨rfl, rfl⟩
                clear HCM2
                go_wp2_with fail
                go_roundw
                case rel => exact ⟨t + 1, e', D2, by go_num, by omega, HB7⟩
                case measure => simp [intOf]; omega
              · go_wp2_with fail
                go_ret
                exact ⟨rfl, HD4.out.trans HB2.out.ahead⟩
end Go.Proofs.YtkeaoejgboefbaaDoor

/- A region that draws its order, in two halves: what stands in the second waits for all of the first. Each half is walked once in the text's order, each with what is known of its own worlds. For any program. -/
namespace Go.Proofs.YtkeaoejgboefbaaDoor
open Go.RowKit

section
variable {P : Program} {ops : Array Oper} {md : Region.Mode} {C : World → Prop} {E : List Nat}

/-- Operation n - 1 waits for all ahead of it; all behind it wait for it. -/
def barB (md : Region.Mode) (ops : Array Oper) (n : Nat) : Bool :=
  decide (0 < n) && ((List.range ops.size).all fun t => decide (t < n) || (waiters md ops (n - 1) ops.size).contains t) && (List.range (n - 1)).all fun i => (waiters md ops i ops.size).contains (n - 1)
theorem bar_waits {n : Nat} {listed : Array Bool} (hs : barB md ops n = true) (inv : HeadInv md ops n listed) (i : Nat) (hi : i < n) (hun : listed.getD i true = false) : ∀ t, n ≤ t → t ∉ Region.ready md ops listed := by
  intro t ht hr
  unfold barB at hs
  simp only [Bool.and_eq_true, decide_eq_true_eq] at hs
  obtain ⟨⟨hpos, h1⟩, h2⟩ := hs
  obtain ⟨_, ot, hot, hall⟩ := mem_ready.1 hr
  have htl : t < ops.size := (Array.getElem?_eq_some_iff.1 hot).1
  have h3 := List.all_eq_true.1 h1 t (List.mem_range.2 htl)
  simp only [Bool.or_eq_true, decide_eq_true_eq, List.contains_iff_mem] at h3
  have h4 : t ∈ waiters md ops (n - 1) ops.size := by
    rcases h3 with h3 | h3
    · omega
    · exact h3
  have h5 := waiters_spec inv.closed _ t ot hot h4 hall
  by_cases hin : i = n - 1
  · rw [← hin, getD_both hun] at h5
    cases h5
  · have h6 := List.all_eq_true.1 h2 i (List.mem_range.2 (by omega))
    simp only [List.contains_iff_mem] at h6
    have hlt : n - 1 < ops.size := by omega
    have h7 := waiters_spec inv.closed _ (n - 1) ops[n - 1] (Array.getElem?_eq_getElem hlt) h6 (inv.closed (n - 1) _ (Array.getElem?_eq_getElem hlt) h5)
    rw [getD_both hun] at h7
    cases h7
def lexHead2 (md : Region.Mode) (ops : Array Oper) (g : Nat) : Nat → Nat → Array Bool → Bool
  | 0, k, listed => Region.lexFrom md ops g k listed
  | f + 1, k, listed => (Region.ready md ops listed).contains k && Region.free md ops listed k && lexHead2 md ops g f (k + 1) (listed.setIfInBounds k true)
/-- The first half has come up. -/
structure Half (md : Region.Mode) (ops : Array Oper) (n g : Nat) (listed : Array Bool) : Prop where
  inv : HeadInv md ops n listed
  all : ∀ j, j < n → listed.getD j true = true
  rest : Region.lexFrom md ops g n listed = true
theorem half_ready {n g : Nat} {listed : Array Bool} (h : Half md ops n g listed) : ∀ j ∈ Region.ready md ops listed, n ≤ j := by
  intro j hj
  rcases Nat.lt_or_ge j n with h1 | h1
  · have := (mem_ready.1 hj).1
    rw [h.all j h1] at this
    cases this
  · exact h1
theorem H_first {n i : Nat} {oi : Oper} {L : Array Bool → Act → World → Prop} (hi : ops[i]? = some oi) (hsel : ∀ (j : Nat) (o : Oper) cs b, ops[j]? = some o → o.op ≠ .select cs b)
    (hs : barB md ops n = true) (hin : i < n)
    (hdone : ∀ listed a w, L listed a w → ∀ j ∈ Region.ready md ops listed, n ≤ j) :
    ∀ (fuel : Nat) (listed : Array Bool) (a : Act) (w : World), C w → HeadInv md ops n listed →
      (∀ j oj, ops[j]? = some oj → j ≠ i → listed.getD j true = false → (∀ e ∈ oj.after, Region.binds md e = true → e.on ≠ i) → oi.apart ops oj = true) →
      (i ∈ E → ∀ j, j ∈ E → j ≠ i → listed.getD j true = false → j ∈ waiters md ops i ops.size) →
      i ∈ Region.ready md ops listed → xOp P ops C E i (wpAnyT P md ops C E n L fuel (listed.setIfInBounds i true)) a w → wpAnyT P md ops C E n L (fuel + 1) listed a w := by
  intro fuel
  induction fuel with
  | zero =>
    intro listed a w _ inv _ _ hr H
    have hun := (mem_ready.1 hr).1
    refine ⟨fun h => (by rw [h] at hr; cases hr), fun j hj => ?_⟩
    have hjn : j < n := by
      rcases Nat.lt_or_ge j n with h | h
      · exact h
      · exact absurd hj (bar_waits hs inv i hin hun j h)
    refine ⟨hjn, ?_⟩
    by_cases hji : j = i
    · subst hji; exact H
    · obtain ⟨a', w', h0⟩ := xOp_some H
      have := hdone _ _ _ h0 j (ready_mono hj hji)
      omega
  | succ fuel ih =>
    intro listed a w hC inv hfree heff hr H
    have hun := (mem_ready.1 hr).1
    refine ⟨fun h => (by rw [h] at hr; cases hr), fun j hj => ?_⟩
    have hjn : j < n := by
      rcases Nat.lt_or_ge j n with h | h
      · exact h
      · exact absurd hj (bar_waits hs inv i hin hun j h)
    refine ⟨hjn, ?_⟩
    by_cases hji : j = i
    · subst hji; exact H
    · obtain ⟨hjun, oj, hoj, hall⟩ := mem_ready.1 hj
      have hif : listed.getD i false = false := getD_both hun
      have hnot : ∀ e ∈ oj.after, Region.binds md e = true → e.on ≠ i := fun e he hb heq => by
        have h1 := hall e he hb
        rw [heq, hif] at h1
        cases h1
      have hE : ¬ (i ∈ E ∧ j ∈ E) := fun ⟨h1, h2⟩ => by
        have := waiters_spec inv.closed _ j oj hoj (heff h1 j h2 hji hjun) hall
        rw [hif] at this
        cases this
      have h1 : xOp P ops C E i (fun a1 w1 => xOp P ops C E j (wpAnyT P md ops C E n L fuel ((listed.setIfInBounds i true).setIfInBounds j true)) a1 w1) a w :=
        xOp_mono hC (fun a1 w1 _ h => (h.2 j (ready_mono hj hji)).2) H
      have h2 := xOp_swap hi hoj (hfree j oj hoj hji hjun hnot) (fun cs b => hsel i oi cs b hi) (fun cs b => hsel j oj cs b hoj) hE hC h1
      refine xOp_mono hC (fun a1 w1 hC1 h3 => ih (listed.setIfInBounds j true) a1 w1 hC1 (inv.set hj hjn) ?_ ?_ (ready_mono hr (Ne.symm hji)) ?_) h2
      · intro k ok hk hki hun' hno
        refine hfree k ok hk hki ?_ hno
        by_cases hjk : j = k
        · subst hjk; exact hjun
        · rw [getD_set_ne true hjk] at hun'; exact hun'
      · intro h1 k hk hki hun'
        refine heff h1 k hk hki ?_
        by_cases hjk : j = k
        · subst hjk; exact hjun
        · rw [getD_set_ne true hjk] at hun'; exact hun'
      · rw [Array.setIfInBounds_comm _ _ hji]
        exact h3

theorem wpAnyH_lex {n g : Nat} {R : Act → World → Prop} (hsel : Region.noSelect ops = true) (hE : effOk md ops E = true) (hs : barB md ops n = true) :
    ∀ (l : List Oper) (k : Nat) (listed : Array Bool) (a : Act) (w : World), C w → (∀ j, j < k → listed.getD j true = true) → (∀ j, j < l.length → l[j]? = ops[k + j]?) → k + l.length = n → HeadInv md ops n listed →
    lexHead2 md ops g l.length k listed = true → wpLex P ops C E R k l a w →
    wpAnyT P md ops C E n (fun listed' a' w' => Half md ops n g listed' ∧ R a' w') l.length listed a w
  | [], k, listed, a, w, _, hlt, _, hk, inv, hB, h => by
    have : k = n := by simpa using hk
    subst this
    exact ⟨⟨inv, hlt, by simpa [lexHead2] using hB⟩, h⟩
  | o :: l, k, listed, a, w, hC, hlt, hl, hk, inv, hB, h => by
    have h0 : ops[k]? = some o := by simpa using (hl 0 (by simp)).symm
    simp only [List.length_cons, lexHead2, Bool.and_eq_true] at hB
    obtain ⟨⟨hr, hf⟩, hB'⟩ := hB
    have hkn : k < n := by simp only [List.length_cons] at hk; omega
    have hr' : k ∈ Region.ready md ops listed := by simpa using hr
    refine H_first h0 (Region.noSelect_spec hsel) hs hkn (fun listed' a' w' hL => half_ready hL.1) l.length listed a w hC inv (Region.free_spec h0 hf) ?_ hr' ?_
    · intro hk j hj hjk hun
      have h1 := List.all_eq_true.1 (List.all_eq_true.1 hE k hk) j hj
      simp only [Bool.or_eq_true, decide_eq_true_eq, List.contains_iff_mem] at h1
      rcases h1 with h1 | h1
      · rw [hlt j (by omega)] at hun; cases hun
      · exact h1
    · have hx : xOp P ops C E k (wpLex P ops C E R (k + 1) l) a w := by unfold xOp; simp only [h0]; exact h
      refine xOp_mono hC (fun a1 w1 hC1 h1 => wpAnyH_lex hsel hE hs l (k + 1) _ a1 w1 hC1 ?_ (fun j hj => by have := hl (j + 1) (by simp; omega); simpa [Nat.add_assoc, Nat.add_comm 1 j] using this) (by simp only [List.length_cons] at hk; omega) (inv.set hr' hkn) hB' h1) hx
      intro j hj
      by_cases hjk : k = j
      · subst hjk
        rcases Nat.lt_or_ge k listed.size with h' | h'
        · simp [h']
        · simp
      · rw [getD_set_ne true hjk]; exact hlt j (by omega)

def halvesB (md : Region.Mode) (ops : Array Oper) (n : Nat) : Bool :=
  Region.noSelect ops && decide (n < ops.size) && barB md ops n && lexHead2 md ops (ops.size - n) n 0 (Array.replicate ops.size false)
theorem wp_region_halves {id : Nat} {Q : Exit → Act → World → Prop} {a : Act} {w : World} {l : List Oper} (n : Nat) (E E2 : List Nat) (Φ : World → Prop) (h0 : Φ w.drew) (hm : P.follows .mixedOrders = true) (hB : halvesB .any l.toArray n = true) (hE : effOk .any l.toArray E = true) (hE2 : effOk .any l.toArray E2 = true)
    (h : wpLex P l.toArray (fun w' => ∃ x : Lat Φ, w' = x.w') E (fun a' w' => ∃ Φ2 : World → Prop, Φ2 w' ∧ wpLex P l.toArray (fun w2 => ∃ x : Lat Φ2, w2 = x.w') E2 (fun a2 w2 => Q .normal a2 w2) n (l.drop n) a' w') 0 (l.take n) a w.drew) : (Code.region id l.toArray true).wp P Q a w := by
  have hC : (fun w' => ∃ x : Lat Φ, w' = x.w') w.drew := ⟨⟨w.drew, h0⟩, rfl⟩
  simp only [halvesB, Bool.and_eq_true, decide_eq_true_eq] at hB
  obtain ⟨⟨⟨hsel, hn⟩, hs⟩, hlex⟩ := hB
  have hn' : n < l.length := by simpa using hn
  have htl : (l.take n).length = n := by simp; omega
  have hdl : (l.drop n).length = l.toArray.size - n := by simp
  have inv0 : HeadInv .any l.toArray n (Array.replicate l.toArray.size false) :=
    ⟨by simp, fun j oj _ hl => (by rw [getD_replicate_false] at hl; cases hl), fun t _ ht => getD_in (by simpa using ht) (getD_replicate_false _ _)⟩
  have H := wpAnyH_lex (P := P) (md := .any) (g := l.toArray.size - n) hsel hE hs (l.take n) 0 _ a w.drew hC (fun j hj => absurd hj (Nat.not_lt_zero _)) (fun j hj => by
    have hj' : j < n := by rw [htl] at hj; exact hj
    simp [hj']) (by simpa using htl) inv0 (by rw [htl]; exact hlex) h
  refine wp_region_any hm ?_
  have := wpAny_of_T (Q := Q) (g := l.toArray.size - n) (fun listed a' w' hL => by
    obtain ⟨hh, Φ2, h2, h3⟩ := hL
    have h4 := wpAnyX_lex (P := P) (md := .any) hsel hE2 (l.drop n) n listed a' w' ⟨⟨w', h2⟩, rfl⟩ hh.inv.closed hh.all (fun j => by simp [List.getElem?_drop]) (by rw [hdl]; exact hh.rest) h3
    have h5 := wpAny_of_X (Q := Q) (R := fun a2 w2 => Q .normal a2 w2) (fun _ _ h => h) _ _ _ _ (⟨⟨w', h2⟩, rfl⟩ : ∃ x : Lat Φ2, w' = x.w') h4
    rwa [hdl] at h5) _ _ _ _ hC H
  rw [htl, show n + (l.toArray.size - n) = l.toArray.size by omega] at this
  exact this
end
end Go.Proofs.YtkeaoejgboefbaaDoor
