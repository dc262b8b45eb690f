/- What a Go value of plain data holds, said by records: numbers, strings, slices, pairs. For any program. -/
import Derived.WalkKit
import Derived.ProofKit
import Derived.OpenShut
import Derived.ChangeOld
import Derived.Below
import Derived.WalkSpells
import Derived.WalkLawsBesides
import Derived.Deep.QuietTactic
import Derived.BigQuiet
import Derived.Lib.Hide
import Derived.Deep.Slices
namespace Go.Proofs.YtmibpagajenndaaDoor
open Go.RowKit

/-! ### Contracts -/
theorem ret_int {k : IntKind} {a b : Int} (h : a = b) : Ending.returned (.int k a) = .returned (.int k b) := by rw [h]
theorem ret_bool {a b : Bool} (h : a = b) : Ending.returned (.bool a) = .returned (.bool b) := by rw [h]

/-- The world has drawn at most. -/
def Dr (w w' : World) : Prop := ∃ m, w' = w.drewN m
theorem Dr.refl (w : World) : Dr w w := ⟨0, rfl⟩
theorem Dr.trans {a b c : World} (h : Dr a b) (k : Dr b c) : Dr a c := by
  obtain ⟨m, rfl⟩ := h
  obtain ⟨n, rfl⟩ := k
  exact ⟨m + n, World.drewN_drewN _ _ _⟩
theorem Dr.drewN {a b : World} (h : Dr a b) (n : Nat) : Dr a (b.drewN n) := h.trans ⟨n, rfl⟩
theorem Dr.drew {a b : World} (h : Dr a b) : Dr a b.drew := h.trans ⟨1, rfl⟩
theorem Dr.cell {a b : World} (h : Dr a b) (p : Addr) : b.cell? p = a.cell? p := by obtain ⟨m, rfl⟩ := h; rfl
/-- It returns v; the world has drawn at most. -/
def Qu (v : Value) (w : World) (e : Ending) (w' : World) : Prop := e = .returned v ∧ Dr w w'
theorem toQ {P : Program} {f : FuncId} {args : Array Value} {w : World} {v : Value} (h : Calls P f args w fun e w' => e = .returned v ∧ w = w') : Calls P f args w (Qu v w) :=
  h.mono fun _ _ ⟨he, hw⟩ => ⟨he, hw ▸ Dr.refl _⟩
theorem quiet_at {P : Program} {f : FuncId} {args : Array Value} {w : World} {n : Nat} {v : Value} (h : Calls P f args (w.drewN n) (Qu v (w.drewN n))) :
    Calls P f args (w.drewN n) fun e w'' => e = .returned v ∧ ∃ m, w'' = w.drewN m :=
  h.mono fun _ _ ⟨he, m, hm⟩ => ⟨he, n + m, by rw [hm, World.drewN_drewN]⟩

/-- What was there is there still. -/
def Ext (w w' : World) : Prop := Below w.heap.size w w'
theorem Ext.refl (w : World) : Ext w w := Below.refl _ _
theorem Ext.trans {a b c : World} (h : Ext a b) (k : Ext b c) : Ext a c := Below.trans h (Below.mono k (Below.size h))
theorem Ext.size {a b : World} (h : Ext a b) : a.heap.size ≤ b.heap.size := Below.size h
theorem Ext.cell {a b : World} (h : Ext a b) {p : Addr} (hp : p.block < a.heap.size) : b.cell? p = a.cell? p := Below.cell h hp
theorem Ext.alloc {a b : World} (h : Ext a b) (o : Obj) : Ext a (b.alloc o) := Below.alloc h (Ext.size h) o
theorem Ext.drew {a b : World} (h : Ext a b) : Ext a b.drew := Below.drew h
theorem Ext.drewN {a b : World} (h : Ext a b) (n : Nat) : Ext a (b.drewN n) := ⟨h.os, h.tape, h.output, h.size, h.block⟩
theorem Ext.setCell {a b : World} (h : Ext a b) {p : Addr} (hp : a.heap.size ≤ p.block) (u : Value) : Ext a (b.setCell p u) := Below.setCell h hp u
theorem Dr.ext {a b : World} (h : Dr a b) : Ext a b := by obtain ⟨m, rfl⟩ := h; exact (Ext.refl a).drewN m
theorem Ext.dr {a b c : World} (h : Ext a b) (k : Dr b c) : Ext a c := h.trans k.ext
theorem Dr.size {a b : World} (h : Dr a b) : b.heap.size = a.heap.size := by obtain ⟨m, rfl⟩ := h; rfl
/-- It returns v; what was there is there still. -/
def Al (v : Value) (w : World) (e : Ending) (w' : World) : Prop := e = .returned v ∧ Ext w w'
theorem toA {P : Program} {f : FuncId} {args : Array Value} {w : World} {v : Value} (h : Calls P f args w (Qu v w)) : Calls P f args w (Al v w) :=
  h.mono fun _ _ ⟨he, hw⟩ => ⟨he, hw.ext⟩

theorem Ext.keepc {a b : World} (h : Ext a b) {p : Addr} {v : Value} (hc : a.cell? p = some v) : b.cell? p = some v := (h.cell (World.block_lt_of_cell? a _ hc)).trans hc
theorem Dr.keepc {a b : World} (h : Dr a b) {p : Addr} {v : Value} (hc : a.cell? p = some v) : b.cell? p = some v := (h.cell p).trans hc
theorem grown_keepc {a b : World} {row : Option Nat} (h : a.grownBy b row) {p : Addr} {v : Value} (hc : a.cell? p = some v) (hne : row ≠ some p.block) : b.cell? p = some v :=
  (World.cell?_of_block (h.block p.block (World.block_lt_of_cell? a _ hc) (fun e => hne e.symm))).trans hc
theorem alloc_keepc {a : World} {p : Addr} {v : Value} (o : Obj) (hc : a.cell? p = some v) : (a.alloc o).cell? p = some v := ((Ext.refl a).alloc o).keepc hc
theorem cell_new (w : World) (cs : Array Value) (t : TypeId) (i : Nat) : (w.alloc (.cells cs t)).cell? ⟨w.heap.size, i, none⟩ = cs[i]? := cell_of_row _ _ _ _ _ _ (heap_alloc_new w _)

/-! ### Data -/
structure Rep (α : Type) where
  size : Nat
  is : World → (Nat → Prop) → α → List Value → Prop
  len : ∀ {w : World} {B : Nat → Prop} {a : α} {us : List Value}, is w B a us → us.length = size
  keep : ∀ {w w' : World} {B B' : Nat → Prop} {a : α} {us : List Value}, is w B a us → (∀ k, B k → B' k) → (∀ k, B k → w'.heap[k]? = w.heap[k]?) → is w' B' a us

/-- The blocks that are there. -/
def Old (w : World) : Nat → Prop := fun k => k < w.heap.size
theorem Old.ext {w w' : World} (h : Ext w w') : ∀ k, Old w k → Old w' k := fun _ hk => Nat.lt_of_lt_of_le hk h.size

/-- The value v holds a, in blocks that were there. -/
def Rep.val {α : Type} (r : Rep α) (w : World) (a : α) (v : Value) : Prop := r.is w (Old w) a v.cells.toList ∧ (r.size = 1 → v.cells = #[v])
theorem Rep.ext {α : Type} (r : Rep α) {w w' : World} {a : α} {us : List Value} (h : r.is w (Old w) a us) (he : Ext w w') : r.is w' (Old w') a us :=
  r.keep h (Old.ext he) fun k hk => he.block k hk
theorem Rep.val_ext {α : Type} (r : Rep α) {w w' : World} {a : α} {v : Value} (h : r.val w a v) (he : Ext w w') : r.val w' a v := ⟨r.ext h.1 he, h.2⟩
theorem Rep.val_dr {α : Type} (r : Rep α) {w w' : World} {a : α} {v : Value} (h : r.val w a v) (he : Dr w w') : r.val w' a v := ⟨r.ext h.1 he.ext, h.2⟩

def intR (k : IntKind) : Rep Int where
  size := 1
  is := fun _ _ n us => us = [.int k n] ∧ (Lit.int k n).wf = true
  len := by rintro _ _ _ _ ⟨rfl, _⟩; rfl
  keep := by rintro _ _ _ _ _ _ h _ _; exact h
def boolR : Rep Bool where
  size := 1
  is := fun _ _ b us => us = [.bool b]
  len := by rintro _ _ _ _ rfl; rfl
  keep := by rintro _ _ _ _ _ _ h _ _; exact h
def strR : Rep ByteArray where
  size := 1
  is := fun _ _ s us => us = [.string s] ∧ s.size ≤ 9223372036854775807
  len := by rintro _ _ _ _ ⟨rfl, _⟩; rfl
  keep := by rintro _ _ _ _ _ _ h _ _; exact h
def prodR {α β : Type} (r : Rep α) (s : Rep β) : Rep (α × β) where
  size := r.size + s.size
  is := fun w B p us => ∃ x y, us = x ++ y ∧ r.is w B p.1 x ∧ s.is w B p.2 y
  len := by rintro _ _ _ _ ⟨x, y, rfl, h, k⟩; rw [List.length_append, r.len h, s.len k]
  keep := by rintro _ _ _ _ _ _ ⟨x, y, rfl, h, k⟩ hB hw; exact ⟨x, y, rfl, r.keep h hB hw, s.keep k hB hw⟩

/-- The cells of a row: element i lies at off + i * size. -/
def RowAt {α : Type} (r : Rep α) (w : World) (B : Nat → Prop) (b off : Nat) (l : List α) : Prop :=
  ∀ i (h : i < l.length), ∃ us, r.is w B l[i] us ∧ ∀ j u, us[j]? = some u → w.cell? ⟨b, off + (i * r.size + j), none⟩ = some u
theorem RowAt.keep {α : Type} {r : Rep α} {w w' : World} {B B' : Nat → Prop} {b off : Nat} {l : List α} (h : RowAt r w B b off l) (hb : B b) (hB : ∀ k, B k → B' k) (hw : ∀ k, B k → w'.heap[k]? = w.heap[k]?) : RowAt r w' B' b off l := by
  intro i hi
  obtain ⟨us, h1, h2⟩ := h i hi
  exact ⟨us, r.keep h1 hB hw, fun j u hj => (World.cell?_of_block (hw b hb)).trans (h2 j u hj)⟩
/-- A slice, apart from its length: its address and capacity. -/
def SliceAt {α : Type} (r : Rep α) (w : World) (B : Nat → Prop) (A : Option Addr) (c : Nat) (l : List α) : Prop :=
  l.length ≤ c ∧ c ≤ 9223372036854775807 ∧ (l ≠ [] → ∃ b off, A = some ⟨b, off, none⟩ ∧ B b ∧ RowAt r w B b off l)
theorem SliceAt.keep {α : Type} {r : Rep α} {w w' : World} {B B' : Nat → Prop} {A : Option Addr} {c : Nat} {l : List α} (h : SliceAt r w B A c l) (hB : ∀ k, B k → B' k) (hw : ∀ k, B k → w'.heap[k]? = w.heap[k]?) : SliceAt r w' B' A c l := by
  obtain ⟨h1, h2, h3⟩ := h
  refine ⟨h1, h2, fun hn => ?_⟩
  obtain ⟨b, off, hA, hb, hr⟩ := h3 hn
  exact ⟨b, off, hA, hB b hb, hr.keep hb hB hw⟩
theorem SliceAt.ext {α : Type} {r : Rep α} {w w' : World} {A : Option Addr} {c : Nat} {l : List α} (h : SliceAt r w (Old w) A c l) (he : Ext w w') : SliceAt r w' (Old w') A c l :=
  h.keep (Old.ext he) fun k hk => he.block k hk
theorem SliceAt.dr {α : Type} {r : Rep α} {w w' : World} {A : Option Addr} {c : Nat} {l : List α} (h : SliceAt r w (Old w) A c l) (he : Dr w w') : SliceAt r w' (Old w') A c l := h.ext he.ext
theorem SliceAt.nil {α : Type} (r : Rep α) (w : World) (B : Nat → Prop) (A : Option Addr) (c : Nat) (hc : c ≤ 9223372036854775807) : SliceAt r w B A c [] := ⟨Nat.zero_le _, hc, fun h => absurd rfl h⟩
def sliceR {α : Type} (r : Rep α) : Rep (List α) where
  size := 1
  is := fun w B l us => ∃ A c, us = [.slice A l.length c] ∧ SliceAt r w B A c l
  len := by rintro _ _ _ _ ⟨A, c, rfl, _⟩; rfl
  keep := by rintro _ _ _ _ _ _ ⟨A, c, rfl, h⟩ hB hw; exact ⟨A, c, rfl, h.keep hB hw⟩

/-- The cells of some elements, one behind the other. -/
def Flat {α : Type} (r : Rep α) (w : World) (S : Nat → Prop) : List α → List Value → Prop
  | [], xs => xs = []
  | a :: l, xs => ∃ us ys, xs = us ++ ys ∧ r.is w S a us ∧ Flat r w S l ys
theorem Flat.keep {α : Type} {r : Rep α} {w w' : World} {S S' : Nat → Prop} (hS : ∀ k, S k → S' k) (hw : ∀ k, S k → w'.heap[k]? = w.heap[k]?) : ∀ {l : List α} {xs : List Value}, Flat r w S l xs → Flat r w' S' l xs
  | [], _, h => h
  | _ :: _, _, ⟨us, ys, h1, h2, h3⟩ => ⟨us, ys, h1, r.keep h2 hS hw, Flat.keep hS hw h3⟩
theorem Flat.length {α : Type} {r : Rep α} {w : World} {S : Nat → Prop} : ∀ {l : List α} {xs : List Value}, Flat r w S l xs → xs.length = l.length * r.size
  | [], _, h => by rw [show _ = [] from h]; simp
  | _ :: _, _, ⟨us, ys, h1, h2, h3⟩ => by rw [h1, List.length_append, r.len h2, h3.length, List.length_cons, Nat.succ_mul, Nat.add_comm]
theorem Flat.append {α : Type} {r : Rep α} {w : World} {S : Nat → Prop} {l' : List α} {xs' : List Value} (h' : Flat r w S l' xs') : ∀ {l : List α} {xs : List Value}, Flat r w S l xs → Flat r w S (l ++ l') (xs ++ xs')
  | [], _, h => by rw [show _ = [] from h]; exact h'
  | _ :: _, _, ⟨us, ys, h1, h2, h3⟩ => ⟨us, ys ++ xs', by rw [h1, List.append_assoc], h2, Flat.append h' h3⟩
theorem Flat.one {α : Type} {r : Rep α} {w : World} {S : Nat → Prop} {a : α} {us : List Value} (h : r.is w S a us) : Flat r w S [a] us := ⟨us, [], by simp, h, rfl⟩
theorem Flat.row {α : Type} {r : Rep α} {w : World} {S : Nat → Prop} {b : Nat} : ∀ {l : List α} {xs : List Value} {off : Nat}, Flat r w S l xs → (∀ j u, xs[j]? = some u → w.cell? ⟨b, off + j, none⟩ = some u) → RowAt r w S b off l
  | [], _, _, _, _ => fun i hi => absurd hi (Nat.not_lt_zero _)
  | a :: l, xs, off, ⟨us, ys, h1, h2, h3⟩, hc => by
    have hul := r.len h2
    have ih : RowAt r w S b (off + r.size) l := h3.row fun j u hj => by
      have := hc (r.size + j) u (by rw [h1, List.getElem?_append_right (by omega), hul, show r.size + j - r.size = j by omega]; exact hj)
      rwa [← Nat.add_assoc] at this
    intro i hi
    match i, hi with
    | 0, _ => exact ⟨us, h2, fun j u hj => by
        have hlt : j < us.length := by
          rcases Nat.lt_or_ge j us.length with h | h
          · exact h
          · rw [List.getElem?_eq_none h] at hj; cases hj
        have := hc j u (by rw [h1, List.getElem?_append_left hlt]; exact hj)
        rwa [Nat.zero_mul, Nat.zero_add]⟩
    | i + 1, hi =>
      obtain ⟨vs, g1, g2⟩ := ih i (by simpa using hi)
      refine ⟨vs, g1, fun j u hj => ?_⟩
      have := g2 j u hj
      rwa [show off + ((i + 1) * r.size + j) = off + r.size + (i * r.size + j) by rw [Nat.succ_mul]; omega]

/-! ### What comes in reads so -/
section
variable {H : Type} {enc : TypeId × Value → H} {P : Program} {w : World}

/-- Type t's values read as r says. -/
def Opens (enc : TypeId × Value → H) (P : Program) (w : World) (t : TypeId) {α : Type} (r : Rep α) : Prop :=
  P.cellsOf t = r.size ∧ ∀ (fuel : Nat) (cs : List Value) (x : DataW H × List MemPlace), DataW.trod enc P w 0 (fun _ => true) true fuel t cs = some x → ∃ a, r.is w (Old w) a cs

theorem Opens.int {t : TypeId} {k : IntKind} (ht : P.underlying t = some (.int k)) (hc : P.cellsOf t = 1) : Opens enc P w t (intR k) :=
  ⟨hc, fun _ _ _ h => by obtain ⟨n, rfl, _, hw⟩ := DataW.trod_int ht h; exact ⟨n, rfl, hw⟩⟩
theorem Opens.bool {t : TypeId} (ht : P.underlying t = some .bool) (hc : P.cellsOf t = 1) : Opens enc P w t boolR :=
  ⟨hc, fun _ _ _ h => by obtain ⟨n, rfl, _⟩ := DataW.trod_bool ht h; exact ⟨n, rfl⟩⟩
theorem Opens.str {t : TypeId} (ht : P.underlying t = some .string) (hc : P.cellsOf t = 1) : Opens enc P w t strR :=
  ⟨hc, fun _ _ _ h => by obtain ⟨s, rfl, _, hs⟩ := DataW.trod_string ht h; exact ⟨s, rfl, hs⟩⟩

theorem list_of_lt {α : Type} {n : Nat} {p : Nat → α → Prop} (h : ∀ i, i < n → ∃ x, p i x) : ∃ l : List α, l.length = n ∧ ∀ i (hi : i < l.length), p i l[i] := by
  induction n with
  | zero => exact ⟨[], rfl, fun i hi => absurd hi (Nat.not_lt_zero _)⟩
  | succ n ih =>
    obtain ⟨l, hl, hp⟩ := ih fun i hi => h i (Nat.lt_succ_of_lt hi)
    obtain ⟨x, hx⟩ := h n (Nat.lt_succ_self n)
    refine ⟨l ++ [x], by simp [hl], fun i hi => ?_⟩
    by_cases hin : i < n
    · rw [List.getElem_append_left (by omega)]; exact hp i (by omega)
    · have : i = n := by simp at hi; omega
      subst this
      rw [List.getElem_append_right (by omega)]
      simpa [hl] using hx

theorem Opens.slice {t e : TypeId} {α : Type} {r : Rep α} (ht : P.underlying t = some (.slice e)) (hc : P.cellsOf t = 1) (hpos : 0 < r.size) (he : Opens enc P w e r) : Opens enc P w t (sliceR r) := by
  refine ⟨hc, fun fuel cs x h => ?_⟩
  rcases Go.Deep.open_slice ht h with ⟨rfl, _⟩ | ⟨a, len, cap, m, n, D, Pl, rfl, _, hl, hm, hmm, _, hall⟩
  · exact ⟨[], none, 0, rfl, SliceAt.nil _ _ _ _ _ (by omega)⟩
  · simp only [ite_true] at hmm
    have hex : ∀ i, i < len → ∃ y, ∃ us, r.is w (Old w) y us ∧ us.length = r.size ∧ ∀ j, j < r.size → w.cell? ((a.add (i * r.size)).add j) = us[j]? := by
      intro i hi
      obtain ⟨cs', h1, h2⟩ := hall i (by omega)
      rw [he.1] at h1
      obtain ⟨y, hy⟩ := he.2 _ _ _ h2
      obtain ⟨_, g2, g3⟩ := World.cells?_some h1
      exact ⟨y, cs', hy, g2, g3⟩
    obtain ⟨l, hlen, hp⟩ := list_of_lt hex
    refine ⟨l, some a, cap, by rw [hlen], by omega, by unfold maxLen at hm; omega, fun hne => ?_⟩
    have hlpos : 0 < l.length := List.length_pos_iff.2 hne
    obtain ⟨us, _, hul, hc0⟩ := hp 0 hlpos
    have hc00 := hc0 0 hpos
    obtain ⟨u0, hu0⟩ : ∃ u0, us[0]? = some u0 := ⟨us[0]'(by omega), by simp [hul, hpos]⟩
    rw [hu0] at hc00
    have hc00' : w.cell? a = some u0 := by simpa [Addr.add] using hc00
    have hspot := World.cell?_spot hc00'
    have hblk := World.block_lt_of_cell? w _ hc00'
    obtain ⟨b, off, sp⟩ := a
    simp only at hspot
    subst hspot
    refine ⟨b, off, rfl, hblk, fun i hi => ?_⟩
    obtain ⟨us, h1, h2, h3⟩ := hp i hi
    refine ⟨us, h1, fun j u hj => ?_⟩
    have hj' : j < r.size := by
      rcases Nat.lt_or_ge j us.length with h | h
      · omega
      · rw [List.getElem?_eq_none h] at hj; cases hj
    have := h3 j hj'
    rw [hj] at this
    have e : ((⟨b, off, none⟩ : Addr).add (i * r.size)).add j = ⟨b, off + (i * r.size + j), none⟩ := by
      rw [Go.Deep.add_add]
      unfold Addr.add
      split
      · rename_i h0; rw [h0]; rfl
      · rfl
    rwa [e] at this

/-- The fields from number k on, at offset o, read as r says. -/
def OpensFields (enc : TypeId × Value → H) (P : Program) (w : World) (fs : List Field) (o : Nat) {α : Type} (r : Rep α) : Prop :=
  ∀ (fuel : Nat) (cs : List Value) (xs : List (DataW H × List MemPlace)), cs.length = o + r.size →
    (∀ (i : Nat) (f : Field), fs[i]? = some f → DataW.trod enc P w 0 (fun _ => true) true fuel f.type ((cs.drop f.offset).take (P.cellsOf f.type)) = xs[i]?) → fs.length ≤ xs.length → ∃ a, r.is w (Old w) a (cs.drop o)

theorem OpensFields.one {f : Field} {o : Nat} {α : Type} {r : Rep α} (h : Opens enc P w f.type r) (ho : f.offset = o) : OpensFields enc P w [f] o r := by
  intro fuel cs xs hl hf hx
  have h0 := hf 0 f rfl
  obtain ⟨x, hx0⟩ : ∃ x, xs[0]? = some x := ⟨xs[0]'(by simp at hx; omega), by simp⟩
  rw [hx0, ho, h.1, List.take_of_length_le (by rw [List.length_drop]; omega)] at h0
  exact h.2 _ _ _ h0
theorem OpensFields.cons {f : Field} {fs : List Field} {o : Nat} {α β : Type} {r : Rep α} {s : Rep β} (h : Opens enc P w f.type r) (ho : f.offset = o) (hs : OpensFields enc P w fs (o + r.size) s) : OpensFields enc P w (f :: fs) o (prodR r s) := by
  intro fuel cs xs hl hf hx
  have h0 := hf 0 f rfl
  have hx' : 0 < xs.length := by simp at hx; omega
  obtain ⟨x, hx0⟩ : ∃ x, xs[0]? = some x := ⟨xs[0]'hx', by simp⟩
  rw [hx0, ho, h.1] at h0
  obtain ⟨a, ha⟩ := h.2 _ _ _ h0
  have hl' : cs.length = o + (r.size + s.size) := hl
  obtain ⟨b, hb⟩ := hs fuel cs xs.tail (by omega) (fun i g hg => by have := hf (i + 1) g (by simpa using hg); simpa using this) (by simp at hx ⊢; omega)
  refine ⟨(a, b), _, _, ?_, ha, hb⟩
  rw [← List.drop_drop]
  exact (List.take_append_drop _ _).symm
theorem Opens.struct {t : TypeId} {fs : Array Field} {α : Type} {r : Rep α} (ht : P.underlying t = some (.struct fs)) (hc : P.cellsOf t = r.size) (h : OpensFields enc P w fs.toList 0 r) : Opens enc P w t r := by
  refine ⟨hc, fun fuel cs x hx => ?_⟩
  obtain ⟨xs, n, _, _, hl, hxl, hf⟩ := DataW.trod_struct ht hx
  have := h n cs xs (by omega) (fun i f hi => hf i f (by simpa using hi)) (by simp [hxl])
  simpa using this
/-- An array of two. -/
theorem Opens.array2 {t e : TypeId} {α : Type} {r : Rep α} (ht : P.underlying t = some (.array 2 e)) (hc : P.cellsOf t = r.size + r.size) (h : Opens enc P w e r) : Opens enc P w t (prodR r r) := by
  refine ⟨hc, fun fuel cs x hx => ?_⟩
  obtain ⟨xs, m, _, _, hl, hxl, hf⟩ := DataW.trod_array ht hx
  have h0 := hf 0 (by omega)
  have h1 := hf 1 (by omega)
  obtain ⟨x0, hx0⟩ : ∃ x, xs[0]? = some x := ⟨xs[0]'(by omega), by simp⟩
  obtain ⟨x1, hx1⟩ : ∃ x, xs[1]? = some x := ⟨xs[1]'(by omega), by simp⟩
  rw [hx0, h.1] at h0
  rw [hx1, h.1] at h1
  obtain ⟨a, ha⟩ := h.2 _ _ _ h0
  obtain ⟨b, hb⟩ := h.2 _ _ _ h1
  have hlen : cs.length = r.size + r.size := hl.trans hc
  refine ⟨(a, b), _, _, ?_, ha, hb⟩
  simp only [Nat.zero_mul, List.drop_zero, Nat.one_mul]
  rw [List.take_of_length_le (l := cs.drop r.size) (by rw [List.length_drop]; omega)]
  exact (List.take_append_drop _ _).symm

/-- An argument of the row, opened. -/
theorem Opens.arg {t : TypeId} {α : Type} {r : Rep α} (h : Opens enc P w t r) {v : Value} {d : DataW H} {p : List MemPlace} (ht : DataW.Trod enc P w 0 (fun _ => true) true t v d p) (hv : r.size = 1 → v.cells = #[v]) : ∃ a, r.val w a v := by
  obtain ⟨fuel, hf⟩ := ht
  obtain ⟨a, ha⟩ := h.2 _ _ _ hf
  exact ⟨a, ha, hv⟩
end

theorem val_bool {w : World} {b : Bool} {v : Value} (h : boolR.val w b v) : v = .bool b := by
  obtain ⟨h, hv⟩ := h
  rw [hv rfl] at h
  simpa [boolR] using h
theorem val_str {w : World} {s : ByteArray} {v : Value} (h : strR.val w s v) : v = .string s ∧ s.size ≤ 9223372036854775807 := by
  obtain ⟨h, hv⟩ := h
  rw [hv rfl] at h
  exact ⟨by simpa using h.1, h.2⟩
theorem val_int {w : World} {k : IntKind} {n : Int} {v : Value} (h : (intR k).val w n v) : v = .int k n ∧ (Lit.int k n).wf = true := by
  obtain ⟨h, hv⟩ := h
  rw [hv rfl] at h
  exact ⟨by simpa using h.1, h.2⟩
theorem val_slice {α : Type} {r : Rep α} {w : World} {l : List α} {v : Value} (h : (sliceR r).val w l v) : ∃ A c, v = .slice A l.length c ∧ SliceAt r w (Old w) A c l := by
  obtain ⟨⟨A, c, h, hs⟩, hv⟩ := h
  rw [hv rfl] at h
  exact ⟨A, c, by simpa using h, hs⟩
theorem wf_i64 {n : Int} (h : (Lit.int .i64 n).wf = true) : -9223372036854775808 ≤ n ∧ n ≤ 9223372036854775807 := by
  have h' : IntKind.i64.min ≤ n ∧ n ≤ IntKind.i64.max := by simpa [Lit.wf] using h
  have e1 : IntKind.i64.min = -9223372036854775808 := by decide
  have e2 : IntKind.i64.max = 9223372036854775807 := by decide
  omega
theorem wf_u8 {n : Int} (h : (Lit.int .u8 n).wf = true) : 0 ≤ n ∧ n ≤ 255 := by
  have h' : IntKind.u8.min ≤ n ∧ n ≤ IntKind.u8.max := by simpa [Lit.wf] using h
  have e1 : IntKind.u8.min = 0 := by decide
  have e2 : IntKind.u8.max = 255 := by decide
  omega

end Go.Proofs.YtmibpagajenndaaDoor
