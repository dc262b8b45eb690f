/- The texts Rep Own Mpf Mpg Tch Owl Ows of the seat, joined. -/
import Derived.WalkKit
import Derived.ProofKit
import Derived.OpenShut
import Derived.ChangeOld
import Derived.Below
import Derived.WalkSpells
import Derived.WalkLawsBesides
import Derived.Deep.QuietTactic
import Derived.BigQuiet
import Derived.Lib.Hide
import Derived.Deep.Slices
import Derived.ArgAppend
import Derived.Maps.AppendAt
import Derived.Maps.Own
import Derived.Maps.OwnSet
import Derived.Maps.Views
import Derived.Sort.KeysCollected
import Derived.DeepKeys4
import Derived.ChangeKeys
import Derived.Maps.Keyed
import Derived.Lib.Builder
import Derived.Deep.Upon
import Derived.Lib.SliceRun
namespace Go.Proofs.YtfbhchpbflaphaaGreatDoor
theorem hltA {α : Type} {a : Array α} {i : Nat} {v : α} (h : a[i]? = some v) : i < a.size := (Array.getElem?_eq_some_iff.1 h).1
open Go.RowKit
theorem ret_int {k : IntKind} {a b : Int} (h : a = b) : Ending.returned (.int k a) = .returned (.int k b) := by rw [h]
theorem ret_bool {a b : Bool} (h : a = b) : Ending.returned (.bool a) = .returned (.bool b) := by rw [h]
def Dr (w w' : World) : Prop := ∃ m, w' = w.drewN m
theorem Dr.refl (w : World) : Dr w w := ⟨0, rfl⟩
theorem Dr.trans {a b c : World} (h : Dr a b) (k : Dr b c) : Dr a c := by
 obtain ⟨m, rfl⟩ := h
 obtain ⟨n, rfl⟩ := k
 exact ⟨m + n, World.drewN_drewN _ _ _⟩
theorem Dr.drewN {a b : World} (h : Dr a b) (n : Nat) : Dr a (b.drewN n) := h.trans ⟨n, rfl⟩
theorem Dr.drew {a b : World} (h : Dr a b) : Dr a b.drew := h.trans ⟨1, rfl⟩
theorem Dr.cell {a b : World} (h : Dr a b) (p : Addr) : b.cell? p = a.cell? p := by obtain ⟨m, rfl⟩ := h; rfl
def Ext (w w' : World) : Prop := Below w.heap.size w w'
theorem Ext.refl (w : World) : Ext w w := Below.refl _ _
theorem Ext.trans {a b c : World} (h : Ext a b) (k : Ext b c) : Ext a c := Below.trans h (Below.mono k (Below.size h))
theorem Ext.size {a b : World} (h : Ext a b) : a.heap.size <= b.heap.size := Below.size h
theorem Ext.cell {a b : World} (h : Ext a b) {p : Addr} (hp : p.block < a.heap.size) : b.cell? p = a.cell? p := Below.cell h hp
theorem Ext.alloc {a b : World} (h : Ext a b) (o : Obj) : Ext a (b.alloc o) := Below.alloc h (Ext.size h) o
theorem Ext.drew {a b : World} (h : Ext a b) : Ext a b.drew := Below.drew h
theorem Ext.drewN {a b : World} (h : Ext a b) (n : Nat) : Ext a (b.drewN n) := ⟨h.os, h.tape, h.output, h.size, h.block⟩
theorem Ext.setCell {a b : World} (h : Ext a b) {p : Addr} (hp : a.heap.size <= p.block) (u : Value) : Ext a (b.setCell p u) := Below.setCell h hp u
theorem Dr.ext {a b : World} (h : Dr a b) : Ext a b := by obtain ⟨m, rfl⟩ := h; exact (Ext.refl a).drewN m
theorem Dr.size {a b : World} (h : Dr a b) : b.heap.size = a.heap.size := by obtain ⟨m, rfl⟩ := h; rfl
def Al (v : Value) (w : World) (e : Ending) (w' : World) : Prop := e = .returned v /\ Ext w w'
theorem Ext.keepc {a b : World} (h : Ext a b) {p : Addr} {v : Value} (hc : a.cell? p = some v) : b.cell? p = some v := (h.cell (World.block_lt_of_cell? a _ hc)).trans hc
theorem Dr.keepc {a b : World} (h : Dr a b) {p : Addr} {v : Value} (hc : a.cell? p = some v) : b.cell? p = some v := (h.cell p).trans hc
theorem grown_keepc {a b : World} {row : Option Nat} (h : a.grownBy b row) {p : Addr} {v : Value} (hc : a.cell? p = some v) (hne : row ≠ some p.block) : b.cell? p = some v :=
 (World.cell?_of_block (h.block p.block (World.block_lt_of_cell? a _ hc) (fun e => hne e.symm))).trans hc
theorem alloc_keepc {a : World} {p : Addr} {v : Value} (o : Obj) (hc : a.cell? p = some v) : (a.alloc o).cell? p = some v := ((Ext.refl a).alloc o).keepc hc
theorem cell_new (w : World) (cs : Array Value) (t : TypeId) (i : Nat) : (w.alloc (.cells cs t)).cell? ⟨w.heap.size, i, none⟩ = cs[i]? := cell_of_row _ _ _ _ _ _ (heap_alloc_new w _)
structure Rep (α : Type) where
 size : Nat
 is : World -> (Nat -> Prop) -> α -> List Value -> Prop
 len : ∀ {w : World} {B : Nat -> Prop} {a : α} {us : List Value}, is w B a us -> us.length = size
 keep : ∀ {w w' : World} {B B' : Nat -> Prop} {a : α} {us : List Value}, is w B a us -> (∀ k, B k -> B' k) -> (∀ k, B k -> w'.heap[k]? = w.heap[k]?) -> is w' B' a us
def Old (w : World) : Nat -> Prop := fun k => k < w.heap.size
theorem Old.ext {w w' : World} (h : Ext w w') : ∀ k, Old w k -> Old w' k := fun _ hk => Nat.lt_of_lt_of_le hk h.size
def Rep.val {α : Type} (r : Rep α) (w : World) (a : α) (v : Value) : Prop := r.is w (Old w) a v.cells.toList /\ (r.size = 1 -> v.cells = #[v])
theorem Rep.ext {α : Type} (r : Rep α) {w w' : World} {a : α} {us : List Value} (h : r.is w (Old w) a us) (he : Ext w w') : r.is w' (Old w') a us :=
 r.keep h (Old.ext he) fun k hk => he.block k hk
def intR (k : IntKind) : Rep Int where
 size := 1
 is := fun _ _ n us => us = [.int k n] /\ (Lit.int k n).wf = true
 len := by rintro _ _ _ _ ⟨rfl, _⟩; rfl
 keep := by rintro _ _ _ _ _ _ h _ _; exact h
def boolR : Rep Bool where
 size := 1
 is := fun _ _ b us => us = [.bool b]
 len := by rintro _ _ _ _ rfl; rfl
 keep := by rintro _ _ _ _ _ _ h _ _; exact h
def strR : Rep ByteArray where
 size := 1
 is := fun _ _ s us => us = [.string s] /\ s.size <= 9223372036854775807
 len := by rintro _ _ _ _ ⟨rfl, _⟩; rfl
 keep := by rintro _ _ _ _ _ _ h _ _; exact h
def prodR {α β : Type} (r : Rep α) (s : Rep β) : Rep (α × β) where
 size := r.size + s.size
 is := fun w B p us => ∃ x y, us = x ++ y /\ r.is w B p.1 x /\ s.is w B p.2 y
 len := by rintro _ _ _ _ ⟨x, y, rfl, h, k⟩; rw [List.length_append, r.len h, s.len k]
 keep := by rintro _ _ _ _ _ _ ⟨x, y, rfl, h, k⟩ hB hw; exact ⟨x, y, rfl, r.keep h hB hw, s.keep k hB hw⟩
def RowAt {α : Type} (r : Rep α) (w : World) (B : Nat -> Prop) (b off : Nat) (l : List α) : Prop :=
 ∀ i (h : i < l.length), ∃ us, r.is w B l[i] us /\ ∀ j u, us[j]? = some u -> w.cell? ⟨b, off + (i * r.size + j), none⟩ = some u
theorem RowAt.keep {α : Type} {r : Rep α} {w w' : World} {B B' : Nat -> Prop} {b off : Nat} {l : List α} (h : RowAt r w B b off l) (hb : B b) (hB : ∀ k, B k -> B' k) (hw : ∀ k, B k -> w'.heap[k]? = w.heap[k]?) : RowAt r w' B' b off l := by
 intro i hi
 obtain ⟨us, h1, h2⟩ := h i hi
 exact ⟨us, r.keep h1 hB hw, fun j u hj => (World.cell?_of_block (hw b hb)).trans (h2 j u hj)⟩
def SliceAt {α : Type} (r : Rep α) (w : World) (B : Nat -> Prop) (A : Option Addr) (c : Nat) (l : List α) : Prop :=
 l.length <= c /\ c <= 9223372036854775807 /\ (l ≠ [] -> ∃ b off, A = some ⟨b, off, none⟩ /\ B b /\ RowAt r w B b off l)
theorem SliceAt.keep {α : Type} {r : Rep α} {w w' : World} {B B' : Nat -> Prop} {A : Option Addr} {c : Nat} {l : List α} (h : SliceAt r w B A c l) (hB : ∀ k, B k -> B' k) (hw : ∀ k, B k -> w'.heap[k]? = w.heap[k]?) : SliceAt r w' B' A c l := by
 obtain ⟨h1, h2, h3⟩ := h
 refine ⟨h1, h2, fun hn => ?_⟩
 obtain ⟨b, off, hA, hb, hr⟩ := h3 hn
 exact ⟨b, off, hA, hB b hb, hr.keep hb hB hw⟩
theorem SliceAt.ext {α : Type} {r : Rep α} {w w' : World} {A : Option Addr} {c : Nat} {l : List α} (h : SliceAt r w (Old w) A c l) (he : Ext w w') : SliceAt r w' (Old w') A c l :=
 h.keep (Old.ext he) fun k hk => he.block k hk
theorem SliceAt.nil {α : Type} (r : Rep α) (w : World) (B : Nat -> Prop) (A : Option Addr) (c : Nat) (hc : c <= 9223372036854775807) : SliceAt r w B A c [] := ⟨Nat.zero_le _, hc, fun h => absurd rfl h⟩
def sliceR {α : Type} (r : Rep α) : Rep (List α) where
 size := 1
 is := fun w B l us => ∃ A c, us = [.slice A l.length c] /\ SliceAt r w B A c l
 len := by rintro _ _ _ _ ⟨A, c, rfl, _⟩; rfl
 keep := by rintro _ _ _ _ _ _ ⟨A, c, rfl, h⟩ hB hw; exact ⟨A, c, rfl, h.keep hB hw⟩
def Flat {α : Type} (r : Rep α) (w : World) (S : Nat -> Prop) : List α -> List Value -> Prop
 | [], xs => xs = []
 | a :: l, xs => ∃ us ys, xs = us ++ ys /\ r.is w S a us /\ Flat r w S l ys
theorem Flat.keep {α : Type} {r : Rep α} {w w' : World} {S S' : Nat -> Prop} (hS : ∀ k, S k -> S' k) (hw : ∀ k, S k -> w'.heap[k]? = w.heap[k]?) : ∀ {l : List α} {xs : List Value}, Flat r w S l xs -> Flat r w' S' l xs
 | [], _, h => h
 | _ :: _, _, ⟨us, ys, h1, h2, h3⟩ => ⟨us, ys, h1, r.keep h2 hS hw, Flat.keep hS hw h3⟩
theorem Flat.length {α : Type} {r : Rep α} {w : World} {S : Nat -> Prop} : ∀ {l : List α} {xs : List Value}, Flat r w S l xs -> xs.length = l.length * r.size
 | [], _, h => by rw [show _ = [] from h]; simp
 | _ :: _, _, ⟨us, ys, h1, h2, h3⟩ => by rw [h1, List.length_append, r.len h2, h3.length, List.length_cons, Nat.succ_mul, Nat.add_comm]
theorem Flat.append {α : Type} {r : Rep α} {w : World} {S : Nat -> Prop} {l' : List α} {xs' : List Value} (h' : Flat r w S l' xs') : ∀ {l : List α} {xs : List Value}, Flat r w S l xs -> Flat r w S (l ++ l') (xs ++ xs')
 | [], _, h => by rw [show _ = [] from h]; exact h'
 | _ :: _, _, ⟨us, ys, h1, h2, h3⟩ => ⟨us, ys ++ xs', by rw [h1, List.append_assoc], h2, Flat.append h' h3⟩
theorem Flat.one {α : Type} {r : Rep α} {w : World} {S : Nat -> Prop} {a : α} {us : List Value} (h : r.is w S a us) : Flat r w S [a] us := ⟨us, [], by simp, h, rfl⟩
theorem Flat.row {α : Type} {r : Rep α} {w : World} {S : Nat -> Prop} {b : Nat} : ∀ {l : List α} {xs : List Value} {off : Nat}, Flat r w S l xs -> (∀ j u, xs[j]? = some u -> w.cell? ⟨b, off + j, none⟩ = some u) -> RowAt r w S b off l
 | [], _, _, _, _ => fun i hi => absurd hi (Nat.not_lt_zero _)
 | a :: l, xs, off, ⟨us, ys, h1, h2, h3⟩, hc => by
  have hul := r.len h2
  have ih : RowAt r w S b (off + r.size) l := h3.row fun j u hj => by
   have := hc (r.size + j) u (by rw [h1, List.getElem?_append_right (by omega), hul, show r.size + j - r.size = j by omega]; exact hj)
   rwa [<- Nat.add_assoc] at this
  intro i hi
  match i, hi with
  | 0, _ => exact ⟨us, h2, fun j u hj => by
   have hlt : j < us.length := by
    rcases Nat.lt_or_ge j us.length with h | h
    ·exact h
    ·rw [List.getElem?_eq_none h] at hj; cases hj
   have := hc j u (by rw [h1, List.getElem?_append_left hlt]; exact hj)
   rwa [Nat.zero_mul, Nat.zero_add]⟩
  | i + 1, hi =>
   obtain ⟨vs, g1, g2⟩ := ih i (by simpa using hi)
   refine ⟨vs, g1, fun j u hj => ?_⟩
   have := g2 j u hj
   rwa [show off + ((i + 1) * r.size + j) = off + r.size + (i * r.size + j) by rw [Nat.succ_mul]; omega]
section
variable {H : Type} {enc : TypeId × Value -> H} {P : Program} {w : World}
def Opens (enc : TypeId × Value -> H) (P : Program) (w : World) (t : TypeId) {α : Type} (r : Rep α) : Prop :=
 P.cellsOf t = r.size /\ ∀ (fuel : Nat) (cs : List Value) (x : DataW H × List MemPlace), DataW.trod enc P w 0 (fun _ => true) true fuel t cs = some x -> ∃ a, r.is w (Old w) a cs
theorem Opens.int {t : TypeId} {k : IntKind} (ht : P.underlying t = some (.int k)) (hc : P.cellsOf t = 1) : Opens enc P w t (intR k) :=
 ⟨hc, fun _ _ _ h => by obtain ⟨n, rfl, _, hw⟩ := DataW.trod_int ht h; exact ⟨n, rfl, hw⟩⟩
theorem Opens.bool {t : TypeId} (ht : P.underlying t = some .bool) (hc : P.cellsOf t = 1) : Opens enc P w t boolR :=
 ⟨hc, fun _ _ _ h => by obtain ⟨n, rfl, _⟩ := DataW.trod_bool ht h; exact ⟨n, rfl⟩⟩
theorem Opens.str {t : TypeId} (ht : P.underlying t = some .string) (hc : P.cellsOf t = 1) : Opens enc P w t strR :=
 ⟨hc, fun _ _ _ h => by obtain ⟨s, rfl, _, hs⟩ := DataW.trod_string ht h; exact ⟨s, rfl, hs⟩⟩
theorem list_of_lt {α : Type} {n : Nat} {p : Nat -> α -> Prop} (h : ∀ i, i < n -> ∃ x, p i x) : ∃ l : List α, l.length = n /\ ∀ i (hi : i < l.length), p i l[i] := by
 induction n with
 | zero => exact ⟨[], rfl, fun i hi => absurd hi (Nat.not_lt_zero _)⟩
 | succ n ih =>
  obtain ⟨l, hl, hp⟩ := ih fun i hi => h i (Nat.lt_succ_of_lt hi)
  obtain ⟨x, hx⟩ := h n (Nat.lt_succ_self n)
  refine ⟨l ++ [x], by simp [hl], fun i hi => ?_⟩
  by_cases hin : i < n
  ·rw [List.getElem_append_left (by omega)]; exact hp i (by omega)
  ·have : i = n := by simp at hi; omega
   subst this
   rw [List.getElem_append_right (by omega)]
   simpa [hl] using hx
theorem Opens.slice {t e : TypeId} {α : Type} {r : Rep α} (ht : P.underlying t = some (.slice e)) (hc : P.cellsOf t = 1) (hpos : 0 < r.size) (he : Opens enc P w e r) : Opens enc P w t (sliceR r) := by
 refine ⟨hc, fun fuel cs x h => ?_⟩
 rcases Go.Deep.open_slice ht h with ⟨rfl, _⟩ | ⟨a, len, cap, m, n, D, Pl, rfl, _, hl, hm, hmm, _, hall⟩
 ·exact ⟨[], none, 0, rfl, SliceAt.nil _ _ _ _ _ (by omega)⟩
 ·simp only [ite_true] at hmm
  have hex : ∀ i, i < len -> ∃ y, ∃ us, r.is w (Old w) y us /\ us.length = r.size /\ ∀ j, j < r.size -> w.cell? ((a.add (i * r.size)).add j) = us[j]? := by
   intro i hi
   obtain ⟨cs', h1, h2⟩ := hall i (by omega)
   rw [he.1] at h1
   obtain ⟨y, hy⟩ := he.2 _ _ _ h2
   obtain ⟨_, g2, g3⟩ := World.cells?_some h1
   exact ⟨y, cs', hy, g2, g3⟩
  obtain ⟨l, hlen, hp⟩ := list_of_lt hex
  refine ⟨l, some a, cap, by rw [hlen], by omega, by unfold maxLen at hm; omega, fun hne => ?_⟩
  have hlpos : 0 < l.length := List.length_pos_iff.2 hne
  obtain ⟨us, _, hul, hc0⟩ := hp 0 hlpos
  have hc00 := hc0 0 hpos
  obtain ⟨u0, hu0⟩ : ∃ u0, us[0]? = some u0 := ⟨us[0]'(by omega), by simp [hul, hpos]⟩
  rw [hu0] at hc00
  have hc00' : w.cell? a = some u0 := by simpa [Addr.add] using hc00
  have hspot := World.cell?_spot hc00'
  have hblk := World.block_lt_of_cell? w _ hc00'
  obtain ⟨b, off, sp⟩ := a
  simp only at hspot
  subst hspot
  refine ⟨b, off, rfl, hblk, fun i hi => ?_⟩
  obtain ⟨us, h1, h2, h3⟩ := hp i hi
  refine ⟨us, h1, fun j u hj => ?_⟩
  have hj' : j < r.size := by
   rcases Nat.lt_or_ge j us.length with h | h
   ·omega
   ·rw [List.getElem?_eq_none h] at hj; cases hj
  have := h3 j hj'
  rw [hj] at this
  have e : ((⟨b, off, none⟩ : Addr).add (i * r.size)).add j = ⟨b, off + (i * r.size + j), none⟩ := by
   rw [Go.Deep.add_add]
   unfold Addr.add
   split
   ·rename_i h0; rw [h0]; rfl
   ·rfl
  rwa [e] at this
def OpensFields (enc : TypeId × Value -> H) (P : Program) (w : World) (fs : List Field) (o : Nat) {α : Type} (r : Rep α) : Prop :=
 ∀ (fuel : Nat) (cs : List Value) (xs : List (DataW H × List MemPlace)), cs.length = o + r.size ->
  (∀ (i : Nat) (f : Field), fs[i]? = some f -> DataW.trod enc P w 0 (fun _ => true) true fuel f.type ((cs.drop f.offset).take (P.cellsOf f.type)) = xs[i]?) -> fs.length <= xs.length -> ∃ a, r.is w (Old w) a (cs.drop o)
theorem OpensFields.one {f : Field} {o : Nat} {α : Type} {r : Rep α} (h : Opens enc P w f.type r) (ho : f.offset = o) : OpensFields enc P w [f] o r := by
 intro fuel cs xs hl hf hx
 have h0 := hf 0 f rfl
 obtain ⟨x, hx0⟩ : ∃ x, xs[0]? = some x := ⟨xs[0]'(by simp at hx; omega), by simp⟩
 rw [hx0, ho, h.1, List.take_of_length_le (by rw [List.length_drop]; omega)] at h0
 exact h.2 _ _ _ h0
theorem OpensFields.cons {f : Field} {fs : List Field} {o : Nat} {α β : Type} {r : Rep α} {s : Rep β} (h : Opens enc P w f.type r) (ho : f.offset = o) (hs : OpensFields enc P w fs (o + r.size) s) : OpensFields enc P w (f :: fs) o (prodR r s) := by
 intro fuel cs xs hl hf hx
 have h0 := hf 0 f rfl
 have hx' : 0 < xs.length := by simp at hx; omega
 obtain ⟨x, hx0⟩ : ∃ x, xs[0]? = some x := ⟨xs[0]'hx', by simp⟩
 rw [hx0, ho, h.1] at h0
 obtain ⟨a, ha⟩ := h.2 _ _ _ h0
 have hl' : cs.length = o + (r.size + s.size) := hl
 obtain ⟨b, hb⟩ := hs fuel cs xs.tail (by omega) (fun i g hg => by have := hf (i + 1) g (by simpa using hg); simpa using this) (by simp at hx ⊢; omega)
 refine ⟨(a, b), _, _, ?_, ha, hb⟩
 rw [<- List.drop_drop]
 exact (List.take_append_drop _ _).symm
theorem Opens.struct {t : TypeId} {fs : Array Field} {α : Type} {r : Rep α} (ht : P.underlying t = some (.struct fs)) (hc : P.cellsOf t = r.size) (h : OpensFields enc P w fs.toList 0 r) : Opens enc P w t r := by
 refine ⟨hc, fun fuel cs x hx => ?_⟩
 obtain ⟨xs, n, _, _, hl, hxl, hf⟩ := DataW.trod_struct ht hx
 have := h n cs xs (by omega) (fun i f hi => hf i f (by simpa using hi)) (by simp [hxl])
 simpa using this
theorem Opens.arg {t : TypeId} {α : Type} {r : Rep α} (h : Opens enc P w t r) {v : Value} {d : DataW H} {p : List MemPlace} (ht : DataW.Trod enc P w 0 (fun _ => true) true t v d p) (hv : r.size = 1 -> v.cells = #[v]) : ∃ a, r.val w a v := by
 obtain ⟨fuel, hf⟩ := ht
 obtain ⟨a, ha⟩ := h.2 _ _ _ hf
 exact ⟨a, ha, hv⟩
end
end Go.Proofs.YtfbhchpbflaphaaGreatDoor

namespace Go.Proofs.YtfbhchpbflaphaaGreatDoor
open Go.RowKit
def setArr (cur : Array Value) : Nat -> List Value -> Array Value
 | _, [] => cur
 | o, v :: vs => setArr (cur.setIfInBounds o v) (o + 1) vs
theorem setArr_size : ∀ (vs : List Value) (cur : Array Value) (o : Nat), (setArr cur o vs).size = cur.size
 | [], _, _ => rfl
 | v :: vs, cur, o => by rw [setArr, setArr_size vs]; simp
theorem setArr_lt : ∀ (vs : List Value) (cur : Array Value) (o j : Nat), j < o -> (setArr cur o vs)[j]? = cur[j]?
 | [], _, _, _, _ => rfl
 | v :: vs, cur, o, j, h => by
  rw [setArr, setArr_lt vs _ _ _ (by omega), Array.getElem?_setIfInBounds_ne (by omega)]
theorem setArr_in : ∀ (vs : List Value) (cur : Array Value) (o j : Nat), j < vs.length -> o + vs.length <= cur.size -> (setArr cur o vs)[o + j]? = vs[j]?
 | [], _, _, _, h, _ => absurd h (Nat.not_lt_zero _)
 | v :: vs, cur, o, 0, _, h2 => by
  simp only [List.length_cons] at h2
  rw [setArr, setArr_lt vs _ _ _ (by omega)]
  show (cur.setIfInBounds o v)[o]? = some v
  rw [Array.getElem?_setIfInBounds_self_of_lt (by omega)]
 | v :: vs, cur, o, j + 1, h1, h2 => by
  simp only [List.length_cons] at h1 h2
  rw [setArr, show o + (j + 1) = o + 1 + j by omega, setArr_in vs _ _ _ (by omega) (by simp; omega)]
  rfl
theorem heap_setCells_at (b : Nat) : ∀ (vs : List Value) (o : Nat) (w : World) (cur : Array Value) (e : TypeId), w.heap[b]? = some (.cells cur e (0, 0)) -> (w.setCells b o vs).heap[b]? = some (.cells (setArr cur o vs) e (0, 0))
 | [], _, _, _, _, h => h
 | v :: vs, o, w, cur, e, h => by
  refine heap_setCells_at b vs (o + 1) (w.setCell ⟨b, o, none⟩ v) (cur.setIfInBounds o v) e ?_
  simp [World.setCell, Array.getElem?_modify, h]
theorem grownBy_setCells (b : Nat) : ∀ (vs : List Value) (o : Nat) (w : World), w.grownBy (w.setCells b o vs) (some b)
 | [], _, w => World.grownBy.refl w _
 | v :: vs, o, w => by
  have h := grownBy_setCells b vs (o + 1) (w.setCell ⟨b, o, none⟩ v)
  refine ⟨h.os, h.tape, h.output, ?_, fun k hk hne => ?_⟩
  ·exact Nat.le_trans (by simp [World.setCell]) h.size
  ·have h2 := h.block k (by simpa [World.setCell] using hk) hne
   refine h2.trans (Below.heap_setCell _ _ _ _ ?_)
   rintro rfl
   exact hne rfl
def OwnAt (w : World) (base : Nat) (e : TypeId) (size : Nat) (v : Value) (n : Nat) (xs : List Value) : Prop :=
 xs.length = n * size /\
 ((v = .slice none 0 0 /\ n = 0) ∨
  ∃ g off cap cur, v = .slice (some ⟨g, off, none⟩) n cap /\ base <= g /\ w.heap[g]? = some (.cells cur e (0, 0)) /\ n <= cap /\ cap <= 9223372036854775807 /\ off + cap * size <= cur.size /\ ∀ j, j < n * size -> cur[off + j]? = xs[j]?)
theorem OwnAt.nil (w : World) (base : Nat) (e : TypeId) (size : Nat) : OwnAt w base e size (.slice none 0 0) 0 [] := ⟨by simp, .inl ⟨rfl, rfl⟩⟩
theorem OwnAt.keep {w w' : World} {base : Nat} {e : TypeId} {size : Nat} {v : Value} {n : Nat} {xs : List Value} (h : OwnAt w base e size v n xs)
 (hk : ∀ g, v.ownBlock = some g -> g < w.heap.size -> w'.heap[g]? = w.heap[g]?) : OwnAt w' base e size v n xs := by
 obtain ⟨h1, h2 | ⟨g, off, cap, cur, rfl, hb, hh, r⟩⟩ := h
 ·exact ⟨h1, .inl h2⟩
 ·have hlt : g < w.heap.size := by
   rcases Nat.lt_or_ge g w.heap.size with h | h
   ·exact h
   ·rw [Array.getElem?_eq_none h] at hh; cases hh
  exact ⟨h1, .inr ⟨g, off, cap, cur, rfl, hb, (hk g rfl hlt).trans hh, r⟩⟩
theorem OwnAt.ext {w w' : World} {base : Nat} {e : TypeId} {size : Nat} {v : Value} {n : Nat} {xs : List Value} (h : OwnAt w base e size v n xs) (he : Ext w w') : OwnAt w' base e size v n xs :=
 h.keep fun g _ hg => he.block g hg
theorem OwnAt.alloc {w : World} {base : Nat} {e : TypeId} {size : Nat} {v : Value} {n : Nat} {xs : List Value} (h : OwnAt w base e size v n xs) (o : Obj) : OwnAt (w.alloc o) base e size v n xs := h.ext ((Ext.refl w).alloc o)
theorem OwnAt.grown {w w' : World} {base : Nat} {e : TypeId} {size : Nat} {v u : Value} {n : Nat} {xs : List Value} (h : OwnAt w base e size v n xs) (hg : w.grownBy w' u.ownBlock)
 (hne : ∀ g, v.ownBlock = some g -> u.ownBlock ≠ some g) : OwnAt w' base e size v n xs :=
 h.keep fun g hv hlt => hg.block g hlt (fun e => hne g hv e.symm)
theorem OwnAt.of_row {w : World} {base : Nat} {e : TypeId} {size : Nat} {v : Value} {n : Nat} {xs : List Value} (h : w.ownsRow base e size v n xs) : OwnAt w base e size v n xs := by
 obtain ⟨h1, h2 | ⟨g, cap, cur, rfl, hb, hh, hn, hc, hs, ht⟩⟩ := h
 ·exact ⟨h1, .inl h2⟩
 ·refine ⟨h1, .inr ⟨g, 0, cap, cur, rfl, hb, hh, hn, by unfold maxLen at hc; omega, by omega, fun j hj => ?_⟩⟩
  rw [<- ht, List.getElem?_take_of_lt hj]
  simp
theorem OwnAt.mono {w : World} {base base' : Nat} {e : TypeId} {size : Nat} {v : Value} {n : Nat} {xs : List Value} (h : OwnAt w base e size v n xs) (hb : base' <= base) : OwnAt w base' e size v n xs := by
 obtain ⟨h1, h2 | ⟨g, off, cap, cur, rfl, hg, r⟩⟩ := h
 ·exact ⟨h1, .inl h2⟩
 ·exact ⟨h1, .inr ⟨g, off, cap, cur, rfl, by omega, r⟩⟩
theorem OwnAt.cells {w : World} {base : Nat} {e : TypeId} {size : Nat} {v : Value} {n : Nat} {xs : List Value} (h : OwnAt w base e size v n xs) (hn : 0 < n) :
 ∃ g off cap, v = .slice (some ⟨g, off, none⟩) n cap /\ base <= g /\ g < w.heap.size /\ n <= cap /\ cap <= 9223372036854775807 /\ ∀ j u, xs[j]? = some u -> w.cell? ⟨g, off + j, none⟩ = some u := by
 obtain ⟨h1, ⟨rfl, rfl⟩ | ⟨g, off, cap, cur, rfl, hb, hh, hnc, hc, hs, hx⟩⟩ := h
 ·omega
 ·refine ⟨g, off, cap, rfl, hb, ?_, hnc, hc, fun j u hj => ?_⟩
  ·rcases Nat.lt_or_ge g w.heap.size with h | h
   ·exact h
   ·rw [Array.getElem?_eq_none h] at hh; cases hh
  ·have hj' : j < n * size := by
    rcases Nat.lt_or_ge j xs.length with h | h
    ·omega
    ·rw [List.getElem?_eq_none h] at hj; cases hj
   rw [cell_of_row w g _ cur e (0, 0) hh, hx j hj', hj]
theorem Ext.grown {a b b' c : World} {e : TypeId} {size : Nat} {v : Value} {n : Nat} {xs : List Value} (h : Ext a b) (ho : OwnAt b' a.heap.size e size v n xs) (hg : b.grownBy c v.ownBlock) : Ext a c := by
 refine Below.grown h hg h.size fun k hk => ?_
 obtain ⟨_, ⟨rfl, _⟩ | ⟨g, off, cap, cur, rfl, hb, _⟩⟩ := ho
 ·simp [Value.ownBlock] at hk
 ·simp [Value.ownBlock] at hk; omega
section
variable {P : Program} (w : World)
theorem run_append_ownAt (base : Nat) (t ty e : TypeId) (i : TypeInfo) (z : Value) (size bytes : Nat) (ht : P.underlying t = some (.slice e)) (hi : P.info? e = some i) (hz : i.zero = some z)
 (hsize : i.size = size) (hby : i.bytes = bytes) (hzs : z.cells.size = size) (hsz : 0 < size)
 (v : Value) (n : Nat) (xs : List Value) (hown : OwnAt w base e size v n xs)
 (ad : Addr) (m c : Nat) (news : List Value) (hl : news.length = m * size) (hnews : ∀ j u, news[j]? = some u -> w.cell? (ad.add j) = some u) (h1 : ∀ u ∈ news, u.oneCell' = true)
 (h63 : n + m <= maxLen) (hbytes : (n + m) * bytes <= 140737488355328) (hbase : base <= w.heap.size) (hm : 0 < m) :
 ∃ v' w', (Builtin.append_ #[t, t] ty #[v, .slice (some ad) m c]).run P w = .ok v' w' /\ OwnAt w' base e size v' (n + m) (xs ++ news) /\ w.grownBy w' v.ownBlock /\
  OwnAt w' base e size v n xs /\ (v'.ownBlock = v.ownBlock ∨ ∃ g, v'.ownBlock = some g /\ w.heap.size <= g /\ g < w'.heap.size) := by
 obtain ⟨hx1, ⟨rfl, rfl⟩ | ⟨g, off, cap, cur, rfl, hb, hh, hnc, hc, hs, hx⟩⟩ := hown
 ·have hxs : xs = [] := List.eq_nil_of_length_eq_zero (by simpa using hx1)
  subst hxs
  obtain ⟨v', w', hrun, h2, h3, h4⟩ := run_append_own (P := P) w w.heap.size t ty e i z size bytes ht hi hz hsize hby hzs hsz (.slice none 0 0) 0 [] ⟨by simp, .inl ⟨rfl, rfl⟩⟩ ad m c news hl hnews h1 h63 hbytes (Nat.le_refl _)
  refine ⟨v', w', hrun, (OwnAt.of_row h2).mono hbase, h3, ⟨by simp, .inl ⟨rfl, rfl⟩⟩, .inr ?_⟩
  obtain ⟨k1, ⟨_, k2⟩ | ⟨g, cap, cur, rfl, hg, hh, _⟩⟩ := h2
  ·omega
  ·exact ⟨g, rfl, hg, by
    rcases Nat.lt_or_ge g w'.heap.size with h | h
    ·exact h
    ·rw [Array.getElem?_eq_none h] at hh; cases hh⟩
 ·by_cases hroom : n + m <= cap
  ·subst hsize
   have hcapm : (n + m) * i.size <= cap * i.size := Nat.mul_le_mul_right _ hroom
   have hadd : (n + m) * i.size = n * i.size + m * i.size := Nat.add_mul _ _ _
   have hcell : ∀ j, j < news.length -> (w.cell? ⟨g, off + n * i.size + j, none⟩).isSome = true := by
    intro j hj
    rw [cell_of_row w g _ cur e (0, 0) hh]
    simp
    omega
   have hfro : ∀ j, j < news.length -> w.frozen? ⟨g, off + n * i.size + j, none⟩ = false := by
    intro j hj
    simp [World.frozen?, hh]
   have hrun := run_append_room_cells (P := P) w t ty e i ht hi g off n cap ad m c news hl hnews h1 hroom hcell hfro
   refine ⟨_, _, hrun, ⟨by rw [List.length_append, hx1, hl, Nat.add_mul], .inr ⟨g, off, cap, _, rfl, hb, heap_setCells_at g news _ w cur e hh, hroom, hc, by rw [setArr_size]; exact hs, fun j hj => ?_⟩⟩, grownBy_setCells g news _ w,
    ⟨hx1, .inr ⟨g, off, cap, _, rfl, hb, heap_setCells_at g news _ w cur e hh, hnc, hc, by rw [setArr_size]; exact hs, fun j hj => by rw [setArr_lt _ _ _ _ (by omega)]; exact hx j hj⟩⟩, .inl rfl⟩
   by_cases hj1 : j < n * i.size
   ·rw [setArr_lt _ _ _ _ (by omega), hx j hj1, List.getElem?_append_left (by omega)]
   ·obtain ⟨q, rfl⟩ : ∃ q, j = n * i.size + q := ⟨j - n * i.size, by omega⟩
    rw [show off + (n * i.size + q) = off + n * i.size + q by omega, setArr_in _ _ _ _ (by omega) (by omega), List.getElem?_append_right (by omega)]
    congr 1
    omega
  ·obtain ⟨v', w', hrun, h2, h3⟩ := run_append_arg_grows (P := P) w t ty e i z size bytes ht hi hz hsize hby hzs hsz ⟨g, off, none⟩ n cap xs hx1
    (fun j u hj => by
     have hj' : j < n * size := by
      rcases Nat.lt_or_ge j xs.length with h | h
      ·omega
      ·rw [List.getElem?_eq_none h] at hj; cases hj
     rw [Addr.add_lit, cell_of_row w g _ cur e (0, 0) hh, hx j hj', hj])
    ad m c news hl hnews (by omega) h63 hbytes
   refine ⟨v', w', hrun, (OwnAt.of_row h2).mono hbase, ⟨h3.os, h3.tape, h3.output, h3.size, fun k hk _ => h3.block k hk (by simp)⟩, ?_, .inr ?_⟩
   ·refine ⟨hx1, .inr ⟨g, off, cap, cur, rfl, hb, (h3.block g ?_ (by simp)).trans hh, hnc, hc, hs, hx⟩⟩
    rcases Nat.lt_or_ge g w.heap.size with h | h
    ·exact h
    ·rw [Array.getElem?_eq_none h] at hh; cases hh
   obtain ⟨k1, ⟨_, k2⟩ | ⟨g', cap', cur', rfl, hg, hh', _⟩⟩ := h2
   ·omega
   ·exact ⟨g', rfl, hg, by
     rcases Nat.lt_or_ge g' w'.heap.size with h | h
     ·exact h
     ·rw [Array.getElem?_eq_none h] at hh'; cases hh'⟩
theorem wp_append_ownAt {o : Oper} {a : Act} {K : Act -> World -> Prop} {Q : Exit -> Act -> World -> Prop} (s x : Operand) (t : TypeId)
 (ho : o.op = .call { callee := .builtin .append, args := #[s, x], argTypes := #[t, t] })
 (base : Nat) (e : TypeId) (i : TypeInfo) (z : Value) (size bytes : Nat) (ht : P.underlying t = some (.slice e)) (hi : P.info? e = some i) (hz : i.zero = some z)
 (hsize : i.size = size) (hby : i.bytes = bytes) (hzs : z.cells.size = size) (hsz : 0 < size)
 (v : Value) (n : Nat) (xs : List Value) (hs : a.eval s = v) (hown : OwnAt w base e size v n xs)
 (ad : Addr) (m c : Nat) (news : List Value) (hx : a.eval x = .slice (some ad) m c) (hl : news.length = m * size) (hnews : ∀ j u, news[j]? = some u -> w.cell? (ad.add j) = some u) (h1 : ∀ u ∈ news, u.oneCell' = true)
 (h63 : n + m <= maxLen) (hbytes : (n + m) * bytes <= 140737488355328) (hbase : base <= w.heap.size) (hm : 0 < m)
 (h : ∀ v' w', OwnAt w' base e size v' (n + m) (xs ++ news) -> w.grownBy w' v.ownBlock -> OwnAt w' base e size v n xs -> (v'.ownBlock = v.ownBlock ∨ ∃ g, v'.ownBlock = some g /\ w.heap.size <= g /\ g < w'.heap.size) -> K (a.put o.dst v') w') : o.wp P a w K Q := by
 obtain ⟨v', w', hrun, h2, h3, h5, h4⟩ := run_append_ownAt (P := P) w base t o.type e i z size bytes ht hi hz hsize hby hzs hsz v n xs hown ad m c news hl hnews h1 h63 hbytes hbase hm
 unfold Oper.wp execOp
 simp only [ho, resolve, invoke, builtin, Sem.run_bind, Sem.run_pure, Result.andThen_ok, List.map_toArray, List.map_cons, List.map_nil, hs, hx, hrun]
 exact h v' w' h2 h3 h5 h4
theorem wpList_append_ownAt {ops : Array Oper} {rest : List Oper} {o : Oper} {a : Act} {Q : Exit -> Act -> World -> Prop} (hgd : o.guard = none) (s x : Operand) (t : TypeId)
 (ho : o.op = .call { callee := .builtin .append, args := #[s, x], argTypes := #[t, t] })
 (base : Nat) (e : TypeId) (i : TypeInfo) (z : Value) (size bytes : Nat) (ht : P.underlying t = some (.slice e)) (hi : P.info? e = some i) (hz : i.zero = some z)
 (hsize : i.size = size) (hby : i.bytes = bytes) (hzs : z.cells.size = size) (hsz : 0 < size)
 (v : Value) (n : Nat) (xs : List Value) (hs : a.eval s = v) (hown : OwnAt w base e size v n xs)
 (ad : Addr) (m c : Nat) (news : List Value) (hx : a.eval x = .slice (some ad) m c) (hl : news.length = m * size) (hnews : ∀ j u, news[j]? = some u -> w.cell? (ad.add j) = some u) (h1 : ∀ u ∈ news, u.oneCell' = true)
 (h63 : n + m <= maxLen) (hbytes : (n + m) * bytes <= 140737488355328) (hbase : base <= w.heap.size) (hm : 0 < m)
 (h : ∀ v' w', OwnAt w' base e size v' (n + m) (xs ++ news) -> w.grownBy w' v.ownBlock -> OwnAt w' base e size v n xs -> (v'.ownBlock = v.ownBlock ∨ ∃ g, v'.ownBlock = some g /\ w.heap.size <= g /\ g < w'.heap.size) -> wpList P ops Q rest (a.put o.dst v') w') :
 wpList P ops Q (o :: rest) a w :=
 wpList_plain hgd fun _ hK => wp_append_ownAt w s x t ho base e i z size bytes ht hi hz hsize hby hzs hsz v n xs hs hown ad m c news hx hl hnews h1 h63 hbytes hbase hm fun v' w' h2 h3 h5 h4 => hK _ _ (h v' w' h2 h3 h5 h4)
end
end Go.Proofs.YtfbhchpbflaphaaGreatDoor

namespace Go.Proofs.YtfbhchpbflaphaaGreatDoor
open Go.RowKit Go.Maps
def asIs (v : Value) : Option (DataW Value × List MemPlace) := some (.held v, [])
abbrev FnV := ByteArray -> Option Value
def putF (f : FnV) (s : ByteArray) (v : Option Value) : FnV := fun x => if x = s then v else f x
def MapF (P : Program) (w : World) (b : Nat) (f : FnV) : Prop :=
 ∃ D n, w.ownsMap P 9 asIs b n D /\ (∀ x : ByteArray, Maps.has D (.string x.data.toList) = (f x).isSome) /\ ∀ (x : ByteArray) (z : Value), D.atKey (.string x.data.toList) (.held z) = .held ((f x).getD z)
section
variable {P : Program} {w : World} {b : Nat} {f : FnV}
theorem bytes_inj {x y : ByteArray} (h : x.data.toList = y.data.toList) : x = y := by
 cases x; cases y
 exact congrArg _ (Array.toList_inj.1 h)
theorem strLit_ne {x y : ByteArray} (h : x ≠ y) : Lit.string x.data.toList ≠ Lit.string y.data.toList := fun e => h (bytes_inj (Lit.string.inj e))
theorem strKey (h9 : P.underlying 9 = some .string) {s : ByteArray} (h : s.size <= 9223372036854775807) : keyOf P 9 (.string s) = some (.string s.data.toList) := by
 rw [keyOf_string h9]
 simp [mapKey, h9, maxLen, h]
theorem MapF.kept {w' : World} {row : Option Nat} (h : MapF P w b f) (hg : w.grownBy w' row) (hne : some b ≠ row) : MapF P w' b f := by
 obtain ⟨D, n, h1, h2⟩ := h
 exact ⟨D, n, h1.kept hg hne, h2⟩
theorem MapF.ext {w' : World} (h : MapF P w b f) (he : Ext w w') : MapF P w' b f := h.kept (row := none) ⟨he.os, he.tape, he.output, he.size, fun i hi _ => he.block i hi⟩ (by simp)
theorem MapF.lt (h : MapF P w b f) : b < w.heap.size := by obtain ⟨D, n, h1, _⟩ := h; exact h1.lt
theorem MapF.made (w : World) : MapF P (w.alloc (.map #[] 0)) w.heap.size fun _ => none :=
 ⟨.map [], 0, World.ownsMap_made w _ _ _, fun _ => rfl, fun _ _ => rfl⟩
theorem MapF.congr {g : FnV} (h : MapF P w b f) (hg : ∀ x, g x = f x) : MapF P w b g := by
 have : g = f := funext hg
 rw [this]; exact h
theorem MapF.look {t e : TypeId} {z : Value} {s : ByteArray} (h : MapF P w b f) (h9 : P.underlying 9 = some .string) (ht : P.underlying t = some (.map 9 e)) (hz : (zeroValue e).run P w = .ok z w) (hs : s.size <= 9223372036854775807) :
 (Instr.lookup t (.map (some b)) (.string s) true).run P w = .ok (.tuple #[(f s).getD z, .bool (f s).isSome]) w := by
 obtain ⟨D, n, h1, h2, h3⟩ := h
 obtain ⟨v, ps, hrun, hv⟩ := h1.look_ok (string_keyed h9) ht hz (zd := .held z) (zp := []) rfl (strKey h9 hs)
 rw [h3] at hv
 have hv : some (DataW.held v, []) = some (.held ((f s).getD z), ps) := hv
 obtain rfl : v = (f s).getD z := by
  have := congrArg Prod.fst (Option.some.inj hv)
  simpa using this
 rw [hrun, h2]
theorem own_tight {R : Value -> Option (DataW Value × List MemPlace)} {n : Nat} {D : DataW Value} (h : w.ownsMap P 9 R b n D) : w.ownsMap P 9 R b (Maps.size D) D := by
 obtain ⟨es, clock, hb, F, hs, rfl⟩ := h
 exact ⟨es, clock, hb, F, by simp [Maps.size, length_sorted], rfl⟩
theorem MapF.size (h : MapF P w b f) (h9 : P.underlying 9 = some .string) {dom : List ByteArray} (hd : ∀ x, f x ≠ none -> x ∈ dom) : ∃ D, w.ownsMap P 9 asIs b dom.length D /\ (∀ x : ByteArray, Maps.has D (.string x.data.toList) = (f x).isSome) /\ ∀ (x : ByteArray) (z : Value), D.atKey (.string x.data.toList) (.held z) = .held ((f x).getD z) := by
 obtain ⟨D, n, h1, h2, h3⟩ := h
 refine ⟨D, (own_tight h1).mono ?_, h2, h3⟩
 obtain ⟨es, hD, hpw, _⟩ := h1.entries (string_keyed h9)
 obtain ⟨es', hD', hko⟩ := h1.keysOf
 obtain rfl : es = es' := by rw [hD] at hD'; simpa using hD'
 subst hD
 have hstr : ∀ p ∈ es, ∃ x, p.1 = .string x := fun p hp => by obtain ⟨v, hv⟩ := hko p hp; obtain ⟨x, _, hx, _⟩ := Maps.keyOf_str h9 hv; exact ⟨x, hx⟩
 have hnd : (es.map fun p => strOf p.1).Nodup := by
  refine List.pairwise_map.2 (hpw.imp_of_mem fun {p q} hp' hq' hne e => hne ?_)
  obtain ⟨a, ha⟩ := hstr p hp'
  obtain ⟨c, hc⟩ := hstr q hq'
  rw [ha, hc] at e ⊢
  exact congrArg _ e
 have hsub : ∀ x ∈ es.map (fun p => strOf p.1), x ∈ dom.map fun s => s.data.toList := fun x hx => by
  obtain ⟨p, hp, rfl⟩ := List.mem_map.1 hx
  obtain ⟨a, ha⟩ := hstr p hp
  have hh : Maps.has (.map es) (.string a) = true := by
   rw [has_eq, List.any_eq_true]
   exact ⟨p, hp, by rw [ha]; simp [Lit.sameKey]⟩
  have h4 := h2 ⟨a.toArray⟩
  have e : (⟨a.toArray⟩ : ByteArray).data.toList = a := rfl
  rw [e, hh] at h4
  refine List.mem_map.2 ⟨⟨a.toArray⟩, hd _ (fun e => by rw [e] at h4; cases h4), ?_⟩
  rw [ha]
  rfl
 have key : ∀ (l m : List (List UInt8)), l.Nodup -> (∀ x ∈ l, x ∈ m) -> l.length <= m.length := by
  intro l
  induction l with
  | nil => intro m _ _; exact Nat.zero_le _
  | cons x l ih =>
   intro m hn hm
   obtain ⟨h1, h2⟩ := List.nodup_cons.1 hn
   obtain ⟨s, t, rfl⟩ := List.append_of_mem (hm x List.mem_cons_self)
   have := ih (s ++ t) h2 fun y hy => by
    rcases List.mem_append.1 (hm y (List.mem_cons_of_mem _ hy)) with h | h
    ·exact List.mem_append_left _ h
    ·rcases List.mem_cons.1 h with e | h
     ·exact absurd (e ▸ hy) h1
     ·exact List.mem_append_right _ h
   simp only [List.length_append, List.length_cons] at this ⊢
   omega
 have := key _ _ hnd hsub
 rw [List.length_map, List.length_map] at this
 exact this
theorem wpList_mapF_put {ops : Array Oper} {rest : List Oper} {o : Oper} {a : Act} {Q : Exit -> Act -> World -> Prop} (h : MapF P w b f) (h9 : P.underlying 9 = some .string) (dom : List ByteArray) (hd : ∀ x, f x ≠ none -> x ∈ dom) (hl : dom.length < 1000000)
 (hg : o.guard = none) (m x v : Operand) (t e : TypeId) (hop : o.op = Op.mapUpdate t m x v) (ht : P.underlying t = some (.map 9 e)) (hm : a.eval m = .map (some b)) (s : ByteArray) (val : Value) (hx : a.eval x = .string s) (hv : a.eval v = val) (hs : s.size <= 9223372036854775807)
 (hK : ∀ w', MapF P w' b (putF f s (some val)) -> w.mapTurned w' b -> wpList P ops Q rest (a.put o.dst undef) w') : wpList P ops Q (o :: rest) a w := by
 obtain ⟨D, h1, h2, h3⟩ := h.size h9 hd
 refine wpList_mapUpdate_in w hg m x v t hop 9 e (string_keyed h9) ht asIs b dom.length D hm h1 (by unfold maxLen; omega) (.string s) val (.string s.data.toList) hx hv (strKey h9 hs) (.held val) [] rfl fun w' ho ht => hK w' ⟨_, _, ho, fun y => ?_, fun y z => ?_⟩ ht
 ·unfold putF
  by_cases e : y = s
  ·subst e; rw [if_pos rfl, has_put_same h1.isMap (show WideAt.IsKeyLit (.string _) from trivial)]; rfl
  ·rw [if_neg e, has_put_other (strLit_ne e), h2]
 ·unfold putF
  by_cases e : y = s
  ·subst e; rw [if_pos rfl]; exact atKey_put_same h1.isMap (show WideAt.IsKeyLit (.string _) from trivial) _ _
  ·rw [if_neg e, atKey_put_other (strLit_ne e), h3]
theorem MapF.drop {t e : TypeId} {s : ByteArray} (h : MapF P w b f) (h9 : P.underlying 9 = some .string) (ht : P.underlying t = some (.map 9 e)) (hs : s.size <= 9223372036854775807) (ty : TypeId) :
 ∃ w', (Builtin.delete_ #[t, 9] ty #[.map (some b), .string s]).run P w = .ok (.tuple #[]) w' /\ MapF P w' b (putF f s none) /\ w.mapTurned w' b := by
 obtain ⟨D, n, h1, h2, h3⟩ := h
 obtain ⟨w', hrun, ho, ht'⟩ := h1.drop (string_keyed h9) ht (strKey h9 hs) ty
 refine ⟨w', hrun, ⟨_, n, ho, fun y => ?_, fun y z => ?_⟩, ht'⟩
 ·unfold putF
  by_cases e : y = s
  ·subst e; rw [if_pos rfl, has_del_same]; rfl
  ·rw [if_neg e, has_del_other (strLit_ne e), h2]
 ·unfold putF
  by_cases e : y = s
  ·subst e; rw [if_pos rfl, atKey_del_same]; rfl
  ·rw [if_neg e, atKey_del_other (strLit_ne e), h3]
end
end Go.Proofs.YtfbhchpbflaphaaGreatDoor

namespace Go.Proofs.YtfbhchpbflaphaaGreatDoor
open Go.RowKit Go.Maps
def MapG {α : Type} (P : Program) (t : TypeId) (lit : α -> Lit) (Dom : α -> Prop) (w : World) (b n : Nat) (f : α -> Option Value) : Prop :=
 ∃ D, w.ownsMap P t asIs b n D /\ (∀ x, Dom x -> Maps.has D (lit x) = (f x).isSome) /\ ∀ x, Dom x -> ∀ z : Value, D.atKey (lit x) (.held z) = .held ((f x).getD z)
section
variable {α : Type} {P : Program} {t : TypeId} {lit : α -> Lit} {Dom : α -> Prop} {w : World} {b n : Nat} {f : α -> Option Value}
theorem MapG.kept {w' : World} {row : Option Nat} (h : MapG P t lit Dom w b n f) (hg : w.grownBy w' row) (hne : some b ≠ row) : MapG P t lit Dom w' b n f := by
 obtain ⟨D, h1, h2⟩ := h
 exact ⟨D, h1.kept hg hne, h2⟩
theorem MapG.ext {w' : World} (h : MapG P t lit Dom w b n f) (he : Ext w w') : MapG P t lit Dom w' b n f := h.kept (row := none) ⟨he.os, he.tape, he.output, he.size, fun i hi _ => he.block i hi⟩ (by simp)
theorem MapG.lt (h : MapG P t lit Dom w b n f) : b < w.heap.size := by obtain ⟨D, h1, _⟩ := h; exact h1.lt
theorem MapG.made (w : World) : MapG P t lit Dom (w.alloc (.map #[] 0)) w.heap.size 0 fun _ => none :=
 ⟨.map [], World.ownsMap_made w _ _ _, fun _ _ => rfl, fun _ _ _ => rfl⟩
theorem MapG.congr {g : α -> Option Value} (h : MapG P t lit Dom w b n f) (hg : ∀ x, Dom x -> g x = f x) : MapG P t lit Dom w b n g := by
 obtain ⟨D, h1, h2, h3⟩ := h
 exact ⟨D, h1, fun x hx => by rw [hg x hx]; exact h2 x hx, fun x hx z => by rw [hg x hx]; exact h3 x hx z⟩
theorem MapG.look {mt e : TypeId} {z : Value} {x : α} {key : Value} (h : MapG P t lit Dom w b n f) (K : Keyed P t) (ht : P.underlying mt = some (.map t e)) (hz : (zeroValue e).run P w = .ok z w) (hd : Dom x) (hk : keyOf P t key = some (lit x)) :
 (Instr.lookup mt (.map (some b)) key true).run P w = .ok (.tuple #[(f x).getD z, .bool (f x).isSome]) w := by
 obtain ⟨D, h1, h2, h3⟩ := h
 obtain ⟨v, ps, hrun, hv⟩ := h1.look_ok K ht hz (zd := .held z) (zp := []) rfl hk
 rw [h3 x hd] at hv
 have hv : some (DataW.held v, []) = some (.held ((f x).getD z), ps) := hv
 obtain rfl : v = (f x).getD z := by
  have := congrArg Prod.fst (Option.some.inj hv)
  simpa using this
 rw [hrun, h2 x hd]
open Classical in
noncomputable def putG (f : α -> Option Value) (s : α) (v : Option Value) : α -> Option Value := fun x => if x = s then v else f x
open Classical in
theorem putG_same (s : α) (v : Option Value) : putG f s v s = v := if_pos rfl
open Classical in
theorem putG_other {s x : α} (v : Option Value) (h : x ≠ s) : putG f s v x = f x := if_neg h
theorem wpList_mapG_put {ops : Array Oper} {rest : List Oper} {o : Oper} {a : Act} {Q : Exit -> Act -> World -> Prop} (h : MapG P t lit Dom w b n f) (K : Keyed P t) (hl : n < 1000000) (hinj : ∀ x y, Dom x -> Dom y -> lit x = lit y -> x = y) (hik : ∀ x, Dom x -> WideAt.IsKeyLit (lit x))
 (hg : o.guard = none) (m x v : Operand) (mt e : TypeId) (hop : o.op = Op.mapUpdate mt m x v) (ht : P.underlying mt = some (.map t e)) (hm : a.eval m = .map (some b)) (s : α) (key val : Value) (hx : a.eval x = key) (hv : a.eval v = val) (hd : Dom s) (hk : keyOf P t key = some (lit s))
 (hK : ∀ w', MapG P t lit Dom w' b (n + 1) (putG f s (some val)) -> w.mapTurned w' b -> wpList P ops Q rest (a.put o.dst undef) w') : wpList P ops Q (o :: rest) a w := by
 obtain ⟨D, h1, h2, h3⟩ := h
 refine wpList_mapUpdate_in w hg m x v mt hop t e K ht asIs b n D hm h1 (by unfold maxLen; omega) key val (lit s) hx hv hk (.held val) [] rfl fun w' ho ht => hK w' ⟨_, ho, fun y hy => ?_, fun y hy z => ?_⟩ ht
 ·by_cases e : y = s
  ·subst e; rw [putG_same, has_put_same h1.isMap (hik _ hd)]; rfl
  ·rw [putG_other _ e, has_put_other (fun e' => e (hinj _ _ hy hd e')), h2 y hy]
 ·by_cases e : y = s
  ·subst e; rw [putG_same]; exact atKey_put_same h1.isMap (hik _ hd) _ _
  ·rw [putG_other _ e, atKey_put_other (fun e' => e (hinj _ _ hy hd e')), h3 y hy]
end
def litP (p : Nat × ByteArray) : Lit := .string (keyBytes [.int .i64 (p.1 : Int), .string p.2.data.toList])
def DomP (p : Nat × ByteArray) : Prop := p.1 < 9223372036854775808 /\ p.2.size <= 9223372036854775807
theorem litP_key (p : Nat × ByteArray) (_ : DomP p) : WideAt.IsKeyLit (litP p) := trivial
theorem nat_wf {n : Nat} (hn : n < 9223372036854775808) : (Lit.int .i64 (n : Int)).wf = true := by simp [Lit.wf, IntKind.min, IntKind.max, IntKind.bits, IntKind.signed]; omega
theorem litP_inj (p q : Nat × ByteArray) (hp : DomP p) (hq : DomP q) (h : litP p = litP q) : p = q := by
 have h : keyBytes [.int .i64 (p.1 : Int), .string p.2.data.toList] = keyBytes [.int .i64 (q.1 : Int), .string q.2.data.toList] := Lit.string.inj h
 have hw : ∀ r : Nat × ByteArray, DomP r -> ∀ a ∈ [Lit.int .i64 (r.1 : Int), .string r.2.data.toList], a.keyWf := by
  intro r hr a ha
  simp only [List.mem_cons, List.not_mem_nil, or_false] at ha
  rcases ha with rfl | rfl
  ·exact nat_wf hr.1
  ·show r.2.data.toList.length <= maxLen
   have := hr.2
   unfold maxLen
   simpa using this
 have e := keyBytes_inj (l := [.int .i64 (p.1 : Int), .string p.2.data.toList]) (l' := [.int .i64 (q.1 : Int), .string q.2.data.toList]) ⟨rfl, trivial, trivial⟩ (hw p hp) (hw q hq) h
 simp only [List.cons.injEq, Lit.int.injEq, Lit.string.injEq, and_true, true_and] at e
 exact Prod.ext (by omega) (bytes_inj e.2)
end Go.Proofs.YtfbhchpbflaphaaGreatDoor

namespace Go.Proofs.YtfbhchpbflaphaaGreatDoor
open Go.RowKit Go.Maps
structure Tch (X : Nat -> Prop) (w w' : World) : Prop where
 os : w'.os = w.os
 tape : w'.tape = w.tape
 output : w'.output = w.output
 size : w.heap.size <= w'.heap.size
 block : ∀ k, k < w.heap.size -> ¬ X k -> w'.heap[k]? = w.heap[k]?
theorem Tch.refl (X : Nat -> Prop) (w : World) : Tch X w w := ⟨rfl, rfl, rfl, Nat.le_refl _, fun _ _ _ => rfl⟩
theorem Tch.trans' {X Y : Nat -> Prop} {a b c : World} (h : Tch X a b) (k : Tch Y b c) (hY : ∀ i, i < a.heap.size -> Y i -> X i) : Tch X a c :=
 ⟨k.os.trans h.os, k.tape.trans h.tape, k.output.trans h.output, Nat.le_trans h.size k.size, fun i hi hx => (k.block i (Nat.lt_of_lt_of_le hi h.size) fun hy => hx (hY i hi hy)).trans (h.block i hi hx)⟩
theorem Tch.trans {X : Nat -> Prop} {a b c : World} (h : Tch X a b) (k : Tch X b c) : Tch X a c := h.trans' k fun _ _ h => h
theorem Tch.mono {X Y : Nat -> Prop} {a b : World} (h : Tch X a b) (hX : ∀ k, k < a.heap.size -> X k -> Y k) : Tch Y a b := ⟨h.os, h.tape, h.output, h.size, fun k hk hy => h.block k hk fun hx => hy (hX k hk hx)⟩
theorem Ext.tch {a b : World} (h : Ext a b) (X : Nat -> Prop) : Tch X a b := ⟨h.os, h.tape, h.output, h.size, fun k hk _ => h.block k hk⟩
theorem Tch.ext {X : Nat -> Prop} {a b : World} (h : Tch X a b) (hX : ∀ k, k < a.heap.size -> ¬ X k) : Ext a b := ⟨h.os, h.tape, h.output, h.size, fun k hk => h.block k hk (hX k hk)⟩
theorem Tch.grown {X : Nat -> Prop} {a b c : World} {row : Option Nat} (h : Tch X a b) (k : b.grownBy c row) (hr : ∀ i, row = some i -> i < a.heap.size -> X i) : Tch X a c :=
 ⟨k.os.trans h.os, k.tape.trans h.tape, k.output.trans h.output, Nat.le_trans h.size k.size, fun i hi hx => (k.block i (Nat.lt_of_lt_of_le hi h.size) fun e => hx (hr i e.symm hi)).trans (h.block i hi hx)⟩
theorem Tch.alloc {X : Nat -> Prop} {a b : World} (h : Tch X a b) (o : Obj) : Tch X a (b.alloc o) := h.trans' (((Ext.refl b).alloc o).tch X) fun _ _ h => h
theorem Tch.keepc {X : Nat -> Prop} {a b : World} (h : Tch X a b) {p : Addr} {v : Value} (hc : a.cell? p = some v) (hp : ¬ X p.block) : b.cell? p = some v :=
 (World.cell?_of_block (h.block _ (World.block_lt_of_cell? a _ hc) hp)).trans hc
theorem grownBy_setCell (w : World) (p : Addr) (v : Value) : w.grownBy (w.setCell p v) (some p.block) :=
 ⟨rfl, rfl, rfl, by simp [World.setCell], fun k hk e => RowKit.Below.heap_setCell _ _ _ _ (fun h => e (by rw [h]))⟩
theorem Tch.setCell {X : Nat -> Prop} {a b : World} (h : Tch X a b) {p : Addr} (hp : p.block < a.heap.size -> X p.block) (v : Value) : Tch X a (b.setCell p v) :=
 h.grown (grownBy_setCell b p v) fun i e hi => by cases e; exact hp hi
theorem SliceAt.tch {α : Type} {r : Rep α} {X S : Nat -> Prop} {w w' : World} {A : Option Addr} {c : Nat} {l : List α} (h : SliceAt r w S A c l) (hg : Tch X w w') (hS : ∀ k, S k -> k < w.heap.size /\ ¬ X k) : SliceAt r w' S A c l :=
 h.keep (fun _ h => h) fun k hk => hg.block k (hS k hk).1 (hS k hk).2
theorem MapF.tch {P : Program} {X : Nat -> Prop} {w w' : World} {b : Nat} {f : FnV} (h : MapF P w b f) (hg : Tch X w w') (hb : ¬ X b) : MapF P w' b f := by
 have hl := h.lt
 obtain ⟨D, n, ⟨es, clock, h1, h2⟩, h3⟩ := h
 exact ⟨D, n, ⟨es, clock, (hg.block b hl hb).trans h1, h2⟩, h3⟩
theorem MapG.tch {α : Type} {P : Program} {t : TypeId} {lit : α -> Lit} {Dom : α -> Prop} {n : Nat} {X : Nat -> Prop} {w w' : World} {b : Nat} {f : α -> Option Value} (h : MapG P t lit Dom w b n f) (hg : Tch X w w') (hb : ¬ X b) : MapG P t lit Dom w' b n f := by
 have hl := h.lt
 obtain ⟨D, ⟨es, clock, h1, h2⟩, h3⟩ := h
 exact ⟨D, ⟨es, clock, (hg.block b hl hb).trans h1, h2⟩, h3⟩
theorem OwnAt.tch {X : Nat -> Prop} {w w' : World} {base : Nat} {e : TypeId} {size : Nat} {v : Value} {n : Nat} {xs : List Value} (h : OwnAt w base e size v n xs) (hg : Tch X w w') (hv : ∀ k, v.ownBlock = some k -> ¬ X k) : OwnAt w' base e size v n xs :=
 h.keep fun g hgv hlt => hg.block g hlt (hv g hgv)
theorem Flat.tch {α : Type} {r : Rep α} {X S : Nat -> Prop} {w w' : World} {l : List α} {xs : List Value} (h : Flat r w S l xs) (hg : Tch X w w') (hS : ∀ k, S k -> k < w.heap.size /\ ¬ X k) : Flat r w' S l xs :=
 h.keep (fun _ h => h) fun k hk => hg.block k (hS k hk).1 (hS k hk).2
theorem grown_tch {w w' : World} {b : Nat} (h : w.grownBy w' (some b)) : Tch (fun k => k = b) w w' := ⟨h.os, h.tape, h.output, h.size, fun k hk hx => h.block k hk fun e => hx (Option.some.inj e)⟩
theorem OwnAt.lt {w : World} {base : Nat} {e : TypeId} {size : Nat} {v : Value} {n : Nat} {xs : List Value} (h : OwnAt w base e size v n xs) {k : Nat} (hk : v.ownBlock = some k) : base <= k /\ k < w.heap.size := by
 obtain ⟨_, ⟨rfl, _⟩ | ⟨g, off, cap, cur, rfl, hb, hh, _⟩⟩ := h
 ·simp [Value.ownBlock] at hk
 ·simp [Value.ownBlock] at hk
  subst hk
  exact ⟨hb, (hltA hh)⟩
theorem heap_setCell_cells {w : World} {g : Nat} {cs : Array Value} {t : TypeId} (h : w.heap[g]? = some (.cells cs t (0, 0))) (i : Nat) (v : Value) : (w.setCell ⟨g, i, none⟩ v).heap[g]? = some (.cells (cs.setIfInBounds i v) t (0, 0)) := by
 have := heap_setCells_at g [v] i w cs t h
 exact this
end Go.Proofs.YtfbhchpbflaphaaGreatDoor

namespace Go.Proofs.YtfbhchpbflaphaaGreatDoor
open Go.RowKit
def OwnL {α : Type} (cs : α -> List Value) (e : TypeId) (size : Nat) (w : World) (base : Nat) (v : Value) (n : Nat) (l : List α) : Prop := n = l.length /\ OwnAt w base e size v n (l.flatMap cs)
section
variable {α : Type} {cs : α -> List Value} {e : TypeId} {size : Nat} {w w' : World} {base n : Nat} {v : Value} {l : List α}
theorem OwnL.ext (h : OwnL cs e size w base v n l) (he : Ext w w') : OwnL cs e size w' base v n l := ⟨h.1, h.2.ext he⟩
theorem OwnL.nil (w : World) (base : Nat) : OwnL cs e size w base (.slice none 0 0) 0 [] := ⟨rfl, OwnAt.nil _ _ _ _⟩
theorem OwnL.tch {X : Nat -> Prop} (h : OwnL cs e size w base v n l) (hg : Tch X w w') (hv : ∀ k, v.ownBlock = some k -> ¬ X k) : OwnL cs e size w' base v n l := ⟨h.1, h.2.tch hg hv⟩
theorem OwnL.lt (h : OwnL cs e size w base v n l) {k : Nat} (hk : v.ownBlock = some k) : base <= k /\ k < w.heap.size := h.2.lt hk
theorem flat_of_cells {r : Rep α} {B : Nat -> Prop} : ∀ {l : List α}, (∀ a ∈ l, r.is w B a (cs a)) -> Flat r w B l (l.flatMap cs)
 | [], _ => rfl
 | a :: l, h => ⟨cs a, l.flatMap cs, rfl, h a List.mem_cons_self, flat_of_cells fun b hb => h b (List.mem_cons_of_mem _ hb)⟩
theorem OwnL.slice {r : Rep α} (h : OwnL cs e size w base v n l) (hr : ∀ B, ∀ a ∈ l, r.is w B a (cs a)) :
 ∃ A c, v = .slice A n c /\ SliceAt r w (fun k => v.ownBlock = some k /\ base <= k /\ k < w.heap.size) A c l := by
 obtain ⟨rfl, h⟩ := h
 rcases Nat.eq_zero_or_pos l.length with h0 | h0
 ·have hl := List.eq_nil_of_length_eq_zero h0
  subst hl
  obtain ⟨_, ⟨rfl, _⟩ | ⟨g, off, cap, cur, rfl, _, _, _, hc, _⟩⟩ := h
  ·exact ⟨none, 0, rfl, SliceAt.nil _ _ _ _ _ (by omega)⟩
  ·exact ⟨_, cap, rfl, SliceAt.nil _ _ _ _ _ hc⟩
 ·obtain ⟨g, off, cap, rfl, hb, hg, hnc, hc, hx⟩ := h.cells h0
  have hf : Flat r w (fun k => (Value.slice (some ⟨g, off, none⟩) l.length cap).ownBlock = some k /\ base <= k /\ k < w.heap.size) l (l.flatMap cs) := flat_of_cells (hr _)
  exact ⟨_, cap, rfl, hnc, hc, fun _ => ⟨g, off, rfl, ⟨by simp [Value.ownBlock], hb, hg⟩, hf.row hx⟩⟩
theorem OwnL.sliceOld {r : Rep α} (h : OwnL cs e size w base v n l) (hr : ∀ B, ∀ a ∈ l, r.is w B a (cs a)) : ∃ A c, v = .slice A n c /\ SliceAt r w (Old w) A c l := by
 obtain ⟨A, c, h1, h2⟩ := h.slice hr
 exact ⟨A, c, h1, h2.keep (fun k hk => hk.2.2) fun _ _ => rfl⟩
theorem OwnL.cell (h : OwnL cs e size w base v n l) (hcs : ∀ a ∈ l, (cs a).length = size) {i : Nat} (hi : i < l.length) : ∃ g off cap, v = .slice (some ⟨g, off, none⟩) n cap /\ base <= g /\ g < w.heap.size /\ n <= cap /\
 ∀ j u, (cs l[i])[j]? = some u -> w.cell? ⟨g, off + i * size + j, none⟩ = some u := by
 obtain ⟨rfl, h⟩ := h
 obtain ⟨g, off, cap, rfl, hb, hg, hnc, hc, hx⟩ := h.cells (by omega)
 refine ⟨g, off, cap, rfl, hb, hg, hnc, fun j u hj => ?_⟩
 have key : ∀ (l : List α), (∀ a ∈ l, (cs a).length = size) -> ∀ i (hi : i < l.length), (cs l[i])[j]? = some u -> (l.flatMap cs)[i * size + j]? = some u := by
  intro l
  induction l with
  | nil => intro _ i hi; simp at hi
  | cons a l ih =>
   intro hs i hi hj
   rw [List.flatMap_cons]
   cases i with
   | zero =>
    have : j < (cs a).length := by
     rcases Nat.lt_or_ge j (cs a).length with h | h
     ·exact h
     ·rw [show (a :: l)[0] = a from rfl, List.getElem?_eq_none h] at hj; cases hj
    rw [Nat.zero_mul, Nat.zero_add, List.getElem?_append_left this]
    exact hj
   | succ i =>
    have ha := hs a List.mem_cons_self
    rw [List.getElem?_append_right (by rw [ha, Nat.succ_mul]; omega), ha, show (i + 1) * size + j - size = i * size + j by rw [Nat.succ_mul]; omega]
    exact ih (fun b hb => hs b (List.mem_cons_of_mem _ hb)) i (by simpa using hi) hj
 rw [Nat.add_assoc]
 exact hx _ u (key l hcs i hi hj)
theorem wpList_append_one {P : Program} {ops : Array Oper} {rest : List Oper} {o : Oper} {a : Act} {Q : Exit -> Act -> World -> Prop} (hgd : o.guard = none) (s x : Operand) (t : TypeId)
 (ho : o.op = .call { callee := .builtin .append, args := #[s, x], argTypes := #[t, t] })
 {i : TypeInfo} {z : Value} {bytes : Nat} (ht : P.underlying t = some (.slice e)) (hi : P.info? e = some i) (hz : i.zero = some z)
 (hsize : i.size = size) (hby : i.bytes = bytes) (hzs : z.cells.size = size) (hsz : 0 < size) (hbs : bytes <= 1000)
 (hs : a.eval s = v) (hown : OwnL cs e size w base v n l) (el : α) {b : Nat} (hx : a.eval x = .slice (some ⟨b, 0, none⟩) 1 1) (hl : (cs el).length = size) (hc : ∀ j u, (cs el)[j]? = some u -> w.cell? ⟨b, j, none⟩ = some u) (h1 : ∀ u ∈ cs el, u.oneCell' = true)
 (hn : n <= 100000000) (hbase : base <= w.heap.size)
 (h : ∀ v' w', OwnL cs e size w' base v' (n + 1) (l ++ [el]) -> w.grownBy w' v.ownBlock -> (v'.ownBlock = v.ownBlock ∨ ∃ g, v'.ownBlock = some g /\ w.heap.size <= g /\ g < w'.heap.size) -> wpList P ops Q rest (a.put o.dst v') w') :
 wpList P ops Q (o :: rest) a w := by
 have hb : (n + 1) * bytes <= 140737488355328 := by
  have : (n + 1) * bytes <= 100000001 * 1000 := Nat.mul_le_mul (by omega) hbs
  omega
 refine wpList_append_ownAt w hgd s x t ho base e i z size bytes ht hi hz hsize hby hzs hsz v n (l.flatMap cs) hs hown.2 ⟨b, 0, none⟩ 1 1 (cs el) hx (by omega) (fun j u hj => ?_) h1 (by unfold maxLen; omega) hb hbase (by decide) fun v' w' h2 h3 _ h4 => h v' w' ⟨by simp [hown.1], by rw [List.flatMap_append]; simpa using h2⟩ h3 h4
 rw [Addr.add_lit, Nat.zero_add]
 exact hc j u hj
end
theorem Ext.grownL {α : Type} {cs : α -> List Value} {e : TypeId} {size : Nat} {a b c : World} {v : Value} {n : Nat} {l : List α} {base : Nat} (h : Ext a b) (ho : OwnL cs e size b base v n l) (hb : a.heap.size <= base) (hg : b.grownBy c v.ownBlock) : Ext a c := by
 refine Below.grown h hg h.size fun k hk => ?_
 have := (ho.lt hk).1
 omega
end Go.Proofs.YtfbhchpbflaphaaGreatDoor

namespace Go.Proofs.YtfbhchpbflaphaaGreatDoor
open Go.RowKit
def OwnP {α : Type} (r : Rep α) (S : Nat -> Prop) (e : TypeId) (w : World) (base : Nat) (v : Value) (n : Nat) (l : List α) : Prop := n = l.length /\ ∃ xs, OwnAt w base e r.size v n xs /\ Flat r w S l xs
theorem RowAt.flat {α : Type} {r : Rep α} {w : World} {S : Nat -> Prop} {b : Nat} : ∀ {l : List α} {off : Nat}, RowAt r w S b off l -> ∃ xs, Flat r w S l xs /\ ∀ j u, xs[j]? = some u -> w.cell? ⟨b, off + j, none⟩ = some u
 | [], _, _ => ⟨[], rfl, fun j u hj => by simp at hj⟩
 | a :: l, off, h => by
  obtain ⟨us, h1, h2⟩ := h 0 (by simp)
  obtain ⟨ys, h3, h4⟩ := RowAt.flat (l := l) (off := off + r.size) fun i hi => by
   obtain ⟨us, g1, g2⟩ := h (i + 1) (by simpa using hi)
   refine ⟨us, g1, fun j u hj => ?_⟩
   have := g2 j u hj
   rwa [show off + ((i + 1) * r.size + j) = off + r.size + (i * r.size + j) by rw [Nat.succ_mul]; omega] at this
  have hul := r.len h1
  refine ⟨us ++ ys, ⟨us, ys, rfl, h1, h3⟩, fun j u hj => ?_⟩
  rcases Nat.lt_or_ge j us.length with hlt | hge
  ·rw [List.getElem?_append_left hlt] at hj
   have := h2 j u hj
   rwa [Nat.zero_mul, Nat.zero_add] at this
  ·rw [List.getElem?_append_right hge] at hj
   have := h4 _ u hj
   rwa [show off + r.size + (j - us.length) = off + j by omega] at this
theorem Flat.one' {α : Type} {r : Rep α} (hone : ∀ w S a us, r.is w S a us -> ∀ u ∈ us, u.oneCell' = true) {w : World} {S : Nat -> Prop} : ∀ {l : List α} {xs : List Value}, Flat r w S l xs -> ∀ u ∈ xs, u.oneCell' = true
 | [], _, h => by rw [show _ = [] from h]; simp
 | _ :: _, _, ⟨us, ys, h1, h2, h3⟩ => by
  rw [h1]
  intro u hu
  rcases List.mem_append.1 hu with h | h
  ·exact hone _ _ _ _ h2 u h
  ·exact h3.one' hone u h
section
variable {α : Type} {r : Rep α} {S : Nat -> Prop} {e : TypeId} {w w' : World} {base n : Nat} {v : Value} {l : List α}
theorem OwnP.nil (r : Rep α) (S : Nat -> Prop) (e : TypeId) (w : World) (base : Nat) : OwnP r S e w base (.slice none 0 0) 0 [] := ⟨rfl, [], OwnAt.nil _ _ _ _, rfl⟩
theorem OwnP.empty (w : World) (g : Nat) (hg : g = w.heap.size) : OwnP r S e (w.alloc (.cells #[] e)) w.heap.size (.slice (some ⟨g, 0, none⟩) 0 0) 0 [] := by
 subst hg
 exact ⟨rfl, [], ⟨by simp, .inr ⟨w.heap.size, 0, 0, #[], rfl, Nat.le_refl _, heap_alloc_new _ _, Nat.le_refl _, by omega, by simp, fun j hj => by simp at hj⟩⟩, rfl⟩
theorem OwnP.tch {X : Nat -> Prop} (h : OwnP r S e w base v n l) (hg : Tch X w w') (hv : ∀ k, v.ownBlock = some k -> ¬ X k) (hS : ∀ b, S b -> b < w.heap.size /\ ¬ X b) : OwnP r S e w' base v n l := by
 obtain ⟨h1, xs, h2, h3⟩ := h
 exact ⟨h1, xs, h2.tch hg hv, h3.tch hg hS⟩
theorem OwnP.ext (h : OwnP r S e w base v n l) (he : Ext w w') (hS : ∀ b, S b -> b < w.heap.size) : OwnP r S e w' base v n l := h.tch (he.tch fun _ => False) (fun _ _ h => h) fun b hb => ⟨hS b hb, fun h => h⟩
theorem OwnP.lt (h : OwnP r S e w base v n l) {k : Nat} (hk : v.ownBlock = some k) : base <= k /\ k < w.heap.size := by
 obtain ⟨_, _, h2, _⟩ := h
 exact h2.lt hk
theorem OwnP.form (h : OwnP r S e w base v n l) : ∃ A c, v = .slice A n c /\ n <= c /\ c <= 9223372036854775807 := by
 obtain ⟨_, _, ⟨_, ⟨rfl, rfl⟩ | ⟨g, off, cap, cur, rfl, _, _, h1, h2, _⟩⟩, _⟩ := h
 ·exact ⟨none, 0, rfl, Nat.le_refl _, by decide⟩
 ·exact ⟨_, cap, rfl, h1, h2⟩
theorem OwnP.slice (h : OwnP r S e w base v n l) : ∃ A c, v = .slice A n c /\ SliceAt r w (fun k => S k ∨ v.ownBlock = some k) A c l := by
 obtain ⟨hn, xs, ho, hf⟩ := h
 subst hn
 have hf' : Flat r w (fun k => S k ∨ v.ownBlock = some k) l xs := hf.keep (fun k hk => .inl hk) fun _ _ => rfl
 rcases Nat.eq_zero_or_pos l.length with h0 | h0
 ·have hl := List.eq_nil_of_length_eq_zero h0
  subst hl
  obtain ⟨_, ⟨rfl, _⟩ | ⟨g, off, cap, cur, rfl, _, _, _, hc, _⟩⟩ := ho
  ·exact ⟨none, 0, rfl, SliceAt.nil _ _ _ _ _ (by omega)⟩
  ·exact ⟨_, cap, rfl, SliceAt.nil _ _ _ _ _ hc⟩
 ·obtain ⟨g, off, cap, rfl, hb, hg, hnc, hc, hx⟩ := ho.cells h0
  exact ⟨_, cap, rfl, hnc, hc, fun _ => ⟨g, off, rfl, .inr (by simp [Value.ownBlock]), hf'.row hx⟩⟩
end
theorem wpList_wanted' {P : Program} {ops : Array Oper} {rest : List Oper} {o : Oper} {a : Act} {w : World} {Q : Exit -> Act -> World -> Prop} (hgd : o.guard = none) (h : o.wp P a w (wpList P ops Q rest) Q) : wpList P ops Q (o :: rest) a w :=
 wpList_plain hgd fun _ hK => Oper.wp_mono hK h
section
variable {α : Type} {P : Program} {w : World} {r : Rep α}
theorem wpList_append_cells {ops : Array Oper} {rest : List Oper} {o : Oper} {a : Act} {Q : Exit -> Act -> World -> Prop} (hgd : o.guard = none) (s x : Operand) (t : TypeId)
 (ho : o.op = .call { callee := .builtin .append, args := #[s, x], argTypes := #[t, t] }) {e : TypeId} {i : TypeInfo} {z : Value} {bytes : Nat} (ht : P.underlying t = some (.slice e)) (hi : P.info? e = some i) (hz : i.zero = some z)
 (hsize : i.size = r.size) (hby : i.bytes = bytes) (hzs : z.cells.size = r.size) (hsz : 0 < r.size) (hone : ∀ w S a us, r.is w S a us -> ∀ u ∈ us, u.oneCell' = true)
 {S : Nat -> Prop} {base : Nat} {v : Value} {n : Nat} {l : List α} (hs : a.eval s = v) (hown : OwnP r S e w base v n l) (y : List α) (ad : Addr) (m c : Nat) (hx : a.eval x = .slice (some ad) m c) (hm : m = y.length) (hpos : 0 < m)
 {news : List Value} (hf : Flat r w S y news) (hnews : ∀ j u, news[j]? = some u -> w.cell? (ad.add j) = some u)
 (h63 : n + m <= maxLen) (hbytes : (n + m) * bytes <= 140737488355328) (hbase : base <= w.heap.size) (hS : ∀ b, S b -> b < w.heap.size /\ v.ownBlock ≠ some b)
 (h : ∀ v' w', OwnP r S e w' base v' (n + m) (l ++ y) -> w.grownBy w' v.ownBlock -> (v'.ownBlock = v.ownBlock ∨ ∃ g, v'.ownBlock = some g /\ w.heap.size <= g /\ g < w'.heap.size) -> wpList P ops Q rest (a.put o.dst v') w') :
 wpList P ops Q (o :: rest) a w := by
 obtain ⟨hn, xs, hown, hfl⟩ := hown
 refine wpList_append_ownAt w hgd s x t ho base e i z r.size bytes ht hi hz hsize hby hzs hsz v n xs hs hown ad m c news hx (by rw [hm]; exact hf.length) hnews (hf.one' hone) h63 hbytes hbase hpos ?_
 intro v' w' h2 h3 _ h4
 have hk : ∀ k, S k -> w'.heap[k]? = w.heap[k]? := fun k hk => h3.block k (hS k hk).1 fun e => (hS k hk).2 e.symm
 exact h v' w' ⟨by rw [List.length_append, hn, hm], _, h2, Flat.append (hf.keep (fun _ h => h) hk) (hfl.keep (fun _ h => h) hk)⟩ h3 h4
theorem wpList_append_share {ops : Array Oper} {rest : List Oper} {o : Oper} {a : Act} {Q : Exit -> Act -> World -> Prop} (hgd : o.guard = none) (s x : Operand) (t : TypeId)
 (ho : o.op = .call { callee := .builtin .append, args := #[s, x], argTypes := #[t, t] }) {e : TypeId} {i : TypeInfo} {z : Value} {bytes : Nat} (ht : P.underlying t = some (.slice e)) (hi : P.info? e = some i) (hz : i.zero = some z)
 (hsize : i.size = r.size) (hby : i.bytes = bytes) (hzs : z.cells.size = r.size) (hsz : 0 < r.size) (hone : ∀ w S a us, r.is w S a us -> ∀ u ∈ us, u.oneCell' = true)
 {S : Nat -> Prop} {base : Nat} {v : Value} {n : Nat} {l : List α} (hs : a.eval s = v) (hown : OwnP r S e w base v n l) (y : List α) (A : Option Addr) (m c : Nat) (hx : a.eval x = .slice A m c) (hm : m = y.length) (hy : SliceAt r w S A c y)
 (h63 : n + m <= maxLen) (hbytes : (n + m) * bytes <= 140737488355328) (hbase : base <= w.heap.size) (hS : ∀ b, S b -> b < w.heap.size /\ v.ownBlock ≠ some b)
 (h : ∀ v' w', OwnP r S e w' base v' (n + m) (l ++ y) -> w.grownBy w' v.ownBlock -> (v'.ownBlock = v.ownBlock ∨ ∃ g, v'.ownBlock = some g /\ w.heap.size <= g /\ g < w'.heap.size) -> wpList P ops Q rest (a.put o.dst v') w') :
 wpList P ops Q (o :: rest) a w := by
 by_cases hm0 : y = []
 ·subst hm0
  have hm0 : m = 0 := hm
  subst hm0
  refine wpList_wanted' hgd ?_
  have hsrc : Src P i.size t (.slice A 0 c) 0 [] w := by
   cases A with
   | none => exact Src.ofNil w ht c
   | some ad => exact Src.ofSlice w ht ad 0 c [] (by simp) (fun j u hj => by simp at hj) (fun u hu => by simp at hu)
  obtain ⟨b, cp, rfl, hle, _⟩ := hown.form
  have hr := run_append_nothing (P := P) w t t o.type e i ht hi b n cp hle _ hsrc
  unfold Oper.wp execOp
  simp only [ho, resolve, invoke, builtin, Sem.run_bind, Sem.run_pure, Result.andThen_ok, List.map_toArray, List.map_cons, List.map_nil, hs, hx, hr]
  exact h _ _ (by rw [List.append_nil]; exact hown) (World.grownBy.refl _ _) (.inl rfl)
 ·obtain ⟨b, off, rfl, _, hr⟩ := hy.2.2 hm0
  obtain ⟨xs, h1, h2⟩ := hr.flat
  exact wpList_append_cells hgd s x t ho ht hi hz hsize hby hzs hsz hone hs hown y ⟨b, off, none⟩ m c hx hm (by rw [hm]; exact List.length_pos_iff.2 hm0) h1 (fun j u hj => by rw [Addr.add_lit]; exact h2 j u hj) h63 hbytes hbase hS h
end
end Go.Proofs.YtfbhchpbflaphaaGreatDoor
