/- The texts Dp Fl LexT of the seat, joined. -/
import Derived.Test.YtjimgkefacnamaaGreatDoorG9
import Derived.StillTail
/- Decode: its steps, in plain words. -/
namespace Go.Proofs.YtjimgkefacnamaaGreatDoor
open Go.RowKit

/-- n more pieces behind these. -/
def pMore {α : Type} (p : C.Bs → Option (α × C.Bs)) (n : Nat) (st : Option C.Bs) (acc : List α) : Option (List α × C.Bs) := st.bind fun l => (C.pRep p n l).map fun x => (acc ++ x.1, x.2)
theorem pMore_none {α : Type} (p : C.Bs → Option (α × C.Bs)) (n : Nat) (acc : List α) : pMore p n none acc = none := rfl
theorem pMore_zero {α : Type} (p : C.Bs → Option (α × C.Bs)) (st : Option C.Bs) (acc : List α) : pMore p 0 st acc = st.map fun q => (acc, q) := by
  cases st with
  | none => rfl
  | some l => simp [pMore, C.pRep]
theorem pMore_start {α : Type} (p : C.Bs → Option (α × C.Bs)) (n : Nat) (l : C.Bs) : pMore p n (some l) [] = C.pRep p n l := by
  unfold pMore
  simp
/-- One piece more: what it gives, and what is left. -/
theorem pMore_step {α : Type} (p : C.Bs → Option (α × C.Bs)) (n : Nat) (st st' : Option C.Bs) (acc : List α) (a : α) (h : st'.map (fun q => (a, q)) = st.bind p) : pMore p n st' (acc ++ [a]) = pMore p (n + 1) st acc := by
  cases st with
  | none =>
    cases st' with
    | none => rfl
    | some q => simp at h
  | some l =>
    simp only [Option.bind_some] at h
    unfold pMore
    simp only [Option.bind_some, C.pRep]
    cases st' with
    | none =>
      simp only [Option.map_none] at h
      rw [← h]
      rfl
    | some q =>
      simp only [Option.map_some] at h
      rw [← h]
      simp only [Option.bind_some]
      cases C.pRep p n q with
      | none => rfl
      | some x => simp
/-- Behind an error, or behind the last piece. -/
theorem pMore_end {α : Type} {p : C.Bs → Option (α × C.Bs)} {n : Nat} {st : Option C.Bs} {acc : List α} (h : n = 0 ∨ st = none) : pMore p n st acc = st.map fun q => (acc, q) := by
  rcases h with rfl | rfl
  · exact pMore_zero p st acc
  · rfl
theorem nN_none (low high : Int) : nN low high none = (0, none) := rfl
theorem nT_none (most : Nat) : nT most none = ([], none) := rfl
theorem nN_some (low high : Int) (l : C.Bs) : nN low high (some l) = match C.pNum low high l with | some (n, q) => ((n : Int), some q) | none => (0, none) := rfl
theorem nN_of {low high : Int} {l q : C.Bs} {n : Nat} (h : C.pNum low high l = some (n, q)) : nN low high (some l) = ((n : Int), some q) := by simp only [nN, h]
theorem nN_no {low high : Int} {l : C.Bs} (h : C.pNum low high l = none) : nN low high (some l) = (0, none) := by simp only [nN, h]
theorem nT_of {most : Nat} {l q s : C.Bs} (h : C.pTxt most l = some (s, q)) : nT most (some l) = (s, some q) := by simp only [nT, h]
theorem nT_no {most : Nat} {l : C.Bs} (h : C.pTxt most l = none) : nT most (some l) = ([], none) := by simp only [nT, h]
/-- A number read is in its range; a text is not longer than it may be. -/
theorem nN_range (low high : Int) (h0 : low ≤ 0) (h1 : 0 ≤ high) (st : Option C.Bs) : low ≤ (nN low high st).1 ∧ (nN low high st).1 ≤ high ∧ 0 ≤ (nN low high st).1 := by
  cases st with
  | none => exact ⟨h0, h1, Int.le_refl _⟩
  | some l =>
    cases h : C.pNum low high l with
    | none => rw [nN_no h]; exact ⟨h0, h1, Int.le_refl _⟩
    | some x =>
      obtain ⟨n, q⟩ := x
      rw [nN_of h]
      have := (C.pNum_read h).2
      exact ⟨this.1, this.2, Int.natCast_nonneg n⟩
theorem nT_len (most : Nat) (st : Option C.Bs) : (nT most st).1.length ≤ most := by
  cases st with
  | none => exact Nat.zero_le _
  | some l =>
    cases h : C.pTxt most l with
    | none => rw [nT_no h]; exact Nat.zero_le _
    | some x =>
      obtain ⟨s, q⟩ := x
      rw [nT_of h]
      exact (C.pTxt_read h).2.1
theorem nN_bad (l : Option C.Bs) : nN 1 0 l = (0, none) := by
  cases l with
  | none => rfl
  | some l =>
    refine nN_no ?_
    unfold C.pNum
    cases C.cnt 59 281474976710656 l 0 0 with
    | none => rfl
    | some x => simp only; rw [if_neg (by omega)]
/-- A symbol: three readings. -/
theorem sym_steps (st : Option C.Bs) : (nN 0 128 (nN 0 3 (nT 32 st).2).2).2.map (fun q => (((mkB (nT 32 st).1, (nN 0 3 (nT 32 st).2).1, (nN 0 128 (nN 0 3 (nT 32 st).2).2).1 - 1) : C.Sym), q)) = st.bind C.pSym := by
  cases st with
  | none => rfl
  | some l =>
    rw [Option.bind_some]
    unfold C.pSym
    cases h1 : C.pTxt 32 l with
    | none => rw [nT_no h1]; rfl
    | some x =>
      obtain ⟨s, l1⟩ := x
      rw [nT_of h1]
      simp only
      cases h2 : C.pNum 0 3 l1 with
      | none => rw [nN_no h2]; rfl
      | some x =>
        obtain ⟨m, l2⟩ := x
        rw [nN_of h2]
        simp only
        cases h3 : C.pNum 0 128 l2 with
        | none => rw [nN_no h3]; rfl
        | some x =>
          obtain ⟨k, l3⟩ := x
          rw [nN_of h3]
          rfl
/-- A relocation: two readings. -/
theorem rel_steps (syms : List C.Sym) (st : Option C.Bs) {s : C.Sym} (hs : syms[(nN 0 128 (nN 0 8192 st).2).1.toNat]? = some s) : (nN 0 128 (nN 0 8192 st).2).2.map (fun q => ((((nN 0 8192 st).1, s.1) : C.Rel), q)) = st.bind (C.pRel syms) := by
  cases st with
  | none => rfl
  | some l =>
    rw [Option.bind_some]
    unfold C.pRel
    cases h1 : C.pNum 0 8192 l with
    | none => rw [nN_no h1]; rfl
    | some x =>
      obtain ⟨m, l1⟩ := x
      rw [nN_of h1] at hs ⊢
      simp only at hs ⊢
      cases h2 : C.pNum 0 128 l1 with
      | none => rw [nN_no h2]; rfl
      | some x =>
        obtain ⟨k, l2⟩ := x
        rw [nN_of h2] at hs ⊢
        simp only at hs ⊢
        rw [show ((k : Int)).toNat = k by omega] at hs
        rw [hs]
        rfl
/-- There is no such symbol. -/
theorem rel_steps_no (syms : List C.Sym) (st : Option C.Bs) (hs : syms[(nN 0 128 (nN 0 8192 st).2).1.toNat]? = none) : st.bind (C.pRel syms) = none := by
  cases st with
  | none => rfl
  | some l =>
    rw [Option.bind_some]
    unfold C.pRel
    cases h1 : C.pNum 0 8192 l with
    | none => rfl
    | some x =>
      obtain ⟨m, l1⟩ := x
      rw [nN_of h1] at hs
      simp only at hs ⊢
      cases h2 : C.pNum 0 128 l1 with
      | none => rfl
      | some x =>
        obtain ⟨k, l2⟩ := x
        rw [nN_of h2] at hs
        simp only at hs ⊢
        rw [show ((k : Int)).toNat = k by omega] at hs
        rw [hs]
theorem pMore_stop {α : Type} {p : C.Bs → Option (α × C.Bs)} {n : Nat} {st : Option C.Bs} {acc : List α} (h : st.bind p = none) : pMore p (n + 1) st acc = none := by
  cases st with
  | none => rfl
  | some l =>
    rw [Option.bind_some] at h
    simp only [pMore, Option.bind_some, C.pRep, h]
    rfl
/-- A section: its head, then its relocations. -/
theorem sec_steps (syms : List C.Sym) (st : Option C.Bs) (o : Option C.Bs) (rs : List C.Rel)
    (h : o.map (fun q => (rs, q)) = pMore (C.pRel syms) (nN 0 8192 (nT 8192 (nN 0 2 st).2).2).1.toNat (nN 0 8192 (nT 8192 (nN 0 2 st).2).2).2 []) :
    o.map (fun q => (((nN 0 2 st).1, mkB (nT 8192 (nN 0 2 st).2).1, rs), q)) = st.bind (C.pSec syms) := by
  have key : ∀ (X : Option (List C.Rel × C.Bs)) (kd : Int) (d : ByteArray), o.map (fun q => (rs, q)) = X → o.map (fun q => (((kd, d, rs) : C.Sec), q)) = match X with | some (rs, q) => some ((kd, d, rs), q) | none => none := by
    intro X kd d hX
    subst hX
    cases o <;> rfl
  rw [key _ _ _ h]
  cases st with
  | none => rfl
  | some l =>
    rw [Option.bind_some]
    unfold C.pSec
    cases h1 : C.pNum 0 2 l with
    | none => rw [nN_no h1]; rfl
    | some x =>
      obtain ⟨k, l1⟩ := x
      rw [nN_of h1]
      simp only
      cases h2 : C.pTxt 8192 l1 with
      | none => rw [nT_no h2]; rfl
      | some x =>
        obtain ⟨d, l2⟩ := x
        rw [nT_of h2]
        simp only
        cases h3 : C.pNum 0 8192 l2 with
        | none => rw [nN_no h3]; rfl
        | some x =>
          obtain ⟨n, l3⟩ := x
          rw [nN_of h3]
          simp only
          rw [pMore_start, show ((n : Int)).toNat = n by omega]
          cases C.pRep (C.pRel syms) n l3 with
          | none => rfl
          | some y => rfl

/-- An object: its head, its symbols, its sections. -/
theorem obj_steps (data : C.Bs) (st2 st4 : Option C.Bs) (syms : List C.Sym) (secs : List C.Sec) (hw : (nT 6 (some data)).1 = C.wObject)
    (h1 : st2.map (fun q => (syms, q)) = pMore C.pSym (nN 0 128 (nT 6 (some data)).2).1.toNat (nN 0 128 (nT 6 (some data)).2).2 [])
    (h2 : st4.map (fun q => (secs, q)) = pMore (C.pSec syms) (nN 0 128 st2).1.toNat (nN 0 128 st2).2 []) :
    st4.map (fun q => ((syms, secs), q)) = C.pObj data := by
  have key : ∀ (X : Option (List C.Sec × C.Bs)), st4.map (fun q => (secs, q)) = X → st4.map (fun q => ((syms, secs), q)) = match X with | some (s, q) => some ((syms, s), q) | none => none := by
    intro X hX
    subst hX
    cases st4 <;> rfl
  rw [key _ h2]
  unfold C.pObj
  cases e0 : C.pTxt 6 data with
  | none => rw [nT_no e0] at hw; cases hw
  | some x =>
    obtain ⟨w, l0⟩ := x
    rw [nT_of e0] at hw h1
    simp only at hw h1
    subst hw
    simp only [if_true]
    cases e1 : C.pNum 0 128 l0 with
    | none =>
      rw [nN_no e1] at h1
      cases st2 with
      | none => rfl
      | some q => cases h1
    | some x =>
      obtain ⟨n, l1⟩ := x
      rw [nN_of e1] at h1
      simp only at h1
      rw [pMore_start, show ((n : Int)).toNat = n by omega] at h1
      cases e2 : C.pRep C.pSym n l1 with
      | none =>
        rw [e2] at h1
        simp only [e2]
        cases st2 with
        | none => rfl
        | some q => cases h1
      | some x =>
        obtain ⟨ss, l2⟩ := x
        rw [e2] at h1
        simp only [e2]
        cases st2 with
        | none => cases h1
        | some q =>
          simp only [Option.map_some, Option.some.injEq, Prod.mk.injEq] at h1
          obtain ⟨rfl, rfl⟩ := h1
          cases e3 : C.pNum 0 128 q with
          | none => rw [nN_no e3]; rfl
          | some x =>
            obtain ⟨m, l3⟩ := x
            rw [nN_of e3]
            simp only
            rw [pMore_start, show ((m : Int)).toNat = m by omega]
            cases C.pRep (C.pSec syms) m l3 with
            | none => rfl
            | some y => rfl
theorem obj_head {data : C.Bs} (hw : (nT 6 (some data)).1 ≠ C.wObject) : C.pObj data = none := by
  unfold C.pObj
  cases e0 : C.pTxt 6 data with
  | none => rfl
  | some x =>
    obtain ⟨w, l0⟩ := x
    rw [nT_of e0] at hw
    simp only
    rw [if_neg hw]
theorem dec_head {data : C.Bs} (hw : (nT 6 (some data)).1 ≠ C.wObject) : C.decB okN data = none := by
  unfold C.decB
  rw [obj_head hw]
  split <;> rfl
theorem dec_long {data : C.Bs} (h : ¬ data.length ≤ 65536) : C.decB okN data = none := by
  unfold C.decB
  rw [if_neg h]
theorem dec_none {data : C.Bs} (h : C.pObj data = none) : C.decB okN data = none := by
  unfold C.decB
  rw [h]
  split <;> rfl
theorem dec_good {data : C.Bs} {st : Option C.Bs} {o : C.Obj} (hl : data.length ≤ 65536) (h : st.map (fun q => (o, q)) = C.pObj data) (he : rdEnd st = true) (hc : C.checkB okN o = true) : C.decB okN data = some o ∧ C.encObj o = data := by
  cases st with
  | none => cases he
  | some q =>
    cases q with
    | cons x q => cases he
    | nil =>
      have h2 : C.decB okN data = some o := by
        unfold C.decB
        rw [if_pos hl, ← h]
        simp only [Option.map_some]
        rw [if_pos (by simp [hc])]
      exact ⟨h2, (C.decB_read okN h2).1.symm⟩
theorem dec_bad {data : C.Bs} {st : Option C.Bs} {o : C.Obj} (h : st.map (fun q => (o, q)) = C.pObj data) (he : rdEnd st = false ∨ C.checkB okN o = false) : C.decB okN data = none := by
  cases e : C.decB okN data with
  | none => rfl
  | some p =>
    obtain ⟨_, h1, _, h2⟩ := C.decB_read okN e
    rw [h2] at h
    cases st with
    | none => cases h
    | some q =>
      simp only [Option.map_some, Option.some.injEq, Prod.mk.injEq] at h
      obtain ⟨rfl, rfl⟩ := h
      rcases he with he | he
      · cases he
      · rw [h1] at he; cases he

end Go.Proofs.YtjimgkefacnamaaGreatDoor

/- Slices that the call builds, of elements that may point to other blocks of the call. For any program. -/
namespace Go.Proofs.YtjimgkefacnamaaGreatDoor
open Go.RowKit

/-- The blocks from base on that are there, but for the row of v. -/
def Bl (w : World) (base : Nat) (v : Value) : Nat → Prop := fun k => base ≤ k ∧ k < w.heap.size ∧ v.ownBlock ≠ some k
/-- The blocks that have come since w. -/
def New (w w' : World) : Nat → Prop := fun k => w.heap.size ≤ k ∧ k < w'.heap.size
/-- The slice v of n elements holds l, in a row of the call's own; what the elements point to lies in blocks from base on. -/
def OwnF {α : Type} (r : Rep α) (w : World) (base : Nat) (e : TypeId) (v : Value) (n : Nat) (l : List α) : Prop :=
  n = l.length ∧ ∃ xs, OwnAt w base e r.size v n xs ∧ Flat r w (Bl w base v) l xs
section
variable {α : Type} {r : Rep α} {w w' : World} {base n : Nat} {e : TypeId} {v : Value} {l : List α}
theorem OwnF.nil (r : Rep α) (w : World) (base : Nat) (e : TypeId) : OwnF r w base e (.slice none 0 0) 0 [] := ⟨rfl, [], OwnAt.nil _ _ _ _, rfl⟩
/-- Blocks below base are written, and new ones are made. -/
theorem OwnF.below (h : OwnF r w base e v n l) (hs : w.heap.size ≤ w'.heap.size) (hk : ∀ k, base ≤ k → k < w.heap.size → w'.heap[k]? = w.heap[k]?) : OwnF r w' base e v n l := by
  obtain ⟨hn, xs, ho, hf⟩ := h
  have hlow : ∀ g, v.ownBlock = some g → base ≤ g := by
    intro g hg
    obtain ⟨_, ⟨rfl, _⟩ | ⟨g', off, cap, cur, rfl, hb, _⟩⟩ := ho
    · simp [Value.ownBlock] at hg
    · simp [Value.ownBlock] at hg; omega
  exact ⟨hn, xs, ho.keep fun g hg hlt => hk g (hlow g hg) hlt, hf.keep (fun k hk => ⟨hk.1, Nat.lt_of_lt_of_le hk.2.1 hs, hk.2.2⟩) fun k hk' => hk k hk'.1 hk'.2.1⟩
theorem OwnF.ext (h : OwnF r w base e v n l) (he : Ext w w') : OwnF r w' base e v n l := h.below he.size fun k _ hk => he.block k hk
theorem OwnF.grownLow (h : OwnF r w base e v n l) {b : Nat} (hg : w.grownBy w' (some b)) (hb : b < base) : OwnF r w' base e v n l :=
  h.below hg.size fun k hk1 hk2 => hg.block k hk2 fun e => by have := Option.some.inj e; omega
/-- A row of a slice that was begun later is written. -/
theorem OwnF.grownHigh (h : OwnF r w base e v n l) {b : Nat} (hg : w.grownBy w' (some b)) (hb : w.heap.size ≤ b) : OwnF r w' base e v n l :=
  h.below hg.size fun k _ hk2 => hg.block k hk2 fun e => by have := Option.some.inj e; omega
theorem OwnF.form (h : OwnF r w base e v n l) : ∃ A c, v = .slice A n c ∧ n ≤ c ∧ c ≤ 9223372036854775807 := by
  obtain ⟨hn, xs, ⟨_, ⟨rfl, rfl⟩ | ⟨g, off, cap, cur, rfl, _, _, h1, h2, _⟩⟩, hf⟩ := h
  · exact ⟨none, 0, rfl, Nat.le_refl _, by decide⟩
  · exact ⟨_, cap, rfl, h1, h2⟩
/-- Its cells, in blocks from base on. -/
theorem OwnF.slice (h : OwnF r w base e v n l) : ∃ A c, v = .slice A n c ∧ SliceAt r w (fun k => base ≤ k ∧ k < w.heap.size) A c l := by
  obtain ⟨hn, xs, ho, hf⟩ := h
  have hf' : Flat r w (fun k => base ≤ k ∧ k < w.heap.size) l xs := hf.keep (fun k hk => ⟨hk.1, hk.2.1⟩) fun _ _ => rfl
  rcases Nat.eq_zero_or_pos n with h0 | h0
  · have hl : l = [] := List.eq_nil_of_length_eq_zero (by omega)
    subst hl
    obtain ⟨_, ⟨rfl, _⟩ | ⟨g, off, cap, cur, rfl, _, _, h1, h2, _⟩⟩ := ho
    · exact ⟨none, 0, by rw [h0], SliceAt.nil _ _ _ _ _ (by decide)⟩
    · exact ⟨_, cap, rfl, SliceAt.nil _ _ _ _ _ h2⟩
  · obtain ⟨g, off, cap, rfl, hb, hlt, hnc, hcap, hc⟩ := ho.cells h0
    exact ⟨_, cap, rfl, by omega, hcap, fun _ => ⟨g, off, rfl, ⟨hb, hlt⟩, hf'.row hc⟩⟩
/-- One element more, behind an append. -/
theorem OwnF.push {xs us : List Value} {v' : Value} {a : α} (hn : n = l.length) (hf : Flat r w (Bl w base v) l xs) (ha : r.is w (Bl w base v) a us)
    (ho : OwnAt w' base e r.size v' (n + 1) (xs ++ us)) (hg : w.grownBy w' v.ownBlock) (hv : v'.ownBlock = v.ownBlock ∨ ∃ g, v'.ownBlock = some g ∧ w.heap.size ≤ g ∧ g < w'.heap.size) : OwnF r w' base e v' (n + 1) (l ++ [a]) := by
  refine ⟨by simp [hn], xs ++ us, ho, ?_⟩
  have hs : ∀ k, Bl w base v k → Bl w' base v' k := by
    rintro k ⟨h1, h2, h3⟩
    refine ⟨h1, Nat.lt_of_lt_of_le h2 hg.size, ?_⟩
    rcases hv with hv | ⟨g, hv, h4, _⟩
    · rw [hv]; exact h3
    · rw [hv]
      intro e
      have := Option.some.inj e
      omega
  have hk : ∀ k, Bl w base v k → w'.heap[k]? = w.heap[k]? := fun k hk => hg.block k hk.2.1 fun e => hk.2.2 e.symm
  exact Flat.append (Flat.one (r.keep ha hs hk)) (hf.keep hs hk)
end
theorem SliceAt.sub {α : Type} {r : Rep α} {w : World} {B B' : Nat → Prop} {A : Option Addr} {c : Nat} {l : List α} (h : SliceAt r w B A c l) (hB : ∀ k, B k → B' k) : SliceAt r w B' A c l := h.keep hB fun _ _ => rfl
theorem SliceAt.grown {α : Type} {r : Rep α} {w w' : World} {b : Nat} {A : Option Addr} {c : Nat} {l : List α} (h : SliceAt r w (fun k => k < w.heap.size ∧ k ≠ b) A c l) (hg : w.grownBy w' (some b)) : SliceAt r w' (fun k => k < w'.heap.size ∧ k ≠ b) A c l :=
  h.keep (fun _ hk => ⟨Nat.lt_of_lt_of_le hk.1 hg.size, hk.2⟩) fun k hk => hg.block k hk.1 fun e => hk.2 (Option.some.inj e)
theorem Ext.grownNew {a b c : World} (h : Ext a b) {g : Nat} (hg : a.heap.size ≤ g) (k : b.grownBy c (some g)) : Ext a c := Below.grown h k h.size fun _ hk => by cases hk; exact hg

end Go.Proofs.YtjimgkefacnamaaGreatDoor

/- A region that draws its order and ends in operations whose order is forced: the head walked once in the text's order, then the tail. For any program. -/
namespace Go.Proofs.YtjimgkefacnamaaGreatDoor
open Go.RowKit

section
variable {P : Program} {ops : Array Oper} {md : Region.Mode} {C : World → Prop} {E : List Nat}

def wpAnyT (P : Program) (md : Region.Mode) (ops : Array Oper) (C : World → Prop) (E : List Nat) (n : Nat) (L : Array Bool → Act → World → Prop) : Nat → Array Bool → Act → World → Prop
  | 0, listed, a, w => L listed a w
  | fuel + 1, listed, a, w =>
    Region.ready md ops listed ≠ [] ∧ ∀ i ∈ Region.ready md ops listed, i < n ∧ xOp P ops C E i (wpAnyT P md ops C E n L fuel (listed.setIfInBounds i true)) a w

theorem T_first {n i : Nat} {oi : Oper} {L : Array Bool → Act → World → Prop} (hi : ops[i]? = some oi) (hsel : ∀ (j : Nat) (o : Oper) cs b, ops[j]? = some o → o.op ≠ .select cs b)
    (hs : Region.sinkB md ops n = true) (hc : Region.chainB md ops n = true) (hn : n < ops.size) (hin : i < n)
    (hdone : ∀ listed a w, L listed a w → ∀ j ∈ Region.ready md ops listed, n ≤ j) :
    ∀ (fuel : Nat) (listed : Array Bool) (a : Act) (w : World), C w → HeadInv md ops n listed →
      (∀ j oj, ops[j]? = some oj → j ≠ i → listed.getD j true = false → (∀ e ∈ oj.after, Region.binds md e = true → e.on ≠ i) → oi.apart ops oj = true) →
      (i ∈ E → ∀ j, j ∈ E → j ≠ i → listed.getD j true = false → j ∈ waiters md ops i ops.size) →
      i ∈ Region.ready md ops listed → xOp P ops C E i (wpAnyT P md ops C E n L fuel (listed.setIfInBounds i true)) a w → wpAnyT P md ops C E n L (fuel + 1) listed a w := by
  intro fuel
  induction fuel with
  | zero =>
    intro listed a w _ inv _ _ hr H
    have hun := (mem_ready.1 hr).1
    refine ⟨fun h => (by rw [h] at hr; cases hr), fun j hj => ?_⟩
    have hjn : j < n := by
      rcases Nat.lt_or_ge j n with h | h
      · exact h
      · exact absurd hj (tail_waits hs hc hn inv _ i rfl hin hun j h)
    refine ⟨hjn, ?_⟩
    by_cases hji : j = i
    · subst hji; exact H
    · obtain ⟨a', w', h0⟩ := xOp_some H
      have := hdone _ _ _ h0 j (ready_mono hj hji)
      omega
  | succ fuel ih =>
    intro listed a w hC inv hfree heff hr H
    have hun := (mem_ready.1 hr).1
    refine ⟨fun h => (by rw [h] at hr; cases hr), fun j hj => ?_⟩
    have hjn : j < n := by
      rcases Nat.lt_or_ge j n with h | h
      · exact h
      · exact absurd hj (tail_waits hs hc hn inv _ i rfl hin hun j h)
    refine ⟨hjn, ?_⟩
    by_cases hji : j = i
    · subst hji; exact H
    · obtain ⟨hjun, oj, hoj, hall⟩ := mem_ready.1 hj
      have hif : listed.getD i false = false := getD_both hun
      have hnot : ∀ e ∈ oj.after, Region.binds md e = true → e.on ≠ i := fun e he hb heq => by
        have h1 := hall e he hb
        rw [heq, hif] at h1
        cases h1
      have hE : ¬ (i ∈ E ∧ j ∈ E) := fun ⟨h1, h2⟩ => by
        have := waiters_spec inv.closed _ j oj hoj (heff h1 j h2 hji hjun) hall
        rw [hif] at this
        cases this
      have h1 : xOp P ops C E i (fun a1 w1 => xOp P ops C E j (wpAnyT P md ops C E n L fuel ((listed.setIfInBounds i true).setIfInBounds j true)) a1 w1) a w :=
        xOp_mono hC (fun a1 w1 _ h => (h.2 j (ready_mono hj hji)).2) H
      have h2 := xOp_swap hi hoj (hfree j oj hoj hji hjun hnot) (fun cs b => hsel i oi cs b hi) (fun cs b => hsel j oj cs b hoj) hE hC h1
      refine xOp_mono hC (fun a1 w1 hC1 h3 => ih (listed.setIfInBounds j true) a1 w1 hC1 (inv.set hj hjn) ?_ ?_ (ready_mono hr (Ne.symm hji)) ?_) h2
      · intro k ok hk hki hun' hno
        refine hfree k ok hk hki ?_ hno
        by_cases hjk : j = k
        · subst hjk; exact hjun
        · rw [getD_set_ne true hjk] at hun'; exact hun'
      · intro h1 k hk hki hun'
        refine heff h1 k hk hki ?_
        by_cases hjk : j = k
        · subst hjk; exact hjun
        · rw [getD_set_ne true hjk] at hun'; exact hun'
      · rw [Array.setIfInBounds_comm _ _ hji]
        exact h3

theorem wpAnyT_lex {n g : Nat} {R : Act → World → Prop} (hsel : Region.noSelect ops = true) (hE : effOk md ops E = true) (hs : Region.sinkB md ops n = true) (hc : Region.chainB md ops n = true) (hn : n < ops.size) :
    ∀ (l : List Oper) (k : Nat) (listed : Array Bool) (a : Act) (w : World), C w → (∀ j, j < k → listed.getD j true = true) → (∀ j, j < l.length → l[j]? = ops[k + j]?) → k + l.length = n → HeadInv md ops n listed →
    Region.lexHead md ops g l.length k listed = true → wpLex P ops C E R k l a w →
    wpAnyT P md ops C E n (fun listed' a' w' => Region.seqB md ops g n listed' = true ∧ R a' w') l.length listed a w
  | [], k, listed, a, w, _, _, _, hk, _, hB, h => by
    have : k = n := by simpa using hk
    subst this
    exact ⟨by simpa [Region.lexHead] using hB, h⟩
  | o :: l, k, listed, a, w, hC, hlt, hl, hk, inv, hB, h => by
    have h0 : ops[k]? = some o := by simpa using (hl 0 (by simp)).symm
    simp only [List.length_cons, Region.lexHead, Bool.and_eq_true] at hB
    obtain ⟨⟨hr, hf⟩, hB'⟩ := hB
    have hkn : k < n := by simp only [List.length_cons] at hk; omega
    have hr' : k ∈ Region.ready md ops listed := by simpa using hr
    refine T_first h0 (Region.noSelect_spec hsel) hs hc hn hkn (fun listed' a' w' hL => seqB_ready hL.1) l.length listed a w hC inv (Region.free_spec h0 hf) ?_ hr' ?_
    · intro hk j hj hjk hun
      have h1 := List.all_eq_true.1 (List.all_eq_true.1 hE k hk) j hj
      simp only [Bool.or_eq_true, decide_eq_true_eq, List.contains_iff_mem] at h1
      rcases h1 with h1 | h1
      · rw [hlt j (by omega)] at hun; cases hun
      · exact h1
    · have hx : xOp P ops C E k (wpLex P ops C E R (k + 1) l) a w := by unfold xOp; simp only [h0]; exact h
      refine xOp_mono hC (fun a1 w1 hC1 h1 => wpAnyT_lex hsel hE hs hc hn l (k + 1) _ a1 w1 hC1 ?_ (fun j hj => by have := hl (j + 1) (by simp; omega); simpa [Nat.add_assoc, Nat.add_comm 1 j] using this) (by simp only [List.length_cons] at hk; omega) (inv.set hr' hkn) hB' h1) hx
      intro j hj
      by_cases hjk : k = j
      · subst hjk
        rcases Nat.lt_or_ge k listed.size with h' | h'
        · simp [h']
        · simp
      · rw [getD_set_ne true hjk]; exact hlt j (by omega)

theorem wpAny_of_T {n g : Nat} {L : Array Bool → Act → World → Prop} {Q : Exit → Act → World → Prop} (hL : ∀ listed a w, L listed a w → wpAny P md ops Q g listed a w) :
    ∀ (f : Nat) (listed : Array Bool) (a : Act) (w : World), C w → wpAnyT P md ops C E n L f listed a w → wpAny P md ops Q (f + g) listed a w
  | 0, listed, a, w, _, h => by rw [Nat.zero_add]; exact hL _ _ _ h
  | f + 1, listed, a, w, hC, h => by
    rw [show f + 1 + g = (f + g) + 1 by omega]
    refine ⟨fun h0 => absurd h0 h.1, fun i hi => ?_⟩
    have hx := (h.2 i hi).2
    unfold xOp at hx
    unfold wpOp
    split
    · rename_i ho; simp only [ho] at hx; exact wpAny_of_T hL f _ _ _ hC hx
    · rename_i o ho
      simp only [ho] at hx
      split
      · rename_i hw
        simp only [hw, if_true] at hx
        left
        split at hx
        · exact wp_exits (Oper.wp_mono (fun a' w' ⟨h1, h2⟩ => wpAny_of_T hL f _ a' w' h1 h2) hx)
        · obtain ⟨v, hv, hx⟩ := hx
          have hv := hv _ hC
          unfold pureAt at hv
          unfold Oper.wp
          generalize (execOp _ o).run P _ = r at hv ⊢
          cases r with
          | ok n w' =>
            cases n <;> simp only [pureUpon] at hv <;> simp only [Oper.upon]
            case value u => obtain ⟨rfl, rfl⟩ := hv; exact wpAny_of_T hL f _ _ _ hC hx
            case skip => obtain ⟨rfl, rfl⟩ := hv; exact wpAny_of_T hL f _ _ _ hC hx
          | halt _ _ => simp only [pureUpon] at hv
      · rename_i hw
        simp only [hw] at hx
        exact wpAny_of_T hL f _ _ _ hC hx

theorem wp_region_tail {id : Nat} {Q : Exit → Act → World → Prop} {a : Act} {w : World} {l : List Oper} (n : Nat) (E : List Nat) (Φ : World → Prop) (h0 : Φ w.drew) (hm : P.follows .mixedOrders = true) (hB : Region.lexTailB .any l.toArray n = true) (hE : effOk .any l.toArray E = true)
    (h : wpLex P l.toArray (fun w' => ∃ x : Lat Φ, w' = x.w') E (fun a' w' => wpList P l.toArray Q (l.drop n) a' w') 0 (l.take n) a w.drew) : (Code.region id l.toArray true).wp P Q a w := by
  have hC : (fun w' => ∃ x : Lat Φ, w' = x.w') w.drew := ⟨⟨w.drew, h0⟩, rfl⟩
  simp only [Region.lexTailB, Bool.and_eq_true, decide_eq_true_eq] at hB
  obtain ⟨⟨⟨⟨hsel, hn⟩, hs⟩, hc⟩, hlex⟩ := hB
  have hn' : n < l.length := by simpa using hn
  have htl : (l.take n).length = n := by simp; omega
  have hdl : (l.drop n).length = l.toArray.size - n := by simp
  have inv0 : HeadInv .any l.toArray n (Array.replicate l.toArray.size false) :=
    ⟨by simp, fun j oj _ hl => (by rw [getD_replicate_false] at hl; cases hl), fun t _ ht => getD_in (by simpa using ht) (getD_replicate_false _ _)⟩
  have H := wpAnyT_lex (P := P) (md := .any) (g := l.toArray.size - n) hsel hE hs hc hn (l.take n) 0 _ a w.drew hC (fun j hj => absurd hj (Nat.not_lt_zero _)) (fun j hj => by
    have hj' : j < n := by rw [htl] at hj; exact hj
    simp [hj']) (by simpa using htl) inv0 (by rw [htl]; exact hlex) h
  refine wp_region_any hm ?_
  have := wpAny_of_T (Q := Q) (g := l.toArray.size - n) (fun listed a' w' hL => by
    have := wpAny_of_seq (md := .any) (Q' := Q) (l.drop n) n listed a' w' (fun j => by simp [List.getElem?_drop]) (by rw [hdl]; exact hL.1) hL.2
    rwa [hdl] at this) _ _ _ _ hC H
  rw [htl, show n + (l.toArray.size - n) = l.toArray.size by omega] at this
  exact this
end

end Go.Proofs.YtjimgkefacnamaaGreatDoor
