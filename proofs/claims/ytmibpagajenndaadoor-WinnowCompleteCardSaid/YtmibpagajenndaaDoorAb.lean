/- Shared: a map of places, then the pairs. -/
import Derived.Test.YtmibpagajenndaaDoorU
import Derived.Test.YtmibpagajenndaaDoorLexT
import Derived.Maps.OwnRows
import Derived.Maps.Views
namespace Go.Proofs.YtmibpagajenndaaDoor
open Go.RowKit Go.Maps Go.ChangeShapes Go.ChangeMaps

def PrWf (l : List (Int × Int)) : Prop := ∀ j, j < l.length → (Lit.int .i64 (hh l j)).wf = true ∧ (Lit.int .i64 (pp l j)).wf = true
theorem PrWf.of_slice {w : World} {S : Nat → Prop} {A : Option Addr} {c : Nat} {l : List (Int × Int)} (h : SliceAt prR w S A c l) : PrWf l := by
  obtain ⟨h1, h2, h3⟩ := h
  intro j hj
  obtain ⟨b, off, hA, _, hr⟩ := h3 (List.length_pos_iff.1 (by omega))
  obtain ⟨us, hu, hc⟩ := hr j hj
  obtain ⟨x, y, rfl, ⟨rfl, g1⟩, rfl, g2⟩ := hu
  rw [hh_get _ _ hj] at g1
  rw [pp_get _ _ hj] at g2
  exact ⟨g1, g2⟩

/-- What the map reads as, when the first k fingerprints are in it. -/
def rowD (zs : List Int) : DataW Unit := if zs = [] then .nil else .slice (lits .i64 zs) []
def grp (b : List (Int × Int)) : Nat → DataW Unit
  | 0 => .map []
  | k + 1 => (grp b k).put (.int .i64 (hh b k)) (.slice (lits .i64 (col b (hh b k) (k + 1))) [])
theorem grp_map (b : List (Int × Int)) : ∀ k, IsMap (grp b k)
  | 0 => isMap_empty
  | k + 1 => (grp_map b k).put _ _
theorem grp_at (b : List (Int × Int)) (h : Int) : ∀ k, (grp b k).atKey (.int .i64 h) .nil = rowD (col b h k)
  | 0 => rfl
  | k + 1 => by
    rw [grp]
    by_cases e : hh b k = h
    · subst e
      rw [atKey_put_same (grp_map b k) (show Go.WideAt.IsKeyLit (Lit.int .i64 _) from trivial)]
      unfold rowD
      rw [if_neg (by rw [col, if_pos rfl]; simp)]
    · rw [atKey_put_other (by intro h'; cases h'; exact e rfl), grp_at b h k, col, if_neg e, List.append_nil]
theorem lits_inj {q : IntKind} {x y : List Int} (h : (lits q x : List (DataW Unit)) = lits q y) : x = y := by
  unfold lits at h
  exact (List.map_inj_right (fun a b hab => by cases hab; rfl)).1 h
theorem zs_of {w : World} {base : Nat} {v : Value} {zs : List Int} {b : List (Int × Int)} {h : Int} {k : Nat} (ho : w.ownsInts base 3 .i64 v zs) (hat : (grp b k).atKey (.int .i64 h) .nil = rowDatum .i64 v zs) : zs = col b h k := by
  rw [grp_at] at hat
  unfold rowD at hat
  rcases ho.datum (H := Unit) with ⟨e, rfl⟩ | e
  · rw [e] at hat
    split at hat
    · rename_i h0; exact h0.symm
    · cases hat
  · rw [e] at hat
    split at hat
    · cases hat
    · exact (lits_inj (DataW.slice.inj hat).1).symm

theorem Ext.grownBy {w w' : World} (he : Ext w w') : w.grownBy w' none := ⟨he.os, he.tape, he.output, he.size, fun i hi _ => he.block i hi⟩
theorem groups_ext {w w' : World} {H : Type} {P : Program} {k : TypeId} {base : Nat} {e : TypeId} {q : IntKind} {b n : Nat} {D : DataW H} (h : w.ownsGroups P k base e q b n D) (he : Ext w w') : w'.ownsGroups P k base e q b n D := by
  obtain ⟨es, clock, hb, F, hs, hD, hbb, hlen, hap⟩ := h
  have hblt : b < w.heap.size := (Array.getElem?_eq_some_iff.1 hb).1
  have own_ext : ∀ {v : Value} {zs : List Int}, w.ownsInts base e q v zs → w'.ownsInts base e q v zs := by
    intro v zs ho
    exact ho.kept he.grownBy (by cases v.ownBlock <;> simp)
  obtain ⟨F', hmap, _⟩ := F.stay (R' := rowElem w' base e q) (fun x hx z hz => by obtain ⟨zs, ho, rfl⟩ := rowElem_inv hz; exact rowElem_mk (own_ext ho))
  refine ⟨es, clock, (he.block b hblt).trans hb, F', hs, by rw [hD, hmap], hbb, fun x hx zs ho => ?_, hap⟩
  obtain ⟨y, hy⟩ := F.reads x hx
  obtain ⟨z, hz, _⟩ := Go.WideElems.rd_val hy
  obtain ⟨zs', ho', _⟩ := rowElem_inv hz
  rw [ho.unique (own_ext ho')]
  exact hlen x hx zs' ho'

theorem zero22 (w : World) : (zeroValue 53).run Tryd.prog w = .ok (.slice none 0 0) w := by kernel_rfl
theorem findNow_int (h : Int) : ∀ (es : List MapEntry) (i : Nat), (∀ e ∈ es, ∃ n, e.key = .int .i64 n) → ∃ r, Instr.findNow (.int .i64) (.int .i64 h) es i = some r
  | [], _, _ => ⟨_, rfl⟩
  | e :: es, i, hk => by
    obtain ⟨n, hn⟩ := hk e (by simp)
    obtain ⟨r, hr⟩ := findNow_int h es (i + 1) fun x hx => hk x (by simp [hx])
    unfold Instr.findNow
    rw [hn]
    simp only [Instr.sameNow, if_true]
    cases hq : h == n
    · exact ⟨r, hr⟩
    · exact ⟨_, rfl⟩
theorem lookup_any (es : Array MapEntry) (h : Int) (b : Nat) (hwf : (Lit.int .i64 h).wf = true) (hk : ∀ e ∈ es.toList, ∃ n, e.key = .int .i64 n) :
    ∃ v, ∀ (x : World) (clock : Nat), x.heap[b]? = some (.map es clock) → (Instr.lookup 64 (.map (some b)) (.int .i64 h) false).run Tryd.prog x = .ok v x := by
  obtain ⟨r, hr⟩ := findNow_int h es.toList 0 hk
  have hkey := keyOf_int_mk Tryd.underlying3 hwf
  cases r with
  | none =>
    refine ⟨.slice none 0 0, fun x clock hx => ?_⟩
    have hz := zero22 x
    simp [Instr.lookup, run_underlying Tryd.underlying64, MapKept.run_getObj_map hx, law3.check x _ hkey, Instr.findKey, run_underlying Tryd.underlying3, hr, hz, Result.andThen]
  | some r => exact ⟨r.2, fun x clock hx => by simp [Instr.lookup, run_underlying Tryd.underlying64, MapKept.run_getObj_map hx, law3.check x _ hkey, Instr.findKey, run_underlying Tryd.underlying3, hr, Result.andThen]⟩

end Go.Proofs.YtmibpagajenndaaDoor
