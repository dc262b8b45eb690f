/- Slices that the call itself made, at any place of their rows; append to them. For any program. -/
import Derived.Test.YtmibpagajenndaaDoorRep
import Derived.ArgAppend
import Derived.Maps.AppendAt
namespace Go.Proofs.YtmibpagajenndaaDoor
open Go.RowKit

/-- The values vs from place o on. -/
def setArr (cur : Array Value) : Nat → List Value → Array Value
  | _, [] => cur
  | o, v :: vs => setArr (cur.setIfInBounds o v) (o + 1) vs
theorem setArr_size : ∀ (vs : List Value) (cur : Array Value) (o : Nat), (setArr cur o vs).size = cur.size
  | [], _, _ => rfl
  | v :: vs, cur, o => by rw [setArr, setArr_size vs]; simp
theorem setArr_lt : ∀ (vs : List Value) (cur : Array Value) (o j : Nat), j < o → (setArr cur o vs)[j]? = cur[j]?
  | [], _, _, _, _ => rfl
  | v :: vs, cur, o, j, h => by
    rw [setArr, setArr_lt vs _ _ _ (by omega), Array.getElem?_setIfInBounds_ne (by omega)]
theorem setArr_in : ∀ (vs : List Value) (cur : Array Value) (o j : Nat), j < vs.length → o + vs.length ≤ cur.size → (setArr cur o vs)[o + j]? = vs[j]?
  | [], _, _, _, h, _ => absurd h (Nat.not_lt_zero _)
  | v :: vs, cur, o, 0, _, h2 => by
    simp only [List.length_cons] at h2
    rw [setArr, setArr_lt vs _ _ _ (by omega)]
    show (cur.setIfInBounds o v)[o]? = some v
    rw [Array.getElem?_setIfInBounds_self_of_lt (by omega)]
  | v :: vs, cur, o, j + 1, h1, h2 => by
    simp only [List.length_cons] at h1 h2
    rw [setArr, show o + (j + 1) = o + 1 + j by omega, setArr_in vs _ _ _ (by omega) (by simp; omega)]
    rfl
theorem heap_setCells_at (b : Nat) : ∀ (vs : List Value) (o : Nat) (w : World) (cur : Array Value) (e : TypeId), w.heap[b]? = some (.cells cur e (0, 0)) → (w.setCells b o vs).heap[b]? = some (.cells (setArr cur o vs) e (0, 0))
  | [], _, _, _, _, h => h
  | v :: vs, o, w, cur, e, h => by
    refine heap_setCells_at b vs (o + 1) (w.setCell ⟨b, o, none⟩ v) (cur.setIfInBounds o v) e ?_
    simp [World.setCell, Array.getElem?_modify, h]
theorem grownBy_setCells (b : Nat) : ∀ (vs : List Value) (o : Nat) (w : World), w.grownBy (w.setCells b o vs) (some b)
  | [], _, w => World.grownBy.refl w _
  | v :: vs, o, w => by
    have h := grownBy_setCells b vs (o + 1) (w.setCell ⟨b, o, none⟩ v)
    refine ⟨h.os, h.tape, h.output, ?_, fun k hk hne => ?_⟩
    · exact Nat.le_trans (by simp [World.setCell]) h.size
    · have h2 := h.block k (by simpa [World.setCell] using hk) hne
      refine h2.trans (Below.heap_setCell _ _ _ _ ?_)
      rintro rfl
      exact hne rfl

/-- The slice value v of n elements holds the cells xs in a row of the call's own (from block 'base' on), with its spare room behind them; or it is nil. -/
def OwnAt (w : World) (base : Nat) (e : TypeId) (size : Nat) (v : Value) (n : Nat) (xs : List Value) : Prop :=
  xs.length = n * size ∧
  ((v = .slice none 0 0 ∧ n = 0) ∨
   ∃ g off cap cur, v = .slice (some ⟨g, off, none⟩) n cap ∧ base ≤ g ∧ w.heap[g]? = some (.cells cur e (0, 0)) ∧ n ≤ cap ∧ cap ≤ 9223372036854775807 ∧ off + cap * size ≤ cur.size ∧ ∀ j, j < n * size → cur[off + j]? = xs[j]?)

theorem OwnAt.nil (w : World) (base : Nat) (e : TypeId) (size : Nat) : OwnAt w base e size (.slice none 0 0) 0 [] := ⟨by simp, .inl ⟨rfl, rfl⟩⟩
theorem OwnAt.keep {w w' : World} {base : Nat} {e : TypeId} {size : Nat} {v : Value} {n : Nat} {xs : List Value} (h : OwnAt w base e size v n xs)
    (hk : ∀ g, v.ownBlock = some g → g < w.heap.size → w'.heap[g]? = w.heap[g]?) : OwnAt w' base e size v n xs := by
  obtain ⟨h1, h2 | ⟨g, off, cap, cur, rfl, hb, hh, r⟩⟩ := h
  · exact ⟨h1, .inl h2⟩
  · have hlt : g < w.heap.size := by
      rcases Nat.lt_or_ge g w.heap.size with h | h
      · exact h
      · rw [Array.getElem?_eq_none h] at hh; cases hh
    exact ⟨h1, .inr ⟨g, off, cap, cur, rfl, hb, (hk g rfl hlt).trans hh, r⟩⟩
theorem OwnAt.ext {w w' : World} {base : Nat} {e : TypeId} {size : Nat} {v : Value} {n : Nat} {xs : List Value} (h : OwnAt w base e size v n xs) (he : Ext w w') : OwnAt w' base e size v n xs :=
  h.keep fun g _ hg => he.block g hg
theorem OwnAt.dr {w w' : World} {base : Nat} {e : TypeId} {size : Nat} {v : Value} {n : Nat} {xs : List Value} (h : OwnAt w base e size v n xs) (he : Dr w w') : OwnAt w' base e size v n xs := h.ext he.ext
theorem OwnAt.alloc {w : World} {base : Nat} {e : TypeId} {size : Nat} {v : Value} {n : Nat} {xs : List Value} (h : OwnAt w base e size v n xs) (o : Obj) : OwnAt (w.alloc o) base e size v n xs := h.ext ((Ext.refl w).alloc o)
theorem OwnAt.grown {w w' : World} {base : Nat} {e : TypeId} {size : Nat} {v u : Value} {n : Nat} {xs : List Value} (h : OwnAt w base e size v n xs) (hg : w.grownBy w' u.ownBlock)
    (hne : ∀ g, v.ownBlock = some g → u.ownBlock ≠ some g) : OwnAt w' base e size v n xs :=
  h.keep fun g hv hlt => hg.block g hlt (fun e => hne g hv e.symm)
theorem OwnAt.of_row {w : World} {base : Nat} {e : TypeId} {size : Nat} {v : Value} {n : Nat} {xs : List Value} (h : w.ownsRow base e size v n xs) : OwnAt w base e size v n xs := by
  obtain ⟨h1, h2 | ⟨g, cap, cur, rfl, hb, hh, hn, hc, hs, ht⟩⟩ := h
  · exact ⟨h1, .inl h2⟩
  · refine ⟨h1, .inr ⟨g, 0, cap, cur, rfl, hb, hh, hn, by unfold maxLen at hc; omega, by omega, fun j hj => ?_⟩⟩
    rw [← ht, List.getElem?_take_of_lt hj]
    simp
theorem OwnAt.mono {w : World} {base base' : Nat} {e : TypeId} {size : Nat} {v : Value} {n : Nat} {xs : List Value} (h : OwnAt w base e size v n xs) (hb : base' ≤ base) : OwnAt w base' e size v n xs := by
  obtain ⟨h1, h2 | ⟨g, off, cap, cur, rfl, hg, r⟩⟩ := h
  · exact ⟨h1, .inl h2⟩
  · exact ⟨h1, .inr ⟨g, off, cap, cur, rfl, by omega, r⟩⟩
/-- Its cells, where it has any. -/
theorem OwnAt.cells {w : World} {base : Nat} {e : TypeId} {size : Nat} {v : Value} {n : Nat} {xs : List Value} (h : OwnAt w base e size v n xs) (hn : 0 < n) :
    ∃ g off cap, v = .slice (some ⟨g, off, none⟩) n cap ∧ base ≤ g ∧ g < w.heap.size ∧ n ≤ cap ∧ cap ≤ 9223372036854775807 ∧ ∀ j u, xs[j]? = some u → w.cell? ⟨g, off + j, none⟩ = some u := by
  obtain ⟨h1, ⟨rfl, rfl⟩ | ⟨g, off, cap, cur, rfl, hb, hh, hnc, hc, hs, hx⟩⟩ := h
  · omega
  · refine ⟨g, off, cap, rfl, hb, ?_, hnc, hc, fun j u hj => ?_⟩
    · rcases Nat.lt_or_ge g w.heap.size with h | h
      · exact h
      · rw [Array.getElem?_eq_none h] at hh; cases hh
    · have hj' : j < n * size := by
        rcases Nat.lt_or_ge j xs.length with h | h
        · omega
        · rw [List.getElem?_eq_none h] at hj; cases hj
      rw [cell_of_row w g _ cur e (0, 0) hh, hx j hj', hj]

theorem Ext.grown {a b b' c : World} {e : TypeId} {size : Nat} {v : Value} {n : Nat} {xs : List Value} (h : Ext a b) (ho : OwnAt b' a.heap.size e size v n xs) (hg : b.grownBy c v.ownBlock) : Ext a c := by
  refine Below.grown h hg h.size fun k hk => ?_
  obtain ⟨_, ⟨rfl, _⟩ | ⟨g, off, cap, cur, rfl, hb, _⟩⟩ := ho
  · simp [Value.ownBlock] at hk
  · simp [Value.ownBlock] at hk; omega

section
variable {P : Program} (w : World)

theorem run_append_ownAt (base : Nat) (t ty e : TypeId) (i : TypeInfo) (z : Value) (size bytes : Nat) (ht : P.underlying t = some (.slice e)) (hi : P.info? e = some i) (hz : i.zero = some z)
    (hsize : i.size = size) (hby : i.bytes = bytes) (hzs : z.cells.size = size) (hsz : 0 < size)
    (v : Value) (n : Nat) (xs : List Value) (hown : OwnAt w base e size v n xs)
    (ad : Addr) (m c : Nat) (news : List Value) (hl : news.length = m * size) (hnews : ∀ j u, news[j]? = some u → w.cell? (ad.add j) = some u) (h1 : ∀ u ∈ news, u.oneCell' = true)
    (h63 : n + m ≤ maxLen) (hbytes : (n + m) * bytes ≤ 140737488355328) (hbase : base ≤ w.heap.size) (hm : 0 < m) :
    ∃ v' w', (Builtin.append_ #[t, t] ty #[v, .slice (some ad) m c]).run P w = .ok v' w' ∧ OwnAt w' base e size v' (n + m) (xs ++ news) ∧ w.grownBy w' v.ownBlock ∧
      OwnAt w' base e size v n xs ∧ (v'.ownBlock = v.ownBlock ∨ ∃ g, v'.ownBlock = some g ∧ w.heap.size ≤ g ∧ g < w'.heap.size) := by
  obtain ⟨hx1, ⟨rfl, rfl⟩ | ⟨g, off, cap, cur, rfl, hb, hh, hnc, hc, hs, hx⟩⟩ := hown
  · have hxs : xs = [] := List.eq_nil_of_length_eq_zero (by simpa using hx1)
    subst hxs
    obtain ⟨v', w', hrun, h2, h3, h4⟩ := run_append_own (P := P) w w.heap.size t ty e i z size bytes ht hi hz hsize hby hzs hsz (.slice none 0 0) 0 [] ⟨by simp, .inl ⟨rfl, rfl⟩⟩ ad m c news hl hnews h1 h63 hbytes (Nat.le_refl _)
    refine ⟨v', w', hrun, (OwnAt.of_row h2).mono hbase, h3, ⟨by simp, .inl ⟨rfl, rfl⟩⟩, .inr ?_⟩
    obtain ⟨k1, ⟨_, k2⟩ | ⟨g, cap, cur, rfl, hg, hh, _⟩⟩ := h2
    · omega
    · exact ⟨g, rfl, hg, by
        rcases Nat.lt_or_ge g w'.heap.size with h | h
        · exact h
        · rw [Array.getElem?_eq_none h] at hh; cases hh⟩
  · by_cases hroom : n + m ≤ cap
    · subst hsize
      have hcapm : (n + m) * i.size ≤ cap * i.size := Nat.mul_le_mul_right _ hroom
      have hadd : (n + m) * i.size = n * i.size + m * i.size := Nat.add_mul _ _ _
      have hcell : ∀ j, j < news.length → (w.cell? ⟨g, off + n * i.size + j, none⟩).isSome = true := by
        intro j hj
        rw [cell_of_row w g _ cur e (0, 0) hh]
        simp
        omega
      have hfro : ∀ j, j < news.length → w.frozen? ⟨g, off + n * i.size + j, none⟩ = false := by
        intro j hj
        simp [World.frozen?, hh]
      have hrun := run_append_room_cells (P := P) w t ty e i ht hi g off n cap ad m c news hl hnews h1 hroom hcell hfro
      refine ⟨_, _, hrun, ⟨by rw [List.length_append, hx1, hl, Nat.add_mul], .inr ⟨g, off, cap, _, rfl, hb, heap_setCells_at g news _ w cur e hh, hroom, hc, by rw [setArr_size]; exact hs, fun j hj => ?_⟩⟩, grownBy_setCells g news _ w,
        ⟨hx1, .inr ⟨g, off, cap, _, rfl, hb, heap_setCells_at g news _ w cur e hh, hnc, hc, by rw [setArr_size]; exact hs, fun j hj => by rw [setArr_lt _ _ _ _ (by omega)]; exact hx j hj⟩⟩, .inl rfl⟩
      by_cases hj1 : j < n * i.size
      · rw [setArr_lt _ _ _ _ (by omega), hx j hj1, List.getElem?_append_left (by omega)]
      · obtain ⟨q, rfl⟩ : ∃ q, j = n * i.size + q := ⟨j - n * i.size, by omega⟩
        rw [show off + (n * i.size + q) = off + n * i.size + q by omega, setArr_in _ _ _ _ (by omega) (by omega), List.getElem?_append_right (by omega)]
        congr 1
        omega
    · obtain ⟨v', w', hrun, h2, h3⟩ := run_append_arg_grows (P := P) w t ty e i z size bytes ht hi hz hsize hby hzs hsz ⟨g, off, none⟩ n cap xs hx1
        (fun j u hj => by
          have hj' : j < n * size := by
            rcases Nat.lt_or_ge j xs.length with h | h
            · omega
            · rw [List.getElem?_eq_none h] at hj; cases hj
          rw [Addr.add_lit, cell_of_row w g _ cur e (0, 0) hh, hx j hj', hj])
        ad m c news hl hnews (by omega) h63 hbytes
      refine ⟨v', w', hrun, (OwnAt.of_row h2).mono hbase, ⟨h3.os, h3.tape, h3.output, h3.size, fun k hk _ => h3.block k hk (by simp)⟩, ?_, .inr ?_⟩
      · refine ⟨hx1, .inr ⟨g, off, cap, cur, rfl, hb, (h3.block g ?_ (by simp)).trans hh, hnc, hc, hs, hx⟩⟩
        rcases Nat.lt_or_ge g w.heap.size with h | h
        · exact h
        · rw [Array.getElem?_eq_none h] at hh; cases hh
      obtain ⟨k1, ⟨_, k2⟩ | ⟨g', cap', cur', rfl, hg, hh', _⟩⟩ := h2
      · omega
      · exact ⟨g', rfl, hg, by
          rcases Nat.lt_or_ge g' w'.heap.size with h | h
          · exact h
          · rw [Array.getElem?_eq_none h] at hh'; cases hh'⟩

theorem wp_append_ownAt {o : Oper} {a : Act} {K : Act → World → Prop} {Q : Exit → Act → World → Prop} (s x : Operand) (t : TypeId)
    (ho : o.op = .call { callee := .builtin .append, args := #[s, x], argTypes := #[t, t] })
    (base : Nat) (e : TypeId) (i : TypeInfo) (z : Value) (size bytes : Nat) (ht : P.underlying t = some (.slice e)) (hi : P.info? e = some i) (hz : i.zero = some z)
    (hsize : i.size = size) (hby : i.bytes = bytes) (hzs : z.cells.size = size) (hsz : 0 < size)
    (v : Value) (n : Nat) (xs : List Value) (hs : a.eval s = v) (hown : OwnAt w base e size v n xs)
    (ad : Addr) (m c : Nat) (news : List Value) (hx : a.eval x = .slice (some ad) m c) (hl : news.length = m * size) (hnews : ∀ j u, news[j]? = some u → w.cell? (ad.add j) = some u) (h1 : ∀ u ∈ news, u.oneCell' = true)
    (h63 : n + m ≤ maxLen) (hbytes : (n + m) * bytes ≤ 140737488355328) (hbase : base ≤ w.heap.size) (hm : 0 < m)
    (h : ∀ v' w', OwnAt w' base e size v' (n + m) (xs ++ news) → w.grownBy w' v.ownBlock → OwnAt w' base e size v n xs → (v'.ownBlock = v.ownBlock ∨ ∃ g, v'.ownBlock = some g ∧ w.heap.size ≤ g ∧ g < w'.heap.size) → K (a.put o.dst v') w') : o.wp P a w K Q := by
  obtain ⟨v', w', hrun, h2, h3, h5, h4⟩ := run_append_ownAt (P := P) w base t o.type e i z size bytes ht hi hz hsize hby hzs hsz v n xs hown ad m c news hl hnews h1 h63 hbytes hbase hm
  unfold Oper.wp execOp
  simp only [ho, resolve, invoke, builtin, Sem.run_bind, Sem.run_pure, Result.andThen_ok, List.map_toArray, List.map_cons, List.map_nil, hs, hx, hrun]
  exact h v' w' h2 h3 h5 h4

theorem wpList_append_ownAt {ops : Array Oper} {rest : List Oper} {o : Oper} {a : Act} {Q : Exit → Act → World → Prop} (hgd : o.guard = none) (s x : Operand) (t : TypeId)
    (ho : o.op = .call { callee := .builtin .append, args := #[s, x], argTypes := #[t, t] })
    (base : Nat) (e : TypeId) (i : TypeInfo) (z : Value) (size bytes : Nat) (ht : P.underlying t = some (.slice e)) (hi : P.info? e = some i) (hz : i.zero = some z)
    (hsize : i.size = size) (hby : i.bytes = bytes) (hzs : z.cells.size = size) (hsz : 0 < size)
    (v : Value) (n : Nat) (xs : List Value) (hs : a.eval s = v) (hown : OwnAt w base e size v n xs)
    (ad : Addr) (m c : Nat) (news : List Value) (hx : a.eval x = .slice (some ad) m c) (hl : news.length = m * size) (hnews : ∀ j u, news[j]? = some u → w.cell? (ad.add j) = some u) (h1 : ∀ u ∈ news, u.oneCell' = true)
    (h63 : n + m ≤ maxLen) (hbytes : (n + m) * bytes ≤ 140737488355328) (hbase : base ≤ w.heap.size) (hm : 0 < m)
    (h : ∀ v' w', OwnAt w' base e size v' (n + m) (xs ++ news) → w.grownBy w' v.ownBlock → OwnAt w' base e size v n xs → (v'.ownBlock = v.ownBlock ∨ ∃ g, v'.ownBlock = some g ∧ w.heap.size ≤ g ∧ g < w'.heap.size) → wpList P ops Q rest (a.put o.dst v') w') :
    wpList P ops Q (o :: rest) a w :=
  wpList_plain hgd fun _ hK => wp_append_ownAt w s x t ho base e i z size bytes ht hi hz hsize hby hzs hsz v n xs hs hown ad m c news hx hl hnews h1 h63 hbytes hbase hm fun v' w' h2 h3 h5 h4 => hK _ _ (h v' w' h2 h3 h5 h4)
end

end Go.Proofs.YtmibpagajenndaaDoor
